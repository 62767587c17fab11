/- Plain facts on the long division. No program here. -/
import Derived.Test.YtgaicejcjkpekaaDoorDigM
namespace Go.Proofs.YtgaicejcjkpekaaDoor.Nt

/-- The remainder; 0 where there is no quotient. -/
def rmd (a b : Nat) : Nat := if b = 0 then 0 else a % b
def posB (b : Nat) : Bool := decide (0 < b)
theorem posB_true {b : Nat} (h : 0 < b) : posB b = true := by simpa [posB] using h
theorem posB_false {b : Nat} (h : b = 0) : posB b = false := by simp [posB, h]
theorem rmd_pos {a b : Nat} (h : 0 < b) : rmd a b = a % b := by unfold rmd; rw [if_neg (by omega)]
theorem rmd_zero {a b : Nat} (h : b = 0) : rmd a b = 0 := by unfold rmd; rw [if_pos h]

theorem bp_half (n : Nat) : bp (n + 1) = 2 * (2147483648 * bp n) := by rw [bp_succ]; omega

/-- The start: u = a * 2^s, v = b * 2^s, v's leading bit is set. -/
theorem div_start {a b s N n m : Nat} (ha : a < bp N) (hs : s < 32) (hn : N + 1 = n + m) (hv : 2147483648 * bp (n - 1) ≤ b * 2 ^ s) (h1 : 1 ≤ n) : a * 2 ^ s < b * 2 ^ s * bp m := by
  have h31 : 2 ^ s ≤ 2147483648 := by
    have : 2 ^ s ≤ 2 ^ 31 := Nat.pow_le_pow_right (by omega) (by omega)
    simpa using this
  have hp := Nat.two_pow_pos s
  have h2 : a * 2 ^ s < bp N * 2147483648 := by
    have h3 : a * 2 ^ s < bp N * 2 ^ s := Nat.mul_lt_mul_of_pos_right ha hp
    have h4 : bp N * 2 ^ s ≤ bp N * 2147483648 := Nat.mul_le_mul_left _ h31
    omega
  have h5 : 2147483648 * bp (n - 1) * bp m ≤ b * 2 ^ s * bp m := Nat.mul_le_mul_right _ hv
  have h6 : bp (n - 1) * bp m = bp N := by rw [← bp_add]; congr 1; omega
  rw [Nat.mul_assoc, h6] at h5
  omega

/-- One digit: R is the dividend that is left, Q the quotient. -/
theorem div_piece {R : List Nat} {j n v : Nat} (hlen : j + n + 1 ≤ R.length) (hv : v < bp n) (hlt : val R < v * bp (j + 1)) :
    val ((R.drop j).take (n + 1)) < v * 4294967296 ∧ val R = val (R.take j) + bp j * val ((R.drop j).take (n + 1)) := by
  have e1 := val_split (l := R) (k := j) (by omega)
  have e2 := val_split (l := R.drop j) (k := n + 1) (by rw [List.length_drop]; omega)
  have h1 : bp j * val (R.drop j) < bp j * (v * 4294967296) := by
    rw [bp_succ] at hlt
    have e : v * (4294967296 * bp j) = bp j * (v * 4294967296) := by grind
    omega
  have h2 : val (R.drop j) < v * 4294967296 := Nat.lt_of_mul_lt_mul_left h1
  have h3 : val ((R.drop j).drop (n + 1)) = 0 := by
    apply Nat.eq_zero_of_not_pos
    intro h4
    have h5 : bp (n + 1) * 1 ≤ bp (n + 1) * val ((R.drop j).drop (n + 1)) := Nat.mul_le_mul_left _ h4
    rw [bp_succ] at h5
    have h6 : v * 4294967296 ≤ bp n * 4294967296 := Nat.mul_le_mul_right _ (Nat.le_of_lt hv)
    rw [bp_succ] at e2
    omega
  rw [h3, Nat.mul_zero, Nat.add_zero] at e2
  rw [e2] at h2 e1
  exact ⟨h2, e1⟩

theorem splice_val {R S : List Nat} {o : Nat} (h : o + S.length ≤ R.length) (h0 : val (R.drop (o + S.length)) = 0) : val (splice R o S) = val (R.take o) + bp o * val S := by
  unfold splice
  have h1 : (R.take o).length = o := by rw [List.length_take]; omega
  rw [val_append, val_append, h0, h1]; omega

theorem div_step {R Q S' : List Nat} {j n v u : Nat} (hR : Lim R) (hlen : j + n + 1 ≤ R.length) (hQ : j < Q.length) (hv : v < bp n) (hv0 : 0 < v) (hlt : val R < v * bp (j + 1)) (hI : u = val (Q.drop (j + 1)) * bp (j + 1) * v + val R)
    (hS' : S'.length = n + 1) (hval : val S' = val ((R.drop j).take (n + 1)) % v) :
    val (splice R j S') < v * bp j ∧ u = val ((Q.set j (val ((R.drop j).take (n + 1)) / v)).drop j) * bp j * v + val (splice R j S') := by
  obtain ⟨h1, h2⟩ := div_piece hlen hv hlt
  have h3 : val (R.drop (j + (n + 1))) = 0 := by
    have e1 := val_split (l := R) (k := j) (by omega)
    have e2 := val_split (l := R.drop j) (k := n + 1) (by rw [List.length_drop]; omega)
    rw [List.drop_drop] at e2
    have e3 : bp j * val (R.drop j) = bp j * val ((R.drop j).take (n + 1)) := by omega
    have e4 := Nat.eq_of_mul_eq_mul_left (bp_pos j) e3
    have e5 : bp (n + 1) * val (R.drop (j + (n + 1))) = 0 := by omega
    rcases Nat.mul_eq_zero.1 e5 with e6 | e6
    · have := bp_pos (n + 1); omega
    · exact e6
  have e := splice_val (R := R) (S := S') (o := j) (by omega) (by rw [hS']; exact h3)
  rw [e, hval]
  have hm := Nat.mod_lt (val ((R.drop j).take (n + 1))) hv0
  have hd := Nat.div_add_mod (val ((R.drop j).take (n + 1))) v
  have ht := val_take_lt hR (k := j) (by omega)
  rw [val_drop (by rw [List.length_set]; exact hQ), lm_set_eq hQ, List.drop_set_of_lt (by omega)]
  generalize val ((R.drop j).take (n + 1)) = p at *
  generalize p % v = r at *
  generalize p / v = q at *
  rw [bp_succ] at hI
  constructor
  · have : bp j * (r + 1) ≤ bp j * v := Nat.mul_le_mul_left _ hm
    rw [Nat.mul_add, Nat.mul_comm (bp j) v] at this
    omega
  · rw [h2] at hI
    generalize val (Q.drop (j + 1)) = y at *
    generalize val (R.take j) = t at *
    generalize bp j = P at *
    subst hd
    grind

theorem div_end {a b D q r : Nat} (hD : 0 < D) (hr : r < b * D) (h : a * D = q * (b * D) + r) : q = a / b ∧ r = a % b * D := by
  have hb : 0 < b := by
    apply Nat.pos_of_ne_zero
    rintro rfl
    simp at hr
  have e := Nat.div_add_mod a b
  have hm := Nat.mod_lt a hb
  have e2 : a * D = (a / b) * (b * D) + a % b * D := by
    have : (b * (a / b) + a % b) * D = a * D := by rw [e]
    grind
  have h3 : a % b * D < b * D := Nat.mul_lt_mul_of_pos_right hm hD
  have h4 : a * D / (b * D) = q ∧ a * D % (b * D) = r := by
    rw [h, Nat.mul_comm q, Nat.mul_add_div (by omega), Nat.mul_add_mod, Nat.div_eq_of_lt hr, Nat.mod_eq_of_lt hr]
    exact ⟨rfl, rfl⟩
  have h5 : a * D / (b * D) = a / b ∧ a * D % (b * D) = a % b * D := by
    rw [e2, Nat.mul_comm (a / b), Nat.mul_add_div (by omega), Nat.mul_add_mod, Nat.div_eq_of_lt h3, Nat.mod_eq_of_lt h3]
    exact ⟨rfl, rfl⟩
  exact ⟨h4.1.symm.trans h5.1, h4.2.symm.trans h5.2⟩

/-! ### Shift to the right -/
/-- Limb i of a number. -/
theorem lm_val {l : List Nat} (h : Lim l) (i : Nat) : val l / bp i % 4294967296 = lm l i := by
  by_cases hi : i < l.length
  · have e1 := val_split (l := l) (k := i) (by omega)
    have e2 := val_drop hi
    have h1 := val_take_lt h (k := i) (by omega)
    have h2 := lm_lt h i
    rw [e1, Nat.add_comm, Nat.mul_comm (bp i), Nat.mul_comm _ (bp i), Nat.mul_add_div (bp_pos i), Nat.div_eq_of_lt h1, e2]
    omega
  · rw [lm_out (by omega)]
    have h1 := val_lt h
    have h2 := bp_mono (j := l.length) (k := i) (by omega)
    rw [Nat.div_eq_of_lt (by omega)]
theorem rsh_digit {V P x y z D E : Nat} (hE : D * E = 4294967296) (hD : 0 < D) (h : V / P = x + 4294967296 * (y + 4294967296 * z)) : V / D / P % 4294967296 = (x / D + E * y) % 4294967296 := by
  rw [Nat.div_div_eq_div_mul, Nat.mul_comm D P, ← Nat.div_div_eq_div_mul, h]
  have e : x + 4294967296 * (y + 4294967296 * z) = D * (E * y + 4294967296 * (E * z)) + x := by
    have h1 : 4294967296 * y = D * (E * y) := by rw [← Nat.mul_assoc, hE]
    have h2 : 4294967296 * (4294967296 * z) = D * (4294967296 * (E * z)) := by
      have : D * (4294967296 * (E * z)) = 4294967296 * (D * E * z) := by grind
      rw [this, hE]
    rw [Nat.mul_add, Nat.mul_add]
    omega
  rw [e, Nat.mul_add_div hD]
  omega
theorem rsh_step {l T : List Nat} {k D E : Nat} (hl : Lim l) (hk : k < T.length) (hE : D * E = 4294967296) (hD : 0 < D) (h : val (T.take k) = val l / D % bp k) :
    val ((T.set k ((lm l k / D + E * lm l (k + 1)) % 4294967296)).take (k + 1)) = val l / D % bp (k + 1) := by
  rw [val_set hk, h]
  have e : val l / bp k = lm l k + 4294967296 * (lm l (k + 1) + 4294967296 * (val l / bp k / 4294967296 / 4294967296)) := by
    have h1 := lm_val hl k
    have h2 := lm_val hl (k + 1)
    rw [bp_succ, Nat.mul_comm, ← Nat.div_div_eq_div_mul] at h2
    omega
  have h3 := rsh_digit hE hD e
  rw [← h3, bp_succ]
  rw [Nat.mul_comm 4294967296 (bp k), Nat.mod_mul]
theorem rsh_end {l T : List Nat} {D : Nat} (hl : Lim l) (hk : T.length = l.length) (h : val (T.take l.length) = val l / D % bp l.length) : val T = val l / D := by
  rw [val_take_all (by omega)] at h
  rw [h]
  apply Nat.mod_eq_of_lt
  have h1 := val_lt hl
  have := Nat.div_le_self (val l) D
  omega
/-! ### The divisor, shifted -/
theorem shl_lt {B : List Nat} {n s : Nat} (hl : Lim B) (hn : B.length = n) (h1 : 1 ≤ n) (hs : s < 32) (h : lm B (n - 1) * 2 ^ s < 4294967296) : val B * 2 ^ s < bp n := by
  obtain ⟨m, rfl⟩ : ∃ m, n = m + 1 := ⟨n - 1, by omega⟩
  rw [Nat.add_sub_cancel] at h
  have e := val_take B m
  rw [val_take_all (by omega)] at e
  have h2 := val_take_lt hl (k := m) (by omega)
  have hp := Nat.two_pow_pos s
  have e32 : 4294967296 = 2 ^ (32 - s) * 2 ^ s := by rw [← Nat.pow_add, show 32 - s + s = 32 by omega]
  have h3 : (lm B m + 1) * 2 ^ s ≤ 4294967296 := by
    rw [e32] at h ⊢
    exact Nat.mul_le_mul_right _ (Nat.lt_of_mul_lt_mul_right h)
  have h4 : val B < bp m * (lm B m + 1) := by rw [Nat.mul_add]; omega
  have h5 : val B * 2 ^ s < bp m * (lm B m + 1) * 2 ^ s := Nat.mul_lt_mul_of_pos_right h4 hp
  have h6 : bp m * ((lm B m + 1) * 2 ^ s) ≤ bp m * 4294967296 := Nat.mul_le_mul_left _ h3
  rw [← Nat.mul_assoc] at h6
  rw [bp_succ]
  omega
theorem shl_ge {B : List Nat} {n s : Nat} (hn : B.length = n) (h1 : 1 ≤ n) (h : 2147483648 ≤ lm B (n - 1) * 2 ^ s) : 2147483648 * bp (n - 1) ≤ val B * 2 ^ s := by
  obtain ⟨m, rfl⟩ : ∃ m, n = m + 1 := ⟨n - 1, by omega⟩
  rw [Nat.add_sub_cancel] at h ⊢
  have e := val_take B m
  rw [val_take_all (by omega)] at e
  have h2 : 2147483648 * bp m ≤ lm B m * 2 ^ s * bp m := Nat.mul_le_mul_right _ h
  have h3 : bp m * lm B m * 2 ^ s ≤ val B * 2 ^ s := Nat.mul_le_mul_right _ (by omega)
  have e2 : lm B m * 2 ^ s * bp m = bp m * lm B m * 2 ^ s := by grind
  omega
theorem top_ge {V : List Nat} {n : Nat} (hl : Lim V) (hn : V.length = n) (h1 : 1 ≤ n) (h : 2147483648 * bp (n - 1) ≤ val V) : 2147483648 ≤ lm V (n - 1) := by
  obtain ⟨m, rfl⟩ : ∃ m, n = m + 1 := ⟨n - 1, by omega⟩
  rw [Nat.add_sub_cancel] at h ⊢
  have e := val_take V m
  rw [val_take_all (by omega)] at e
  have h2 := val_take_lt hl (k := m) (by omega)
  have h3 : 2147483648 * bp m < (lm V m + 1) * bp m := by
    rw [Nat.add_mul, Nat.mul_comm (lm V m)]; omega
  have := Nat.lt_of_mul_lt_mul_right h3
  omega
theorem val_take_of_lt {V : List Nat} {n : Nat} (hn : n ≤ V.length) (h : val V < bp n) : val (V.take n) = val V := by
  have e := val_split hn
  have h0 : val (V.drop n) = 0 := by
    apply Nat.eq_zero_of_not_pos
    intro h1
    have : bp n * 1 ≤ bp n * val (V.drop n) := Nat.mul_le_mul_left _ h1
    omega
  rw [h0] at e
  omega

theorem or_hi {x y s : Nat} (hs : s < 32) (hx : x < 4294967296) : x / 2 ^ s ||| y * 2 ^ (32 - s) % 4294967296 = (x / 2 ^ s + 2 ^ (32 - s) * y) % 4294967296 := by
  have e : 4294967296 = 2 ^ (32 - s) * 2 ^ s := by rw [← Nat.pow_add, show 32 - s + s = 32 by omega]
  have hlt : x / 2 ^ s < 2 ^ (32 - s) := by
    apply Nat.div_lt_of_lt_mul
    rw [Nat.mul_comm, ← e]; exact hx
  rw [Nat.mul_comm y, e, Nat.mul_mod_mul_left, Nat.or_comm, ← Nat.two_pow_add_eq_or_of_lt hlt]
  have h2 := Nat.mod_lt y (Nat.two_pow_pos s)
  have h3 : 2 ^ (32 - s) * (y % 2 ^ s) + x / 2 ^ s < 2 ^ (32 - s) * 2 ^ s := by
    have : 2 ^ (32 - s) * (y % 2 ^ s + 1) ≤ 2 ^ (32 - s) * 2 ^ s := Nat.mul_le_mul_left _ h2
    rw [Nat.mul_add] at this
    omega
  rw [Nat.add_comm (x / 2 ^ s)]
  have e2 : 2 ^ (32 - s) * y = 2 ^ (32 - s) * (y % 2 ^ s) + 2 ^ (32 - s) * 2 ^ s * (y / 2 ^ s) := by
    have := Nat.mod_add_div y (2 ^ s)
    rw [Nat.mul_assoc, ← Nat.mul_add, this]
  rw [e2, Nat.add_right_comm, Nat.add_mul_mod_self_left, Nat.mod_eq_of_lt h3]
theorem pow_split {s : Nat} (hs : s ≤ 32) : 2 ^ s * 2 ^ (32 - s) = 4294967296 := by rw [← Nat.pow_add, show s + (32 - s) = 32 by omega]

end Go.Proofs.YtgaicejcjkpekaaDoor.Nt
