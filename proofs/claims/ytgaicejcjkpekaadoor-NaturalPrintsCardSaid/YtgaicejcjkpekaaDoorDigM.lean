/- Plain facts on one digit of a long division. No program here. -/
import Derived.Test.YtgaicejcjkpekaaDoorMath
namespace Go.Proofs.YtgaicejcjkpekaaDoor.Nt

theorem bp_two {n : Nat} (h : 2 ≤ n) : bp (n - 1) = 4294967296 * bp (n - 2) := by
  obtain ⟨m, rfl⟩ : ∃ m, n = m + 2 := ⟨n - 2, by omega⟩
  exact bp_succ m

/-- The two, and three, leading limbs. -/
theorem val_top3 {S : List Nat} {n : Nat} (h : S.length = n + 1) (h2 : 2 ≤ n) :
    val S = (lm S n * 4294967296 + lm S (n - 1)) * bp (n - 1) + lm S (n - 2) * bp (n - 2) + val (S.take (n - 2)) := by
  obtain ⟨m, rfl⟩ : ∃ m, n = m + 2 := ⟨n - 2, by omega⟩
  have e1 := val_take S (m + 2)
  have e2 := val_take S (m + 1)
  have e3 := val_take S m
  rw [val_take_all (by omega)] at e1
  show val S = (lm S (m + 2) * 4294967296 + lm S (m + 1)) * bp (m + 1) + lm S m * bp m + val (S.take m)
  rw [bp_succ, bp_succ] at e1
  rw [bp_succ] at e2 ⊢
  grind
theorem val_top2 {V : List Nat} {n : Nat} (h : V.length = n) (h2 : 2 ≤ n) :
    val V = lm V (n - 1) * bp (n - 1) + lm V (n - 2) * bp (n - 2) + val (V.take (n - 2)) := by
  obtain ⟨m, rfl⟩ : ∃ m, n = m + 2 := ⟨n - 2, by omega⟩
  have e2 := val_take V (m + 1)
  have e3 := val_take V m
  rw [val_take_all (by omega)] at e2
  show val V = lm V (m + 1) * bp (m + 1) + lm V m * bp m + val (V.take m)
  rw [bp_succ] at e2 ⊢
  grind

/-- What is known of one digit's step: s, v the numbers, T, s2 the leading limbs of s (two, then one), v1, v2 those of v, W the rest's base power. -/
structure Top (s v T s2 v1 v2 W ls lv : Nat) : Prop where
  hs : s = (T * 4294967296 + s2) * W + ls
  hv : v = (v1 * 4294967296 + v2) * W + lv
  hls : ls < W
  hlv : lv < W
  hs2 : s2 < 4294967296
  hv2 : v2 < 4294967296
  hv1 : 2147483648 ≤ v1
  hv1' : v1 < 4294967296
  hlt : s < v * 4294967296

theorem top_of {S V : List Nat} {n : Nat} (hS : S.length = n + 1) (hV : V.length = n) (lS : Lim S) (lV : Lim V) (h2 : 2 ≤ n) (ht : 2147483648 ≤ lm V (n - 1)) (hlt : val S < val V * 4294967296) :
    Top (val S) (val V) (lm S n * 4294967296 + lm S (n - 1)) (lm S (n - 2)) (lm V (n - 1)) (lm V (n - 2)) (bp (n - 2)) (val (S.take (n - 2))) (val (V.take (n - 2))) := by
  have e1 := val_top3 hS h2
  have e2 := val_top2 hV h2
  rw [bp_two h2] at e1 e2
  exact ⟨by rw [e1]; grind, by rw [e2]; grind, val_take_lt lS (by omega), val_take_lt lV (by omega), lm_lt lS _, lm_lt lV _, ht, lm_lt lV _, hlt⟩

section
variable {s v T s2 v1 v2 W ls lv : Nat}
theorem Top.T_lt (h : Top s v T s2 v1 v2 W ls lv) : T < (v1 + 1) * 4294967296 := by
  obtain ⟨hs, hv, hls, hlv, hs2, hv2, hv1, hv1', hlt⟩ := h
  have h1 : T * 4294967296 * W ≤ s := by
    rw [hs, Nat.add_mul]; omega
  have h2 : v < (v1 + 1) * 4294967296 * W := by
    rw [hv]
    have : (v1 * 4294967296 + v2 + 1) * W ≤ (v1 + 1) * 4294967296 * W := Nat.mul_le_mul_right _ (by omega)
    rw [Nat.add_mul _ 1] at this
    omega
  have h3 : T * (4294967296 * W) < (v1 + 1) * 4294967296 * (4294967296 * W) := by
    rw [← Nat.mul_assoc]
    have h4 : v * 4294967296 < (v1 + 1) * 4294967296 * W * 4294967296 := Nat.mul_lt_mul_of_pos_right h2 (by omega)
    have e : (v1 + 1) * 4294967296 * W * 4294967296 = (v1 + 1) * 4294967296 * (4294967296 * W) := by grind
    omega
  exact Nat.lt_of_mul_lt_mul_right h3
theorem Top.v_pos (h : Top s v T s2 v1 v2 W ls lv) : 0 < v := by
  have hW : 0 < W := by have := h.hlv; omega
  have h1 : 1 * W ≤ (v1 * 4294967296 + v2) * W := Nat.mul_le_mul_right _ (by have := h.hv1; omega)
  have := h.hv
  omega
/-- The first guess is not too small. -/
theorem Top.start (h : Top s v T s2 v1 v2 W ls lv) : s / v ≤ T / v1 := by
  rw [Nat.le_div_iff_mul_le (by have := h.hv1; omega)]
  have h0 := Nat.div_mul_le_self s v
  generalize s / v = Q at *
  apply Nat.le_of_lt_add_one
  have h1 : Q * v1 * (4294967296 * W) ≤ Q * v := by
    rw [h.hv, Nat.mul_assoc]
    apply Nat.mul_le_mul_left
    rw [Nat.add_mul, ← Nat.mul_assoc]; omega
  have h2 : s < (T + 1) * (4294967296 * W) := by
    rw [h.hs]
    have h3 : (T * 4294967296 + s2 + 1) * W ≤ (T + 1) * 4294967296 * W := Nat.mul_le_mul_right _ (by have := h.hs2; omega)
    rw [Nat.add_mul _ 1, Nat.mul_assoc (T + 1)] at h3
    have := h.hls
    omega
  exact Nat.lt_of_mul_lt_mul_right (Nat.lt_of_le_of_lt (Nat.le_trans h1 h0) h2)
theorem Top.start_le (h : Top s v T s2 v1 v2 W ls lv) : T / v1 ≤ 4294967297 := by
  have h1 := h.T_lt
  have h2 := h.hv1
  have h3 : T < v1 * 4294967298 := Nat.lt_of_lt_of_le h1 (by grind)
  exact Nat.le_of_lt_succ (Nat.div_lt_of_lt_mul h3)
/-- A guess that the test rejects is too great. -/
theorem Top.big (h : Top s v T s2 v1 v2 W ls lv) {q : Nat} (hb : 4294967296 ≤ q) : s / v ≤ q - 1 := by
  have : s / v < 4294967296 := Nat.div_lt_of_lt_mul h.hlt
  omega
theorem Top.reject (h : Top s v T s2 v1 v2 W ls lv) {q r : Nat} (hT : q * v1 + r = T) (ht : r * 4294967296 + s2 < q * v2) : s / v ≤ q - 1 := by
  rcases Nat.lt_or_ge (s / v) q with h1 | h1
  · omega
  · exfalso
    have h2 : q * v ≤ s := by
      have := Nat.div_mul_le_self s v
      have h3 : q * v ≤ s / v * v := Nat.mul_le_mul_right _ h1
      omega
    have h3 : q * (v1 * 4294967296 + v2) * W ≤ q * v := by
      rw [h.hv, Nat.mul_assoc]; apply Nat.mul_le_mul_left; omega
    have h4 : s < (T * 4294967296 + s2 + 1) * W := by rw [h.hs, Nat.add_mul _ 1]; have := h.hls; omega
    have h5 : q * (v1 * 4294967296 + v2) < T * 4294967296 + s2 + 1 := Nat.lt_of_mul_lt_mul_right (Nat.lt_of_le_of_lt (Nat.le_trans h3 h2) h4)
    have e : q * (v1 * 4294967296 + v2) = q * v1 * 4294967296 + q * v2 := by grind
    rw [e] at h5
    omega
/-- Behind the break the guess fits into a limb. -/
theorem Top.fits (h : Top s v T s2 v1 v2 W ls lv) {q r : Nat} (hT : q * v1 + r = T) (hr : 4294967296 ≤ r + v1) : q - 1 < 4294967296 := by
  rcases Nat.lt_or_ge (q - 1) 4294967296 with h1 | h1
  · exact h1
  · exfalso
    have h2 := h.T_lt
    have h3 : 4294967297 * v1 ≤ q * v1 := Nat.mul_le_mul_right _ (by omega)
    rw [Nat.add_mul] at h2
    omega
/-- A guess that the test lets by is at most one too great. -/
theorem Top.near (h : Top s v T s2 v1 v2 W ls lv) {q r : Nat} (hT : q * v1 + r = T) (hq : q < 4294967296) (ht : q * v2 ≤ r * 4294967296 + s2) : q * v < s + v := by
  have e : q * v = q * (v1 * 4294967296 + v2) * W + q * lv := by rw [h.hv]; grind
  have h1 : q * (v1 * 4294967296 + v2) ≤ T * 4294967296 + s2 := by
    have : q * (v1 * 4294967296 + v2) = q * v1 * 4294967296 + q * v2 := by grind
    omega
  have h2 := Nat.mul_le_mul_right W h1
  have h3 : q * lv ≤ 4294967296 * W := Nat.mul_le_mul (by omega) (by have := h.hlv; omega)
  have h4 : 4294967296 * W + 1 ≤ v := by
    rw [h.hv]
    have h5 : 4294967297 * W ≤ (v1 * 4294967296 + v2) * W := Nat.mul_le_mul_right _ (by have := h.hv1; omega)
    have hW : 0 < W := by have := h.hlv; omega
    omega
  have := h.hs
  omega
end

/-! ### Multiply and subtract, add back -/
theorem msub_step {S S0 V : List Nat} {k q c br : Nat} (hS : Lim S) (hk : k < S.length) (h0 : lm S k = lm S0 k) (hbr : br ≤ 1) (h : val (S.take k) + q * val (V.take k) = val (S0.take k) + bp k * (c + br)) :
    val ((S.set k ((4294967296 + lm S k - (c + q * lm V k) % 4294967296 - br) % 4294967296)).take (k + 1)) + q * val (V.take (k + 1)) =
      val (S0.take (k + 1)) + bp (k + 1) * ((c + q * lm V k) / 4294967296 + (if lm S k < (c + q * lm V k) % 4294967296 + br then 1 else 0)) := by
  rw [val_set hk, val_take V, val_take S0, bp_succ, ← h0]
  have hx := lm_lt hS k
  have e := Nat.mod_add_div (c + q * lm V k) 4294967296
  have hm := Nat.mod_lt (c + q * lm V k) (show 4294967296 > 0 by omega)
  generalize (c + q * lm V k) % 4294967296 = lo at *
  generalize (c + q * lm V k) / 4294967296 = hi at *
  generalize hr : (4294967296 + lm S k - lo - br) % 4294967296 = r
  generalize hb : (if lm S k < lo + br then 1 else 0) = b
  have e2 : r + lo + br = lm S k + 4294967296 * b := by
    subst hr hb
    split <;> omega
  clear hr hb
  generalize lm S k = x at *
  generalize lm V k = y at *
  generalize val (S.take k) = A1 at *
  generalize val (S0.take k) = A2 at *
  generalize val (V.take k) = A3 at *
  generalize bp k = P at *
  grind
theorem msub_carry {c q y : Nat} (hc : c ≤ q) (hy : y < 4294967296) : (c + q * y) / 4294967296 ≤ q := by
  apply Nat.le_of_lt_add_one
  apply Nat.div_lt_of_lt_mul
  have : q * y ≤ q * 4294967295 := Nat.mul_le_mul_left _ (by omega)
  omega

/-- The whole: no borrow is left. -/
theorem msub_end {S S0 : List Nat} {n q c br v : Nat} (hS : S.length = n + 1) (h0 : lm S n = lm S0 n) (h0l : S0.length = n + 1) (hge : c + br ≤ lm S n) (h : val (S.take n) + q * v = val (S0.take n) + bp n * (c + br)) :
    val (S.set n (lm S n - c - br)) + q * v = val S0 := by
  rw [add_last hS]
  have e := val_take S0 n
  rw [val_take_all (by omega), ← h0] at e
  generalize lm S n = x at *
  obtain ⟨y, hy⟩ : ∃ y, x = y + (c + br) := ⟨x - (c + br), by omega⟩
  rw [show x - c - br = y by omega]
  rw [hy] at e
  generalize val (S.take n) = A1 at *
  generalize val (S0.take n) = A2 at *
  generalize bp n = P at *
  grind
/-- A borrow is left. -/
theorem msub_neg {S S0 : List Nat} {n q c br v : Nat} (hS : S.length = n + 1) (h0 : lm S n = lm S0 n) (h0l : S0.length = n + 1) (hlt : lm S n < c + br) (hle : c + br ≤ 4294967296) (h : val (S.take n) + q * v = val (S0.take n) + bp n * (c + br)) :
    val (S.set n ((4294967296 + lm S n - c - br) % 4294967296)) + q * v = val S0 + bp (n + 1) := by
  rw [add_last hS]
  have e := val_take S0 n
  rw [val_take_all (by omega), ← h0] at e
  rw [bp_succ]
  generalize lm S n = x at *
  obtain ⟨y, hy⟩ : ∃ y, x + 4294967296 = y + (c + br) := ⟨x + 4294967296 - (c + br), by omega⟩
  rw [show (4294967296 + x - c - br) % 4294967296 = y by omega]
  generalize val (S.take n) = A1 at *
  generalize val (S0.take n) = A2 at *
  generalize bp n = P at *
  grind
/-- What the quotient is. -/
theorem quo_of {s v q r : Nat} (hr : r < v) (h : r + q * v = s) : s / v = q ∧ s % v = r := by
  subst h
  rw [Nat.add_comm, Nat.mul_comm, Nat.mul_add_div (by omega), Nat.mul_add_mod, Nat.div_eq_of_lt hr, Nat.mod_eq_of_lt hr]
  exact ⟨rfl, rfl⟩
theorem quo_first {s v q r : Nat} (hv : 0 < v) (h : r + q * v = s) (hQ : s / v ≤ q) : s / v = q ∧ s % v = r := by
  apply quo_of _ h
  apply Nat.lt_of_not_le
  intro h1
  have : q + 1 ≤ s / v := by
    rw [Nat.le_div_iff_mul_le hv, Nat.add_mul]
    omega
  omega
theorem quo_back {s v q a t P : Nat} (hn : q * v < s + v) (hneg : a + q * v = s + P) (ha : a < P) (hback : ∃ c, t + P * c = a + v ∧ c ≤ 1) (ht : t < P) : 1 ≤ q ∧ s / v = q - 1 ∧ s % v = t := by
  obtain ⟨c, hc, hc1⟩ := hback
  have h0 : 1 ≤ q := by
    apply Nat.pos_of_ne_zero
    rintro rfl
    simp at hneg
    omega
  obtain ⟨m, rfl⟩ : ∃ m, q = m + 1 := ⟨q - 1, by omega⟩
  rw [Nat.add_mul] at hn hneg
  have hc2 : c = 1 := by
    have : c = 0 ∨ c = 1 := by omega
    rcases this with rfl | rfl
    · exfalso; omega
    · rfl
  subst hc2
  have h1 : t + m * v = s := by omega
  have h2 : t < v := by omega
  have := quo_of h2 h1
  exact ⟨h0, by rw [this.1]; rfl, this.2⟩
theorem back_end {T S V : List Nat} {n c : Nat} (hT : T.length = n + 1) (hS : S.length = n + 1) (hV : V.length = n) (h0 : lm T n = lm S n) (hc : c ≤ 1) (hx : lm T n < 4294967296) (h : val (T.take n) + bp n * c = val (S.take n) + val (V.take n)) :
    ∃ d, val (T.set n ((lm T n + c) % 4294967296)) + bp (n + 1) * d = val S + val V ∧ d ≤ 1 := by
  refine ⟨(lm T n + c) / 4294967296, ?_, by omega⟩
  rw [add_last hT]
  have e := val_take S n
  rw [val_take_all (by omega), ← h0] at e
  rw [val_take_all (l := V) (by omega)] at h
  rw [bp_succ]
  have e2 := Nat.mod_add_div (lm T n + c) 4294967296
  generalize (lm T n + c) % 4294967296 = r at *
  generalize (lm T n + c) / 4294967296 = d at *
  generalize lm T n = x at *
  generalize val (T.take n) = A1 at *
  generalize val (S.take n) = A2 at *
  generalize bp n = P at *
  grind

/-! ### A piece of a list -/
def splice (R : List Nat) (o : Nat) (S : List Nat) : List Nat := R.take o ++ S ++ R.drop (o + S.length)
theorem splice_self {R : List Nat} {o n : Nat} (h : o + n ≤ R.length) : splice R o ((R.drop o).take n) = R := by
  unfold splice
  have hl : ((R.drop o).take n).length = n := by rw [List.length_take, List.length_drop]; omega
  rw [hl, List.append_assoc, ← List.drop_drop, List.take_append_drop, List.take_append_drop]
theorem splice_length {R S : List Nat} {o : Nat} (h : o + S.length ≤ R.length) : (splice R o S).length = R.length := by
  unfold splice
  rw [List.length_append, List.length_append, List.length_take, List.length_drop]; omega
theorem splice_set {R S : List Nat} {o k x : Nat} (h : o + S.length ≤ R.length) (hk : k < S.length) : (splice R o S).set (o + k) x = splice R o (S.set k x) := by
  unfold splice
  have h1 : (R.take o).length = o := by rw [List.length_take]; omega
  rw [List.append_assoc, List.append_assoc, List.set_append_right _ _ (by omega), h1, Nat.add_sub_cancel_left, List.set_append_left _ _ hk, List.length_set]
theorem splice_lm {R S : List Nat} {o k : Nat} (h : o + S.length ≤ R.length) (hk : k < S.length) : lm (splice R o S) (o + k) = lm S k := by
  have hlen := splice_length h
  rw [lm_eq (by omega), lm_eq hk]
  unfold splice
  have h1 : (R.take o).length = o := by rw [List.length_take]; omega
  simp only [List.append_assoc]
  rw [List.getElem_append_right (by omega), List.getElem_append_left (by omega)]
  simp only [h1, Nat.add_sub_cancel_left]
theorem splice_lm_out {R S : List Nat} {o j : Nat} (h : o + S.length ≤ R.length) (hj : j < o ∨ o + S.length ≤ j) : lm (splice R o S) j = lm R j := by
  unfold lm splice
  rw [List.getD_eq_getElem?_getD, List.getD_eq_getElem?_getD]
  have h1 : (R.take o).length = o := by rw [List.length_take]; omega
  congr 1
  rcases hj with hj | hj
  · rw [List.append_assoc, List.getElem?_append_left (by omega), List.getElem?_take, if_pos hj]
  · rw [List.getElem?_append_right (by rw [List.length_append, h1]; omega), List.length_append, h1, List.getElem?_drop]
    congr 1; omega
theorem lim_splice {R S : List Nat} {o : Nat} (hR : Lim R) (hS : Lim S) : Lim (splice R o S) := lim_append (lim_append (lim_take hR _) hS) (lim_drop hR _)
theorem splice_piece {R S : List Nat} {o : Nat} (h : o + S.length ≤ R.length) : ((splice R o S).drop o).take S.length = S := by
  unfold splice
  have h1 : (R.take o).length = o := by rw [List.length_take]; omega
  rw [List.append_assoc, List.drop_append_of_le_length (by omega)]
  rw [List.drop_of_length_le (by omega), List.nil_append, List.take_left']
  rfl
end Go.Proofs.YtgaicejcjkpekaaDoor.Nt
