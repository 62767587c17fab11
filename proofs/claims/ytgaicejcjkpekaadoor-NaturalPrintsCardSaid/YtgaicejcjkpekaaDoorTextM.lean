/- Decimal texts: plain facts. No program. -/
import Derived.Test.YtgaicejcjkpekaaDoorFmtM
import Derived.Lib.ParseIntB
import Derived.Lib.SlTrimSet
namespace Go.Proofs.YtgaicejcjkpekaaDoor.Nt
open Go.Lib

/-- A decimal digit. -/
def isD (b : UInt8) : Bool := decide (48 ≤ b.toNat ∧ b.toNat ≤ 57)
theorem isD_iff {b : UInt8} : isD b = true ↔ 48 ≤ b.toNat ∧ b.toNat ≤ 57 := by unfold isD; exact decide_eq_true_iff
/-- The number of a text of digits. -/
def dstep (a : Nat) (b : UInt8) : Nat := a * 10 + (b.toNat - 48)
def dval (l : List UInt8) : Nat := l.foldl dstep 0
theorem dval_acc (l : List UInt8) : ∀ a, l.foldl dstep a = a * 10 ^ l.length + dval l := by
  induction l with
  | nil => intro a; simp [dval]
  | cons b l ih =>
    intro a
    unfold dval
    rw [List.foldl_cons, List.foldl_cons, ih, ih (dstep 0 b), List.length_cons, Nat.pow_succ]
    unfold dstep
    generalize 10 ^ l.length = P
    grind
theorem dval_append (a b : List UInt8) : dval (a ++ b) = dval a * 10 ^ b.length + dval b := by
  show (a ++ b).foldl dstep 0 = _
  rw [List.foldl_append, dval_acc]
  rfl
theorem dval_nil : dval [] = 0 := rfl
theorem dval_one (b : UInt8) : dval [b] = b.toNat - 48 := by show 0 * 10 + (b.toNat - 48) = _; omega
theorem dval_snoc (l : List UInt8) (b : UInt8) : dval (l ++ [b]) = dval l * 10 + (b.toNat - 48) := by
  rw [dval_append, dval_one]; rfl
theorem dval_lt (l : List UInt8) (h : l.all isD = true) : dval l < 10 ^ l.length := by
  induction l with
  | nil => simp [dval]
  | cons b l ih =>
    simp only [List.all_cons, Bool.and_eq_true] at h
    have h1 := ih h.2
    have h2 := isD_iff.1 h.1
    have h3 := dval_append [b] l
    rw [List.singleton_append, dval_one] at h3
    rw [h3, List.length_cons, Nat.pow_succ]
    have h4 : (b.toNat - 48) * 10 ^ l.length ≤ 9 * 10 ^ l.length := Nat.mul_le_mul_right _ (by omega)
    omega
/-- A text that is a decimal number. -/
def good (l : List UInt8) : Bool := !l.isEmpty && (l.length == 1 || l.head? != some 48) && l.all isD
theorem good_iff {l : List UInt8} : good l = true ↔ l ≠ [] ∧ (l.length = 1 ∨ l.head? ≠ some 48) ∧ l.all isD = true := by
  unfold good
  simp only [Bool.and_eq_true, Bool.or_eq_true, Bool.not_eq_true', List.isEmpty_eq_false_iff, beq_iff_eq, bne_iff_ne, and_assoc]
theorem head_app {l m : List UInt8} (h : l ≠ []) : (l ++ m).head? = l.head? := by
  cases l with
  | nil => exact absurd rfl h
  | cons c l => rfl
theorem good_snoc {l : List UInt8} {b : UInt8} (h : good (l ++ [b]) = true) (hl : l ≠ []) : good l = true ∧ isD b = true ∧ 1 ≤ dval l := by
  obtain ⟨h1, h2, h3⟩ := good_iff.1 h
  rw [List.all_append, Bool.and_eq_true] at h3
  have hlen : 0 < l.length := List.length_pos_iff.2 hl
  have h4 : l.head? ≠ some 48 := by
    rcases h2 with h2 | h2
    · rw [List.length_append, List.length_singleton] at h2; omega
    · rwa [head_app hl] at h2
  refine ⟨good_iff.2 ⟨hl, .inr h4, h3.1⟩, by simpa using h3.2, ?_⟩
  cases l with
  | nil => exact absurd rfl hl
  | cons c l =>
    have h5 : isD c = true := by have := h3.1; simp only [List.all_cons, Bool.and_eq_true] at this; exact this.1
    have h6 := isD_iff.1 h5
    have h7 := dval_append [c] l
    rw [List.singleton_append, dval_one] at h7
    have h8 : c.toNat ≠ 48 := by
      intro e
      apply h4
      rw [List.head?_cons]
      congr 1
      exact UInt8.toNat_inj.1 e
    have h9 : 1 * 10 ^ l.length ≤ (c.toNat - 48) * 10 ^ l.length := Nat.mul_le_mul_right _ (by omega)
    have h10 : 0 < 10 ^ l.length := Nat.pow_pos (by omega)
    omega
theorem digit_back {b : UInt8} (h : isD b = true) : UInt8.ofNat (48 + (b.toNat - 48)) = b := by
  have := isD_iff.1 h
  rw [show 48 + (b.toNat - 48) = b.toNat from by omega]
  exact UInt8.ofNat_toNat
theorem dec_dval (n : Nat) : ∀ l : List UInt8, l.length = n → good l = true → dec (dval l) = l := by
  induction n with
  | zero => intro l hl h; exact absurd (List.length_eq_zero_iff.1 hl) (good_iff.1 h).1
  | succ n ih =>
    intro l hl h
    rcases List.eq_nil_or_concat l with rfl | ⟨l', b, rfl⟩
    · simp at hl
    · rw [List.concat_eq_append] at hl h ⊢
      rw [dval_snoc]
      by_cases h0 : l' = []
      · subst h0
        have h1 := (good_iff.1 h).2.2
        simp only [List.nil_append, List.all_cons, List.all_nil, Bool.and_true] at h1
        have h2 := isD_iff.1 h1
        rw [dval_nil, Nat.zero_mul, Nat.zero_add, dec_small (by omega), digit_back h1]; rfl
      · obtain ⟨h1, h2, h3⟩ := good_snoc h h0
        have h4 := isD_iff.1 h2
        rw [dec_big (by omega), show (dval l' * 10 + (b.toNat - 48)) / 10 = dval l' from by omega, show (dval l' * 10 + (b.toNat - 48)) % 10 = b.toNat - 48 from by omega, digit_back h2,
          ih l' (by rw [List.length_append, List.length_singleton] at hl; omega) h1]
theorem dec_good (n : Nat) : good (dec n) = true ∧ dval (dec n) = n := by
  induction n using Nat.strongRecOn with
  | _ n ih =>
    by_cases h : 10 ≤ n
    · obtain ⟨h1, h2⟩ := ih (n / 10) (by omega)
      obtain ⟨g1, g2, g3⟩ := good_iff.1 h1
      have hb : (UInt8.ofNat (48 + n % 10)).toNat = 48 + n % 10 := by rw [UInt8.toNat_ofNat']; omega
      rw [dec_big h]
      refine ⟨good_iff.2 ⟨by simp, .inr ?_, ?_⟩, ?_⟩
      · rw [head_app g1]
        intro e
        have hd : 1 ≤ n / 10 := by omega
        cases hl : dec (n / 10) with
        | nil => exact g1 hl
        | cons c l =>
          rw [hl] at e g2 h2
          rw [List.head?_cons, Option.some.injEq] at e
          rcases g2 with g2 | g2
          · have : l = [] := by simpa using g2
            rw [this, e, dval_one] at h2
            have : (48 : UInt8).toNat = 48 := rfl
            omega
          · exact g2 (by rw [e]; rfl)
      · rw [List.all_append, g3, Bool.true_and]
        simp only [List.all_cons, List.all_nil, Bool.and_true]
        exact isD_iff.2 (by omega)
      · rw [dval_snoc, h2, hb]; omega
    · have hb : (UInt8.ofNat (48 + n)).toNat = 48 + n := by rw [UInt8.toNat_ofNat']; omega
      rw [dec_small (by omega)]
      refine ⟨good_iff.2 ⟨by simp, .inl rfl, ?_⟩, ?_⟩
      · simp only [List.all_cons, List.all_nil, Bool.and_true]
        exact isD_iff.2 (by omega)
      · rw [dval_one, hb]; omega
/-- What Parse answers. -/
def pE (l : List UInt8) : Int := if good l = true then (if 4096 < l.length then 14 else 0) else 13
def pV (l : List UInt8) : Nat := if good l = true then (if 4096 < l.length then 0 else dval l) else 0
/-- One piece of at most nine digits. -/
theorem piece {out n : Nat} {l : List UInt8} (hn : n = (l.length - 1) % 9 + 1) (hl : 0 < l.length) (h : out = 0 ∨ l.length % 9 = 0) :
    n ≤ l.length ∧ n ≤ 9 ∧ 1 ≤ n ∧ (out * 1000000000 + dval (l.take n)) * 10 ^ (l.drop n).length + dval (l.drop n) = out * 10 ^ l.length + dval l ∧ (l.drop n).length % 9 = 0 := by
  have h1 : n ≤ l.length := by omega
  refine ⟨h1, by omega, by omega, ?_, by rw [List.length_drop]; omega⟩
  have e := dval_append (l.take n) (l.drop n)
  rw [List.take_append_drop] at e
  rw [e, Nat.add_mul]
  have hld : (l.drop n).length = l.length - n := List.length_drop
  rcases h with rfl | h
  · omega
  · have hn9 : n = 9 := by omega
    have e2 : 10 ^ l.length = 10 ^ (9 + (l.drop n).length) := by congr 1; omega
    rw [Nat.pow_add, show (10 : Nat) ^ 9 = 1000000000 from rfl] at e2
    rw [e2, Nat.mul_assoc]
    omega
/-! ### What the library answers -/
theorem foldl_ge (l : List UInt8) (a : Nat) : a ≤ l.foldl dstep a := by
  rw [dval_acc]
  have : a * 1 ≤ a * 10 ^ l.length := Nat.mul_le_mul_left _ (Nat.pow_pos (by omega))
  omega
theorem parse_digits (l : List UInt8) : ∀ acc, l.all isD = true → l.foldl dstep acc ≤ 9999999999 → parseUintM 18446744073709551615 acc l = .ok (l.foldl dstep acc) := by
  induction l with
  | nil => intro acc _ _; rfl
  | cons b l ih =>
    intro acc h hle
    simp only [List.all_cons, Bool.and_eq_true] at h
    have h1 := isD_iff.1 h.1
    rw [List.foldl_cons] at hle ⊢
    have h2 := foldl_ge l (dstep acc b)
    have h3 : dstep acc b = acc * 10 + (b.toNat - 48) := rfl
    rw [parseUintM, if_pos h1, if_neg (by omega), if_neg (by omega), ← h3]
    exact ih _ h.2 hle
theorem parse_piece {l : List UInt8} (h : l.all isD = true) (h0 : l ≠ []) (hl : l.length ≤ 9) : parseUintB 64 l = .ok (dval l) := by
  have h1 := dval_lt l h
  have h2 : 10 ^ l.length ≤ 10 ^ 9 := Nat.pow_le_pow_right (by omega) hl
  rw [parseUintB, if_neg h0]
  exact parse_digits l 0 h (by show dval l ≤ _; omega)
theorem mem_dropWhile {p : UInt8 → Bool} {l : List UInt8} {x : UInt8} (h : x ∈ l) (hp : p x = false) : x ∈ l.dropWhile p := by
  induction l with
  | nil => exact h
  | cons a l ih =>
    rw [List.dropWhile_cons]
    split
    · rename_i ha
      rcases List.mem_cons.1 h with rfl | h
      · rw [hp] at ha; exact absurd ha (by decide)
      · exact ih h
    · exact h
theorem dropWhile_all {p : UInt8 → Bool} {l : List UInt8} (h : l.all p = true) : l.dropWhile p = [] := by
  induction l with
  | nil => rfl
  | cons a l ih =>
    simp only [List.all_cons, Bool.and_eq_true] at h
    rw [List.dropWhile_cons, if_pos h.1]; exact ih h.2
def digs : List UInt8 := [48, 49, 50, 51, 52, 53, 54, 55, 56, 57]
theorem digs_has (b : UInt8) : digs.contains b = isD b := by
  rw [Bool.eq_iff_iff, isD_iff]
  have e : ∀ c : UInt8, b = c ↔ b.toNat = c.toNat := fun c => ⟨fun h => by rw [h], fun h => UInt8.toNat_inj.1 h⟩
  simp only [digs, List.contains_iff_mem, List.mem_cons, List.not_mem_nil, or_false, e]
  simp only [show (48 : UInt8).toNat = 48 from rfl, show (49 : UInt8).toNat = 49 from rfl, show (50 : UInt8).toNat = 50 from rfl, show (51 : UInt8).toNat = 51 from rfl, show (52 : UInt8).toNat = 52 from rfl, show (53 : UInt8).toNat = 53 from rfl, show (54 : UInt8).toNat = 54 from rfl, show (55 : UInt8).toNat = 55 from rfl, show (56 : UInt8).toNat = 56 from rfl, show (57 : UInt8).toNat = 57 from rfl]
  omega
theorem trim_all {l : List UInt8} (h : l.all isD = true) : trimS l digs = [] := by
  have e : (fun b => digs.contains b) = isD := funext digs_has
  unfold trimS trimRightS
  have h1 : l.reverse.dropWhile (fun b => digs.contains b) = [] := by rw [e]; exact dropWhile_all (by rw [List.all_reverse]; exact h)
  rw [h1]; rfl
theorem trim_some {l : List UInt8} (h : l.all isD = false) : trimS l digs ≠ [] := by
  have e : (fun b => digs.contains b) = isD := funext digs_has
  obtain ⟨x, hx, hp⟩ : ∃ x, x ∈ l ∧ isD x = false := by
    have := List.all_eq_false.1 h
    simpa using this
  intro h1
  have h2 : x ∈ trimRightS l digs := by
    unfold trimRightS
    rw [e, List.mem_reverse]
    exact mem_dropWhile (List.mem_reverse.2 hx) hp
  have h3 : x ∈ trimS l digs := by
    unfold trimS trimLeftS
    rw [e]
    exact mem_dropWhile h2 hp
  rw [h1] at h3
  cases h3
end Go.Proofs.YtgaicejcjkpekaaDoor.Nt
