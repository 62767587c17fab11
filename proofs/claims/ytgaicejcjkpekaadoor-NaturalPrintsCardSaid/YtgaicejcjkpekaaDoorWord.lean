/- Words for the laws' walks: sizes of results, what a call returns as a named number. No condition. -/
import Derived.Test.YtgaicejcjkpekaaDoorAwake
namespace Go.Proofs.YtgaicejcjkpekaaDoor
open Go.RowKit Nt

theorem lt_bp_len (n : Nat) : n < bp (limbs n).length := by
  have := val_lt (lim_limbs n)
  rwa [val_limbs] at this
theorem lt_bp_of {n k : Nat} (h : (limbs n).length ≤ k) : n < bp k := Nat.lt_of_lt_of_le (lt_bp_len n) (bp_mono h)
theorem len_add {a b i j k : Nat} (ha : (limbs a).length ≤ i) (hb : (limbs b).length ≤ j) (hi : i + 1 ≤ k) (hj : j + 1 ≤ k) : (limbs (a + b)).length ≤ k := by
  apply limbs_length_le
  have h1 := lt_bp_of (k := k - 1) (Nat.le_trans ha (by omega))
  have h2 := lt_bp_of (k := k - 1) (Nat.le_trans hb (by omega))
  have h3 : bp k = 4294967296 * bp (k - 1) := by rw [← bp_succ]; congr 1; omega
  omega
theorem len_mul {a b i j k : Nat} (ha : (limbs a).length ≤ i) (hb : (limbs b).length ≤ j) (hk : i + j ≤ k) : (limbs (a * b)).length ≤ k := by
  apply limbs_length_le
  have h1 := lt_bp_of ha
  have h2 := lt_bp_of hb
  have h3 : bp (i + j) = bp i * bp j := bp_add i j
  have h4 := bp_mono hk
  have h5 : a * b < bp i * bp j := Nat.mul_lt_mul'' h1 h2
  omega
theorem len_le {a b i : Nat} (ha : (limbs a).length ≤ i) (h : b ≤ a) : (limbs b).length ≤ i := Nat.le_trans (limbs_length_mono h) ha
theorem len_val {l : List Nat} {n i : Nat} (h : Lim l) (hn : l.length = n) (hi : n ≤ i) : (limbs (val l)).length ≤ i := Nat.le_trans (limbs_length_val_le h) (by omega)

theorem RetNat.word {v k : Nat} {w w' : World} {e : Ending} (h : RetNat v w e w') (hk : (limbs v).length ≤ k) :
    ∃ x p c, x = v ∧ e = .returned (.slice p (limbs x).length c) ∧ Below w.heap.size w w' ∧ NatIn w' p c (limbs x) ∧ (limbs x).length ≤ k := by
  obtain ⟨p, c, he, hb, hm⟩ := h
  exact ⟨v, p, c, rfl, he, hb, hm.natIn, hk⟩
theorem RetDiv.word {q r k j : Nat} {ok : Bool} {w w' : World} {e : Ending} (h : RetDiv q r ok w e w') (hk : (limbs q).length ≤ k) (hj : (limbs r).length ≤ j) :
    ∃ x p c y p' c', x = q ∧ y = r ∧ e = .returned (.tuple #[.slice p (limbs x).length c, .slice p' (limbs y).length c', .bool ok]) ∧ Below w.heap.size w w' ∧ NatIn w' p c (limbs x) ∧ NatIn w' p' c' (limbs y) ∧ (limbs x).length ≤ k ∧ (limbs y).length ≤ j := by
  obtain ⟨p, c, p', c', he, hb, hm, hm'⟩ := h
  exact ⟨q, p, c, r, p', c', rfl, rfl, he, hb, hm.natIn, hm'.natIn, hk, hj⟩
theorem sub_word {v k : Nat} {ok : Bool} {w w' : World} {e : Ending} (h : ∃ p c, e = .returned (.tuple #[.slice p (limbs v).length c, .bool ok]) ∧ Below w.heap.size w w' ∧ Mine w.heap.size w' p c (limbs v)) (hk : (limbs v).length ≤ k) :
    ∃ x p c, x = v ∧ e = .returned (.tuple #[.slice p (limbs x).length c, .bool ok]) ∧ Below w.heap.size w w' ∧ NatIn w' p c (limbs x) ∧ (limbs x).length ≤ k := by
  obtain ⟨p, c, he, hb, hm⟩ := h
  exact ⟨v, p, c, rfl, he, hb, hm.natIn, hk⟩
theorem val_one : val [1] = 1 := rfl
theorem hsI : (limbs 1).length ≤ 1 := by rw [limbs_one (by omega) (by omega)]; exact Nat.le_refl _
theorem eq_limbs {x y : Nat} (h : x = y) : eqL (limbs x) (limbs y) = true := eqL_true (by rw [h])

theorem nb_len {a k : Nat} (h : (limbs a).length ≤ k) : nb a ≤ 32 * k := nb_le (by rw [← bp_two_pow]; exact lt_bp_of h)
theorem nb_ne {a : Nat} (h : a ≠ 0) : (((nb a : Nat) : Int) == 0) = false := by
  rw [beq_eq_false_iff_ne]
  have : nb a ≠ 0 := fun e => h (nb_eq_zero.1 e)
  omega
theorem nb_one {a : Nat} (h : a ≠ 0) : 1 ≤ nb a := by
  have : nb a ≠ 0 := fun e => h (nb_eq_zero.1 e)
  omega
theorem nb_cases (a b : Nat) : a = 0 ∨ (a ≠ 0 ∧ b = 0) ∨ (a ≠ 0 ∧ b ≠ 0 ∧ nb (a * b) = nb a + nb b) ∨ (a ≠ 0 ∧ b ≠ 0 ∧ nb (a * b) = nb a + nb b - 1) := by
  by_cases ha : a = 0
  · exact .inl ha
  · by_cases hb : b = 0
    · exact .inr (.inl ⟨ha, hb⟩)
    · have h1 := nb_lt a
      have h2 := nb_lt b
      have h3 := nb_ge ha
      have h4 := nb_ge hb
      have h5 := nb_one ha
      have h6 := nb_one hb
      have h7 : nb (a * b) ≤ nb a + nb b := nb_le (by rw [Nat.pow_add]; exact Nat.mul_lt_mul'' h1 h2)
      have h8 : 2 ^ (nb a - 1 + (nb b - 1)) ≤ a * b := by rw [Nat.pow_add]; exact Nat.mul_le_mul h3 h4
      have h9 := nb_lt (a * b)
      have h10 : nb a - 1 + (nb b - 1) < nb (a * b) := (Nat.pow_lt_pow_iff_right (a := 2) (by omega)).1 (Nat.lt_of_le_of_lt h8 h9)
      by_cases h11 : nb (a * b) = nb a + nb b
      · exact .inr (.inr (.inl ⟨ha, hb, h11⟩))
      · exact .inr (.inr (.inr ⟨ha, hb, by omega⟩))
theorem exact_divmod {a b less : Nat} (ha : 0 < a) (hb : 0 < b) (h : less = a * b - 1) : less / b + 1 = a ∧ less % b + 1 = b := by
  obtain ⟨c, rfl⟩ : ∃ c, a = c + 1 := ⟨a - 1, by omega⟩
  have h1 : less = b * c + (b - 1) := by rw [h, Nat.add_mul, Nat.mul_comm b c]; omega
  rw [h1, Nat.mul_add_div hb, Nat.mul_add_mod, Nat.div_eq_of_lt (by omega), Nat.mod_eq_of_lt (by omega)]
  omega
end Go.Proofs.YtgaicejcjkpekaaDoor
