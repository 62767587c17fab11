/- The plain law of a root by Newton's method. No program. -/
import Derived.Test.YtfdjlkffhikaeaaDoorMath
namespace Go.Proofs.YtfdjlkffhikaeaaDoor.Nt

/-- r is the floor of the k-th root of n. -/
def IsRoot (r n k : Nat) : Prop := r ^ k ≤ n ∧ n < (r + 1) ^ k

theorem bern (r a j : Nat) : (j + 1) * (r * a ^ j) ≤ r ^ (j + 1) + j * a ^ (j + 1) := by
  induction j with
  | zero => simp
  | succ j ih =>
    have h1 : r * ((j + 1) * (r * a ^ j)) ≤ r * (r ^ (j + 1) + j * a ^ (j + 1)) := Nat.mul_le_mul_left _ ih
    have h2 : 2 * (r * a) ≤ r * r + a * a := by
      rcases Nat.le_total r a with h | h
      · obtain ⟨d, rfl⟩ : ∃ d, a = r + d := ⟨a - r, by omega⟩
        have : r * r + (r + d) * (r + d) = 2 * (r * (r + d)) + d * d := by grind
        omega
      · obtain ⟨d, rfl⟩ : ∃ d, r = a + d := ⟨r - a, by omega⟩
        have : (a + d) * (a + d) + a * a = 2 * ((a + d) * a) + d * d := by grind
        omega
    have h3 : (j + 1) * a ^ j * (2 * (r * a)) ≤ (j + 1) * a ^ j * (r * r + a * a) := Nat.mul_le_mul_left _ h2
    rw [Nat.pow_succ r (j + 1), Nat.pow_succ a (j + 1)]
    rw [Nat.pow_succ a j] at *
    generalize r ^ (j + 1) = R at *
    generalize a ^ j = A at *
    have e1 : r * ((j + 1) * (r * A)) = (j + 1) * A * (r * r) := by grind
    have e2 : r * (R + j * (A * a)) = R * r + j * (A * a) * r := by grind
    have e3 : (j + 1) * A * (2 * (r * a)) = j * (A * a) * r + (j + 2) * (r * (A * a)) := by grind
    have e4 : (j + 1) * A * (r * r + a * a) = (j + 1) * A * (r * r) + (j + 1) * (A * a * a) := by grind
    rw [e1, e2] at h1
    rw [e3, e4] at h3
    show (j + 1 + 1) * (r * (A * a)) ≤ R * r + (j + 1) * (A * a * a)
    have e5 : (j + 1 + 1) * (r * (A * a)) = (j + 2) * (r * (A * a)) := rfl
    omega
theorem newton_ge {r n a k : Nat} (hk : 1 ≤ k) (ha : 0 < a) (h : r ^ k ≤ n) : r ≤ ((k - 1) * a + n / a ^ (k - 1)) / k := by
  obtain ⟨j, rfl⟩ : ∃ j, k = j + 1 := ⟨k - 1, by omega⟩
  rw [Nat.add_sub_cancel, Nat.le_div_iff_mul_le (by omega)]
  have hb := bern r a j
  have hp : 0 < a ^ j := Nat.pow_pos ha
  rcases Nat.lt_or_ge (r * (j + 1)) (j * a) with h1 | h1
  · exact Nat.le_trans (Nat.le_of_lt h1) (Nat.le_add_right _ _)
  · obtain ⟨d, hd⟩ : ∃ d, r * (j + 1) = j * a + d := ⟨r * (j + 1) - j * a, by omega⟩
    rw [hd]
    apply Nat.add_le_add_left
    rw [Nat.le_div_iff_mul_le hp]
    have e : (j + 1) * (r * a ^ j) = r * (j + 1) * a ^ j := by grind
    rw [e, hd, Nat.add_mul, Nat.pow_succ a j] at hb
    have e2 : j * a * a ^ j = j * (a ^ j * a) := by grind
    omega
theorem newton_stop {n a k : Nat} (hk : 1 ≤ k) (ha : 0 < a) (h : a ≤ ((k - 1) * a + n / a ^ (k - 1)) / k) : a ^ k ≤ n := by
  obtain ⟨j, rfl⟩ : ∃ j, k = j + 1 := ⟨k - 1, by omega⟩
  rw [Nat.add_sub_cancel, Nat.le_div_iff_mul_le (by omega)] at h
  have hp : 0 < a ^ j := Nat.pow_pos ha
  have h2 : a ≤ n / a ^ j := by
    rw [Nat.mul_add, Nat.mul_one, Nat.mul_comm a j] at h
    omega
  rw [Nat.le_div_iff_mul_le hp] at h2
  rw [Nat.pow_succ, Nat.mul_comm]; exact h2
/-- Newton's invariant. -/
structure Nw (n k M a : Nat) : Prop where
  up : n < (a + 1) ^ k
  top : a ^ k ≤ M
  pos : 0 < a
theorem Nw.step {n k M a b : Nat} (h : Nw n k M a) (hk : 1 ≤ k) (hn : 0 < n) (hb : b = ((k - 1) * a + n / a ^ (k - 1)) / k) (hlt : b < a) : Nw n k M b := by
  have hup : n < (b + 1) ^ k := by
    apply Nat.lt_of_not_le
    intro h1
    have := newton_ge hk h.pos h1
    omega
  refine ⟨hup, Nat.le_trans (Nat.pow_le_pow_left (by omega) k) h.top, ?_⟩
  apply Nat.pos_of_ne_zero
  rintro rfl
  rw [Nat.zero_add, Nat.one_pow] at hup
  omega
theorem Nw.stop {n k M a b : Nat} (h : Nw n k M a) (hk : 1 ≤ k) (hb : b = ((k - 1) * a + n / a ^ (k - 1)) / k) (hge : a ≤ b) : IsRoot a n k :=
  ⟨newton_stop hk h.pos (by rw [← hb]; exact hge), h.up⟩
theorem Nw.start {n k s r : Nat} (h : IsRoot r (n / 2 ^ (s * k)) k) (hr : 0 < r) : Nw n k (2 ^ k * n) ((r + 1) * 2 ^ s) := by
  have hD : 0 < 2 ^ (s * k) := Nat.two_pow_pos _
  have hp : 0 < (r + 1) * 2 ^ s := Nat.mul_pos (by omega) (Nat.two_pow_pos s)
  have e : ((r + 1) * 2 ^ s) ^ k = (r + 1) ^ k * 2 ^ (s * k) := by rw [Nat.mul_pow, ← Nat.pow_mul]
  refine ⟨?_, ?_, hp⟩
  · have h1 : n < (r + 1) ^ k * 2 ^ (s * k) := (Nat.div_lt_iff_lt_mul hD).1 h.2
    rw [← e] at h1
    exact Nat.lt_of_lt_of_le h1 (Nat.pow_le_pow_left (by omega) k)
  · rw [e]
    have h1 : (r + 1) ^ k ≤ (2 * r) ^ k := Nat.pow_le_pow_left (by omega) k
    rw [Nat.mul_pow] at h1
    have h2 : r ^ k * 2 ^ (s * k) ≤ n := by
      have h3 := h.1
      rwa [Nat.le_div_iff_mul_le hD] at h3
    have h3 : (r + 1) ^ k * 2 ^ (s * k) ≤ 2 ^ k * r ^ k * 2 ^ (s * k) := Nat.mul_le_mul_right _ h1
    rw [Nat.mul_assoc] at h3
    exact Nat.le_trans h3 (Nat.mul_le_mul_left _ h2)
theorem IsRoot.pos {r n k : Nat} (h : IsRoot r n k) (hn : 0 < n) : 0 < r := by
  apply Nat.pos_of_ne_zero
  rintro rfl
  have := h.2
  rw [Nat.zero_add, Nat.one_pow] at this
  omega
theorem IsRoot.small {n k : Nat} (hk : 1 ≤ k) (hn : n < 2) : IsRoot n n k := by
  have : n = 0 ∨ n = 1 := by omega
  rcases this with rfl | rfl
  · exact ⟨by rw [Nat.zero_pow hk]; exact Nat.le_refl _, by rw [Nat.zero_add, Nat.one_pow]; omega⟩
  · exact ⟨by rw [Nat.one_pow]; exact Nat.le_refl _, Nat.lt_of_lt_of_le (by omega : 1 < 2 ^ 1) (Nat.pow_le_pow_right (by omega) hk)⟩
theorem IsRoot.one (n : Nat) : IsRoot n n 1 := ⟨by rw [Nat.pow_one]; exact Nat.le_refl _, by rw [Nat.pow_one]; omega⟩
/-- How wide a root is. -/
theorem wide_up {n k : Nat} (hk : 1 ≤ k) : n < (2 ^ ((nb n + k - 1) / k)) ^ k := by
  rw [← Nat.pow_mul]
  refine Nat.lt_of_lt_of_le (nb_lt n) (Nat.pow_le_pow_right (by omega) ?_)
  have h1 := Nat.div_add_mod (nb n + k - 1) k
  have h2 := Nat.mod_lt (nb n + k - 1) hk
  rw [Nat.mul_comm]
  omega
theorem wide_low {n k s : Nat} (hk : 1 ≤ k) (hn : n ≠ 0) (hs : s = (nb n + k - 1) / k / 2) (h1 : 1 ≤ s) : s * k < nb n ∧ 0 < n / 2 ^ (s * k) := by
  have h2 : s * k < nb n := by
    have h3 := Nat.div_add_mod (nb n + k - 1) k
    generalize (nb n + k - 1) / k = q at *
    have h4 : (s + 1) * k ≤ q * k := Nat.mul_le_mul_right _ (by omega)
    rw [Nat.add_mul, Nat.one_mul, Nat.mul_comm q] at h4
    omega
  refine ⟨h2, ?_⟩
  apply Nat.div_pos _ (Nat.two_pow_pos _)
  exact Nat.le_trans (Nat.pow_le_pow_right (by omega) (by omega)) (nb_ge hn)
theorem pow_bp {k j : Nat} (h : k ≤ 32 * j) : 2 ^ k ≤ bp j := by rw [bp_two_pow]; exact Nat.pow_le_pow_right (by omega) h
theorem Nw.sizes {n k M a : Nat} (h : Nw n k M a) (hk : 1 ≤ k) : a ≤ M ∧ a ^ (k - 1) ≤ M := by
  have h1 : a ^ 1 ≤ a ^ k := Nat.pow_le_pow_right h.pos hk
  have h2 : a ^ (k - 1) ≤ a ^ k := Nat.pow_le_pow_right h.pos (by omega)
  have := h.top
  rw [Nat.pow_one] at h1
  omega
end Go.Proofs.YtfdjlkffhikaeaaDoor.Nt
