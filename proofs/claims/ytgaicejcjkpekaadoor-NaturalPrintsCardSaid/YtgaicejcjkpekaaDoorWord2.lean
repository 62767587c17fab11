/- More words for the laws' walks. No condition. -/
import Derived.Test.YtgaicejcjkpekaaDoorWord
namespace Go.Proofs.YtgaicejcjkpekaaDoor
open Go.RowKit Nt

theorem hs0 : (limbs (val [])).length ≤ 1 := by show (limbs 0).length ≤ 1; rw [limbs_zero]; exact Nat.zero_le _
theorem val_nil : val [] = 0 := rfl
theorem natIn_nil (w : World) : NatIn w none 0 [] := ⟨lim_nil, Nat.le_refl _, by omega, fun h => absurd h (by simp), fun i hi => absurd hi (by simp)⟩
theorem len_pos {n : Nat} (h : 0 < n) : 0 < (limbs n).length := by
  apply Nat.pos_of_ne_zero
  intro h0
  have := val_limbs n
  rw [List.length_eq_zero_iff.1 h0] at this
  rw [val_nil] at this
  omega
theorem len_gcd {a b i : Nat} (ha : (limbs a).length ≤ i) (hb : (limbs b).length ≤ i) : (limbs (Nat.gcd a b)).length ≤ i := by
  rcases Nat.eq_zero_or_pos a with rfl | h
  · rw [Nat.gcd_zero_left]; exact hb
  · exact len_le ha (Nat.gcd_le_left b h)
end Go.Proofs.YtgaicejcjkpekaaDoor
