/- natural.low. -/
import Derived.Test.YtgaicejcjkpekaaDoorBase
namespace Go.Proofs.YtgaicejcjkpekaaDoor
open Go.RowKit Nt

/-- The numeric head of a slice's length, for measures. -/
def lenOf : Value → Nat | .slice _ n _ => n | _ => 0

theorem low_keep {l : List Nat} (h : Lim l) {j : Nat} (hj : j < l.length) (h1 : (limbs (val l)).length ≤ j + 1) (h0 : lm l j = 0) : (limbs (val l)).length ≤ j := by
  apply Nat.le_of_not_lt
  intro h2
  have := last_ne_zero h (i := j) (by omega) hj
  rw [lm_eq hj] at h0
  exact this h0
theorem low_stop {l : List Nat} (h : Lim l) {j : Nat} (hj : j < l.length) (h1 : (limbs (val l)).length ≤ j + 1) (h0 : lm l j ≠ 0) : (limbs (val l)).length = j + 1 := by
  apply Nat.le_antisymm h1
  apply Nat.lt_of_not_le
  intro h2
  rw [lm_eq hj] at h0
  exact h0 (zero_behind h h2 hj)
theorem NatIn.low {w : World} {p : Option Addr} {c : Nat} {l : List Nat} (h : NatIn w p c l) : NatIn w p c (limbs (val l)) := by
  have := h.take (limbs_length_val_le h.lim)
  rwa [take_limbs h.lim] at this

set_option maxHeartbeats 400000 in
/-- natural.low: the slice without the zero limbs at its end. -/
theorem low_ok (p : Option Addr) (n c : Nat) (l : List Nat) (w : World) (h : NatIn w p c l) (hn : l.length = n) :
    Calls Tryd.prog 23 #[.slice p n c] w fun e w' => ∃ A, Hid (A = limbs (val l)) ∧ e = .returned (.slice p A.length c) ∧ NatIn w p c A ∧ w = w' := by
  subst hn
  have H := Lib.hid h
  have hle := h.le
  have hcap := h.cap
  have hlow := limbs_length_val_le h.lim
  clear h
  go_enter Tryd.func23, Tryd.ntmps23
  go_wp2
  go_loop [0] (fun v => ∃ k : Nat, k ≤ l.length ∧ (limbs (val l)).length ≤ k ∧ v = .slice p k c) (fun v => lenOf v)
  case atStart => exact ⟨_, Nat.le_refl _, hlow, rfl⟩
  case round =>
    obtain ⟨k, hk, hk2, rfl⟩ := hrel
    by_cases h0 : 0 < k
    · obtain ⟨j, rfl⟩ : ∃ j, k = j + 1 := ⟨k - 1, by omega⟩
      have hj := H.out.cell j (by omega)
      have hix := fun ww => H.out.ix (z := (j : Int)) (by omega) (n := j + 1) (by omega) (by omega) c ww
      rw [Int.toNat_natCast] at hix
      by_cases hz : lm l j = 0
      · have HZ := Lib.hid hz
        rw [hz] at hj
        clear hz
        go_wp2
        go_round
        case rel => exact ⟨j, by omega, low_keep H.out.lim (by omega) hk2 HZ.out, rfl⟩
        case measure => simp [lenOf]
      · have HZ := Lib.hid hz
        have hb : (((lm l j : Nat) : Int) == 0) = false := by rw [beq_eq_false_iff_ne]; omega
        clear hz
        go_wp2
        go_ret
        have e := low_stop H.out.lim (by omega) hk2 HZ.out
        exact ⟨_, rfl, by rw [e]; rfl, H.out.low, rfl⟩
    · obtain rfl : k = 0 := by omega
      go_wp2
      go_ret
      have e : (limbs (val l)).length = 0 := by omega
      exact ⟨_, rfl, by rw [e]; rfl, H.out.low, rfl⟩
end Go.Proofs.YtgaicejcjkpekaaDoor
