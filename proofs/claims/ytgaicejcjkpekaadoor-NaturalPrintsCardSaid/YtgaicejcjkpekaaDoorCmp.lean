/- natural.sign, natural.Compare. -/
import Derived.Test.YtgaicejcjkpekaaDoorLow
namespace Go.Proofs.YtgaicejcjkpekaaDoor
open Go.RowKit Nt

theorem sign_ok (b : Bool) (w : World) : Calls Tryd.prog 67 #[.bool b] w fun e w' => e = .returned (.int .i64 (sgn b)) ∧ w = w' := by
  cases b
  all_goals
    go_enter Tryd.func67, Tryd.ntmps67
    go_wp2
    go_ret
    exact ⟨rfl, rfl⟩

set_option maxRecDepth 100000 in
set_option maxHeartbeats 1000000 in
theorem cmp_ok (pa : Option Addr) (na ca : Nat) (la : List Nat) (pb : Option Addr) (nb cb : Nat) (lb : List Nat) (w : World) (ha : NatIn w pa ca la) (hb : NatIn w pb cb lb) (hna : la.length = na) (hnb : lb.length = nb) :
    Calls Tryd.prog 47 #[.slice pa na ca, .slice pb nb cb] w fun e w' => e = .returned (.int .i64 (cmp (val la) (val lb))) ∧ Below w.heap.size w w' := by
  subst hna hnb
  go_enter Tryd.func47, Tryd.ntmps47
  go_wp2_with fail
  refine (low_ok pa _ ca la _ ha rfl).mono ?_
  rintro e w' ⟨A, hA, rfl, hAn, rfl⟩
  go_wp2_with fail
  refine (low_ok pb _ cb lb _ hb rfl).mono ?_
  rintro e w' ⟨B, hB, rfl, hBn, rfl⟩
  have HA := Lib.hid hAn
  have HB := Lib.hid hBn
  clear hAn hBn ha hb
  have hvA : Hid (val A = val la) := by rw [hA.out, val_limbs]; rfl
  have hvB : Hid (val B = val lb) := by rw [hB.out, val_limbs]; rfl
  have hAc := HA.out.le
  have hBc := HB.out.le
  have hAm := HA.out.cap
  have hBm := HB.out.cap
  by_cases h1 : A.length < B.length
  · have hlt : Hid (val la < val lb) := lt_of_length (by rw [← hA.out, ← hB.out]; exact h1)
    have hne : ((A.length : Int) != B.length) = true := by rw [bne_iff_ne]; omega
    have hd : decide (B.length < A.length) = false := by simp; omega
    go_wp2_with fail
    refine (sign_ok _ _).mono ?_
    rintro e w' ⟨rfl, rfl⟩
    go_wp2_with fail
    go_ret
    exact ⟨by rw [cmp_lt hlt.out]; rfl, Below.refl _ _⟩
  · by_cases h2 : B.length < A.length
    · have hlt : Hid (val lb < val la) := lt_of_length (by rw [← hA.out, ← hB.out]; exact h2)
      have hne : ((A.length : Int) != B.length) = true := by rw [bne_iff_ne]; omega
      have hd : decide (B.length < A.length) = true := by simp; omega
      go_wp2_with fail
      refine (sign_ok _ _).mono ?_
      rintro e w' ⟨rfl, rfl⟩
      go_wp2_with fail
      go_ret
      exact ⟨by rw [cmp_gt hlt.out]; rfl, Below.refl _ _⟩
    · have hne : ((A.length : Int) != B.length) = false := by rw [bne_eq_false_iff_eq]; omega
      have h3 : A.length ≤ B.length := by omega
      have h4 : B.length ≤ A.length := by omega
      go_wp2_with fail
      go_loopw [5] (fun iv wr => ∃ k : Nat, k ≤ A.length ∧ iv = .int .i64 ((k : Int) - 1) ∧ Below w.heap.size w wr ∧ val (A.drop k) = val (B.drop k)) (fun iv _ => (intOf iv + 1).toNat)
      case atStart => exact ⟨A.length, Nat.le_refl _, rfl, Below.refl _ _, by rw [List.drop_of_length_le (Nat.le_refl _), List.drop_of_length_le h4]⟩
      case round =>
        obtain ⟨k, hk, rfl, hbl, hI⟩ := hrel
        have HI := Lib.hid hI
        have HBl := Lib.hid hbl
        clear hI hbl
        by_cases h0 : 0 < k
        · obtain ⟨j, rfl⟩ : ∃ j, k = j + 1 := ⟨k - 1, by omega⟩
          rw [show (((j + 1 : Nat) : Int) - 1) = (j : Int) from by omega]
          have hac := (HA.out.keep HBl.out).cell j (by omega)
          have hai := fun ww => HA.out.ix (z := (j : Int)) (by omega) (n := A.length) (by omega) (Nat.le_refl _) ca ww
          have hbc := (HB.out.keep HBl.out).cell j (by omega)
          have hbi := fun ww => HB.out.ix (z := (j : Int)) (by omega) (n := B.length) (by omega) (Nat.le_refl _) cb ww
          rw [Int.toNat_natCast] at hai hbi
          by_cases he : lm A j = lm B j
          · have HE := Lib.hid he
            have hn : (((lm A j : Nat) : Int) != ((lm B j : Nat) : Int)) = false := by rw [bne_eq_false_iff_eq]; omega
            clear he
            go_wp2_with fail
            go_quiet (fail)
            go_wp2_with fail
            go_roundw
            case rel => exact ⟨j, by omega, rfl, below_drewN HBl.out _, drop_step (by omega) (by omega) HI.out HE.out⟩
            case measure => simp [intOf]
          · have hn : (((lm A j : Nat) : Int) != ((lm B j : Nat) : Int)) = true := by rw [bne_iff_ne]; omega
            by_cases hgt : lm B j < lm A j
            · have hfin : Hid (val lb < val la) := by
                have := gt_of_limb HB.out.lim (by omega) (by omega) HI.out hgt
                rwa [hvA.out, hvB.out] at this
              have hd : decide (lm B j < lm A j) = true := by simpa using hgt
              clear he
              go_wp2_with fail
              go_quiet (fail)
              go_wp2_with fail
              go_quiet ((go_at_call 67; exact quiet2 (sign_ok _) _ _ _))
              go_wp2_with fail
              go_ret
              exact ⟨by rw [cmp_gt hfin.out]; rfl, below_drewN (below_drewN HBl.out _) _⟩
            · have hfin : Hid (val la < val lb) := by
                have := gt_of_limb HA.out.lim (by omega) (by omega) HI.out.symm (by omega : lm A j < lm B j)
                rwa [hvA.out, hvB.out] at this
              have hd : decide (lm B j < lm A j) = false := by simpa using hgt
              clear he
              go_wp2_with fail
              go_quiet (fail)
              go_wp2_with fail
              go_quiet ((go_at_call 67; exact quiet2 (sign_ok _) _ _ _))
              go_wp2_with fail
              go_ret
              exact ⟨by rw [cmp_lt hfin.out]; rfl, below_drewN (below_drewN HBl.out _) _⟩
        · obtain rfl : k = 0 := by omega
          have hfin : Hid (val la = val lb) := by
            have := HI.out
            rw [List.drop_zero, List.drop_zero, hvA.out, hvB.out] at this
            exact this
          rw [show (((0 : Nat) : Int) - 1) = -1 from by omega]
          go_wp2_with fail
          go_ret
          exact ⟨by rw [cmp_eq hfin.out]; rfl, HBl.out⟩
end Go.Proofs.YtgaicejcjkpekaaDoor
