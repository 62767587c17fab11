/- The reference: Same, Compare, Bits, Add; canonical, Cut, Fold; natural.Bits. -/
import Derived.Test.YtgaicejcjkpekaaDoorRefA
import Derived.Test.YtgaicejcjkpekaaDoorCmp
import Derived.Test.YtgaicejcjkpekaaDoorDiv
namespace Go.Proofs.YtgaicejcjkpekaaDoor
open Go.RowKit Nt

theorem ret_i64 {a b : Int} (h : a = b) : Ending.returned (.int .i64 a) = .returned (.int .i64 b) := by rw [h]
theorem bitLen_nb {x : Nat} (h : x < 4294967296) : Lib.bitLen x = nb x := by
  by_cases h0 : x = 0
  · subst h0; rw [nb_zero]; rfl
  · have hb := Lib.bitLenAux_bounds 64 x (by omega) h0
    unfold Lib.bitLen
    obtain ⟨h1, h2, h3⟩ := hb
    obtain ⟨k, hk⟩ : ∃ k, Lib.bitLenAux 64 x = k + 1 := ⟨Lib.bitLenAux 64 x - 1, by omega⟩
    rw [hk] at h2 h3 ⊢
    exact (nb_of h2 h3).symm

set_option maxRecDepth 100000 in
set_option maxHeartbeats 1000000 in
theorem same_ok (pa : Option Addr) (na ca : Nat) (la : List Nat) (pb : Option Addr) (nb cb : Nat) (lb : List Nat) (w : World) (ha : NatIn w pa ca la) (hb : NatIn w pb cb lb) (hna : la.length = na) (hnb : lb.length = nb) :
    Calls Tryd.prog 8 #[.slice pa na ca, .slice pb nb cb] w fun e w' => e = .returned (.bool (eqL la lb)) ∧ Below w.heap.size w w' := by
  subst hna hnb
  have HA := Lib.hid ha
  have HB := Lib.hid hb
  have hAc := ha.le
  have hBc := hb.le
  have hAm := ha.cap
  have hBm := hb.cap
  clear ha hb
  go_enter Tryd.func8, Tryd.ntmps8
  by_cases hl : la.length = lb.length
  · have hne : ((la.length : Int) != (lb.length : Int)) = false := by rw [bne_eq_false_iff_eq]; omega
    have hle : la.length ≤ lb.length := by omega
    have HL := Lib.hid hl
    clear hl
    go_wp2_with fail
    go_loopw [13] (fun iv wr => ∃ k : Nat, k ≤ la.length ∧ iv = .int .i64 k ∧ Below w.heap.size w wr ∧ (∀ j, j < k → lm la j = lm lb j)) (fun iv _ => la.length - (intOf iv).toNat)
    case atStart => exact ⟨0, Nat.zero_le _, rfl, Below.refl _ _, fun j h => absurd h (by omega)⟩
    case round =>
      obtain ⟨k, hk, rfl, hbl, hI⟩ := hrel
      have HI := Lib.hid hI
      have HBl := Lib.hid hbl
      clear hI hbl
      by_cases h0 : k < la.length
      · have hac := (HA.out.keep HBl.out).cell k h0
        have hai := fun ww => HA.out.ix (z := (k : Int)) (by omega) (n := la.length) (by omega) (Nat.le_refl _) ca ww
        have hbc := (HB.out.keep HBl.out).cell k (by omega)
        have hbi := fun ww => HB.out.ix (z := (k : Int)) (by omega) (n := lb.length) (by omega) (Nat.le_refl _) cb ww
        rw [Int.toNat_natCast] at hai hbi
        by_cases he : lm la k = lm lb k
        · have HE := Lib.hid he
          have hn : (((lm la k : Nat) : Int) != ((lm lb k : Nat) : Int)) = false := by rw [bne_eq_false_iff_eq]; omega
          clear he
          go_wp2_with fail
          go_quiet (fail)
          go_wp2_with fail
          go_roundw
          case rel =>
            refine ⟨k + 1, by omega, by go_num, below_drewN HBl.out _, fun j hj => ?_⟩
            by_cases hjk : j = k
            · subst hjk; exact HE.out
            · exact HI.out j (by omega)
          case measure => simp [intOf]; omega
        · have hn : (((lm la k : Nat) : Int) != ((lm lb k : Nat) : Int)) = true := by rw [bne_iff_ne]; omega
          have hne2 : Hid (la ≠ lb) := fun e => he (by rw [e])
          clear he
          go_wp2_with fail
          go_quiet (fail)
          go_wp2_with fail
          go_ret
          exact ⟨by rw [eqL_false hne2.out]; rfl, below_drewN HBl.out _⟩
      · obtain rfl : k = la.length := by omega
        have heq : Hid (la = lb) := eq_of_lm HL.out HI.out
        go_wp2_with fail
        go_ret
        exact ⟨by rw [eqL_true heq.out]; rfl, HBl.out⟩
  · have hne : ((la.length : Int) != (lb.length : Int)) = true := by rw [bne_iff_ne]; omega
    have hne2 : Hid (la ≠ lb) := fun e => hl (by rw [e])
    clear hl
    go_wp2_with fail
    go_ret
    exact ⟨by rw [eqL_false hne2.out]; rfl, Below.refl _ _⟩

end Go.Proofs.YtgaicejcjkpekaaDoor
