/- The reference: Add, Mul; canonical, Cut, Fold. -/
import Derived.Test.YtgaicejcjkpekaaDoorRefB
import Derived.Test.YtgaicejcjkpekaaDoorMul
namespace Go.Proofs.YtgaicejcjkpekaaDoor
open Go.RowKit Nt

/-- Trim of a block of the call's own, at its end. -/
theorem ret_trim {w w1 w' : World} {n : Nat} {M : List Nat} {e : Ending} (hn : val M = n) (hb : Below w.heap.size w w1) (h : RetNat (val M) w1 e w') : RetNat n w e w' := by
  subst hn; exact h.behind hb

set_option maxRecDepth 100000 in
set_option maxHeartbeats 1000000 in
theorem radd_ok (pa : Option Addr) (na ca : Nat) (la : List Nat) (pb : Option Addr) (nb cb : Nat) (lb : List Nat) (w : World) (ha : NatIn w pa ca la) (hb : NatIn w pb cb lb) (hna : la.length = na) (hnb : lb.length = nb) (sa : na ≤ 100000000) (sb : nb ≤ 100000000) :
    Calls Tryd.prog 28 #[.slice pa na ca, .slice pb nb cb] w (RetNat (val la + val lb) w) := by
  subst hna hnb
  have HX := Lib.hid ha
  have HY := Lib.hid hb
  clear ha hb
  obtain ⟨m, hm⟩ : ∃ m, m = max la.length lb.length := ⟨_, rfl⟩
  have hma : la.length ≤ m := by omega
  have hmb : lb.length ≤ m := by omega
  have hms : m ≤ 100000000 := by omega
  have hmi : max (la.length : Int) (lb.length : Int) = (m : Int) := by omega
  have HM := Lib.hid hm
  have hmi2 : max la.length lb.length = m := hm.symm
  clear hm
  go_enter Tryd.func28, Tryd.ntmps28
  go_wp2_with (at_make; refine wpList_mk _ rfl _ _ rfl (m + 1) rfl rfl (by omega) (by omega) ?_)
  intro w1 hsz hown hbel
  have HO1 := Lib.hid hown
  have HB1 := Lib.hid hbel
  clear hown hbel hmi hmi2
  go_wp2_with fail
  go_loopw [6, 17] (fun cv iv wr => ∃ (k c : Nat) (L : List Nat), k ≤ m + 1 ∧ iv = .int .i64 k ∧ cv = .int .u64 c ∧ c ≤ 1 ∧ L.length = m + 1 ∧ Lim L ∧ Own wr w.heap.size L ∧ Below w.heap.size w wr ∧
      val (L.take k) + bp k * c = val (la.take k) + val (lb.take k)) (fun _ iv _ => m + 1 - (intOf iv).toNat)
  case atStart => exact ⟨0, 0, _, Nat.zero_le _, rfl, rfl, by omega, by simp, lim_zeros _, HO1.out, HB1.out, by simp [val]⟩
  case round =>
    obtain ⟨k, c, L, hk, rfl, rfl, hc, hL, hlim, hO, hbl, hI⟩ := hrel
    have HL := Lib.hid hL
    have HO := Lib.hid hO
    have HBl := Lib.hid hbl
    have HI := Lib.hid hI
    have HLim := Lib.hid hlim
    clear hL hO hbl hI hlim
    by_cases hlt : k < m + 1
    · have hoc := HO.out.cell (i := k) (by have := HL.out; omega)
      have hof := HO.out.frozen k
      by_cases hxl : k < la.length
      · have hxc := (HX.out.keep HBl.out).cell k hxl
        have hxi := fun ww => HX.out.ix (z := (k : Int)) (by omega) (n := la.length) (by omega) (Nat.le_refl _) ca ww
        have hx := lm_lt HX.out.lim k
        rw [Int.toNat_natCast] at hxi
        by_cases hyl : k < lb.length
        · have hyc := (HY.out.keep HBl.out).cell k hyl
          have hyi := fun ww => HY.out.ix (z := (k : Int)) (by omega) (n := lb.length) (by omega) (Nat.le_refl _) cb ww
          have hy := lm_lt HY.out.lim k
          rw [Int.toNat_natCast] at hyi
          have hand : Go.bits .and .u64 ((c : Int) + ((lm la k : Nat) : Int) + ((lm lb k : Nat) : Int)) 4294967295 = ((c : Int) + ((lm la k : Nat) : Int) + ((lm lb k : Nat) : Int)) % 4294967296 := and_lo (by omega) (by omega)
          go_wp2_with fail
          go_roundw
          case rel =>
            refine ⟨k + 1, (c + lm la k + lm lb k) / 4294967296, L.set k ((c + lm la k + lm lb k) % 4294967296), by omega, by go_num, by go_num, by omega, by rw [List.length_set]; exact HL.out, lim_set HLim.out (by omega),
              HO.out.set (by omega), below_set HBl.out (Nat.le_refl _) _, ?_⟩
            · have h3 := add_step (a := la) (b := lb) (by have := HL.out; omega) HI.out
              exact h3
          case measure => simp [intOf]; omega
        · have HYZ : Hid (lm lb k = 0) := lm_out (by omega)
          have hand : Go.bits .and .u64 ((c : Int) + ((lm la k : Nat) : Int)) 4294967295 = ((c : Int) + ((lm la k : Nat) : Int)) % 4294967296 := and_lo (by omega) (by omega)
          go_wp2_with fail
          go_roundw
          case rel =>
            refine ⟨k + 1, (c + lm la k) / 4294967296, L.set k ((c + lm la k) % 4294967296), by omega, by go_num, by go_num, by omega, by rw [List.length_set]; exact HL.out, lim_set HLim.out (by omega),
              HO.out.set (by omega), below_set HBl.out (Nat.le_refl _) _, ?_⟩
            · have h3 := add_step (a := la) (b := lb) (by have := HL.out; omega) HI.out
              rw [HYZ.out] at h3
              simp only [Nat.add_zero] at h3
              exact h3
          case measure => simp [intOf]; omega
      · have HXZ : Hid (lm la k = 0) := lm_out (by omega)
        by_cases hyl : k < lb.length
        · have hyc := (HY.out.keep HBl.out).cell k hyl
          have hyi := fun ww => HY.out.ix (z := (k : Int)) (by omega) (n := lb.length) (by omega) (Nat.le_refl _) cb ww
          have hy := lm_lt HY.out.lim k
          rw [Int.toNat_natCast] at hyi
          have hand : Go.bits .and .u64 ((c : Int) + ((lm lb k : Nat) : Int)) 4294967295 = ((c : Int) + ((lm lb k : Nat) : Int)) % 4294967296 := and_lo (by omega) (by omega)
          go_wp2_with fail
          go_roundw
          case rel =>
            refine ⟨k + 1, (c + lm lb k) / 4294967296, L.set k ((c + lm lb k) % 4294967296), by omega, by go_num, by go_num, by omega, by rw [List.length_set]; exact HL.out, lim_set HLim.out (by omega),
              HO.out.set (by omega), below_set HBl.out (Nat.le_refl _) _, ?_⟩
            · have h3 := add_step (a := la) (b := lb) (by have := HL.out; omega) HI.out
              rw [HXZ.out] at h3
              simp only [Nat.add_zero] at h3
              exact h3
          case measure => simp [intOf]; omega
        · have HYZ : Hid (lm lb k = 0) := lm_out (by omega)
          have hand : Go.bits .and .u64 ((c : Int)) 4294967295 = ((c : Int)) % 4294967296 := and_lo (by omega) (by omega)
          go_wp2_with fail
          go_roundw
          case rel =>
            refine ⟨k + 1, (c) / 4294967296, L.set k ((c) % 4294967296), by omega, by go_num, by go_num, by omega, by rw [List.length_set]; exact HL.out, lim_set HLim.out (by omega),
              HO.out.set (by omega), below_set HBl.out (Nat.le_refl _) _, ?_⟩
            · have h3 := add_step (a := la) (b := lb) (by have := HL.out; omega) HI.out
              rw [HXZ.out, HYZ.out] at h3
              simp only [Nat.add_zero] at h3
              exact h3
          case measure => simp [intOf]; omega
    · obtain rfl : k = m + 1 := by omega
      have hval : Hid (val L = val la + val lb) := by
        have h1 := HI.out
        rw [val_take_all (by have := HL.out; omega), val_take_all (by omega), val_take_all (by omega)] at h1
        have h2 := val_lt HX.out.lim
        have h3 := val_lt HY.out.lim
        have h4 := bp_mono hma
        have h5 := bp_mono hmb
        rw [bp_succ] at h1
        have h6 := bp_pos m
        have h7 : c = 0 := by
          apply Nat.eq_zero_of_not_pos
          intro h8
          have : c = 1 := by omega
          subst this
          omega
        subst h7
        show _ = _
        omega
      go_wp2_with fail
      refine (rtrim_ok _ _ _ L _ (HO.out.whole HLim.out HL.out (by omega)) HL.out (by omega)).mono ?_
      intro e w2 h
      obtain ⟨p, c2, rfl, h3⟩ := ret_trim hval.out HBl.out h
      go_wp2_with fail
      go_ret
      exact ⟨p, c2, rfl, h3⟩
end Go.Proofs.YtgaicejcjkpekaaDoor
