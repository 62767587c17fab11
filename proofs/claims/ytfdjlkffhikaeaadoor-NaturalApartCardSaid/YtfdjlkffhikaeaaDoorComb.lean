/- natural.combine: a number out of two, with signed factors. Printed by combgen.py. -/
import Derived.Test.YtfdjlkffhikaeaaDoorWord
import Derived.Test.YtfdjlkffhikaeaaDoorLow
namespace Go.Proofs.YtfdjlkffhikaeaaDoor
open Go.RowKit Nt

theorem w64 {n : Int} (h1 : -9223372036854775808 ≤ n) (h2 : n ≤ 9223372036854775807) : wrap64 n = n := by unfold wrap64; omega
theorem mul_bd {x : Int} {a : Nat} (h1 : -1073741823 ≤ x) (h2 : x ≤ 1073741823) (ha : a < 4294967296) : -4611686013132406785 ≤ x * (a : Int) ∧ x * (a : Int) ≤ 4611686013132406785 := by
  have e1 : x * (a : Int) ≤ 1073741823 * (a : Int) := Int.mul_le_mul_of_nonneg_right h2 (by omega)
  have e2 : -1073741823 * (a : Int) ≤ x * (a : Int) := Int.mul_le_mul_of_nonneg_right h1 (by omega)
  omega
theorem comb_step {L la lb : List Nat} {k : Nat} {x y c P Q S : Int} (hk : k < L.length) (h : ((val (L.take k) : Nat) : Int) + (bp k : Nat) * c = x * (val (la.take k) : Nat) + y * (val (lb.take k) : Nat))
    (hP : P = x * ((lm la k : Nat) : Int)) (hQ : Q = y * ((lm lb k : Nat) : Int)) (hS : S = c + P + Q) :
    ((val ((L.set k (S % 4294967296).toNat).take (k + 1)) : Nat) : Int) + (bp (k + 1) : Nat) * (S / 4294967296) = x * (val (la.take (k + 1)) : Nat) + y * (val (lb.take (k + 1)) : Nat) := by
  rw [val_set hk, val_take la, val_take lb, bp_succ]
  have h1 := Int.emod_nonneg S (by omega : (4294967296 : Int) ≠ 0)
  have h2 : (((S % 4294967296).toNat : Nat) : Int) = S % 4294967296 := Int.toNat_of_nonneg h1
  have h3 := Int.emod_add_mul_ediv S 4294967296
  simp only [Int.natCast_add, Int.natCast_mul, h2]
  generalize ((val (L.take k) : Nat) : Int) = A at h ⊢
  generalize ((val (la.take k) : Nat) : Int) = A1 at h ⊢
  generalize ((val (lb.take k) : Nat) : Int) = A2 at h ⊢
  generalize ((bp k : Nat) : Int) = B at h ⊢
  generalize S % 4294967296 = s0 at h3 ⊢
  generalize S / 4294967296 = s1 at h3 ⊢
  generalize ((lm la k : Nat) : Int) = a at hP ⊢
  generalize ((lm lb k : Nat) : Int) = b at hQ ⊢
  have e : ((4294967296 : Nat) : Int) = 4294967296 := rfl
  rw [e]
  have h4 : B * s0 + 4294967296 * B * s1 = B * S := by rw [← h3]; grind
  have h5 : B * S = B * c + x * (B * a) + y * (B * b) := by rw [hS, hP, hQ]; grind
  grind

set_option maxRecDepth 100000 in
set_option maxHeartbeats 2000000 in
theorem combine_ok (pa : Option Addr) (na ca : Nat) (la : List Nat) (pb : Option Addr) (nb cb : Nat) (lb : List Nat) (x y : Int) (r : Nat) (w : World) (ha : NatIn w pa ca la) (hb : NatIn w pb cb lb) (hna : la.length = na) (hnb : lb.length = nb) (sa : na ≤ 100000000) (sb : nb ≤ 100000000)
    (hx1 : -1073741823 ≤ x) (hx2 : x ≤ 1073741823) (hy1 : -1073741823 ≤ y) (hy2 : y ≤ 1073741823) (hr : (r : Int) = x * (val la : Nat) + y * (val lb : Nat)) (hrl : r < bp (max na nb + 1)) :
    Calls Tryd.prog 54 #[.slice pa na ca, .slice pb nb cb, .int .i64 x, .int .i64 y] w (RetNat r w) := by
  subst hna hnb
  have HX := Lib.hid ha
  have HY := Lib.hid hb
  have HR := Lib.hid hr
  clear ha hb hr
  obtain ⟨m, hm⟩ : ∃ m, m = max la.length lb.length := ⟨_, rfl⟩
  rw [← hm] at hrl
  have HRl := Lib.hid hrl
  have hma : la.length ≤ m := by omega
  have hmb : lb.length ≤ m := by omega
  have hms : m ≤ 100000000 := by omega
  have hmi : max (la.length : Int) (lb.length : Int) = (m : Int) := by omega
  have hmi2 : max la.length lb.length = m := hm.symm
  clear hm hrl
  go_enter Tryd.func54, Tryd.ntmps54
  go_wp2_with (at_make; refine wpList_mk _ rfl _ _ rfl (m + 1) rfl rfl (by omega) (by omega) ?_)
  intro w1 hsz hown hbel
  have HO1 := Lib.hid hown
  have HB1 := Lib.hid hbel
  clear hown hbel hmi hmi2
  go_wp2_with fail
  go_loopw [10, 21] (fun cv iv wr => ∃ (k : Nat) (c : Int) (L : List Nat), k ≤ m + 1 ∧ iv = .int .i64 k ∧ cv = .int .i64 c ∧ -2147483648 ≤ c ∧ c ≤ 2147483648 ∧ L.length = m + 1 ∧ Lim L ∧ Own wr w.heap.size L ∧ Below w.heap.size w wr ∧
      ((val (L.take k) : Nat) : Int) + (bp k : Nat) * c = x * (val (la.take k) : Nat) + y * (val (lb.take k) : Nat)) (fun _ iv _ => m + 1 - (intOf iv).toNat)
  case atStart => exact ⟨0, 0, _, Nat.zero_le _, rfl, rfl, by omega, by omega, by simp, lim_zeros _, HO1.out, HB1.out, by simp [val]⟩
  case round =>
    obtain ⟨k, c, L, hk, rfl, rfl, hc1, hc2, hL, hlim, hO, hbl, hI⟩ := hrel
    have HL := Lib.hid hL
    have HO := Lib.hid hO
    have HBl := Lib.hid hbl
    have HI := Lib.hid hI
    have HLim := Lib.hid hlim
    clear hL hO hbl hI hlim
    by_cases hlt : k < m + 1
    · have hoc := HO.out.cell (i := k) (by have := HL.out; omega)
      have hof := HO.out.frozen k
      by_cases hxl : k < la.length
      · by_cases hyl : k < lb.length
        · skip
          have hxc := (HX.out.keep HBl.out).cell k hxl
          have hxi := fun ww => HX.out.ix (z := (k : Int)) (by omega) (n := la.length) (by omega) (Nat.le_refl _) ca ww
          rw [Int.toNat_natCast] at hxi
          obtain ⟨P, hP⟩ : ∃ P, P = x * ((lm la k : Nat) : Int) := ⟨_, rfl⟩
          have hPb := mul_bd hx1 hx2 (lm_lt HX.out.lim k)
          rw [← hP] at hPb
          have hPl := hPb.1
          have hPu := hPb.2
          have hPw : wrap64 ((lm la k : Nat) : Int) = ((lm la k : Nat) : Int) := w64 (by omega) (by have := lm_lt HX.out.lim k; omega)
          have hPe : wrap64 (x * ((lm la k : Nat) : Int)) = P := by rw [← hP]; exact w64 (by omega) (by omega)
          have hPc : wrap64 (c + P) = c + P := w64 (by omega) (by omega)
          have HPe := Lib.hid hP
          clear hPb hP
          have hyc := (HY.out.keep HBl.out).cell k hyl
          have hyi := fun ww => HY.out.ix (z := (k : Int)) (by omega) (n := lb.length) (by omega) (Nat.le_refl _) cb ww
          rw [Int.toNat_natCast] at hyi
          obtain ⟨Q, hQ⟩ : ∃ Q, Q = y * ((lm lb k : Nat) : Int) := ⟨_, rfl⟩
          have hQb := mul_bd hy1 hy2 (lm_lt HY.out.lim k)
          rw [← hQ] at hQb
          have hQl := hQb.1
          have hQu := hQb.2
          have hQw : wrap64 ((lm lb k : Nat) : Int) = ((lm lb k : Nat) : Int) := w64 (by omega) (by have := lm_lt HY.out.lim k; omega)
          have hQe : wrap64 (y * ((lm lb k : Nat) : Int)) = Q := by rw [← hQ]; exact w64 (by omega) (by omega)
          have hQc : wrap64 (c + P + Q) = c + P + Q := w64 (by omega) (by omega)
          have HQe := Lib.hid hQ
          clear hQb hQ
          go_wp2_with fail
          go_roundw
          case rel =>
            refine ⟨k + 1, (c + P + Q) / 4294967296, L.set k ((c + P + Q) % 4294967296).toNat, by omega, by go_num, by go_num, by omega, by omega, by rw [List.length_set]; exact HL.out, lim_set HLim.out (by omega), HO.out.set (by omega), below_set HBl.out (Nat.le_refl _) _, ?_⟩
            exact comb_step (by have := HL.out; omega) HI.out HPe.out HQe.out (by omega)
          case measure => simp [intOf]; omega
        · skip
          have hxc := (HX.out.keep HBl.out).cell k hxl
          have hxi := fun ww => HX.out.ix (z := (k : Int)) (by omega) (n := la.length) (by omega) (Nat.le_refl _) ca ww
          rw [Int.toNat_natCast] at hxi
          obtain ⟨P, hP⟩ : ∃ P, P = x * ((lm la k : Nat) : Int) := ⟨_, rfl⟩
          have hPb := mul_bd hx1 hx2 (lm_lt HX.out.lim k)
          rw [← hP] at hPb
          have hPl := hPb.1
          have hPu := hPb.2
          have hPw : wrap64 ((lm la k : Nat) : Int) = ((lm la k : Nat) : Int) := w64 (by omega) (by have := lm_lt HX.out.lim k; omega)
          have hPe : wrap64 (x * ((lm la k : Nat) : Int)) = P := by rw [← hP]; exact w64 (by omega) (by omega)
          have hPc : wrap64 (c + P) = c + P := w64 (by omega) (by omega)
          have HPe := Lib.hid hP
          clear hPb hP
          have HQe : Hid ((0 : Int) = y * ((lm lb k : Nat) : Int)) := by rw [lm_out (by omega)]; show (0 : Int) = y * 0; omega
          go_wp2_with fail
          go_roundw
          case rel =>
            refine ⟨k + 1, (c + P) / 4294967296, L.set k ((c + P) % 4294967296).toNat, by omega, by go_num, by go_num, by omega, by omega, by rw [List.length_set]; exact HL.out, lim_set HLim.out (by omega), HO.out.set (by omega), below_set HBl.out (Nat.le_refl _) _, ?_⟩
            exact comb_step (by have := HL.out; omega) HI.out HPe.out HQe.out (by omega)
          case measure => simp [intOf]; omega
      · by_cases hyl : k < lb.length
        · skip
          have HPe : Hid ((0 : Int) = x * ((lm la k : Nat) : Int)) := by rw [lm_out (by omega)]; show (0 : Int) = x * 0; omega
          have hyc := (HY.out.keep HBl.out).cell k hyl
          have hyi := fun ww => HY.out.ix (z := (k : Int)) (by omega) (n := lb.length) (by omega) (Nat.le_refl _) cb ww
          rw [Int.toNat_natCast] at hyi
          obtain ⟨Q, hQ⟩ : ∃ Q, Q = y * ((lm lb k : Nat) : Int) := ⟨_, rfl⟩
          have hQb := mul_bd hy1 hy2 (lm_lt HY.out.lim k)
          rw [← hQ] at hQb
          have hQl := hQb.1
          have hQu := hQb.2
          have hQw : wrap64 ((lm lb k : Nat) : Int) = ((lm lb k : Nat) : Int) := w64 (by omega) (by have := lm_lt HY.out.lim k; omega)
          have hQe : wrap64 (y * ((lm lb k : Nat) : Int)) = Q := by rw [← hQ]; exact w64 (by omega) (by omega)
          have hQc : wrap64 (c + Q) = c + Q := w64 (by omega) (by omega)
          have HQe := Lib.hid hQ
          clear hQb hQ
          go_wp2_with fail
          go_roundw
          case rel =>
            refine ⟨k + 1, (c + Q) / 4294967296, L.set k ((c + Q) % 4294967296).toNat, by omega, by go_num, by go_num, by omega, by omega, by rw [List.length_set]; exact HL.out, lim_set HLim.out (by omega), HO.out.set (by omega), below_set HBl.out (Nat.le_refl _) _, ?_⟩
            exact comb_step (by have := HL.out; omega) HI.out HPe.out HQe.out (by omega)
          case measure => simp [intOf]; omega
        · skip
          have HPe : Hid ((0 : Int) = x * ((lm la k : Nat) : Int)) := by rw [lm_out (by omega)]; show (0 : Int) = x * 0; omega
          have HQe : Hid ((0 : Int) = y * ((lm lb k : Nat) : Int)) := by rw [lm_out (by omega)]; show (0 : Int) = y * 0; omega
          go_wp2_with fail
          go_roundw
          case rel =>
            refine ⟨k + 1, (c) / 4294967296, L.set k ((c) % 4294967296).toNat, by omega, by go_num, by go_num, by omega, by omega, by rw [List.length_set]; exact HL.out, lim_set HLim.out (by omega), HO.out.set (by omega), below_set HBl.out (Nat.le_refl _) _, ?_⟩
            exact comb_step (by have := HL.out; omega) HI.out HPe.out HQe.out (by omega)
          case measure => simp [intOf]; omega
    · obtain rfl : k = m + 1 := by omega
      have hval : Hid (val L = r) := by
        have h1 := HI.out
        rw [val_take_all (l := L) (by have := HL.out; omega), val_take_all (l := la) (by omega), val_take_all (l := lb) (by omega), ← HR.out] at h1
        have h2 := val_lt HLim.out
        rw [HL.out] at h2
        have h3 := HRl.out
        have h4 : c = 0 := by
          generalize bp (m + 1) = B at h1 h2 h3
          rcases Int.lt_trichotomy c 0 with hneg | h0 | hpos
          · have : (B : Int) * c ≤ (B : Int) * (-1) := Int.mul_le_mul_of_nonneg_left (by omega) (by omega)
            omega
          · exact h0
          · have : (B : Int) * 1 ≤ (B : Int) * c := Int.mul_le_mul_of_nonneg_left (by omega) (by omega)
            omega
        rw [h4] at h1
        show _ = _
        omega
      go_wp2_with fail
      refine (low_ok _ _ _ L _ (HO.out.whole HLim.out HL.out (by omega)) HL.out).mono ?_
      rintro e w' ⟨Y, hY, rfl, hYn, rfl⟩
      go_wp2_with fail
      go_ret
      exact ret_low hY HO.out HLim.out (Nat.le_refl _) HL.out hval.out HBl.out (by omega)
end Go.Proofs.YtfdjlkffhikaeaaDoor
