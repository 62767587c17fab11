/- natural.digit. -/
import Derived.Test.YtgaicejcjkpekaaDoorBase
import Derived.Test.YtgaicejcjkpekaaDoorDigM
import Derived.Deep.DeepCutAuto
import Derived.Deep.CutBlock
namespace Go.Proofs.YtgaicejcjkpekaaDoor
open Go.RowKit Nt

theorem seg_cell {w : World} {g o : Nat} {R S : List Nat} (h : Own w g (splice R o S)) (ho : o + S.length ≤ R.length) {k : Nat} (hk : k < S.length) : w.cell? ⟨g, o + k, none⟩ = some (.int .u32 ((lm S k : Nat) : Int)) := by
  rw [h.cell (by rw [splice_length ho]; omega), splice_lm ho hk]
theorem seg_set {w : World} {g o : Nat} {R S : List Nat} (h : Own w g (splice R o S)) (ho : o + S.length ≤ R.length) {k x : Nat} (hk : k < S.length) {z : Int} (hz : z = (x : Int)) : Own (w.setCell ⟨g, o + k, none⟩ (.int .u32 z)) g (splice R o (S.set k x)) := by
  rw [← splice_set ho hk]; exact h.set hz

theorem and_lo {x : Int} (h0 : 0 ≤ x) (h1 : x ≤ 18446744073709551615) : Go.bits .and .u64 x 4294967295 = x % 4294967296 :=
  bits_mask .u64 64 (Nat.le_refl _) (fun n h0 h1 => IntWalk.u64_in n ⟨h0, by omega⟩) 32 (by omega) x h0 (by omega)

theorem ms_br {x c P br : Nat} (hx : x < 4294967296) (hb : br ≤ 1) : IntKind.u64.wrap (IntKind.u64.wrap ((x : Int) - ((c : Int) + (P : Int)) % 4294967296) - (br : Int)) / 9223372036854775808 = ((if x < (c + P) % 4294967296 + br then 1 else 0 : Nat) : Int) := by
  rw [IntKind.wrap_u64, IntKind.wrap_u64]; split <;> omega
theorem ms_lo {x c P br : Nat} (hx : x < 4294967296) (hb : br ≤ 1) : IntKind.u64.wrap (IntKind.u64.wrap ((x : Int) - ((c : Int) + (P : Int)) % 4294967296) - (br : Int)) % 4294967296 = (((4294967296 + x - (c + P) % 4294967296 - br) % 4294967296 : Nat) : Int) := by
  rw [IntKind.wrap_u64, IntKind.wrap_u64]; omega
theorem me_br {x c br : Nat} (hx : x < 4294967296) (hc : c < 4294967296) (hb : br ≤ 1) : IntKind.u64.wrap (IntKind.u64.wrap ((x : Int) - (c : Int)) - (br : Int)) / 9223372036854775808 = ((if x < c + br then 1 else 0 : Nat) : Int) := by
  rw [IntKind.wrap_u64, IntKind.wrap_u64]; split <;> omega
theorem me_lo {x c br : Nat} (hx : x < 4294967296) (hc : c < 4294967296) (hb : br ≤ 1) : IntKind.u64.wrap (IntKind.u64.wrap ((x : Int) - (c : Int)) - (br : Int)) % 4294967296 = (((4294967296 + x - c - br) % 4294967296 : Nat) : Int) := by
  rw [IntKind.wrap_u64, IntKind.wrap_u64]; omega
theorem ite_le_one' (c : Prop) [Decidable c] : (if c then 1 else 0 : Nat) ≤ 1 := by split <;> omega

theorem ret_u32 {z : Int} {x : Nat} (h : z = (x : Int)) : Ending.returned (.int .u32 z) = .returned (.int .u32 (x : Int)) := by rw [h]

set_option maxRecDepth 100000 in
set_option maxHeartbeats 4000000 in
theorem digit_ok (g o cr n : Nat) (R S V : List Nat) (pb : Option Addr) (cb : Nat) (w : World) (hO : Own w g (splice R o S)) (hS : Lim S) (hlen : S.length = n + 1) (hR : o + S.length ≤ R.length) (hV : NatIn w pb cb V) (hVn : V.length = n) (hne : blk pb ≠ g)
    (h2 : 2 ≤ n) (hn : n ≤ 1000000000) (ht : 2147483648 ≤ lm V (n - 1)) (hlt : val S < val V * 4294967296) :
    Calls Tryd.prog 50 #[.slice (some ⟨g, o, none⟩) (n + 1) cr, .slice pb n cb] w fun e w' =>
      ∃ S', e = .returned (.int .u32 ((val S / val V : Nat) : Int)) ∧ S'.length = n + 1 ∧ Lim S' ∧ Own w' g (splice R o S') ∧ val S' = val S % val V ∧ w.grownBy w' (some g) := by
  have HT := Lib.hid (top_of hlen hVn hS hV.lim h2 ht hlt)
  have HO := Lib.hid hO
  have HV := Lib.hid hV
  have HVn := Lib.hid hVn
  have HL := Lib.hid hlen
  have HR := Lib.hid hR
  have HS := Lib.hid hS
  have HNE := Lib.hid hne
  obtain ⟨m, rfl⟩ : ∃ m, n = m + 2 := ⟨n - 2, by omega⟩
  have e1 : m + 2 - 1 = m + 1 := by omega
  have e2 : m + 2 - 2 = m := by omega
  rw [e1] at ht
  have hs0 := seg_cell hO hR (k := m) (by omega)
  have hs1 := seg_cell hO hR (k := m + 1) (by omega)
  have hs2 := seg_cell hO hR (k := m + 2) (by omega)
  have hv0 := hV.cell m (by omega)
  have hv1 := hV.cell (m + 1) (by omega)
  have hx0 := fun ww => hV.ix (z := (m : Int)) (by omega) (n := m + 2) (by omega) (by omega) cb ww
  have hx1 := fun ww => hV.ix (z := (m : Int) + 1) (by omega) (n := m + 2) (by omega) (by omega) cb ww
  rw [Int.toNat_natCast] at hx0
  rw [show ((m : Int) + 1).toNat = m + 1 from by omega] at hx1
  have b0 := lm_lt hS m
  have b1 := lm_lt hS (m + 1)
  have b2 := lm_lt hS (m + 2)
  have b3 := lm_lt hV.lim m
  have b4 := lm_lt hV.lim (m + 1)
  have hor1 := or_u64 (r := lm S (m + 2)) (x := lm S (m + 1)) b2 b1
  clear hO hV hVn hlen hR hS hne hlt e1 e2 h2
  go_enter Tryd.func50, Tryd.ntmps50
  go_wp2_with fail
  go_quiet (fail)
  go_wp2_with fail
  have hw1 : IntKind.i64.wrap ((m : Int) + 2 - 1) = (m : Int) + 1 := by rw [IntWalk.i64_in _ (by omega)]; omega
  go_quiet (fail)
  clear hw1
  go_upto_block 0 with fail
  go_cut [7, 8] (fun qv _ wx => ∃ q : Nat, qv = .int .u64 q ∧ q < 4294967296 ∧ val S / val V ≤ q ∧ q * val V < val S + val V ∧ Own wx g (splice R o S) ∧ NatIn wx pb cb V ∧ w.grownBy wx (some g))
  case first =>
    have hT := HT.out
    rw [show m + 2 - 1 = m + 1 from rfl, show m + 2 - 2 = m from rfl] at hT
    have HT2 := Lib.hid hT
    clear hT HT
    obtain ⟨T, hTd⟩ : ∃ T, T = lm S (m + 2) * 4294967296 + lm S (m + 1) := ⟨_, rfl⟩
    rw [← hTd] at HT2
    have hTi : ((lm S (m + 2) : Nat) : Int) * 4294967296 + ((lm S (m + 1) : Nat) : Int) = (T : Int) := by omega
    have HTi := Lib.hid hTi
    clear hTi hTd hor1 hs1 hs2
    go_wp2_with fail
    go_loopw [7, 8] (fun qv rv wr => ∃ q r : Nat, qv = .int .u64 q ∧ rv = .int .u64 r ∧ r < 4294967296 ∧ q ≤ 4294967297 ∧ q * lm V (m + 1) + r = T ∧ val S / val V ≤ q ∧ Own wr g (splice R o S) ∧ NatIn wr pb cb V ∧ w.grownBy wr (some g)) (fun qv _ _ => (intOf qv).toNat)
    case atStart =>
      refine ⟨T / lm V (m + 1), T % lm V (m + 1), by rw [HTi.out, Int.natCast_ediv], by rw [HTi.out, Int.natCast_emod], ?_, HT2.out.start_le, ?_, HT2.out.start, HO.out, (HV.out.drewN _).drewN _, only_drewN (only_drewN (only_refl _ _) _) _⟩
      · exact Nat.lt_trans (Nat.mod_lt _ (by omega)) b4
      · rw [Nat.mul_comm]; exact Nat.div_add_mod _ _
    case round =>
      obtain ⟨q, r, rfl, rfl, hr, hq, hqT, hQ, hO1, hV1, hg⟩ := hrel
      have HqT := Lib.hid hqT
      have HQ := Lib.hid hQ
      have HO1 := Lib.hid hO1
      have HV1 := Lib.hid hV1
      have HG := Lib.hid hg
      have hs0 := seg_cell hO1 HR.out (k := m) (by have := HL.out; omega)
      have hv0 := hV1.cell m (by have := HVn.out; omega)
      have hv1 := hV1.cell (m + 1) (by have := HVn.out; omega)
      clear hqT hQ hO1 hV1 hg
      have hwa : IntKind.i64.wrap ((m : Int) + 2 - 2) = (m : Int) := by rw [IntWalk.i64_in _ (by omega)]; omega
      have hwb : IntKind.i64.wrap ((m : Int) + 2 - 1) = (m : Int) + 1 := by rw [IntWalk.i64_in _ (by omega)]; omega
      have hor := or_u64 (r := r) (x := lm S m) hr b0
      by_cases hqb : q < 4294967296
      · have hq0 : (((q : Int) / 4294967296) != 0) = false := by rw [bne_eq_false_iff_eq]; omega
        obtain ⟨P, hP⟩ : ∃ P, P = q * lm V m := ⟨_, rfl⟩
        have hPi : (q : Int) * ((lm V m : Nat) : Int) = (P : Int) := by rw [hP, Int.natCast_mul]
        have hPb : P ≤ 18446744065119617025 := by
          rw [hP]; exact Nat.mul_le_mul (show q ≤ 4294967295 by omega) (show lm V m ≤ 4294967295 by omega)
        have HP := Lib.hid hP
        clear hP
        by_cases hgt : r * 4294967296 + lm S m < P
        · have hrej : Hid (val S / val V ≤ q - 1) := HT2.out.reject HqT.out (by rw [← HP.out]; exact hgt)
          have hq1 : 1 ≤ q := by
            have := HP.out
            apply Nat.pos_of_ne_zero
            rintro rfl
            rw [Nat.zero_mul] at this
            omega
          have hd : decide ((r : Int) * 4294967296 + ((lm S m : Nat) : Int) < (P : Int)) = true := by rw [decide_eq_true_eq]; omega
          clear hwb
          go_wp2_with fail
          go_quiet (fail)
          clear hwa
          have e1 : (m : Int) + 2 - 1 = (m : Int) + 1 := by omega
          by_cases hbk : r + lm V (m + 1) < 4294967296
          · have hk : ((((r : Int) + ((lm V (m + 1) : Nat) : Int)) / 4294967296) != 0) = false := by rw [bne_eq_false_iff_eq]; omega
            go_wp2_with fail
            go_roundw
            case rel =>
              refine ⟨q - 1, r + lm V (m + 1), by go_num, by go_num, hbk, by omega, ?_, hrej.out, HO1.out.drewN _, HV1.out.drewN _, only_drewN HG.out _⟩
              obtain ⟨q0, rfl⟩ : ∃ q0, q = q0 + 1 := ⟨q - 1, by omega⟩
              have := HqT.out
              rw [Nat.add_mul] at this
              rw [Nat.add_sub_cancel]
              omega
            case measure => simp [intOf]; omega
          · have hk : ((((r : Int) + ((lm V (m + 1) : Nat) : Int)) / 4294967296) != 0) = true := by rw [bne_iff_ne]; omega
            have hfit := HT2.out.fits HqT.out (by omega : 4294967296 ≤ r + lm V (m + 1))
            have hend : Hid ((q - 1) * val V < val S + val V) := by
              refine HT2.out.near (r := r + lm V (m + 1)) ?_ hfit ?_
              · obtain ⟨q0, rfl⟩ : ∃ q0, q = q0 + 1 := ⟨q - 1, by omega⟩
                have := HqT.out
                rw [Nat.add_mul] at this
                rw [Nat.add_sub_cancel]
                omega
              · have h1 : (q - 1) * lm V m ≤ 4294967296 * 4294967296 := Nat.mul_le_mul (by omega) (by omega)
                omega
            go_wp2_with fail
            go_meet
            exact ⟨q - 1, by go_num, hfit, hrej.out, hend.out, HO1.out.drewN _, HV1.out.drewN _, only_drewN HG.out _⟩
        · have hd : decide ((r : Int) * 4294967296 + ((lm S m : Nat) : Int) < (P : Int)) = false := by rw [decide_eq_false_iff_not]; omega
          have hend : Hid (q * val V < val S + val V) := HT2.out.near HqT.out hqb (by rw [← HP.out]; omega)
          go_wp2_with fail
          go_quiet (fail)
          go_wp2_with fail
          go_meet
          exact ⟨q, rfl, hqb, HQ.out, hend.out, HO1.out.drewN _, HV1.out.drewN _, only_drewN HG.out _⟩
      · have hq0 : (((q : Int) / 4294967296) != 0) = true := by rw [bne_iff_ne]; omega
        have hrej : Hid (val S / val V ≤ q - 1) := HT2.out.big (by omega)
        have hq1 : 1 ≤ q := by omega
        clear hwb
        go_wp2_with fail
        go_quiet (fail)
        clear hwa
        have e1 : (m : Int) + 2 - 1 = (m : Int) + 1 := by omega
        by_cases hbk : r + lm V (m + 1) < 4294967296
        · have hk : ((((r : Int) + ((lm V (m + 1) : Nat) : Int)) / 4294967296) != 0) = false := by rw [bne_eq_false_iff_eq]; omega
          go_wp2_with fail
          go_roundw
          case rel =>
            refine ⟨q - 1, r + lm V (m + 1), by go_num, by go_num, hbk, by omega, ?_, hrej.out, HO1.out.drewN _, HV1.out.drewN _, only_drewN HG.out _⟩
            obtain ⟨q0, rfl⟩ : ∃ q0, q = q0 + 1 := ⟨q - 1, by omega⟩
            have := HqT.out
            rw [Nat.add_mul] at this
            rw [Nat.add_sub_cancel]
            omega
          case measure => simp [intOf]; omega
        · have hk : ((((r : Int) + ((lm V (m + 1) : Nat) : Int)) / 4294967296) != 0) = true := by rw [bne_iff_ne]; omega
          have hfit := HT2.out.fits HqT.out (by omega : 4294967296 ≤ r + lm V (m + 1))
          have hend : Hid ((q - 1) * val V < val S + val V) := by
            refine HT2.out.near (r := r + lm V (m + 1)) ?_ hfit ?_
            · obtain ⟨q0, rfl⟩ : ∃ q0, q = q0 + 1 := ⟨q - 1, by omega⟩
              have := HqT.out
              rw [Nat.add_mul] at this
              rw [Nat.add_sub_cancel]
              omega
            · have h1 : (q - 1) * lm V m ≤ 4294967296 * 4294967296 := Nat.mul_le_mul (by omega) (by omega)
              omega
          go_wp2_with fail
          go_meet
          exact ⟨q - 1, by go_num, hfit, hrej.out, hend.out, HO1.out.drewN _, HV1.out.drewN _, only_drewN HG.out _⟩
  case rest =>
    obtain ⟨q, rfl, hq, hQ, hnear, hOc, hVc, hgc⟩ := hcut
    have HQ := Lib.hid hQ
    have HNear := Lib.hid hnear
    have HOc := Lib.hid hOc
    have HVc := Lib.hid hVc
    have HGc := Lib.hid hgc
    clear hQ hnear hOc hVc hgc hs0 hs1 hs2 hv0 hv1 hx0 hx1 b0 b1 b2 b3 b4 hor1
    go_wp2_with fail
    go_loopw [9, 10, 86] (fun cv bv iv wr => ∃ (k c br : Nat) (U : List Nat), k ≤ m + 2 ∧ iv = .int .i64 k ∧ cv = .int .u64 c ∧ bv = .int .u64 br ∧ c ≤ q ∧ br ≤ 1 ∧ U.length = m + 2 + 1 ∧ Lim U ∧ Own wr g (splice R o U) ∧ NatIn wr pb cb V ∧ w.grownBy wr (some g) ∧
        (∀ j, k ≤ j → lm U j = lm S j) ∧ val (U.take k) + q * val (V.take k) = val (S.take k) + bp k * (c + br)) (fun _ _ iv _ => m + 2 - (intOf iv).toNat)
    case atStart => exact ⟨0, 0, 0, S, Nat.zero_le _, rfl, rfl, rfl, Nat.zero_le _, by omega, HL.out, HS.out, HOc.out, HVc.out, HGc.out, fun _ _ => rfl, by simp [val]⟩
    case round =>
      obtain ⟨k, c, br, U, hk, rfl, rfl, rfl, hc, hbr, hU, hlim, hO1, hV1, hg1, ht1, hI⟩ := hrel
      have HU := Lib.hid hU
      have HLim := Lib.hid hlim
      have HO1 := Lib.hid hO1
      have HV1 := Lib.hid hV1
      have HG1 := Lib.hid hg1
      have HT1 := Lib.hid ht1
      have HI := Lib.hid hI
      have hRU : o + U.length ≤ R.length := by rw [hU, ← HL.out]; exact HR.out
      have HRU := Lib.hid hRU
      clear hU hlim hO1 hV1 hg1 ht1 hI hRU
      by_cases hkn : k < m + 2
      · have hsc := seg_cell HO1.out HRU.out (k := k) (by have := HU.out; omega)
        have hvc := HV1.out.cell k (by have := HVn.out; omega)
        have hvx := fun ww => HV1.out.ix (z := (k : Int)) (by omega) (n := m + 2) (by omega) (by have := HVn.out; omega) cb ww
        rw [Int.toNat_natCast] at hvx
        have hof := HO1.out.frozen (o + k)
        have bs := lm_lt HLim.out k
        have bv := lm_lt HV1.out.lim k
        obtain ⟨P, hP⟩ : ∃ P, P = q * lm V k := ⟨_, rfl⟩
        have hPi : (q : Int) * ((lm V k : Nat) : Int) = (P : Int) := by rw [hP, Int.natCast_mul]
        have hPb : P ≤ 18446744065119617025 := by
          rw [hP]; exact Nat.mul_le_mul (show q ≤ 4294967295 by omega) (show lm V k ≤ 4294967295 by omega)
        have HP := Lib.hid hP
        clear hP
        have hand : Go.bits .and .u64 ((c : Int) + (P : Int)) 4294967295 = ((c : Int) + (P : Int)) % 4294967296 := and_lo (by omega) (by omega)
        go_wp2_with fail
        go_roundw
        case rel =>
          refine ⟨k + 1, (c + P) / 4294967296, (if lm U k < (c + P) % 4294967296 + br then 1 else 0), U.set k ((4294967296 + lm U k - (c + P) % 4294967296 - br) % 4294967296), by omega, by go_num, by go_num, by rw [ms_br bs hbr], ?_, ite_le_one' _,
            by rw [List.length_set]; exact HU.out, lim_set HLim.out (by omega), seg_set HO1.out HRU.out (by have := HU.out; omega) (ms_lo bs hbr), HV1.out.store (fun _ => HNE.out) _ _, only_set HG1.out _ _, ?_, ?_⟩
          · rw [HP.out]; exact msub_carry hc bv
          · intro j hj
            rw [lm_set_ne (by omega)]
            exact HT1.out j (by omega)
          · rw [HP.out]; exact msub_step HLim.out (by have := HU.out; omega) (HT1.out k (Nat.le_refl _)) hbr HI.out
        case measure => simp [intOf]; omega
      · obtain rfl : k = m + 2 := by omega
        have hsc := seg_cell HO1.out HRU.out (k := m + 2) (by have := HU.out; omega)
        have hof := HO1.out.frozen (o + (m + 2))
        have bs := lm_lt HLim.out (m + 2)
        have hI2 := HI.out
        rw [val_take_all (l := V) (by have := HVn.out; omega)] at hI2
        by_cases hneg : lm U (m + 2) < c + br
        · have hfull := msub_neg HU.out (HT1.out _ (Nat.le_refl _)) HL.out hneg (by omega) hI2
          have HF := Lib.hid hfull
          clear hI2 hfull
          have hone := me_br bs (by omega : c < 4294967296) hbr
          rw [if_pos hneg] at hone
          have HO2 := Lib.hid (seg_set HO1.out HRU.out (k := m + 2) (x := (4294967296 + lm U (m + 2) - c - br) % 4294967296) (by have := HU.out; omega) (me_lo bs (by omega : c < 4294967296) hbr))
          have HV2 := Lib.hid (HV1.out.store (fun _ => HNE.out) (o + (m + 2)) (.int .u32 (IntKind.u64.wrap (IntKind.u64.wrap (((lm U (m + 2) : Nat) : Int) - (c : Int)) - (br : Int)) % 4294967296)))
          have HG2 := Lib.hid (only_set HG1.out (o + (m + 2)) (.int .u32 (IntKind.u64.wrap (IntKind.u64.wrap (((lm U (m + 2) : Nat) : Int) - (c : Int)) - (br : Int)) % 4294967296)))
          obtain ⟨U2, hU2⟩ : ∃ U2, U2 = U.set (m + 2) ((4294967296 + lm U (m + 2) - c - br) % 4294967296) := ⟨_, rfl⟩
          have hU2l : U2.length = m + 2 + 1 := by rw [hU2, List.length_set]; exact HU.out
          have hU2m : Lim U2 := by rw [hU2]; exact lim_set HLim.out (by omega)
          rw [← hU2] at HF HO2
          have HU2l := Lib.hid hU2l
          have HU2m := Lib.hid hU2m
          clear hU2 hU2l hU2m
          go_wp2_with fail
          go_loopw [9, 138] (fun cv iv wq => ∃ (k c : Nat) (Z : List Nat), k ≤ m + 2 ∧ iv = .int .i64 k ∧ cv = .int .u64 c ∧ c ≤ 1 ∧ Z.length = m + 2 + 1 ∧ Lim Z ∧ Own wq g (splice R o Z) ∧ NatIn wq pb cb V ∧ w.grownBy wq (some g) ∧
              (∀ j, k ≤ j → lm Z j = lm U2 j) ∧ val (Z.take k) + bp k * c = val (U2.take k) + val (V.take k)) (fun _ iv _ => m + 2 - (intOf iv).toNat)
          case atStart => exact ⟨0, 0, U2, Nat.zero_le _, rfl, rfl, by omega, HU2l.out, HU2m.out, HO2.out, HV2.out, HG2.out, fun _ _ => rfl, by simp [val]⟩
          case round =>
            clear hsc hof bs
            obtain ⟨k, c2, Z, hk2, rfl, rfl, hc2, hZ, hlimZ, hOZ, hVZ, hgZ, htZ, hIZ⟩ := hrel
            have HZ := Lib.hid hZ
            have HLimZ := Lib.hid hlimZ
            have HOZ := Lib.hid hOZ
            have HVZ := Lib.hid hVZ
            have HGZ := Lib.hid hgZ
            have HTZ := Lib.hid htZ
            have HIZ := Lib.hid hIZ
            have hRZ : o + Z.length ≤ R.length := by rw [hZ, ← HL.out]; exact HR.out
            have HRZ := Lib.hid hRZ
            clear hZ hlimZ hOZ hVZ hgZ htZ hIZ hRZ
            by_cases hkn : k < m + 2
            · have hsc := seg_cell HOZ.out HRZ.out (k := k) (by have := HZ.out; omega)
              have hvc := HVZ.out.cell k (by have := HVn.out; omega)
              have hvx := fun ww => HVZ.out.ix (z := (k : Int)) (by omega) (n := m + 2) (by omega) (by have := HVn.out; omega) cb ww
              rw [Int.toNat_natCast] at hvx
              have hof := HOZ.out.frozen (o + k)
              have bs := lm_lt HLimZ.out k
              have bv := lm_lt HVZ.out.lim k
              go_wp2_with fail
              go_roundw
              case rel =>
                refine ⟨k + 1, (c2 + (lm Z k + lm V k)) / 4294967296, Z.set k ((c2 + (lm Z k + lm V k)) % 4294967296), by omega, by go_num, by go_num, by omega,
                  by rw [List.length_set]; exact HZ.out, lim_set HLimZ.out (by omega), seg_set HOZ.out HRZ.out (by have := HZ.out; omega) (by omega), HVZ.out.store (fun _ => HNE.out) _ _, only_set HGZ.out _ _, ?_, ?_⟩
                · intro j hj
                  rw [lm_set_ne (by omega)]
                  exact HTZ.out j (by omega)
                · have h3 := add_step (L := Z) (by have := HZ.out; omega) HIZ.out
                  rw [← HTZ.out k (Nat.le_refl _), Nat.add_assoc] at h3
                  exact h3
              case measure => simp [intOf]; omega
            · obtain rfl : k = m + 2 := by omega
              have hsc := seg_cell HOZ.out HRZ.out (k := m + 2) (by have := HZ.out; omega)
              have hof := HOZ.out.frozen (o + (m + 2))
              have bs := lm_lt HLimZ.out (m + 2)
              have hback := back_end HZ.out HU2l.out HVn.out (HTZ.out _ (Nat.le_refl _)) hc2 bs HIZ.out
              have hZ2l : (Z.set (m + 2) ((lm Z (m + 2) + c2) % 4294967296)).length = m + 2 + 1 := by rw [List.length_set]; exact HZ.out
              have hZ2m : Lim (Z.set (m + 2) ((lm Z (m + 2) + c2) % 4294967296)) := lim_set HLimZ.out (by omega)
              have hq3 := quo_back HNear.out HF.out (by have := val_lt HU2m.out; rwa [HU2l.out] at this) hback (by have := val_lt hZ2m; rwa [hZ2l] at this)
              have h1q := hq3.1
              have HQ3 := Lib.hid hq3.2
              have HZ2l := Lib.hid hZ2l
              have HZ2m := Lib.hid hZ2m
              have HO3 := Lib.hid (seg_set HOZ.out HRZ.out (k := m + 2) (x := (lm Z (m + 2) + c2) % 4294967296) (z := (((lm Z (m + 2) : Nat) : Int) + (c2 : Int)) % 4294967296) (by have := HZ.out; omega) (by omega))
              have HG3 := Lib.hid (only_set HGZ.out (o + (m + 2)) (.int .u32 ((((lm Z (m + 2) : Nat) : Int) + (c2 : Int)) % 4294967296)))
              clear hback hZ2l hZ2m hq3
              go_wp2_with fail
              go_ret
              refine ⟨_, ?_, HZ2l.out, HZ2m.out, HO3.out, HQ3.out.2.symm, HG3.out⟩
              rw [HQ3.out.1]
              exact ret_u32 (by omega)
        · have hge : c + br ≤ lm U (m + 2) := by omega
          have hfull := msub_end HU.out (HT1.out _ (Nat.le_refl _)) HL.out hge hI2
          have hq3 := quo_first (HT.out.v_pos) hfull HQ.out
          have HQ3 := Lib.hid hq3
          have HO2 := Lib.hid (seg_set HO1.out HRU.out (k := m + 2) (x := lm U (m + 2) - c - br) (z := ((lm U (m + 2) : Nat) : Int) - (c : Int) - (br : Int)) (by have := HU.out; omega) (by omega))
          have HG2 := Lib.hid (only_set HG1.out (o + (m + 2)) (.int .u32 (((lm U (m + 2) : Nat) : Int) - (c : Int) - (br : Int))))
          have hl2 : Hid ((U.set (m + 2) (lm U (m + 2) - c - br)).length = m + 2 + 1) := by rw [List.length_set]; exact HU.out
          have hm2 : Hid (Lim (U.set (m + 2) (lm U (m + 2) - c - br))) := lim_set HLim.out (by omega)
          clear hI2 hfull hq3
          go_wp2_with fail
          go_ret
          refine ⟨_, ?_, hl2.out, hm2.out, HO2.out, HQ3.out.2.symm, HG2.out⟩
          rw [HQ3.out.1]
          exact ret_u32 (by omega)
end Go.Proofs.YtgaicejcjkpekaaDoor
