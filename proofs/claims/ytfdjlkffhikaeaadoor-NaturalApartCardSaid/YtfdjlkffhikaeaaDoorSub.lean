/- natural.Sub. -/
import Derived.Test.YtfdjlkffhikaeaaDoorCmp
namespace Go.Proofs.YtfdjlkffhikaeaaDoor
open Go.RowKit Nt

theorem sub_br {x y br : Nat} (hx : x < 4294967296) (hy : y < 4294967296) (hb : br ≤ 1) : IntKind.u64.wrap (IntKind.u64.wrap ((x : Int) - (br : Int)) - (y : Int)) / 9223372036854775808 = ((if x < br + y then 1 else 0 : Nat) : Int) := by
  rw [IntKind.wrap_u64, IntKind.wrap_u64]; split <;> omega
theorem sub_lo {x y br : Nat} (hx : x < 4294967296) (hy : y < 4294967296) (hb : br ≤ 1) : IntKind.u64.wrap (IntKind.u64.wrap ((x : Int) - (br : Int)) - (y : Int)) % 4294967296 = (((4294967296 + x - br - y) % 4294967296 : Nat) : Int) := by
  rw [IntKind.wrap_u64, IntKind.wrap_u64]; omega
theorem sub_br0 {x br : Nat} (hx : x < 4294967296) (hb : br ≤ 1) : IntKind.u64.wrap ((x : Int) - (br : Int)) / 9223372036854775808 = ((if x < br + 0 then 1 else 0 : Nat) : Int) := by
  rw [IntKind.wrap_u64]; split <;> omega
theorem sub_lo0 {x br : Nat} (hx : x < 4294967296) (hb : br ≤ 1) : IntKind.u64.wrap ((x : Int) - (br : Int)) % 4294967296 = (((4294967296 + x - br - 0) % 4294967296 : Nat) : Int) := by
  rw [IntKind.wrap_u64]; omega
theorem ite_le_one (c : Prop) [Decidable c] : (if c then 1 else 0 : Nat) ≤ 1 := by split <;> omega

set_option maxRecDepth 100000 in
set_option maxHeartbeats 1000000 in
theorem sub_ok (pa : Option Addr) (na ca : Nat) (la : List Nat) (pb : Option Addr) (nb cb : Nat) (lb : List Nat) (w : World) (ha : NatIn w pa ca la) (hb : NatIn w pb cb lb) (hna : la.length = na) (hnb : lb.length = nb) (sa : na ≤ 1000000000) (_sb : nb ≤ 1000000000) :
    Calls Tryd.prog 36 #[.slice pa na ca, .slice pb nb cb] w fun e w' =>
      ∃ p c, e = .returned (.tuple #[.slice p (limbs (val la - val lb)).length c, .bool (leB (val lb) (val la))]) ∧ Below w.heap.size w w' ∧ Mine w.heap.size w' p c (limbs (val la - val lb)) := by
  subst hna hnb
  have zA := limbs_length_val_le ha.lim
  go_enter Tryd.func36, Tryd.ntmps36
  go_wp2_with fail
  refine (low_ok pa _ ca la _ ha rfl).mono ?_
  rintro e w' ⟨A, hA, rfl, hAn, rfl⟩
  go_wp2_with fail
  refine (low_ok pb _ cb lb _ hb rfl).mono ?_
  rintro e w' ⟨B, hB, rfl, hBn, rfl⟩
  have HA := Lib.hid hAn
  have HB := Lib.hid hBn
  have hAl : A.length ≤ 1000000000 := by rw [hA.out]; omega
  have hvA : Hid (val A = val la) := by rw [hA.out, val_limbs]; rfl
  have hvB : Hid (val B = val lb) := by rw [hB.out, val_limbs]; rfl
  have hlen : Hid (val lb ≤ val la → B.length ≤ A.length) := fun h => by rw [hA.out, hB.out]; exact limbs_length_mono h
  clear hAn hBn ha hb zA
  go_wp2_with fail
  refine (cmp_ok pa _ ca A pb _ cb B _ HA.out HB.out rfl rfl).mono ?_
  rintro e w1 ⟨rfl, hw1⟩
  have HW1 := Lib.hid hw1
  rw [hvA.out, hvB.out]
  by_cases hlt : val la < val lb
  · rw [cmp_lt hlt]
    have hz := Lib.hid hlt
    clear hlt hw1
    go_wp2_with fail
    go_ret2
    refine ⟨none, 0, ?_, HW1.out, ?_⟩
    · have h0 : val la - val lb = 0 := by have := hz.out; omega
      rw [leB_false hz.out, h0, limbs_zero]; rfl
    · have h0 : val la - val lb = 0 := by have := hz.out; omega
      rw [h0, limbs_zero]
      exact ⟨lim_nil, Nat.le_refl _, by omega, .inl rfl⟩
  · have hc : ¬ cmp (val la) (val lb) < 0 := by rw [cmp_neg]; exact hlt
    have hle := Lib.hid (show val lb ≤ val la by omega)
    have hBA := hlen.out hle.out
    clear hlt hw1
    have hA1 := HA.out.keep HW1.out
    have hB1 := HB.out.keep HW1.out
    have HA1 := Lib.hid hA1
    have HB1 := Lib.hid hB1
    clear HA HB hB1
    go_wp2_with (at_builtin; refine wpList_cp _ rfl _ _ rfl rfl rfl hA1 rfl (by omega) ?_)
    intro p' c' w2 hb2 hm2
    have HM2 := Lib.hid hm2
    have HW2 := Lib.hid hb2
    have HB2 := Lib.hid (HB1.out.keep hb2)
    have hBel : Hid (Below w.heap.size w w2) := HW1.out.trans (hb2.mono HW1.out.size)
    have hsz := HW1.out.size
    clear hA1 hm2 hb2 HA1
    go_wp2_with fail
    go_loopw [7, 22] (fun bv iv wr => ∃ (k br : Nat) (L : List Nat), k ≤ A.length ∧ iv = .int .i64 k ∧ bv = .int .u64 br ∧ br ≤ 1 ∧ L.length = A.length ∧ Mine w1.heap.size wr p' c' L ∧ Below w1.heap.size w2 wr ∧
        (∀ j, k ≤ j → lm L j = lm A j) ∧ val (L.take k) + val (B.take k) = val (A.take k) + bp k * br) (fun _ iv _ => A.length - (intOf iv).toNat)
    case atStart => exact ⟨0, 0, A, Nat.zero_le _, rfl, rfl, by omega, rfl, HM2.out, Below.refl _ _, fun _ _ => rfl, by simp [val]⟩
    case round =>
      obtain ⟨k, br, L, hk, rfl, rfl, hbr, hL, hM, hbl, ht, hI⟩ := hrel
      have HL := Lib.hid hL
      have HM := Lib.hid hM
      have HBl := Lib.hid hbl
      have HT := Lib.hid ht
      have HI := Lib.hid hI
      clear hL hM hbl ht hI
      by_cases hlt : k < A.length
      · have hkL : k < L.length := by have := HL.out; omega
        have hxc := HM.out.natIn.cell k hkL
        have hxi := fun ww => HM.out.natIn.ix (z := (k : Int)) (by omega) (n := A.length) (by omega) (by have := HL.out; omega) c' ww
        have hof := HM.out.frozen (by omega) (ofs p' + k)
        have hge := HM.out.ge (by omega)
        have hx := lm_lt HM.out.natIn.lim k
        rw [Int.toNat_natCast] at hxi
        by_cases hy : k < B.length
        · have hyc := (HB2.out.below HBl.out (fun h => (HB1.out.ptr h).2)).cell k hy
          have hyi := fun ww => HB1.out.ix (z := (k : Int)) (by omega) (n := B.length) (by omega) (Nat.le_refl _) cb ww
          have hyy := lm_lt HB1.out.lim k
          rw [Int.toNat_natCast] at hyi
          go_wp2_with fail
          go_roundw
          case rel =>
            refine ⟨k + 1, (if lm L k < br + lm B k then 1 else 0), L.set k ((4294967296 + lm L k - br - lm B k) % 4294967296), by omega, by go_num, by rw [sub_br hx hyy hbr], ite_le_one _, by rw [List.length_set]; exact HL.out,
              HM.out.set hkL (by omega) (sub_lo hx hyy hbr), below_set HBl.out hge _, ?_, sub_step HM.out.natIn.lim HB1.out.lim hkL (HT.out k (Nat.le_refl _)) hbr HI.out⟩
            intro j hj
            rw [lm_set_ne (by omega)]
            exact HT.out j (by omega)
          case measure => simp [intOf]; omega
        · have hyz : lm B k = 0 := lm_out (by omega)
          have HYZ := Lib.hid hyz
          clear hyz
          go_wp2_with fail
          go_roundw
          case rel =>
            refine ⟨k + 1, (if lm L k < br + 0 then 1 else 0), L.set k ((4294967296 + lm L k - br - 0) % 4294967296), by omega, by go_num, by rw [sub_br0 hx hbr], ite_le_one _, by rw [List.length_set]; exact HL.out,
              HM.out.set hkL (by omega) (sub_lo0 hx hbr), below_set HBl.out hge _, ?_, ?_⟩
            · intro j hj
              rw [lm_set_ne (by omega)]
              exact HT.out j (by omega)
            · have := sub_step HM.out.natIn.lim HB1.out.lim hkL (HT.out k (Nat.le_refl _)) hbr HI.out
              rwa [HYZ.out] at this
          case measure => simp [intOf]; omega
      · obtain rfl : k = A.length := by omega
        have hval : Hid (val L = val la - val lb) := by
          have h1 := HI.out
          rw [val_take_all (by have := HL.out; omega), val_take_all (Nat.le_refl _), val_take_all hBA, hvA.out, hvB.out] at h1
          exact sub_end HM.out.natIn.lim HL.out hle.out h1
        go_wp2_with fail
        refine (low_ok _ _ _ L _ HM.out.natIn HL.out).mono ?_
        rintro e w' ⟨R, hR, rfl, hRn, rfl⟩
        go_wp2_with fail
        go_ret2
        have hlow := HM.out.low
        rw [hval.out] at hlow
        refine ⟨_, _, ?_, hBel.out.trans (HBl.out.mono hsz), hlow.mono hsz⟩
        rw [← hval.out, ← hR.out, leB_true hle.out]; rfl
end Go.Proofs.YtfdjlkffhikaeaaDoor
