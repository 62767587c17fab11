/- The reference: Sub. No condition but that the numbers fit. -/
import Derived.Test.YtfdjlkffhikaeaaDoorRefC
import Derived.Test.YtfdjlkffhikaeaaDoorSub
namespace Go.Proofs.YtfdjlkffhikaeaaDoor
open Go.RowKit Nt

theorem val_take_of_lt {l : List Nat} {m : Nat} (h : val l < bp m) (hk : m ≤ l.length) : val (l.take m) = val l := by
  have h1 := val_split hk
  have h2 : val (l.drop m) = 0 := by
    apply Nat.eq_zero_of_not_pos
    intro h3
    have h4 : bp m * 1 ≤ bp m * val (l.drop m) := Nat.mul_le_mul_left _ h3
    omega
  rw [h2] at h1
  omega

theorem lt_bp_of_len {A : List Nat} {a n : Nat} (h : val A = a) (hl : A.length = n) (hA : Lim A) : a < bp n := by
  rw [← h, ← hl]; exact val_lt hA
theorem rsub_end {L lb : List Nat} {a br n : Nat} (hL : Lim L) (hn : L.length = n) (hle : val lb ≤ a) (ha : a < bp n) (h : val L + val (lb.take n) = a + bp n * br) : val L = a - val lb := by
  by_cases hk : n ≤ lb.length
  · rw [val_take_of_lt (by omega) hk] at h
    exact sub_end hL hn hle h
  · rw [List.take_of_length_le (by omega)] at h
    exact sub_end hL hn hle h

set_option maxRecDepth 100000 in
set_option maxHeartbeats 1000000 in
theorem rsub_ok (pa : Option Addr) (na ca : Nat) (la : List Nat) (pb : Option Addr) (nb cb : Nat) (lb : List Nat) (w : World) (ha : NatIn w pa ca la) (hb : NatIn w pb cb lb) (hna : la.length = na) (hnb : lb.length = nb) (sa : na ≤ 100000000) (_sb : nb ≤ 100000000) :
    Calls Tryd.prog 23 #[.slice pa na ca, .slice pb nb cb] w fun e w' =>
      ∃ p c, e = .returned (.tuple #[.slice p (limbs (val la - val lb)).length c, .bool (leB (val lb) (val la))]) ∧ Below w.heap.size w w' ∧ Mine w.heap.size w' p c (limbs (val la - val lb)) := by
  subst hna hnb
  have zA := limbs_length_val_le ha.lim
  have HA := Lib.hid ha
  have HB := Lib.hid hb
  clear ha hb
  go_enter Tryd.func23, Tryd.ntmps23
  go_wp2_with fail
  refine (rcmp_ok pa _ ca la pb _ cb lb _ HA.out HB.out rfl rfl).mono ?_
  rintro e w1 ⟨rfl, hw1⟩
  have HW1 := Lib.hid hw1
  by_cases hlt : val la < val lb
  · rw [cmp_lt hlt]
    have hz := Lib.hid hlt
    clear hlt hw1
    go_wp2_with fail
    go_ret2
    refine ⟨none, 0, ?_, HW1.out, ?_⟩
    · have h0 : val la - val lb = 0 := by have := hz.out; omega
      rw [leB_false hz.out, h0, limbs_zero]; rfl
    · have h0 : val la - val lb = 0 := by have := hz.out; omega
      rw [h0, limbs_zero]
      exact ⟨lim_nil, Nat.le_refl _, by omega, .inl rfl⟩
  · have hc : ¬ cmp (val la) (val lb) < 0 := by rw [cmp_neg]; exact hlt
    have hle := Lib.hid (show val lb ≤ val la by omega)
    have HA1 := Lib.hid (HA.out.keep HW1.out)
    have HB1 := Lib.hid (HB.out.keep HW1.out)
    clear hlt hw1
    go_wp2_with fail
    refine (rtrim_ok pa _ ca la _ HA1.out rfl (by omega)).mono ?_
    rintro e w2 ⟨p', c', rfl, hb2, hm2⟩
    obtain ⟨n, hn⟩ : ∃ n, n = (limbs (val la)).length := ⟨_, rfl⟩
    obtain ⟨A, hAe⟩ : ∃ A, A = limbs (val la) := ⟨_, rfl⟩
    rw [← hn] at zA ⊢
    rw [← hAe] at hm2
    have HAl : Hid (A.length = n) := by rw [hAe, hn]; rfl
    have HAe : Hid (val A = val la) := by rw [hAe, val_limbs]; rfl
    have HM2 := Lib.hid hm2
    have HW2 := Lib.hid hb2
    have HB2 := Lib.hid (HB1.out.keep hb2)
    have hBel : Hid (Below w.heap.size w w2) := HW1.out.trans (hb2.mono HW1.out.size)
    have hsz := HW1.out.size
    clear hm2 hb2 HA1 hn hAe
    go_wp2_with fail
    go_loopw [7, 19] (fun bv iv wr => ∃ (k br : Nat) (L : List Nat), k ≤ n ∧ iv = .int .i64 k ∧ bv = .int .u64 br ∧ br ≤ 1 ∧ L.length = n ∧ Mine w1.heap.size wr p' c' L ∧ Below w1.heap.size w2 wr ∧
        (∀ j, k ≤ j → lm L j = lm A j) ∧ val (L.take k) + val (lb.take k) = val (A.take k) + bp k * br) (fun _ iv _ => n - (intOf iv).toNat)
    case atStart => exact ⟨0, 0, A, Nat.zero_le _, rfl, rfl, by omega, HAl.out, HM2.out, Below.refl _ _, fun _ _ => rfl, by simp [val]⟩
    case round =>
      obtain ⟨k, br, L, hk, rfl, rfl, hbr, hL, hM, hbl, ht, hI⟩ := hrel
      have HL := Lib.hid hL
      have HM := Lib.hid hM
      have HBl := Lib.hid hbl
      have HT := Lib.hid ht
      have HI := Lib.hid hI
      clear hL hM hbl ht hI
      by_cases hlt : k < n
      · have hkL : k < L.length := by have := HL.out; omega
        have hxc := HM.out.natIn.cell k hkL
        have hxi := fun ww => HM.out.natIn.ix (z := (k : Int)) (by omega) (n := n) (by omega) (by have := HL.out; omega) c' ww
        have hof := HM.out.frozen (by omega) (ofs p' + k)
        have hge := HM.out.ge (by omega)
        have hx := lm_lt HM.out.natIn.lim k
        rw [Int.toNat_natCast] at hxi
        by_cases hy : k < lb.length
        · have hyc := (HB2.out.below HBl.out (fun h => (HB1.out.ptr h).2)).cell k hy
          have hyi := fun ww => HB1.out.ix (z := (k : Int)) (by omega) (n := lb.length) (by omega) (Nat.le_refl _) cb ww
          have hyy := lm_lt HB1.out.lim k
          rw [Int.toNat_natCast] at hyi
          by_cases hv : lm L k < br + lm lb k
          · go_wp2_with fail
            go_roundw
            case rel =>
              refine ⟨k + 1, (if lm L k < br + lm lb k then 1 else 0), L.set k ((4294967296 + lm L k - br - lm lb k) % 4294967296), by omega, by go_num, by rw [if_pos hv]; rfl, ite_le_one _, by rw [List.length_set]; exact HL.out,
                HM.out.set hkL (by omega) ?_, below_set HBl.out hge _, ?_, sub_step HM.out.natIn.lim HB1.out.lim hkL (HT.out k (Nat.le_refl _)) hbr HI.out⟩
              · go_num
              · intro j hj
                rw [lm_set_ne (by omega)]
                exact HT.out j (by omega)
            case measure => simp [intOf]; omega
          · go_wp2_with fail
            go_roundw
            case rel =>
              refine ⟨k + 1, (if lm L k < br + lm lb k then 1 else 0), L.set k ((4294967296 + lm L k - br - lm lb k) % 4294967296), by omega, by go_num, by rw [if_neg hv]; rfl, ite_le_one _, by rw [List.length_set]; exact HL.out,
                HM.out.set hkL (by omega) ?_, below_set HBl.out hge _, ?_, sub_step HM.out.natIn.lim HB1.out.lim hkL (HT.out k (Nat.le_refl _)) hbr HI.out⟩
              · go_num
              · intro j hj
                rw [lm_set_ne (by omega)]
                exact HT.out j (by omega)
            case measure => simp [intOf]; omega
        · have HYZ : Hid (lm lb k = 0) := lm_out (by omega)
          have hst := Lib.hid (sub_step HM.out.natIn.lim HB1.out.lim hkL (HT.out k (Nat.le_refl _)) hbr HI.out)
          by_cases hv : lm L k < br
          · go_wp2_with fail
            go_roundw
            case rel =>
              refine ⟨k + 1, (if lm L k < br + lm lb k then 1 else 0), L.set k ((4294967296 + lm L k - br - lm lb k) % 4294967296), by omega, by go_num, by rw [HYZ.out, Nat.add_zero, if_pos hv]; rfl, ite_le_one _, by rw [List.length_set]; exact HL.out,
                HM.out.set hkL (by omega) ?_, below_set HBl.out hge _, ?_, hst.out⟩
              · rw [HYZ.out]; go_num
              · intro j hj
                rw [lm_set_ne (by omega)]
                exact HT.out j (by omega)
            case measure => simp [intOf]; omega
          · go_wp2_with fail
            go_roundw
            case rel =>
              refine ⟨k + 1, (if lm L k < br + lm lb k then 1 else 0), L.set k ((4294967296 + lm L k - br - lm lb k) % 4294967296), by omega, by go_num, by rw [HYZ.out, Nat.add_zero, if_neg hv]; rfl, ite_le_one _, by rw [List.length_set]; exact HL.out,
                HM.out.set hkL (by omega) ?_, below_set HBl.out hge _, ?_, hst.out⟩
              · rw [HYZ.out]; go_num
              · intro j hj
                rw [lm_set_ne (by omega)]
                exact HT.out j (by omega)
            case measure => simp [intOf]; omega
      · obtain rfl : k = n := by omega
        have hval : Hid (val L = val la - val lb) := by
          have h1 := HI.out
          rw [val_take_all (l := L) (by have := HL.out; omega), val_take_all (l := A) (by have := HAl.out; omega), HAe.out] at h1
          exact rsub_end HM.out.natIn.lim HL.out hle.out (by have := lt_bp_of_len HAe.out HAl.out HM2.out.natIn.lim; exact this) h1
        go_wp2_with fail
        refine (rtrim_ok _ _ _ L _ HM.out.natIn HL.out (by omega)).mono ?_
        intro e w3 h
        obtain ⟨p, c2, rfl, h3, h4⟩ := ret_trim hval.out (hBel.out.trans (HBl.out.mono hsz)) h
        go_wp2_with fail
        go_ret2
        exact ⟨p, c2, by rw [leB_true hle.out]; rfl, h3, h4⟩
end Go.Proofs.YtfdjlkffhikaeaaDoor
