/- NaturalTexts: the law's walk. -/
import Derived.Test.YtgaicejcjkpekaaDoorParse
import Derived.Test.YtgaicejcjkpekaaDoorAwake
namespace Go.Proofs.YtgaicejcjkpekaaDoor
open Go.RowKit Nt

set_option maxRecDepth 100000 in
set_option maxHeartbeats 2000000 in
theorem texts_walk (s : ByteArray) (w : World) (hs : s.size ≤ 9223372036854775807) (ht : Tab w) (hg0 : 4 < w.heap.size) :
    Calls Tryd.prog 3 #[.string s] w fun e w' => e = .returned (.bool true) ∧ Below w.heap.size w w' := by
  obtain ⟨m, hm⟩ : ∃ m, m = min s.size 5000 := ⟨_, rfl⟩
  have hmi : min (s.size : Int) 5000 = (m : Int) := by omega
  have hmb : m ≤ 5000 := by omega
  have hms : m ≤ s.size := by omega
  have HT := Lib.hid ht
  have hul : (s.extract 0 m).size = m := by rw [← len_size, Lib.extract_data, List.length_take, List.length_drop, len_size]; omega
  obtain ⟨u, hu⟩ : ∃ u, u = s.extract 0 m := ⟨_, rfl⟩
  rw [← hu] at hul
  have HU := Lib.hid hu
  have HUl := Lib.hid hul
  clear hm ht hu hul
  by_cases h60 : 60 < m
  · obtain ⟨q, hq⟩ : ∃ q, q = max 60 (m - 20) := ⟨_, rfl⟩
    have hqi : max (60 : Int) ((m : Int) - 20) = (q : Int) := by omega
    have hqm : q ≤ m := by omega
    have hq2 : m ≤ q + 20 := by omega
    clear hq
    have hw20 : IntKind.i64.wrap ((m : Int) - 20) = (m : Int) - 20 := IntWalk.i64_in _ (by omega)
    have h60i : (60 : Int) ≤ (m : Int) := by omega
    have hq0 : (0 : Int) ≤ (q : Int) := by omega
    have hqi2 : (q : Int) ≤ (m : Int) := by omega
    go_enter Tryd.func3, Tryd.ntmps3
    go_wp2_with fail
    go_quiet (fail)
    go_wp2_with fail
    have HB0 := Lib.hid (below_drewN (Below.refl w.heap.size w) nq)
    obtain ⟨t, htd⟩ : ∃ t, t = (s.extract 0 m).extract 0 60 ++ (s.extract 0 m).extract q m := ⟨_, rfl⟩
    rw [← htd]
    have htl : t.size ≤ 5000 := by
      rw [htd, ← HU.out, ByteArray.size_append, ← len_size, ← len_size, Lib.extract_data, Lib.extract_data, List.length_take, List.length_take, List.length_drop, List.length_drop, len_size, HUl.out]
      omega
    clear htd
    refine (parse_ok t _ (by omega)).mono ?_
    rintro e w1 ⟨p1, c1, rfl, hb1, hm1⟩
    obtain ⟨E, hE⟩ : ∃ E, E = pE t.data.toList := ⟨_, rfl⟩
    obtain ⟨v, hv⟩ : ∃ v, v = pV t.data.toList := ⟨_, rfl⟩
    rw [← hE, ← hv]
    rw [← hv] at hm1
    have HE := Lib.hid hE
    have HV := Lib.hid hv
    have HB1 := Lib.hid (HB0.out.trans hb1)
    have HN1 := Lib.hid hm1.natIn
    have hs1 := HB1.out.size
    clear hb1 hm1 hE hv
    go_wp2_with fail
    refine (rparse_ok t _ (by omega)).mono ?_
    rintro e w2 ⟨p2, c2, rfl, hb2, hm2⟩
    rw [← HE.out, ← HV.out]
    rw [← HV.out] at hm2
    have HB2 := Lib.hid (HB1.out.trans (hb2.mono hs1))
    have HN2 := Lib.hid hm2.natIn
    have HN12 := Lib.hid (HN1.out.keep hb2)
    have hs2 := HB2.out.size
    clear hb2 hm2
    go_wp2_with fail
    refine (same_ok p1 _ c1 (limbs v) p2 _ c2 (limbs v) _ HN12.out HN2.out rfl rfl).mono ?_
    rintro e w3 ⟨rfl, hb3⟩
    rw [eqL_true rfl]
    have HB3 := Lib.hid (HB2.out.trans (hb3.mono hs2))
    have HN3 := Lib.hid (HN12.out.keep hb3)
    have hs3 := HB3.out.size
    clear hb3
    by_cases hE0 : E = 0
    · have hg : good t.data.toList = true ∧ t.data.toList.length ≤ 4096 := by
        have h1 := HE.out
        rw [hE0] at h1
        unfold pE at h1
        split at h1
        · rename_i hg
          split at h1
          · omega
          · exact ⟨hg, by omega⟩
        · omega
      have hdec : (⟨(dec v).toArray⟩ : ByteArray) = t := by
        rw [HV.out, (par_good hg.1 hg.2).1, dec_dval _ _ rfl hg.1]
      have HDEC := Lib.hid hdec
      have hvl : (limbs v).length ≤ 100000 := by
        rw [HV.out, (par_good hg.1 hg.2).1]
        exact Nat.le_trans (len_dval (good_iff.1 hg.1).2.2) (by rw [len_size]; omega)
      subst hE0
      clear hg hdec
      go_wp2_with fail
      refine (format_ok p1 _ c1 (limbs v) _ HN3.out rfl (by omega) (Tab.keep HT.out HB3.out hg0) (Nat.lt_of_lt_of_le hg0 hs3)).mono ?_
      rintro e w4 ⟨rfl, hb4⟩
      rw [val_limbs, HDEC.out]
      have HB4 := Lib.hid (HB3.out.trans (hb4.mono hs3))
      have hs4 := HB4.out.size
      clear hb4
      go_wp2_with fail
      refine (awake_ok _ (Tab.keep HT.out HB4.out hg0) (Nat.lt_of_lt_of_le hg0 hs4)).mono ?_
      rintro e w5 ⟨rfl, hb5⟩
      have HB5 := Lib.hid (HB4.out.trans (hb5.mono hs4))
      clear hb5
      go_wp2_with fail
      go_ret
      exact ⟨rfl, HB5.out⟩
    · have hEn : (E != 0) = true := by rw [bne_iff_ne]; exact hE0
      have hEn2 : ¬ E = 0 := hE0
      clear hE0
      go_wp2_with fail
      refine (awake_ok _ (Tab.keep HT.out HB3.out hg0) (Nat.lt_of_lt_of_le hg0 hs3)).mono ?_
      rintro e w5 ⟨rfl, hb5⟩
      have HB5 := Lib.hid (HB3.out.trans (hb5.mono hs3))
      clear hb5
      go_wp2_with fail
      go_ret
      exact ⟨rfl, HB5.out⟩
  · go_enter Tryd.func3, Tryd.ntmps3
    go_wp2_with fail
    have HB0 := Lib.hid (Below.refl w.heap.size w)
    rw [← HU.out]
    obtain ⟨t, htd⟩ : ∃ t, t = u := ⟨_, rfl⟩
    rw [← htd]
    have htl : t.size ≤ 5000 := by rw [htd, HUl.out]; exact hmb
    clear htd
    refine (parse_ok t _ (by omega)).mono ?_
    rintro e w1 ⟨p1, c1, rfl, hb1, hm1⟩
    obtain ⟨E, hE⟩ : ∃ E, E = pE t.data.toList := ⟨_, rfl⟩
    obtain ⟨v, hv⟩ : ∃ v, v = pV t.data.toList := ⟨_, rfl⟩
    rw [← hE, ← hv]
    rw [← hv] at hm1
    have HE := Lib.hid hE
    have HV := Lib.hid hv
    have HB1 := Lib.hid (HB0.out.trans hb1)
    have HN1 := Lib.hid hm1.natIn
    have hs1 := HB1.out.size
    clear hb1 hm1 hE hv
    go_wp2_with fail
    refine (rparse_ok t _ (by omega)).mono ?_
    rintro e w2 ⟨p2, c2, rfl, hb2, hm2⟩
    rw [← HE.out, ← HV.out]
    rw [← HV.out] at hm2
    have HB2 := Lib.hid (HB1.out.trans (hb2.mono hs1))
    have HN2 := Lib.hid hm2.natIn
    have HN12 := Lib.hid (HN1.out.keep hb2)
    have hs2 := HB2.out.size
    clear hb2 hm2
    go_wp2_with fail
    refine (same_ok p1 _ c1 (limbs v) p2 _ c2 (limbs v) _ HN12.out HN2.out rfl rfl).mono ?_
    rintro e w3 ⟨rfl, hb3⟩
    rw [eqL_true rfl]
    have HB3 := Lib.hid (HB2.out.trans (hb3.mono hs2))
    have HN3 := Lib.hid (HN12.out.keep hb3)
    have hs3 := HB3.out.size
    clear hb3
    by_cases hE0 : E = 0
    · have hg : good t.data.toList = true ∧ t.data.toList.length ≤ 4096 := by
        have h1 := HE.out
        rw [hE0] at h1
        unfold pE at h1
        split at h1
        · rename_i hg
          split at h1
          · omega
          · exact ⟨hg, by omega⟩
        · omega
      have hdec : (⟨(dec v).toArray⟩ : ByteArray) = t := by
        rw [HV.out, (par_good hg.1 hg.2).1, dec_dval _ _ rfl hg.1]
      have HDEC := Lib.hid hdec
      have hvl : (limbs v).length ≤ 100000 := by
        rw [HV.out, (par_good hg.1 hg.2).1]
        exact Nat.le_trans (len_dval (good_iff.1 hg.1).2.2) (by rw [len_size]; omega)
      subst hE0
      clear hg hdec
      go_wp2_with fail
      refine (format_ok p1 _ c1 (limbs v) _ HN3.out rfl (by omega) (Tab.keep HT.out HB3.out hg0) (Nat.lt_of_lt_of_le hg0 hs3)).mono ?_
      rintro e w4 ⟨rfl, hb4⟩
      rw [val_limbs, HDEC.out]
      have HB4 := Lib.hid (HB3.out.trans (hb4.mono hs3))
      have hs4 := HB4.out.size
      clear hb4
      go_wp2_with fail
      refine (awake_ok _ (Tab.keep HT.out HB4.out hg0) (Nat.lt_of_lt_of_le hg0 hs4)).mono ?_
      rintro e w5 ⟨rfl, hb5⟩
      have HB5 := Lib.hid (HB4.out.trans (hb5.mono hs4))
      clear hb5
      go_wp2_with fail
      go_ret
      exact ⟨rfl, HB5.out⟩
    · have hEn : (E != 0) = true := by rw [bne_iff_ne]; exact hE0
      have hEn2 : ¬ E = 0 := hE0
      clear hE0
      go_wp2_with fail
      refine (awake_ok _ (Tab.keep HT.out HB3.out hg0) (Nat.lt_of_lt_of_le hg0 hs3)).mono ?_
      rintro e w5 ⟨rfl, hb5⟩
      have HB5 := Lib.hid (HB3.out.trans (hb5.mono hs3))
      clear hb5
      go_wp2_with fail
      go_ret
      exact ⟨rfl, HB5.out⟩
end Go.Proofs.YtgaicejcjkpekaaDoor
