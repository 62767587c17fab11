/- NaturalRoots: the walk. Printed by wg.py. -/
import Derived.Test.YtfdjlkffhikaeaaDoorRootF
import Derived.Test.YtfdjlkffhikaeaaDoorRaise
import Derived.Test.YtfdjlkffhikaeaaDoorRefC
import Derived.Test.YtfdjlkffhikaeaaDoorRefD
import Derived.Test.YtfdjlkffhikaeaaDoorWord2
namespace Go.Proofs.YtfdjlkffhikaeaaDoor
open Go.RowKit Nt

set_option maxRecDepth 100000 in
set_option maxHeartbeats 2000000 in
theorem roots_walk (pA : Option Addr) (nA cA : Nat) (lA : List Nat) (zk : Int) (w : World) (haA : NatIn w pA cA lA) (hlA : lA.length = nA) (hzk : -9223372036854775808 ≤ zk ∧ zk ≤ 9223372036854775807) (ht : Tab w) (hg : 0 < w.heap.size) :
    Calls Tryd.prog 13 #[.slice pA nA cA, .int .i64 zk] w fun e w' => e = .returned (.bool true) ∧ Below w.heap.size w w' := by
  have hcA := haA.le
  have hdA := haA.cap
  obtain ⟨mA, hmA⟩ : ∃ m, m = min nA 12 := ⟨_, rfl⟩
  have hAA := haA.take (k := mA) (by omega)
  have hLA : (lA.take mA).length = mA := by rw [List.length_take]; omega
  have hiA : min nA 12 = mA := hmA.symm
  have hjA : min (nA : Int) 12 = (mA : Int) := by omega
  have hkA : mA ≤ 12 := by omega
  have hoA : mA ≤ nA := by omega
  have heA : nA ≤ cA := by omega
  have hfA : mA ≤ cA := by omega
  obtain ⟨A, eA⟩ : ∃ L, L = lA.take mA := ⟨_, rfl⟩
  rw [← eA] at hAA hLA
  have hsA : (limbs (val A)).length ≤ 12 := len_val hAA.lim hLA hkA
  have HNA0 := Lib.hid hAA
  have HLA := Lib.hid hLA
  have HT := Lib.hid ht
  have HW0 := Lib.hid (Below.refl w.heap.size w)
  clear ht haA hlA hmA eA hAA hLA hcA
  rcases (by omega : zk < 1 ∨ (1 ≤ zk ∧ 1024 < zk) ∨ (1 ≤ zk ∧ zk ≤ 1024)) with hz | hz | hz
  · go_enter Tryd.func13, Tryd.ntmps13
    go_wp2_with fail
    refine (cut_ok pA nA cA _ heA hdA).mono ?_
    rintro e w' ⟨rfl, rfl⟩
    rw [hiA]
    go_wp2_with fail
    refine (rootF_bad pA mA cA zk _ (by omega)).mono ?_
    rintro e w' ⟨rfl, rfl⟩
    go_wp2_with fail
    refine (fold_ok zk 40 _ (by omega) (by omega) hzk).mono ?_
    rintro e w' ⟨⟨r0, hr0, hr1, rfl⟩, rfl⟩
    obtain ⟨k, hk⟩ : ∃ k : Nat, k = r0.toNat + 1 := ⟨_, rfl⟩
    have hki : 1 + r0 = (k : Int) := by omega
    have hk1 : 1 ≤ k := by omega
    have hk2 : k ≤ 1024 := by omega
    clear hk
    go_wp2_with fail
    refine (rootF_ok pA mA cA A k _ HNA0.out HLA.out (by omega) hk1 hk2).mono ?_
    rintro e w1 ⟨r, pr, cr, hroot, rfl, hb, hn⟩
    have hsr : (limbs r).length ≤ 12 := len_le hsA (root_le hroot hk1)
    have hrl : (limbs r).length ≤ mA := by have h3 := limbs_length_mono (root_le hroot hk1); have h4 := limbs_length_val_le HNA0.out.lim; rw [HLA.out] at h4; omega
    obtain ⟨ok, hok⟩ : ∃ ok, ok = decide (r ^ k = val A) := ⟨_, rfl⟩
    rw [← hok]
    have HOK := Lib.hid hok
    have HROOT := Lib.hid hroot
    clear hok hroot
    have HW1 := Lib.hid (HW0.out.trans (hb.mono HW0.out.size))
    have HNA1 := Lib.hid (HNA0.out.keep hb)
    clear HW0 HNA0
    have HNr1 := Lib.hid hn.natIn
    clear hb hn
    go_wp2_with fail
    refine (canon_ok r pr _ cr _ HNr1.out rfl).mono ?_
    rintro e w' ⟨rfl, rfl⟩
    go_wp2_with fail
    have hpl := len_le hsA HROOT.out.1
    refine (rraise_ok pr _ cr (limbs r) (k) _ HNr1.out rfl (by omega) (by omega) (by rw [val_limbs]; exact raise_sz hsr hpl (by omega) (by omega))).mono ?_
    rintro e w2 hR
    simp only [val_limbs] at hR
    obtain ⟨p, pp, cp, hp, rfl, hb, hn, hsp⟩ := hR.word (k := 12) hpl
    clear hpl
    have HW2 := Lib.hid (HW1.out.trans (hb.mono HW1.out.size))
    have HNA2 := Lib.hid (HNA1.out.keep hb)
    have HNr2 := Lib.hid (HNr1.out.keep hb)
    clear HW1 HNA1 HNr1
    have HNp2 := Lib.hid hn
    have Hp := Lib.hid hp
    clear hb hn hp
    go_wp2_with fail
    refine (rcmp_ok pp _ cp (limbs p) pA mA cA A _ HNp2.out HNA2.out rfl HLA.out).mono ?_
    rintro e w3 ⟨rfl, hb⟩
    simp only [val_limbs]
    have HW3 := Lib.hid (HW2.out.trans (hb.mono HW2.out.size))
    have HNA3 := Lib.hid (HNA2.out.keep hb)
    have HNr3 := Lib.hid (HNr2.out.keep hb)
    have HNp3 := Lib.hid (HNp2.out.keep hb)
    clear HW2 HNA2 HNr2 HNp2
    clear hb
    obtain ⟨t, ht⟩ : ∃ t, t = cmp p (val A) := ⟨_, rfl⟩
    have ht0 : t ≤ 0 := by
      have h1 := @cmp_pos p (val A)
      have h2 := HROOT.out.1
      rw [← Hp.out] at h2
      omega
    have htk : (t == 0) = ok := by rw [ht, HOK.out, cmp_dec, Hp.out]
    rw [← ht]
    have HTT := Lib.hid ht
    clear ht
    go_wp2_with fail
    refine (rcmp_ok pp _ cp (limbs p) pA mA cA A _ HNp3.out HNA3.out rfl HLA.out).mono ?_
    rintro e w4 ⟨rfl, hb⟩
    simp only [val_limbs]
    have HW4 := Lib.hid (HW3.out.trans (hb.mono HW3.out.size))
    have HNA4 := Lib.hid (HNA3.out.keep hb)
    have HNr4 := Lib.hid (HNr3.out.keep hb)
    have HNp4 := Lib.hid (HNp3.out.keep hb)
    clear HW3 HNA3 HNr3 HNp3
    clear hb
    rw [← HTT.out]
    go_wp2_with fail
    have hn := natIn_new w4 (cs := #[.int .u32 1]) (L := [1]) (n := 1) (by simp [limbV]) (lim_cons (by omega) lim_nil) rfl (by omega)
    have hb := below_new w4 (.cells #[.int .u32 1] 35)
    have HW5 := Lib.hid (HW4.out.trans (hb.mono HW4.out.size))
    have HNA5 := Lib.hid (HNA4.out.keep hb)
    have HNr5 := Lib.hid (HNr4.out.keep hb)
    have HNp5 := Lib.hid (HNp4.out.keep hb)
    clear HW4 HNA4 HNr4 HNp4
    have HNI5 := Lib.hid hn
    clear hb hn
    refine (radd_ok pr _ cr (limbs r) _ 1 1 [1] _ HNr5.out HNI5.out rfl rfl (by omega) (by omega)).mono ?_
    rintro e w6 hR
    simp only [val_limbs, val_one] at hR
    obtain ⟨r1, pr1, cr1, hr1, rfl, hb, hn, hsr1⟩ := hR.word (k := 13) (len_add hsr hsI (by omega) (by omega))
    have HW6 := Lib.hid (HW5.out.trans (hb.mono HW5.out.size))
    have HNA6 := Lib.hid (HNA5.out.keep hb)
    have HNr6 := Lib.hid (HNr5.out.keep hb)
    have HNp6 := Lib.hid (HNp5.out.keep hb)
    have HNI6 := Lib.hid (HNI5.out.keep hb)
    clear HW5 HNA5 HNr5 HNp5 HNI5
    have HNr16 := Lib.hid hn
    have Hr1 := Lib.hid hr1
    clear hb hn hr1
    go_wp2_with fail
    clear HNI6
    have hpl := root_next_len hsA HROOT.out hk1 hk2 Hr1.out
    refine (rraise_ok pr1 _ cr1 (limbs r1) (k) _ HNr16.out rfl (by omega) (by omega) (by rw [val_limbs]; exact raise_sz hsr1 hpl (by omega) (by omega))).mono ?_
    rintro e w7 hR
    simp only [val_limbs] at hR
    obtain ⟨p1, pp1, cp1, hp1, rfl, hb, hn, hsp1⟩ := hR.word (k := 45) hpl
    clear hpl
    have HW7 := Lib.hid (HW6.out.trans (hb.mono HW6.out.size))
    have HNA7 := Lib.hid (HNA6.out.keep hb)
    have HNr7 := Lib.hid (HNr6.out.keep hb)
    have HNp7 := Lib.hid (HNp6.out.keep hb)
    have HNr17 := Lib.hid (HNr16.out.keep hb)
    clear HW6 HNA6 HNr6 HNp6 HNr16
    have HNp17 := Lib.hid hn
    have Hp1 := Lib.hid hp1
    clear hb hn hp1
    go_wp2_with fail
    refine (rcmp_ok pp1 _ cp1 (limbs p1) pA mA cA A _ HNp17.out HNA7.out rfl HLA.out).mono ?_
    rintro e w8 ⟨rfl, hb⟩
    simp only [val_limbs]
    rw [cmp_gt (show val A < p1 from by rw [Hp1.out, Hr1.out]; exact HROOT.out.2)]
    have HW8 := Lib.hid (HW7.out.trans (hb.mono HW7.out.size))
    have HNA8 := Lib.hid (HNA7.out.keep hb)
    have HNr8 := Lib.hid (HNr7.out.keep hb)
    have HNp8 := Lib.hid (HNp7.out.keep hb)
    have HNr18 := Lib.hid (HNr17.out.keep hb)
    have HNp18 := Lib.hid (HNp17.out.keep hb)
    clear HW7 HNA7 HNr7 HNp7 HNr17 HNp17
    clear hb
    go_wp2_with fail
    refine (awake_ok _ (Tab.keep HT.out HW8.out hg) (Nat.lt_of_lt_of_le hg HW8.out.size)).mono ?_
    rintro e w9 ⟨rfl, hb⟩
    have HW9 := Lib.hid (HW8.out.trans (hb.mono HW8.out.size))
    have HNA9 := Lib.hid (HNA8.out.keep hb)
    have HNr9 := Lib.hid (HNr8.out.keep hb)
    have HNp9 := Lib.hid (HNp8.out.keep hb)
    have HNr19 := Lib.hid (HNr18.out.keep hb)
    have HNp19 := Lib.hid (HNp18.out.keep hb)
    clear HW8 HNA8 HNr8 HNp8 HNr18 HNp18
    clear hb
    go_wp2_with fail
    go_ret
    exact ⟨rfl, HW9.out⟩
  · have hc1 : ¬ zk < 1 := by omega
    have hc2 : 1024 < zk := hz.2
    clear hz
    go_enter Tryd.func13, Tryd.ntmps13
    go_wp2_with fail
    refine (cut_ok pA nA cA _ heA hdA).mono ?_
    rintro e w' ⟨rfl, rfl⟩
    rw [hiA]
    go_wp2_with fail
    refine (rootF_bad pA mA cA zk _ (by omega)).mono ?_
    rintro e w' ⟨rfl, rfl⟩
    go_wp2_with fail
    refine (fold_ok zk 40 _ (by omega) (by omega) hzk).mono ?_
    rintro e w' ⟨⟨r0, hr0, hr1, rfl⟩, rfl⟩
    obtain ⟨k, hk⟩ : ∃ k : Nat, k = r0.toNat + 1 := ⟨_, rfl⟩
    have hki : 1 + r0 = (k : Int) := by omega
    have hk1 : 1 ≤ k := by omega
    have hk2 : k ≤ 1024 := by omega
    clear hk
    go_wp2_with fail
    refine (rootF_ok pA mA cA A k _ HNA0.out HLA.out (by omega) hk1 hk2).mono ?_
    rintro e w1 ⟨r, pr, cr, hroot, rfl, hb, hn⟩
    have hsr : (limbs r).length ≤ 12 := len_le hsA (root_le hroot hk1)
    have hrl : (limbs r).length ≤ mA := by have h3 := limbs_length_mono (root_le hroot hk1); have h4 := limbs_length_val_le HNA0.out.lim; rw [HLA.out] at h4; omega
    obtain ⟨ok, hok⟩ : ∃ ok, ok = decide (r ^ k = val A) := ⟨_, rfl⟩
    rw [← hok]
    have HOK := Lib.hid hok
    have HROOT := Lib.hid hroot
    clear hok hroot
    have HW1 := Lib.hid (HW0.out.trans (hb.mono HW0.out.size))
    have HNA1 := Lib.hid (HNA0.out.keep hb)
    clear HW0 HNA0
    have HNr1 := Lib.hid hn.natIn
    clear hb hn
    go_wp2_with fail
    refine (canon_ok r pr _ cr _ HNr1.out rfl).mono ?_
    rintro e w' ⟨rfl, rfl⟩
    go_wp2_with fail
    have hpl := len_le hsA HROOT.out.1
    refine (rraise_ok pr _ cr (limbs r) (k) _ HNr1.out rfl (by omega) (by omega) (by rw [val_limbs]; exact raise_sz hsr hpl (by omega) (by omega))).mono ?_
    rintro e w2 hR
    simp only [val_limbs] at hR
    obtain ⟨p, pp, cp, hp, rfl, hb, hn, hsp⟩ := hR.word (k := 12) hpl
    clear hpl
    have HW2 := Lib.hid (HW1.out.trans (hb.mono HW1.out.size))
    have HNA2 := Lib.hid (HNA1.out.keep hb)
    have HNr2 := Lib.hid (HNr1.out.keep hb)
    clear HW1 HNA1 HNr1
    have HNp2 := Lib.hid hn
    have Hp := Lib.hid hp
    clear hb hn hp
    go_wp2_with fail
    refine (rcmp_ok pp _ cp (limbs p) pA mA cA A _ HNp2.out HNA2.out rfl HLA.out).mono ?_
    rintro e w3 ⟨rfl, hb⟩
    simp only [val_limbs]
    have HW3 := Lib.hid (HW2.out.trans (hb.mono HW2.out.size))
    have HNA3 := Lib.hid (HNA2.out.keep hb)
    have HNr3 := Lib.hid (HNr2.out.keep hb)
    have HNp3 := Lib.hid (HNp2.out.keep hb)
    clear HW2 HNA2 HNr2 HNp2
    clear hb
    obtain ⟨t, ht⟩ : ∃ t, t = cmp p (val A) := ⟨_, rfl⟩
    have ht0 : t ≤ 0 := by
      have h1 := @cmp_pos p (val A)
      have h2 := HROOT.out.1
      rw [← Hp.out] at h2
      omega
    have htk : (t == 0) = ok := by rw [ht, HOK.out, cmp_dec, Hp.out]
    rw [← ht]
    have HTT := Lib.hid ht
    clear ht
    go_wp2_with fail
    refine (rcmp_ok pp _ cp (limbs p) pA mA cA A _ HNp3.out HNA3.out rfl HLA.out).mono ?_
    rintro e w4 ⟨rfl, hb⟩
    simp only [val_limbs]
    have HW4 := Lib.hid (HW3.out.trans (hb.mono HW3.out.size))
    have HNA4 := Lib.hid (HNA3.out.keep hb)
    have HNr4 := Lib.hid (HNr3.out.keep hb)
    have HNp4 := Lib.hid (HNp3.out.keep hb)
    clear HW3 HNA3 HNr3 HNp3
    clear hb
    rw [← HTT.out]
    go_wp2_with fail
    have hn := natIn_new w4 (cs := #[.int .u32 1]) (L := [1]) (n := 1) (by simp [limbV]) (lim_cons (by omega) lim_nil) rfl (by omega)
    have hb := below_new w4 (.cells #[.int .u32 1] 35)
    have HW5 := Lib.hid (HW4.out.trans (hb.mono HW4.out.size))
    have HNA5 := Lib.hid (HNA4.out.keep hb)
    have HNr5 := Lib.hid (HNr4.out.keep hb)
    have HNp5 := Lib.hid (HNp4.out.keep hb)
    clear HW4 HNA4 HNr4 HNp4
    have HNI5 := Lib.hid hn
    clear hb hn
    refine (radd_ok pr _ cr (limbs r) _ 1 1 [1] _ HNr5.out HNI5.out rfl rfl (by omega) (by omega)).mono ?_
    rintro e w6 hR
    simp only [val_limbs, val_one] at hR
    obtain ⟨r1, pr1, cr1, hr1, rfl, hb, hn, hsr1⟩ := hR.word (k := 13) (len_add hsr hsI (by omega) (by omega))
    have HW6 := Lib.hid (HW5.out.trans (hb.mono HW5.out.size))
    have HNA6 := Lib.hid (HNA5.out.keep hb)
    have HNr6 := Lib.hid (HNr5.out.keep hb)
    have HNp6 := Lib.hid (HNp5.out.keep hb)
    have HNI6 := Lib.hid (HNI5.out.keep hb)
    clear HW5 HNA5 HNr5 HNp5 HNI5
    have HNr16 := Lib.hid hn
    have Hr1 := Lib.hid hr1
    clear hb hn hr1
    go_wp2_with fail
    clear HNI6
    have hpl := root_next_len hsA HROOT.out hk1 hk2 Hr1.out
    refine (rraise_ok pr1 _ cr1 (limbs r1) (k) _ HNr16.out rfl (by omega) (by omega) (by rw [val_limbs]; exact raise_sz hsr1 hpl (by omega) (by omega))).mono ?_
    rintro e w7 hR
    simp only [val_limbs] at hR
    obtain ⟨p1, pp1, cp1, hp1, rfl, hb, hn, hsp1⟩ := hR.word (k := 45) hpl
    clear hpl
    have HW7 := Lib.hid (HW6.out.trans (hb.mono HW6.out.size))
    have HNA7 := Lib.hid (HNA6.out.keep hb)
    have HNr7 := Lib.hid (HNr6.out.keep hb)
    have HNp7 := Lib.hid (HNp6.out.keep hb)
    have HNr17 := Lib.hid (HNr16.out.keep hb)
    clear HW6 HNA6 HNr6 HNp6 HNr16
    have HNp17 := Lib.hid hn
    have Hp1 := Lib.hid hp1
    clear hb hn hp1
    go_wp2_with fail
    refine (rcmp_ok pp1 _ cp1 (limbs p1) pA mA cA A _ HNp17.out HNA7.out rfl HLA.out).mono ?_
    rintro e w8 ⟨rfl, hb⟩
    simp only [val_limbs]
    rw [cmp_gt (show val A < p1 from by rw [Hp1.out, Hr1.out]; exact HROOT.out.2)]
    have HW8 := Lib.hid (HW7.out.trans (hb.mono HW7.out.size))
    have HNA8 := Lib.hid (HNA7.out.keep hb)
    have HNr8 := Lib.hid (HNr7.out.keep hb)
    have HNp8 := Lib.hid (HNp7.out.keep hb)
    have HNr18 := Lib.hid (HNr17.out.keep hb)
    have HNp18 := Lib.hid (HNp17.out.keep hb)
    clear HW7 HNA7 HNr7 HNp7 HNr17 HNp17
    clear hb
    go_wp2_with fail
    refine (awake_ok _ (Tab.keep HT.out HW8.out hg) (Nat.lt_of_lt_of_le hg HW8.out.size)).mono ?_
    rintro e w9 ⟨rfl, hb⟩
    have HW9 := Lib.hid (HW8.out.trans (hb.mono HW8.out.size))
    have HNA9 := Lib.hid (HNA8.out.keep hb)
    have HNr9 := Lib.hid (HNr8.out.keep hb)
    have HNp9 := Lib.hid (HNp8.out.keep hb)
    have HNr19 := Lib.hid (HNr18.out.keep hb)
    have HNp19 := Lib.hid (HNp18.out.keep hb)
    clear HW8 HNA8 HNr8 HNp8 HNr18 HNp18
    clear hb
    go_wp2_with fail
    go_ret
    exact ⟨rfl, HW9.out⟩
  · obtain ⟨k, rfl⟩ : ∃ k : Nat, zk = (k : Int) := ⟨zk.toNat, by omega⟩
    have hk1 : 1 ≤ k := by omega
    have hk2 : k ≤ 1024 := by omega
    have hc1 : ¬ (k : Int) < 1 := by omega
    have hc2 : ¬ (1024 : Int) < (k : Int) := by omega
    clear hz hzk
    go_enter Tryd.func13, Tryd.ntmps13
    go_wp2_with fail
    refine (cut_ok pA nA cA _ heA hdA).mono ?_
    rintro e w' ⟨rfl, rfl⟩
    rw [hiA]
    go_wp2_with fail
    refine (rootF_ok pA mA cA A k _ HNA0.out HLA.out (by omega) hk1 hk2).mono ?_
    rintro e w1 ⟨r, pr, cr, hroot, rfl, hb, hn⟩
    have hsr : (limbs r).length ≤ 12 := len_le hsA (root_le hroot hk1)
    have hrl : (limbs r).length ≤ mA := by have h3 := limbs_length_mono (root_le hroot hk1); have h4 := limbs_length_val_le HNA0.out.lim; rw [HLA.out] at h4; omega
    obtain ⟨ok, hok⟩ : ∃ ok, ok = decide (r ^ k = val A) := ⟨_, rfl⟩
    rw [← hok]
    have HOK := Lib.hid hok
    have HROOT := Lib.hid hroot
    clear hok hroot
    have HW1 := Lib.hid (HW0.out.trans (hb.mono HW0.out.size))
    have HNA1 := Lib.hid (HNA0.out.keep hb)
    clear HW0 HNA0
    have HNr1 := Lib.hid hn.natIn
    clear hb hn
    go_wp2_with fail
    refine (canon_ok r pr _ cr _ HNr1.out rfl).mono ?_
    rintro e w' ⟨rfl, rfl⟩
    go_wp2_with fail
    have hpl := len_le hsA HROOT.out.1
    refine (rraise_ok pr _ cr (limbs r) (k) _ HNr1.out rfl (by omega) (by omega) (by rw [val_limbs]; exact raise_sz hsr hpl (by omega) (by omega))).mono ?_
    rintro e w2 hR
    simp only [val_limbs] at hR
    obtain ⟨p, pp, cp, hp, rfl, hb, hn, hsp⟩ := hR.word (k := 12) hpl
    clear hpl
    have HW2 := Lib.hid (HW1.out.trans (hb.mono HW1.out.size))
    have HNA2 := Lib.hid (HNA1.out.keep hb)
    have HNr2 := Lib.hid (HNr1.out.keep hb)
    clear HW1 HNA1 HNr1
    have HNp2 := Lib.hid hn
    have Hp := Lib.hid hp
    clear hb hn hp
    go_wp2_with fail
    refine (rcmp_ok pp _ cp (limbs p) pA mA cA A _ HNp2.out HNA2.out rfl HLA.out).mono ?_
    rintro e w3 ⟨rfl, hb⟩
    simp only [val_limbs]
    have HW3 := Lib.hid (HW2.out.trans (hb.mono HW2.out.size))
    have HNA3 := Lib.hid (HNA2.out.keep hb)
    have HNr3 := Lib.hid (HNr2.out.keep hb)
    have HNp3 := Lib.hid (HNp2.out.keep hb)
    clear HW2 HNA2 HNr2 HNp2
    clear hb
    obtain ⟨t, ht⟩ : ∃ t, t = cmp p (val A) := ⟨_, rfl⟩
    have ht0 : t ≤ 0 := by
      have h1 := @cmp_pos p (val A)
      have h2 := HROOT.out.1
      rw [← Hp.out] at h2
      omega
    have htk : (t == 0) = ok := by rw [ht, HOK.out, cmp_dec, Hp.out]
    rw [← ht]
    have HTT := Lib.hid ht
    clear ht
    go_wp2_with fail
    refine (rcmp_ok pp _ cp (limbs p) pA mA cA A _ HNp3.out HNA3.out rfl HLA.out).mono ?_
    rintro e w4 ⟨rfl, hb⟩
    simp only [val_limbs]
    have HW4 := Lib.hid (HW3.out.trans (hb.mono HW3.out.size))
    have HNA4 := Lib.hid (HNA3.out.keep hb)
    have HNr4 := Lib.hid (HNr3.out.keep hb)
    have HNp4 := Lib.hid (HNp3.out.keep hb)
    clear HW3 HNA3 HNr3 HNp3
    clear hb
    rw [← HTT.out]
    go_wp2_with fail
    have hn := natIn_new w4 (cs := #[.int .u32 1]) (L := [1]) (n := 1) (by simp [limbV]) (lim_cons (by omega) lim_nil) rfl (by omega)
    have hb := below_new w4 (.cells #[.int .u32 1] 35)
    have HW5 := Lib.hid (HW4.out.trans (hb.mono HW4.out.size))
    have HNA5 := Lib.hid (HNA4.out.keep hb)
    have HNr5 := Lib.hid (HNr4.out.keep hb)
    have HNp5 := Lib.hid (HNp4.out.keep hb)
    clear HW4 HNA4 HNr4 HNp4
    have HNI5 := Lib.hid hn
    clear hb hn
    refine (radd_ok pr _ cr (limbs r) _ 1 1 [1] _ HNr5.out HNI5.out rfl rfl (by omega) (by omega)).mono ?_
    rintro e w6 hR
    simp only [val_limbs, val_one] at hR
    obtain ⟨r1, pr1, cr1, hr1, rfl, hb, hn, hsr1⟩ := hR.word (k := 13) (len_add hsr hsI (by omega) (by omega))
    have HW6 := Lib.hid (HW5.out.trans (hb.mono HW5.out.size))
    have HNA6 := Lib.hid (HNA5.out.keep hb)
    have HNr6 := Lib.hid (HNr5.out.keep hb)
    have HNp6 := Lib.hid (HNp5.out.keep hb)
    have HNI6 := Lib.hid (HNI5.out.keep hb)
    clear HW5 HNA5 HNr5 HNp5 HNI5
    have HNr16 := Lib.hid hn
    have Hr1 := Lib.hid hr1
    clear hb hn hr1
    go_wp2_with fail
    clear HNI6
    have hpl := root_next_len hsA HROOT.out hk1 hk2 Hr1.out
    refine (rraise_ok pr1 _ cr1 (limbs r1) (k) _ HNr16.out rfl (by omega) (by omega) (by rw [val_limbs]; exact raise_sz hsr1 hpl (by omega) (by omega))).mono ?_
    rintro e w7 hR
    simp only [val_limbs] at hR
    obtain ⟨p1, pp1, cp1, hp1, rfl, hb, hn, hsp1⟩ := hR.word (k := 45) hpl
    clear hpl
    have HW7 := Lib.hid (HW6.out.trans (hb.mono HW6.out.size))
    have HNA7 := Lib.hid (HNA6.out.keep hb)
    have HNr7 := Lib.hid (HNr6.out.keep hb)
    have HNp7 := Lib.hid (HNp6.out.keep hb)
    have HNr17 := Lib.hid (HNr16.out.keep hb)
    clear HW6 HNA6 HNr6 HNp6 HNr16
    have HNp17 := Lib.hid hn
    have Hp1 := Lib.hid hp1
    clear hb hn hp1
    go_wp2_with fail
    refine (rcmp_ok pp1 _ cp1 (limbs p1) pA mA cA A _ HNp17.out HNA7.out rfl HLA.out).mono ?_
    rintro e w8 ⟨rfl, hb⟩
    simp only [val_limbs]
    rw [cmp_gt (show val A < p1 from by rw [Hp1.out, Hr1.out]; exact HROOT.out.2)]
    have HW8 := Lib.hid (HW7.out.trans (hb.mono HW7.out.size))
    have HNA8 := Lib.hid (HNA7.out.keep hb)
    have HNr8 := Lib.hid (HNr7.out.keep hb)
    have HNp8 := Lib.hid (HNp7.out.keep hb)
    have HNr18 := Lib.hid (HNr17.out.keep hb)
    have HNp18 := Lib.hid (HNp17.out.keep hb)
    clear HW7 HNA7 HNr7 HNp7 HNr17 HNp17
    clear hb
    go_wp2_with fail
    refine (awake_ok _ (Tab.keep HT.out HW8.out hg) (Nat.lt_of_lt_of_le hg HW8.out.size)).mono ?_
    rintro e w9 ⟨rfl, hb⟩
    have HW9 := Lib.hid (HW8.out.trans (hb.mono HW8.out.size))
    have HNA9 := Lib.hid (HNA8.out.keep hb)
    have HNr9 := Lib.hid (HNr8.out.keep hb)
    have HNp9 := Lib.hid (HNp8.out.keep hb)
    have HNr19 := Lib.hid (HNr18.out.keep hb)
    have HNp19 := Lib.hid (HNp18.out.keep hb)
    clear HW8 HNA8 HNr8 HNp8 HNr18 HNp18
    clear hb
    go_wp2_with fail
    go_ret
    exact ⟨rfl, HW9.out⟩
end Go.Proofs.YtfdjlkffhikaeaaDoor
