/- NaturalSums: the walk. Printed by wg.py. -/
import Derived.Test.YtfdjlkffhikaeaaDoorWord
import Derived.Test.YtfdjlkffhikaeaaDoorAdd
import Derived.Test.YtfdjlkffhikaeaaDoorSub
import Derived.Test.YtfdjlkffhikaeaaDoorRefS
namespace Go.Proofs.YtfdjlkffhikaeaaDoor
open Go.RowKit Nt

set_option maxRecDepth 100000 in
set_option maxHeartbeats 2000000 in
theorem sums_walk (pA : Option Addr) (nA cA : Nat) (lA : List Nat) (pB : Option Addr) (nB cB : Nat) (lB : List Nat) (w : World) (haA : NatIn w pA cA lA) (haB : NatIn w pB cB lB) (hlA : lA.length = nA) (hlB : lB.length = nB) (ht : Tab w) (hg : 0 < w.heap.size) :
    Calls Tryd.prog 8 #[.slice pA nA cA, .slice pB nB cB] w fun e w' => e = .returned (.bool true) ∧ Below w.heap.size w w' := by
  have hcA := haA.le
  have hdA := haA.cap
  obtain ⟨mA, hmA⟩ : ∃ m, m = min nA 12 := ⟨_, rfl⟩
  have hAA := haA.take (k := mA) (by omega)
  have hLA : (lA.take mA).length = mA := by rw [List.length_take]; omega
  have hiA : min nA 12 = mA := hmA.symm
  have hjA : min (nA : Int) 12 = (mA : Int) := by omega
  have hkA : mA ≤ 12 := by omega
  have hoA : mA ≤ nA := by omega
  have heA : nA ≤ cA := by omega
  have hfA : mA ≤ cA := by omega
  obtain ⟨A, eA⟩ : ∃ L, L = lA.take mA := ⟨_, rfl⟩
  rw [← eA] at hAA hLA
  have hsA : (limbs (val A)).length ≤ 12 := len_val hAA.lim hLA hkA
  have HNA0 := Lib.hid hAA
  have HLA := Lib.hid hLA
  have hcB := haB.le
  have hdB := haB.cap
  obtain ⟨mB, hmB⟩ : ∃ m, m = min nB 12 := ⟨_, rfl⟩
  have hAB := haB.take (k := mB) (by omega)
  have hLB : (lB.take mB).length = mB := by rw [List.length_take]; omega
  have hiB : min nB 12 = mB := hmB.symm
  have hjB : min (nB : Int) 12 = (mB : Int) := by omega
  have hkB : mB ≤ 12 := by omega
  have hoB : mB ≤ nB := by omega
  have heB : nB ≤ cB := by omega
  have hfB : mB ≤ cB := by omega
  obtain ⟨B, eB⟩ : ∃ L, L = lB.take mB := ⟨_, rfl⟩
  rw [← eB] at hAB hLB
  have hsB : (limbs (val B)).length ≤ 12 := len_val hAB.lim hLB hkB
  have HNB0 := Lib.hid hAB
  have HLB := Lib.hid hLB
  have HT := Lib.hid ht
  have HW0 := Lib.hid (Below.refl w.heap.size w)
  clear ht haA hlA hmA eA hAA hLA hcA haB hlB hmB eB hAB hLB hcB
  obtain ⟨ok, hok⟩ : ∃ ok, ok = leB (val B) (val A) := ⟨_, rfl⟩
  have HK := Lib.hid hok
  clear hok
  cases ok
  · go_enter Tryd.func8, Tryd.ntmps8
    go_wp2_with fail
    refine (cut_ok pA nA cA _ heA hdA).mono ?_
    rintro e w' ⟨rfl, rfl⟩
    rw [hiA]
    go_wp2_with fail
    refine (cut_ok pB nB cB _ heB hdB).mono ?_
    rintro e w' ⟨rfl, rfl⟩
    rw [hiB]
    go_wp2_with fail
    refine (add_ok pA mA cA A pB mB cB B _ HNA0.out HNB0.out HLA.out HLB.out (by first | omega | (rw [HLA.out]; omega)) (by first | omega | (rw [HLB.out]; omega))).mono ?_
    rintro e w1 hR
    obtain ⟨s, ps, cs, hs, rfl, hb, hn, hss⟩ := hR.word (k := 13) (len_add hsA hsB (by omega) (by omega))
    have HW1 := Lib.hid (HW0.out.trans (hb.mono HW0.out.size))
    have HNA1 := Lib.hid (HNA0.out.keep hb)
    have HNB1 := Lib.hid (HNB0.out.keep hb)
    clear HW0 HNA0 HNB0
    have HNs1 := Lib.hid hn
    have Hs := Lib.hid hs
    clear hb hn hs
    go_wp2_with fail
    refine (sub_ok pA mA cA A pB mB cB B _ HNA1.out HNB1.out HLA.out HLB.out (by first | omega | (rw [HLA.out]; omega)) (by first | omega | (rw [HLB.out]; omega))).mono ?_
    rintro e w2 hR
    rw [← HK.out] at hR
    obtain ⟨d, pd, cd, hd, rfl, hb, hn, hsd⟩ := sub_word hR (k := 12) (len_le hsA (Nat.sub_le _ _))
    have HW2 := Lib.hid (HW1.out.trans (hb.mono HW1.out.size))
    have HNA2 := Lib.hid (HNA1.out.keep hb)
    have HNB2 := Lib.hid (HNB1.out.keep hb)
    have HNs2 := Lib.hid (HNs1.out.keep hb)
    clear HW1 HNA1 HNB1 HNs1
    have HNd2 := Lib.hid hn
    have Hd := Lib.hid hd
    clear hb hn hd
    go_wp2_with fail
    refine (rsub_ok pA mA cA A pB mB cB B _ HNA2.out HNB2.out HLA.out HLB.out (by first | omega | (rw [HLA.out]; omega)) (by first | omega | (rw [HLB.out]; omega))).mono ?_
    rintro e w3 hR
    rw [← HK.out] at hR
    obtain ⟨e, pe, ce, he, rfl, hb, hn, hse⟩ := sub_word hR (k := 12) (len_le hsA (Nat.sub_le _ _))
    have HW3 := Lib.hid (HW2.out.trans (hb.mono HW2.out.size))
    have HNA3 := Lib.hid (HNA2.out.keep hb)
    have HNB3 := Lib.hid (HNB2.out.keep hb)
    have HNs3 := Lib.hid (HNs2.out.keep hb)
    have HNd3 := Lib.hid (HNd2.out.keep hb)
    clear HW2 HNA2 HNB2 HNs2 HNd2
    have HNe3 := Lib.hid hn
    have He := Lib.hid he
    clear hb hn he
    go_wp2_with fail
    refine (sub_ok ps _ cs (limbs s) pB mB cB B _ HNs3.out HNB3.out rfl HLB.out (by omega) (by first | omega | (rw [HLB.out]; omega))).mono ?_
    rintro e w4 hR
    simp only [val_limbs] at hR
    rw [leB_true (show val B ≤ s from by rw [Hs.out]; omega)] at hR
    obtain ⟨back, pback, cback, hback, rfl, hb, hn, hsback⟩ := sub_word hR (k := 13) (len_le hss (Nat.sub_le _ _))
    have HW4 := Lib.hid (HW3.out.trans (hb.mono HW3.out.size))
    have HNA4 := Lib.hid (HNA3.out.keep hb)
    have HNB4 := Lib.hid (HNB3.out.keep hb)
    have HNs4 := Lib.hid (HNs3.out.keep hb)
    have HNd4 := Lib.hid (HNd3.out.keep hb)
    have HNe4 := Lib.hid (HNe3.out.keep hb)
    clear HW3 HNA3 HNB3 HNs3 HNd3 HNe3
    have HNback4 := Lib.hid hn
    have Hback := Lib.hid hback
    clear hb hn hback
    go_wp2_with fail
    refine (radd_ok pA mA cA A pB mB cB B _ HNA4.out HNB4.out HLA.out HLB.out (by first | omega | (rw [HLA.out]; omega)) (by first | omega | (rw [HLB.out]; omega))).mono ?_
    rintro e w5 hR
    obtain ⟨t, pt, ct, ht, rfl, hb, hn, hst⟩ := hR.word (k := 13) (len_add hsA hsB (by omega) (by omega))
    have HW5 := Lib.hid (HW4.out.trans (hb.mono HW4.out.size))
    have HNA5 := Lib.hid (HNA4.out.keep hb)
    have HNB5 := Lib.hid (HNB4.out.keep hb)
    have HNs5 := Lib.hid (HNs4.out.keep hb)
    have HNd5 := Lib.hid (HNd4.out.keep hb)
    have HNe5 := Lib.hid (HNe4.out.keep hb)
    have HNback5 := Lib.hid (HNback4.out.keep hb)
    clear HW4 HNA4 HNB4 HNs4 HNd4 HNe4 HNback4
    have HNt5 := Lib.hid hn
    have Ht := Lib.hid ht
    clear hb hn ht
    go_wp2_with fail
    refine (same_ok ps _ cs (limbs s) pt _ ct (limbs t) _ HNs5.out HNt5.out rfl rfl).mono ?_
    rintro e w6 ⟨rfl, hb⟩
    rw [eq_limbs (show s = t from by rw [Hs.out, Ht.out])]
    have HW6 := Lib.hid (HW5.out.trans (hb.mono HW5.out.size))
    have HNA6 := Lib.hid (HNA5.out.keep hb)
    have HNB6 := Lib.hid (HNB5.out.keep hb)
    have HNs6 := Lib.hid (HNs5.out.keep hb)
    have HNd6 := Lib.hid (HNd5.out.keep hb)
    have HNe6 := Lib.hid (HNe5.out.keep hb)
    have HNback6 := Lib.hid (HNback5.out.keep hb)
    have HNt6 := Lib.hid (HNt5.out.keep hb)
    clear HW5 HNA5 HNB5 HNs5 HNd5 HNe5 HNback5 HNt5
    clear hb
    go_wp2_with fail
    refine (same_ok pd _ cd (limbs d) pe _ ce (limbs e) _ HNd6.out HNe6.out rfl rfl).mono ?_
    rintro e w7 ⟨rfl, hb⟩
    rw [eq_limbs (show d = e from by rw [Hd.out, He.out])]
    have HW7 := Lib.hid (HW6.out.trans (hb.mono HW6.out.size))
    have HNA7 := Lib.hid (HNA6.out.keep hb)
    have HNB7 := Lib.hid (HNB6.out.keep hb)
    have HNs7 := Lib.hid (HNs6.out.keep hb)
    have HNd7 := Lib.hid (HNd6.out.keep hb)
    have HNe7 := Lib.hid (HNe6.out.keep hb)
    have HNback7 := Lib.hid (HNback6.out.keep hb)
    have HNt7 := Lib.hid (HNt6.out.keep hb)
    clear HW6 HNA6 HNB6 HNs6 HNd6 HNe6 HNback6 HNt6
    clear hb
    go_wp2_with fail
    refine (rtrim_ok pA mA cA A _ HNA7.out HLA.out (by first | omega | (rw [HLA.out]; omega))).mono ?_
    rintro e w8 hR
    obtain ⟨u, pu, cu, hu, rfl, hb, hn, hsu⟩ := hR.word (k := 12) (hsA)
    have HW8 := Lib.hid (HW7.out.trans (hb.mono HW7.out.size))
    have HNA8 := Lib.hid (HNA7.out.keep hb)
    have HNB8 := Lib.hid (HNB7.out.keep hb)
    have HNs8 := Lib.hid (HNs7.out.keep hb)
    have HNd8 := Lib.hid (HNd7.out.keep hb)
    have HNe8 := Lib.hid (HNe7.out.keep hb)
    have HNback8 := Lib.hid (HNback7.out.keep hb)
    have HNt8 := Lib.hid (HNt7.out.keep hb)
    clear HW7 HNA7 HNB7 HNs7 HNd7 HNe7 HNback7 HNt7
    have HNu8 := Lib.hid hn
    have Hu := Lib.hid hu
    clear hb hn hu
    go_wp2_with fail
    refine (same_ok pback _ cback (limbs back) pu _ cu (limbs u) _ HNback8.out HNu8.out rfl rfl).mono ?_
    rintro e w9 ⟨rfl, hb⟩
    rw [eq_limbs (show back = u from by rw [Hback.out, Hs.out, Hu.out]; omega)]
    have HW9 := Lib.hid (HW8.out.trans (hb.mono HW8.out.size))
    have HNA9 := Lib.hid (HNA8.out.keep hb)
    have HNB9 := Lib.hid (HNB8.out.keep hb)
    have HNs9 := Lib.hid (HNs8.out.keep hb)
    have HNd9 := Lib.hid (HNd8.out.keep hb)
    have HNe9 := Lib.hid (HNe8.out.keep hb)
    have HNback9 := Lib.hid (HNback8.out.keep hb)
    have HNt9 := Lib.hid (HNt8.out.keep hb)
    have HNu9 := Lib.hid (HNu8.out.keep hb)
    clear HW8 HNA8 HNB8 HNs8 HNd8 HNe8 HNback8 HNt8 HNu8
    clear hb
    go_wp2_with fail
    refine (awake_ok _ (Tab.keep HT.out HW9.out hg) (Nat.lt_of_lt_of_le hg HW9.out.size)).mono ?_
    rintro e w10 ⟨rfl, hb⟩
    have HW10 := Lib.hid (HW9.out.trans (hb.mono HW9.out.size))
    have HNA10 := Lib.hid (HNA9.out.keep hb)
    have HNB10 := Lib.hid (HNB9.out.keep hb)
    have HNs10 := Lib.hid (HNs9.out.keep hb)
    have HNd10 := Lib.hid (HNd9.out.keep hb)
    have HNe10 := Lib.hid (HNe9.out.keep hb)
    have HNback10 := Lib.hid (HNback9.out.keep hb)
    have HNt10 := Lib.hid (HNt9.out.keep hb)
    have HNu10 := Lib.hid (HNu9.out.keep hb)
    clear HW9 HNA9 HNB9 HNs9 HNd9 HNe9 HNback9 HNt9 HNu9
    clear hb
    go_wp2_with fail
    go_ret
    exact ⟨rfl, HW10.out⟩
  · go_enter Tryd.func8, Tryd.ntmps8
    go_wp2_with fail
    refine (cut_ok pA nA cA _ heA hdA).mono ?_
    rintro e w' ⟨rfl, rfl⟩
    rw [hiA]
    go_wp2_with fail
    refine (cut_ok pB nB cB _ heB hdB).mono ?_
    rintro e w' ⟨rfl, rfl⟩
    rw [hiB]
    go_wp2_with fail
    refine (add_ok pA mA cA A pB mB cB B _ HNA0.out HNB0.out HLA.out HLB.out (by first | omega | (rw [HLA.out]; omega)) (by first | omega | (rw [HLB.out]; omega))).mono ?_
    rintro e w1 hR
    obtain ⟨s, ps, cs, hs, rfl, hb, hn, hss⟩ := hR.word (k := 13) (len_add hsA hsB (by omega) (by omega))
    have HW1 := Lib.hid (HW0.out.trans (hb.mono HW0.out.size))
    have HNA1 := Lib.hid (HNA0.out.keep hb)
    have HNB1 := Lib.hid (HNB0.out.keep hb)
    clear HW0 HNA0 HNB0
    have HNs1 := Lib.hid hn
    have Hs := Lib.hid hs
    clear hb hn hs
    go_wp2_with fail
    refine (sub_ok pA mA cA A pB mB cB B _ HNA1.out HNB1.out HLA.out HLB.out (by first | omega | (rw [HLA.out]; omega)) (by first | omega | (rw [HLB.out]; omega))).mono ?_
    rintro e w2 hR
    rw [← HK.out] at hR
    obtain ⟨d, pd, cd, hd, rfl, hb, hn, hsd⟩ := sub_word hR (k := 12) (len_le hsA (Nat.sub_le _ _))
    have HW2 := Lib.hid (HW1.out.trans (hb.mono HW1.out.size))
    have HNA2 := Lib.hid (HNA1.out.keep hb)
    have HNB2 := Lib.hid (HNB1.out.keep hb)
    have HNs2 := Lib.hid (HNs1.out.keep hb)
    clear HW1 HNA1 HNB1 HNs1
    have HNd2 := Lib.hid hn
    have Hd := Lib.hid hd
    clear hb hn hd
    go_wp2_with fail
    refine (rsub_ok pA mA cA A pB mB cB B _ HNA2.out HNB2.out HLA.out HLB.out (by first | omega | (rw [HLA.out]; omega)) (by first | omega | (rw [HLB.out]; omega))).mono ?_
    rintro e w3 hR
    rw [← HK.out] at hR
    obtain ⟨e, pe, ce, he, rfl, hb, hn, hse⟩ := sub_word hR (k := 12) (len_le hsA (Nat.sub_le _ _))
    have HW3 := Lib.hid (HW2.out.trans (hb.mono HW2.out.size))
    have HNA3 := Lib.hid (HNA2.out.keep hb)
    have HNB3 := Lib.hid (HNB2.out.keep hb)
    have HNs3 := Lib.hid (HNs2.out.keep hb)
    have HNd3 := Lib.hid (HNd2.out.keep hb)
    clear HW2 HNA2 HNB2 HNs2 HNd2
    have HNe3 := Lib.hid hn
    have He := Lib.hid he
    clear hb hn he
    go_wp2_with fail
    refine (sub_ok ps _ cs (limbs s) pB mB cB B _ HNs3.out HNB3.out rfl HLB.out (by omega) (by first | omega | (rw [HLB.out]; omega))).mono ?_
    rintro e w4 hR
    simp only [val_limbs] at hR
    rw [leB_true (show val B ≤ s from by rw [Hs.out]; omega)] at hR
    obtain ⟨back, pback, cback, hback, rfl, hb, hn, hsback⟩ := sub_word hR (k := 13) (len_le hss (Nat.sub_le _ _))
    have HW4 := Lib.hid (HW3.out.trans (hb.mono HW3.out.size))
    have HNA4 := Lib.hid (HNA3.out.keep hb)
    have HNB4 := Lib.hid (HNB3.out.keep hb)
    have HNs4 := Lib.hid (HNs3.out.keep hb)
    have HNd4 := Lib.hid (HNd3.out.keep hb)
    have HNe4 := Lib.hid (HNe3.out.keep hb)
    clear HW3 HNA3 HNB3 HNs3 HNd3 HNe3
    have HNback4 := Lib.hid hn
    have Hback := Lib.hid hback
    clear hb hn hback
    go_wp2_with fail
    refine (radd_ok pA mA cA A pB mB cB B _ HNA4.out HNB4.out HLA.out HLB.out (by first | omega | (rw [HLA.out]; omega)) (by first | omega | (rw [HLB.out]; omega))).mono ?_
    rintro e w5 hR
    obtain ⟨t, pt, ct, ht, rfl, hb, hn, hst⟩ := hR.word (k := 13) (len_add hsA hsB (by omega) (by omega))
    have HW5 := Lib.hid (HW4.out.trans (hb.mono HW4.out.size))
    have HNA5 := Lib.hid (HNA4.out.keep hb)
    have HNB5 := Lib.hid (HNB4.out.keep hb)
    have HNs5 := Lib.hid (HNs4.out.keep hb)
    have HNd5 := Lib.hid (HNd4.out.keep hb)
    have HNe5 := Lib.hid (HNe4.out.keep hb)
    have HNback5 := Lib.hid (HNback4.out.keep hb)
    clear HW4 HNA4 HNB4 HNs4 HNd4 HNe4 HNback4
    have HNt5 := Lib.hid hn
    have Ht := Lib.hid ht
    clear hb hn ht
    go_wp2_with fail
    refine (same_ok ps _ cs (limbs s) pt _ ct (limbs t) _ HNs5.out HNt5.out rfl rfl).mono ?_
    rintro e w6 ⟨rfl, hb⟩
    rw [eq_limbs (show s = t from by rw [Hs.out, Ht.out])]
    have HW6 := Lib.hid (HW5.out.trans (hb.mono HW5.out.size))
    have HNA6 := Lib.hid (HNA5.out.keep hb)
    have HNB6 := Lib.hid (HNB5.out.keep hb)
    have HNs6 := Lib.hid (HNs5.out.keep hb)
    have HNd6 := Lib.hid (HNd5.out.keep hb)
    have HNe6 := Lib.hid (HNe5.out.keep hb)
    have HNback6 := Lib.hid (HNback5.out.keep hb)
    have HNt6 := Lib.hid (HNt5.out.keep hb)
    clear HW5 HNA5 HNB5 HNs5 HNd5 HNe5 HNback5 HNt5
    clear hb
    go_wp2_with fail
    refine (same_ok pd _ cd (limbs d) pe _ ce (limbs e) _ HNd6.out HNe6.out rfl rfl).mono ?_
    rintro e w7 ⟨rfl, hb⟩
    rw [eq_limbs (show d = e from by rw [Hd.out, He.out])]
    have HW7 := Lib.hid (HW6.out.trans (hb.mono HW6.out.size))
    have HNA7 := Lib.hid (HNA6.out.keep hb)
    have HNB7 := Lib.hid (HNB6.out.keep hb)
    have HNs7 := Lib.hid (HNs6.out.keep hb)
    have HNd7 := Lib.hid (HNd6.out.keep hb)
    have HNe7 := Lib.hid (HNe6.out.keep hb)
    have HNback7 := Lib.hid (HNback6.out.keep hb)
    have HNt7 := Lib.hid (HNt6.out.keep hb)
    clear HW6 HNA6 HNB6 HNs6 HNd6 HNe6 HNback6 HNt6
    clear hb
    go_wp2_with fail
    refine (rtrim_ok pA mA cA A _ HNA7.out HLA.out (by first | omega | (rw [HLA.out]; omega))).mono ?_
    rintro e w8 hR
    obtain ⟨u, pu, cu, hu, rfl, hb, hn, hsu⟩ := hR.word (k := 12) (hsA)
    have HW8 := Lib.hid (HW7.out.trans (hb.mono HW7.out.size))
    have HNA8 := Lib.hid (HNA7.out.keep hb)
    have HNB8 := Lib.hid (HNB7.out.keep hb)
    have HNs8 := Lib.hid (HNs7.out.keep hb)
    have HNd8 := Lib.hid (HNd7.out.keep hb)
    have HNe8 := Lib.hid (HNe7.out.keep hb)
    have HNback8 := Lib.hid (HNback7.out.keep hb)
    have HNt8 := Lib.hid (HNt7.out.keep hb)
    clear HW7 HNA7 HNB7 HNs7 HNd7 HNe7 HNback7 HNt7
    have HNu8 := Lib.hid hn
    have Hu := Lib.hid hu
    clear hb hn hu
    go_wp2_with fail
    refine (same_ok pback _ cback (limbs back) pu _ cu (limbs u) _ HNback8.out HNu8.out rfl rfl).mono ?_
    rintro e w9 ⟨rfl, hb⟩
    rw [eq_limbs (show back = u from by rw [Hback.out, Hs.out, Hu.out]; omega)]
    have HW9 := Lib.hid (HW8.out.trans (hb.mono HW8.out.size))
    have HNA9 := Lib.hid (HNA8.out.keep hb)
    have HNB9 := Lib.hid (HNB8.out.keep hb)
    have HNs9 := Lib.hid (HNs8.out.keep hb)
    have HNd9 := Lib.hid (HNd8.out.keep hb)
    have HNe9 := Lib.hid (HNe8.out.keep hb)
    have HNback9 := Lib.hid (HNback8.out.keep hb)
    have HNt9 := Lib.hid (HNt8.out.keep hb)
    have HNu9 := Lib.hid (HNu8.out.keep hb)
    clear HW8 HNA8 HNB8 HNs8 HNd8 HNe8 HNback8 HNt8 HNu8
    clear hb
    go_wp2_with fail
    refine (awake_ok _ (Tab.keep HT.out HW9.out hg) (Nat.lt_of_lt_of_le hg HW9.out.size)).mono ?_
    rintro e w10 ⟨rfl, hb⟩
    have HW10 := Lib.hid (HW9.out.trans (hb.mono HW9.out.size))
    have HNA10 := Lib.hid (HNA9.out.keep hb)
    have HNB10 := Lib.hid (HNB9.out.keep hb)
    have HNs10 := Lib.hid (HNs9.out.keep hb)
    have HNd10 := Lib.hid (HNd9.out.keep hb)
    have HNe10 := Lib.hid (HNe9.out.keep hb)
    have HNback10 := Lib.hid (HNback9.out.keep hb)
    have HNt10 := Lib.hid (HNt9.out.keep hb)
    have HNu10 := Lib.hid (HNu9.out.keep hb)
    clear HW9 HNA9 HNB9 HNs9 HNd9 HNe9 HNback9 HNt9 HNu9
    clear hb
    go_wp2_with fail
    go_ret
    exact ⟨rfl, HW10.out⟩
end Go.Proofs.YtfdjlkffhikaeaaDoor
