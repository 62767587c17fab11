/- NaturalExact: the walk. Printed by wg.py. -/
import Derived.Test.YtfdjlkffhikaeaaDoorWord
import Derived.Test.YtfdjlkffhikaeaaDoorDiv
import Derived.Test.YtfdjlkffhikaeaaDoorRefB
import Derived.Test.YtfdjlkffhikaeaaDoorRefD
import Derived.Test.YtfdjlkffhikaeaaDoorRefS
namespace Go.Proofs.YtfdjlkffhikaeaaDoor
open Go.RowKit Nt

set_option maxRecDepth 100000 in
set_option maxHeartbeats 2000000 in
theorem exact_walk (pA : Option Addr) (nA cA : Nat) (lA : List Nat) (pB : Option Addr) (nB cB : Nat) (lB : List Nat) (w : World) (haA : NatIn w pA cA lA) (haB : NatIn w pB cB lB) (hlA : lA.length = nA) (hlB : lB.length = nB) (ht : Tab w) (hg : 0 < w.heap.size) :
    Calls Tryd.prog 4 #[.slice pA nA cA, .slice pB nB cB] w fun e w' => e = .returned (.bool true) ∧ Below w.heap.size w w' := by
  have hcA := haA.le
  have hdA := haA.cap
  obtain ⟨mA, hmA⟩ : ∃ m, m = min nA 12 := ⟨_, rfl⟩
  have hAA := haA.take (k := mA) (by omega)
  have hLA : (lA.take mA).length = mA := by rw [List.length_take]; omega
  have hiA : min nA 12 = mA := hmA.symm
  have hjA : min (nA : Int) 12 = (mA : Int) := by omega
  have hkA : mA ≤ 12 := by omega
  have hoA : mA ≤ nA := by omega
  have heA : nA ≤ cA := by omega
  have hfA : mA ≤ cA := by omega
  obtain ⟨A, eA⟩ : ∃ L, L = lA.take mA := ⟨_, rfl⟩
  rw [← eA] at hAA hLA
  have hsA : (limbs (val A)).length ≤ 12 := len_val hAA.lim hLA hkA
  have HNA0 := Lib.hid hAA
  have HLA := Lib.hid hLA
  have hcB := haB.le
  have hdB := haB.cap
  obtain ⟨mB, hmB⟩ : ∃ m, m = min nB 12 := ⟨_, rfl⟩
  have hAB := haB.take (k := mB) (by omega)
  have hLB : (lB.take mB).length = mB := by rw [List.length_take]; omega
  have hiB : min nB 12 = mB := hmB.symm
  have hjB : min (nB : Int) 12 = (mB : Int) := by omega
  have hkB : mB ≤ 12 := by omega
  have hoB : mB ≤ nB := by omega
  have heB : nB ≤ cB := by omega
  have hfB : mB ≤ cB := by omega
  obtain ⟨B, eB⟩ : ∃ L, L = lB.take mB := ⟨_, rfl⟩
  rw [← eB] at hAB hLB
  have hsB : (limbs (val B)).length ≤ 12 := len_val hAB.lim hLB hkB
  have HNB0 := Lib.hid hAB
  have HLB := Lib.hid hLB
  have HT := Lib.hid ht
  have HW0 := Lib.hid (Below.refl w.heap.size w)
  clear ht haA hlA hmA eA hAA hLA hcA haB hlB hmB eB hAB hLB hcB
  have hcs : val A = 0 ∨ (val A ≠ 0 ∧ val B = 0) ∨ (val A ≠ 0 ∧ val B ≠ 0) := by omega
  have hxA := nb_len hsA
  have hxB := nb_len hsB
  have HCS := Lib.hid hcs
  clear hcs
  rcases HCS.out with hz | ⟨ha0, hz⟩ | ⟨ha0, hb0⟩
  all_goals clear HCS
  · have HZ := Lib.hid hz
    clear hz
    go_enter Tryd.func4, Tryd.ntmps4
    go_wp2_with fail
    refine (cut_ok pA nA cA _ heA hdA).mono ?_
    rintro e w' ⟨rfl, rfl⟩
    rw [hiA]
    go_wp2_with fail
    refine (cut_ok pB nB cB _ heB hdB).mono ?_
    rintro e w' ⟨rfl, rfl⟩
    rw [hiB]
    go_wp2_with fail
    refine (rbits_ok pA mA cA A _ HNA0.out HLA.out (by first | omega | (rw [HLA.out]; omega))).mono ?_
    rintro e w' ⟨rfl, rfl⟩
    rw [HZ.out, nb_zero]
    go_wp2_with fail
    refine (awake_ok _ (Tab.keep HT.out HW0.out hg) (Nat.lt_of_lt_of_le hg HW0.out.size)).mono ?_
    rintro e w1 ⟨rfl, hb⟩
    have HW1 := Lib.hid (HW0.out.trans (hb.mono HW0.out.size))
    have HNA1 := Lib.hid (HNA0.out.keep hb)
    have HNB1 := Lib.hid (HNB0.out.keep hb)
    clear HW0 HNA0 HNB0
    clear hb
    go_wp2_with fail
    go_ret
    exact ⟨rfl, HW1.out⟩
  · have HZ := Lib.hid hz
    have HA0 := Lib.hid ha0
    clear hz ha0
    have hm0 : (((nb (val A) : Nat) : Int) == 0) = false := nb_ne HA0.out
    go_enter Tryd.func4, Tryd.ntmps4
    go_wp2_with fail
    refine (cut_ok pA nA cA _ heA hdA).mono ?_
    rintro e w' ⟨rfl, rfl⟩
    rw [hiA]
    go_wp2_with fail
    refine (cut_ok pB nB cB _ heB hdB).mono ?_
    rintro e w' ⟨rfl, rfl⟩
    rw [hiB]
    go_wp2_with fail
    refine (rbits_ok pA mA cA A _ HNA0.out HLA.out (by first | omega | (rw [HLA.out]; omega))).mono ?_
    rintro e w' ⟨rfl, rfl⟩
    go_wp2_with fail
    refine (rbits_ok pB mB cB B _ HNB0.out HLB.out (by first | omega | (rw [HLB.out]; omega))).mono ?_
    rintro e w' ⟨rfl, rfl⟩
    rw [HZ.out, nb_zero]
    go_wp2_with fail
    refine (awake_ok _ (Tab.keep HT.out HW0.out hg) (Nat.lt_of_lt_of_le hg HW0.out.size)).mono ?_
    rintro e w1 ⟨rfl, hb⟩
    have HW1 := Lib.hid (HW0.out.trans (hb.mono HW0.out.size))
    have HNA1 := Lib.hid (HNA0.out.keep hb)
    have HNB1 := Lib.hid (HNB0.out.keep hb)
    clear HW0 HNA0 HNB0
    clear hb
    go_wp2_with fail
    go_ret
    exact ⟨rfl, HW1.out⟩
  · have HA0 := Lib.hid ha0
    have HB0 := Lib.hid hb0
    clear ha0 hb0
    have hm0 : (((nb (val A) : Nat) : Int) == 0) = false := nb_ne HA0.out
    have hn0 : (((nb (val B) : Nat) : Int) == 0) = false := nb_ne HB0.out
    go_enter Tryd.func4, Tryd.ntmps4
    go_wp2_with fail
    refine (cut_ok pA nA cA _ heA hdA).mono ?_
    rintro e w' ⟨rfl, rfl⟩
    rw [hiA]
    go_wp2_with fail
    refine (cut_ok pB nB cB _ heB hdB).mono ?_
    rintro e w' ⟨rfl, rfl⟩
    rw [hiB]
    go_wp2_with fail
    refine (rbits_ok pA mA cA A _ HNA0.out HLA.out (by first | omega | (rw [HLA.out]; omega))).mono ?_
    rintro e w' ⟨rfl, rfl⟩
    go_wp2_with fail
    refine (rbits_ok pB mB cB B _ HNB0.out HLB.out (by first | omega | (rw [HLB.out]; omega))).mono ?_
    rintro e w' ⟨rfl, rfl⟩
    go_wp2_with fail
    have HBp : Hid (0 < val B) := Nat.pos_of_ne_zero HB0.out
    have HAp : Hid (0 < val A) := Nat.pos_of_ne_zero HA0.out
    refine (rmul_ok pA mA cA A pB mB cB B _ HNA0.out HNB0.out HLA.out HLB.out (by first | omega | (rw [HLA.out]; omega)) (by first | omega | (rw [HLB.out]; omega))).mono ?_
    rintro e w1 hR
    obtain ⟨p, pp, cp, hp, rfl, hb, hn, hsp⟩ := hR.word (k := 24) (len_mul hsA hsB (by omega))
    have HW1 := Lib.hid (HW0.out.trans (hb.mono HW0.out.size))
    have HNA1 := Lib.hid (HNA0.out.keep hb)
    have HNB1 := Lib.hid (HNB0.out.keep hb)
    clear HW0 HNA0 HNB0
    have HNp1 := Lib.hid hn
    have Hp := Lib.hid hp
    clear hb hn hp
    go_wp2_with fail
    have hpB : Hid (1 ≤ p) := by rw [Hp.out]; exact Nat.mul_pos HAp.out HBp.out
    refine (divide_ok pp _ cp (limbs p) pB mB cB B _ HNp1.out HNB1.out rfl HLB.out (by omega) (by first | omega | (rw [HLB.out]; omega))).mono ?_
    rintro e w2 hR
    simp only [val_limbs] at hR
    rw [posB_true HBp.out, rmd_pos HBp.out] at hR
    obtain ⟨q, pq, cq, r, pr, cr, hq, hr, rfl, hb, hn, hn', hsq, hsr⟩ := hR.word (k := 24) (j := 24) (len_le hsp (Nat.div_le_self _ _)) (len_le hsp (Nat.mod_le _ _))
    have HW2 := Lib.hid (HW1.out.trans (hb.mono HW1.out.size))
    have HNA2 := Lib.hid (HNA1.out.keep hb)
    have HNB2 := Lib.hid (HNB1.out.keep hb)
    have HNp2 := Lib.hid (HNp1.out.keep hb)
    clear HW1 HNA1 HNB1 HNp1
    have HNq2 := Lib.hid hn
    have Hq := Lib.hid hq
    clear hn hq
    have HNr2 := Lib.hid hn'
    have Hr := Lib.hid hr
    clear hn' hr
    clear hb
    have hq1 : Hid (q = val A) := by rw [Hq.out, Hp.out]; exact Nat.mul_div_cancel _ HBp.out
    have hr1 : r = 0 := by rw [Hr.out, Hp.out]; exact Nat.mul_mod_left _ _
    have hr2 : (limbs r).length = 0 := by rw [hr1, limbs_zero]; rfl
    rw [hr2]
    clear hr1 hr2
    clear HNr2
    go_wp2_with fail
    have hn := natIn_new w2 (cs := #[.int .u32 1]) (L := [1]) (n := 1) (by simp [limbV]) (lim_cons (by omega) lim_nil) rfl (by omega)
    have hb := below_new w2 (.cells #[.int .u32 1] 35)
    have HW3 := Lib.hid (HW2.out.trans (hb.mono HW2.out.size))
    have HNA3 := Lib.hid (HNA2.out.keep hb)
    have HNB3 := Lib.hid (HNB2.out.keep hb)
    have HNp3 := Lib.hid (HNp2.out.keep hb)
    have HNq3 := Lib.hid (HNq2.out.keep hb)
    clear HW2 HNA2 HNB2 HNp2 HNq2
    have HNI3 := Lib.hid hn
    clear hb hn
    refine (rsub_ok pp _ cp (limbs p) _ 1 1 [1] _ HNp3.out HNI3.out rfl rfl (by omega) (by omega)).mono ?_
    rintro e w4 hR
    simp only [val_limbs, val_one] at hR
    rw [leB_true hpB.out] at hR
    obtain ⟨less, pless, cless, hless, rfl, hb, hn, hsless⟩ := sub_word hR (k := 24) (len_le hsp (Nat.sub_le _ _))
    have HW4 := Lib.hid (HW3.out.trans (hb.mono HW3.out.size))
    have HNA4 := Lib.hid (HNA3.out.keep hb)
    have HNB4 := Lib.hid (HNB3.out.keep hb)
    have HNp4 := Lib.hid (HNp3.out.keep hb)
    have HNq4 := Lib.hid (HNq3.out.keep hb)
    have HNI4 := Lib.hid (HNI3.out.keep hb)
    clear HW3 HNA3 HNB3 HNp3 HNq3 HNI3
    have HNless4 := Lib.hid hn
    have Hless := Lib.hid hless
    clear hb hn hless
    go_wp2_with fail
    clear HNI4
    refine (divide_ok pless _ cless (limbs less) pB mB cB B _ HNless4.out HNB4.out rfl HLB.out (by omega) (by first | omega | (rw [HLB.out]; omega))).mono ?_
    rintro e w5 hR
    simp only [val_limbs] at hR
    rw [posB_true HBp.out, rmd_pos HBp.out] at hR
    obtain ⟨s, ps, cs, t, pt, ct, hs, ht, rfl, hb, hn, hn', hss, hst⟩ := hR.word (k := 24) (j := 24) (len_le hsless (Nat.div_le_self _ _)) (len_le hsless (Nat.mod_le _ _))
    have HW5 := Lib.hid (HW4.out.trans (hb.mono HW4.out.size))
    have HNA5 := Lib.hid (HNA4.out.keep hb)
    have HNB5 := Lib.hid (HNB4.out.keep hb)
    have HNp5 := Lib.hid (HNp4.out.keep hb)
    have HNq5 := Lib.hid (HNq4.out.keep hb)
    have HNless5 := Lib.hid (HNless4.out.keep hb)
    clear HW4 HNA4 HNB4 HNp4 HNq4 HNless4
    have HNs5 := Lib.hid hn
    have Hs := Lib.hid hs
    clear hn hs
    have HNt5 := Lib.hid hn'
    have Ht := Lib.hid ht
    clear hn' ht
    clear hb
    have hd := exact_divmod HAp.out HBp.out (show less = val A * val B - 1 from by rw [Hless.out, Hp.out])
    have hs1 : Hid (s + 1 = val A) := by rw [Hs.out]; exact hd.1
    have ht1 : Hid (t + 1 = val B) := by rw [Ht.out]; exact hd.2
    clear hd
    go_wp2_with fail
    refine (rtrim_ok pA mA cA A _ HNA5.out HLA.out (by first | omega | (rw [HLA.out]; omega))).mono ?_
    rintro e w6 hR
    obtain ⟨u, pu, cu, hu, rfl, hb, hn, hsu⟩ := hR.word (k := 12) (hsA)
    have HW6 := Lib.hid (HW5.out.trans (hb.mono HW5.out.size))
    have HNA6 := Lib.hid (HNA5.out.keep hb)
    have HNB6 := Lib.hid (HNB5.out.keep hb)
    have HNp6 := Lib.hid (HNp5.out.keep hb)
    have HNq6 := Lib.hid (HNq5.out.keep hb)
    have HNless6 := Lib.hid (HNless5.out.keep hb)
    have HNs6 := Lib.hid (HNs5.out.keep hb)
    have HNt6 := Lib.hid (HNt5.out.keep hb)
    clear HW5 HNA5 HNB5 HNp5 HNq5 HNless5 HNs5 HNt5
    have HNu6 := Lib.hid hn
    have Hu := Lib.hid hu
    clear hb hn hu
    go_wp2_with fail
    refine (same_ok pq _ cq (limbs q) pu _ cu (limbs u) _ HNq6.out HNu6.out rfl rfl).mono ?_
    rintro e w7 ⟨rfl, hb⟩
    rw [eq_limbs (show q = u from by rw [hq1.out, Hu.out])]
    have HW7 := Lib.hid (HW6.out.trans (hb.mono HW6.out.size))
    have HNA7 := Lib.hid (HNA6.out.keep hb)
    have HNB7 := Lib.hid (HNB6.out.keep hb)
    have HNp7 := Lib.hid (HNp6.out.keep hb)
    have HNq7 := Lib.hid (HNq6.out.keep hb)
    have HNless7 := Lib.hid (HNless6.out.keep hb)
    have HNs7 := Lib.hid (HNs6.out.keep hb)
    have HNt7 := Lib.hid (HNt6.out.keep hb)
    have HNu7 := Lib.hid (HNu6.out.keep hb)
    clear HW6 HNA6 HNB6 HNp6 HNq6 HNless6 HNs6 HNt6 HNu6
    clear hb
    go_wp2_with fail
    clear HNu7
    clear HNq7
    have hn := natIn_new w7 (cs := #[.int .u32 1]) (L := [1]) (n := 1) (by simp [limbV]) (lim_cons (by omega) lim_nil) rfl (by omega)
    have hb := below_new w7 (.cells #[.int .u32 1] 35)
    have HW8 := Lib.hid (HW7.out.trans (hb.mono HW7.out.size))
    have HNA8 := Lib.hid (HNA7.out.keep hb)
    have HNB8 := Lib.hid (HNB7.out.keep hb)
    have HNp8 := Lib.hid (HNp7.out.keep hb)
    have HNless8 := Lib.hid (HNless7.out.keep hb)
    have HNs8 := Lib.hid (HNs7.out.keep hb)
    have HNt8 := Lib.hid (HNt7.out.keep hb)
    clear HW7 HNA7 HNB7 HNp7 HNless7 HNs7 HNt7
    have HNJ8 := Lib.hid hn
    clear hb hn
    have hsJ := hsI
    refine (radd_ok ps _ cs (limbs s) _ 1 1 [1] _ HNs8.out HNJ8.out rfl rfl (by omega) (by omega)).mono ?_
    rintro e w9 hR
    simp only [val_limbs, val_one] at hR
    obtain ⟨v, pv, cv, hv, rfl, hb, hn, hsv⟩ := hR.word (k := 25) (len_add hss hsJ (by omega) (by omega))
    have HW9 := Lib.hid (HW8.out.trans (hb.mono HW8.out.size))
    have HNA9 := Lib.hid (HNA8.out.keep hb)
    have HNB9 := Lib.hid (HNB8.out.keep hb)
    have HNp9 := Lib.hid (HNp8.out.keep hb)
    have HNless9 := Lib.hid (HNless8.out.keep hb)
    have HNs9 := Lib.hid (HNs8.out.keep hb)
    have HNt9 := Lib.hid (HNt8.out.keep hb)
    have HNJ9 := Lib.hid (HNJ8.out.keep hb)
    clear HW8 HNA8 HNB8 HNp8 HNless8 HNs8 HNt8 HNJ8
    have HNv9 := Lib.hid hn
    have Hv := Lib.hid hv
    clear hb hn hv
    go_wp2_with fail
    clear HNJ9
    refine (rtrim_ok pA mA cA A _ HNA9.out HLA.out (by first | omega | (rw [HLA.out]; omega))).mono ?_
    rintro e w10 hR
    obtain ⟨x, px, cx, hx, rfl, hb, hn, hsx⟩ := hR.word (k := 12) (hsA)
    have HW10 := Lib.hid (HW9.out.trans (hb.mono HW9.out.size))
    have HNA10 := Lib.hid (HNA9.out.keep hb)
    have HNB10 := Lib.hid (HNB9.out.keep hb)
    have HNp10 := Lib.hid (HNp9.out.keep hb)
    have HNless10 := Lib.hid (HNless9.out.keep hb)
    have HNs10 := Lib.hid (HNs9.out.keep hb)
    have HNt10 := Lib.hid (HNt9.out.keep hb)
    have HNv10 := Lib.hid (HNv9.out.keep hb)
    clear HW9 HNA9 HNB9 HNp9 HNless9 HNs9 HNt9 HNv9
    have HNx10 := Lib.hid hn
    have Hx := Lib.hid hx
    clear hb hn hx
    go_wp2_with fail
    refine (same_ok pv _ cv (limbs v) px _ cx (limbs x) _ HNv10.out HNx10.out rfl rfl).mono ?_
    rintro e w11 ⟨rfl, hb⟩
    rw [eq_limbs (show v = x from by rw [Hv.out, Hx.out, hs1.out])]
    have HW11 := Lib.hid (HW10.out.trans (hb.mono HW10.out.size))
    have HNA11 := Lib.hid (HNA10.out.keep hb)
    have HNB11 := Lib.hid (HNB10.out.keep hb)
    have HNp11 := Lib.hid (HNp10.out.keep hb)
    have HNless11 := Lib.hid (HNless10.out.keep hb)
    have HNs11 := Lib.hid (HNs10.out.keep hb)
    have HNt11 := Lib.hid (HNt10.out.keep hb)
    have HNv11 := Lib.hid (HNv10.out.keep hb)
    have HNx11 := Lib.hid (HNx10.out.keep hb)
    clear HW10 HNA10 HNB10 HNp10 HNless10 HNs10 HNt10 HNv10 HNx10
    clear hb
    go_wp2_with fail
    have hn := natIn_new w11 (cs := #[.int .u32 1]) (L := [1]) (n := 1) (by simp [limbV]) (lim_cons (by omega) lim_nil) rfl (by omega)
    have hb := below_new w11 (.cells #[.int .u32 1] 35)
    have HW12 := Lib.hid (HW11.out.trans (hb.mono HW11.out.size))
    have HNA12 := Lib.hid (HNA11.out.keep hb)
    have HNB12 := Lib.hid (HNB11.out.keep hb)
    have HNp12 := Lib.hid (HNp11.out.keep hb)
    have HNless12 := Lib.hid (HNless11.out.keep hb)
    have HNs12 := Lib.hid (HNs11.out.keep hb)
    have HNt12 := Lib.hid (HNt11.out.keep hb)
    have HNv12 := Lib.hid (HNv11.out.keep hb)
    have HNx12 := Lib.hid (HNx11.out.keep hb)
    clear HW11 HNA11 HNB11 HNp11 HNless11 HNs11 HNt11 HNv11 HNx11
    have HNK12 := Lib.hid hn
    clear hb hn
    have hsK := hsI
    refine (radd_ok pt _ ct (limbs t) _ 1 1 [1] _ HNt12.out HNK12.out rfl rfl (by omega) (by omega)).mono ?_
    rintro e w13 hR
    simp only [val_limbs, val_one] at hR
    obtain ⟨y, py, cy, hy, rfl, hb, hn, hsy⟩ := hR.word (k := 25) (len_add hst hsK (by omega) (by omega))
    have HW13 := Lib.hid (HW12.out.trans (hb.mono HW12.out.size))
    have HNA13 := Lib.hid (HNA12.out.keep hb)
    have HNB13 := Lib.hid (HNB12.out.keep hb)
    have HNp13 := Lib.hid (HNp12.out.keep hb)
    have HNless13 := Lib.hid (HNless12.out.keep hb)
    have HNs13 := Lib.hid (HNs12.out.keep hb)
    have HNt13 := Lib.hid (HNt12.out.keep hb)
    have HNv13 := Lib.hid (HNv12.out.keep hb)
    have HNx13 := Lib.hid (HNx12.out.keep hb)
    have HNK13 := Lib.hid (HNK12.out.keep hb)
    clear HW12 HNA12 HNB12 HNp12 HNless12 HNs12 HNt12 HNv12 HNx12 HNK12
    have HNy13 := Lib.hid hn
    have Hy := Lib.hid hy
    clear hb hn hy
    go_wp2_with fail
    clear HNK13
    refine (rtrim_ok pB mB cB B _ HNB13.out HLB.out (by first | omega | (rw [HLB.out]; omega))).mono ?_
    rintro e w14 hR
    obtain ⟨z, pz, cz, hz, rfl, hb, hn, hsz⟩ := hR.word (k := 12) (hsB)
    have HW14 := Lib.hid (HW13.out.trans (hb.mono HW13.out.size))
    have HNA14 := Lib.hid (HNA13.out.keep hb)
    have HNB14 := Lib.hid (HNB13.out.keep hb)
    have HNp14 := Lib.hid (HNp13.out.keep hb)
    have HNless14 := Lib.hid (HNless13.out.keep hb)
    have HNs14 := Lib.hid (HNs13.out.keep hb)
    have HNt14 := Lib.hid (HNt13.out.keep hb)
    have HNv14 := Lib.hid (HNv13.out.keep hb)
    have HNx14 := Lib.hid (HNx13.out.keep hb)
    have HNy14 := Lib.hid (HNy13.out.keep hb)
    clear HW13 HNA13 HNB13 HNp13 HNless13 HNs13 HNt13 HNv13 HNx13 HNy13
    have HNz14 := Lib.hid hn
    have Hz := Lib.hid hz
    clear hb hn hz
    go_wp2_with fail
    refine (same_ok py _ cy (limbs y) pz _ cz (limbs z) _ HNy14.out HNz14.out rfl rfl).mono ?_
    rintro e w15 ⟨rfl, hb⟩
    rw [eq_limbs (show y = z from by rw [Hy.out, Hz.out, ht1.out])]
    have HW15 := Lib.hid (HW14.out.trans (hb.mono HW14.out.size))
    have HNA15 := Lib.hid (HNA14.out.keep hb)
    have HNB15 := Lib.hid (HNB14.out.keep hb)
    have HNp15 := Lib.hid (HNp14.out.keep hb)
    have HNless15 := Lib.hid (HNless14.out.keep hb)
    have HNs15 := Lib.hid (HNs14.out.keep hb)
    have HNt15 := Lib.hid (HNt14.out.keep hb)
    have HNv15 := Lib.hid (HNv14.out.keep hb)
    have HNx15 := Lib.hid (HNx14.out.keep hb)
    have HNy15 := Lib.hid (HNy14.out.keep hb)
    have HNz15 := Lib.hid (HNz14.out.keep hb)
    clear HW14 HNA14 HNB14 HNp14 HNless14 HNs14 HNt14 HNv14 HNx14 HNy14 HNz14
    clear hb
    go_wp2_with fail
    refine (awake_ok _ (Tab.keep HT.out HW15.out hg) (Nat.lt_of_lt_of_le hg HW15.out.size)).mono ?_
    rintro e w16 ⟨rfl, hb⟩
    have HW16 := Lib.hid (HW15.out.trans (hb.mono HW15.out.size))
    have HNA16 := Lib.hid (HNA15.out.keep hb)
    have HNB16 := Lib.hid (HNB15.out.keep hb)
    have HNp16 := Lib.hid (HNp15.out.keep hb)
    have HNless16 := Lib.hid (HNless15.out.keep hb)
    have HNs16 := Lib.hid (HNs15.out.keep hb)
    have HNt16 := Lib.hid (HNt15.out.keep hb)
    have HNv16 := Lib.hid (HNv15.out.keep hb)
    have HNx16 := Lib.hid (HNx15.out.keep hb)
    have HNy16 := Lib.hid (HNy15.out.keep hb)
    have HNz16 := Lib.hid (HNz15.out.keep hb)
    clear HW15 HNA15 HNB15 HNp15 HNless15 HNs15 HNt15 HNv15 HNx15 HNy15 HNz15
    clear hb
    go_wp2_with fail
    go_ret
    exact ⟨rfl, HW16.out⟩
end Go.Proofs.YtfdjlkffhikaeaaDoor
