/- NaturalRing: the walk. Printed by wg.py. -/
import Derived.Test.YtfdjlkffhikaeaaDoorWord
import Derived.Test.YtfdjlkffhikaeaaDoorAdd
import Derived.Test.YtfdjlkffhikaeaaDoorMul
namespace Go.Proofs.YtfdjlkffhikaeaaDoor
open Go.RowKit Nt

set_option maxRecDepth 100000 in
set_option maxHeartbeats 2000000 in
theorem ring_walk (pA : Option Addr) (nA cA : Nat) (lA : List Nat) (pB : Option Addr) (nB cB : Nat) (lB : List Nat) (pC : Option Addr) (nC cC : Nat) (lC : List Nat) (w : World) (haA : NatIn w pA cA lA) (haB : NatIn w pB cB lB) (haC : NatIn w pC cC lC) (hlA : lA.length = nA) (hlB : lB.length = nB) (hlC : lC.length = nC) (ht : Tab w) (hg : 0 < w.heap.size) :
    Calls Tryd.prog 9 #[.slice pA nA cA, .slice pB nB cB, .slice pC nC cC] w fun e w' => e = .returned (.bool true) ∧ Below w.heap.size w w' := by
  have hcA := haA.le
  have hdA := haA.cap
  obtain ⟨mA, hmA⟩ : ∃ m, m = min nA 12 := ⟨_, rfl⟩
  have hAA := haA.take (k := mA) (by omega)
  have hLA : (lA.take mA).length = mA := by rw [List.length_take]; omega
  have hiA : min nA 12 = mA := hmA.symm
  have hjA : min (nA : Int) 12 = (mA : Int) := by omega
  have hkA : mA ≤ 12 := by omega
  have hoA : mA ≤ nA := by omega
  have heA : nA ≤ cA := by omega
  have hfA : mA ≤ cA := by omega
  obtain ⟨A, eA⟩ : ∃ L, L = lA.take mA := ⟨_, rfl⟩
  rw [← eA] at hAA hLA
  have hsA : (limbs (val A)).length ≤ 12 := len_val hAA.lim hLA hkA
  have HNA0 := Lib.hid hAA
  have HLA := Lib.hid hLA
  have hcB := haB.le
  have hdB := haB.cap
  obtain ⟨mB, hmB⟩ : ∃ m, m = min nB 12 := ⟨_, rfl⟩
  have hAB := haB.take (k := mB) (by omega)
  have hLB : (lB.take mB).length = mB := by rw [List.length_take]; omega
  have hiB : min nB 12 = mB := hmB.symm
  have hjB : min (nB : Int) 12 = (mB : Int) := by omega
  have hkB : mB ≤ 12 := by omega
  have hoB : mB ≤ nB := by omega
  have heB : nB ≤ cB := by omega
  have hfB : mB ≤ cB := by omega
  obtain ⟨B, eB⟩ : ∃ L, L = lB.take mB := ⟨_, rfl⟩
  rw [← eB] at hAB hLB
  have hsB : (limbs (val B)).length ≤ 12 := len_val hAB.lim hLB hkB
  have HNB0 := Lib.hid hAB
  have HLB := Lib.hid hLB
  have hcC := haC.le
  have hdC := haC.cap
  obtain ⟨mC, hmC⟩ : ∃ m, m = min nC 12 := ⟨_, rfl⟩
  have hAC := haC.take (k := mC) (by omega)
  have hLC : (lC.take mC).length = mC := by rw [List.length_take]; omega
  have hiC : min nC 12 = mC := hmC.symm
  have hjC : min (nC : Int) 12 = (mC : Int) := by omega
  have hkC : mC ≤ 12 := by omega
  have hoC : mC ≤ nC := by omega
  have heC : nC ≤ cC := by omega
  have hfC : mC ≤ cC := by omega
  obtain ⟨C, eC⟩ : ∃ L, L = lC.take mC := ⟨_, rfl⟩
  rw [← eC] at hAC hLC
  have hsC : (limbs (val C)).length ≤ 12 := len_val hAC.lim hLC hkC
  have HNC0 := Lib.hid hAC
  have HLC := Lib.hid hLC
  have HT := Lib.hid ht
  have HW0 := Lib.hid (Below.refl w.heap.size w)
  clear ht haA hlA hmA eA hAA hLA hcA haB hlB hmB eB hAB hLB hcB haC hlC hmC eC hAC hLC hcC
  go_enter Tryd.func9, Tryd.ntmps9
  go_wp2_with fail
  refine (cut_ok pA nA cA _ heA hdA).mono ?_
  rintro e w' ⟨rfl, rfl⟩
  rw [hiA]
  go_wp2_with fail
  refine (cut_ok pB nB cB _ heB hdB).mono ?_
  rintro e w' ⟨rfl, rfl⟩
  rw [hiB]
  go_wp2_with fail
  refine (cut_ok pC nC cC _ heC hdC).mono ?_
  rintro e w' ⟨rfl, rfl⟩
  rw [hiC]
  go_wp2_with fail
  refine (add_ok pA mA cA A pB mB cB B _ HNA0.out HNB0.out HLA.out HLB.out (by first | omega | (rw [HLA.out]; omega)) (by first | omega | (rw [HLB.out]; omega))).mono ?_
  rintro e w1 hR
  try simp only [val_limbs] at hR
  obtain ⟨x1, px1, cx1, hx1, rfl, hb, hn, hsx1⟩ := hR.word (k := 13) (len_add hsA hsB (by omega) (by omega))
  have HW1 := Lib.hid (HW0.out.trans (hb.mono HW0.out.size))
  have HNA1 := Lib.hid (HNA0.out.keep hb)
  have HNB1 := Lib.hid (HNB0.out.keep hb)
  have HNC1 := Lib.hid (HNC0.out.keep hb)
  clear HW0 HNA0 HNB0 HNC0
  have HNx11 := Lib.hid hn
  have Hx1 := Lib.hid hx1
  clear hb hn hx1
  go_wp2_with fail
  refine (add_ok pB mB cB B pA mA cA A _ HNB1.out HNA1.out HLB.out HLA.out (by first | omega | (rw [HLB.out]; omega)) (by first | omega | (rw [HLA.out]; omega))).mono ?_
  rintro e w2 hR
  try simp only [val_limbs] at hR
  obtain ⟨x2, px2, cx2, hx2, rfl, hb, hn, hsx2⟩ := hR.word (k := 13) (len_add hsB hsA (by omega) (by omega))
  have HW2 := Lib.hid (HW1.out.trans (hb.mono HW1.out.size))
  have HNA2 := Lib.hid (HNA1.out.keep hb)
  have HNB2 := Lib.hid (HNB1.out.keep hb)
  have HNC2 := Lib.hid (HNC1.out.keep hb)
  have HNx12 := Lib.hid (HNx11.out.keep hb)
  clear HW1 HNA1 HNB1 HNC1 HNx11
  have HNx22 := Lib.hid hn
  have Hx2 := Lib.hid hx2
  clear hb hn hx2
  go_wp2_with fail
  refine (same_ok px1 _ cx1 (limbs x1) px2 _ cx2 (limbs x2) _ HNx12.out HNx22.out rfl rfl).mono ?_
  rintro e w3 ⟨rfl, hb⟩
  rw [eq_limbs (show x1 = x2 from by rw [Hx1.out, Hx2.out, Nat.add_comm])]
  have HW3 := Lib.hid (HW2.out.trans (hb.mono HW2.out.size))
  have HNA3 := Lib.hid (HNA2.out.keep hb)
  have HNB3 := Lib.hid (HNB2.out.keep hb)
  have HNC3 := Lib.hid (HNC2.out.keep hb)
  have HNx13 := Lib.hid (HNx12.out.keep hb)
  have HNx23 := Lib.hid (HNx22.out.keep hb)
  clear HW2 HNA2 HNB2 HNC2 HNx12 HNx22
  clear hb
  go_wp2_with fail
  clear HNx13
  clear HNx23
  refine (add_ok pA mA cA A pB mB cB B _ HNA3.out HNB3.out HLA.out HLB.out (by first | omega | (rw [HLA.out]; omega)) (by first | omega | (rw [HLB.out]; omega))).mono ?_
  rintro e w4 hR
  try simp only [val_limbs] at hR
  obtain ⟨y1, py1, cy1, hy1, rfl, hb, hn, hsy1⟩ := hR.word (k := 13) (len_add hsA hsB (by omega) (by omega))
  have HW4 := Lib.hid (HW3.out.trans (hb.mono HW3.out.size))
  have HNA4 := Lib.hid (HNA3.out.keep hb)
  have HNB4 := Lib.hid (HNB3.out.keep hb)
  have HNC4 := Lib.hid (HNC3.out.keep hb)
  clear HW3 HNA3 HNB3 HNC3
  have HNy14 := Lib.hid hn
  have Hy1 := Lib.hid hy1
  clear hb hn hy1
  go_wp2_with fail
  refine (add_ok py1 _ cy1 (limbs y1) pC mC cC C _ HNy14.out HNC4.out rfl HLC.out (by omega) (by first | omega | (rw [HLC.out]; omega))).mono ?_
  rintro e w5 hR
  try simp only [val_limbs] at hR
  obtain ⟨y2, py2, cy2, hy2, rfl, hb, hn, hsy2⟩ := hR.word (k := 14) (len_add hsy1 hsC (by omega) (by omega))
  have HW5 := Lib.hid (HW4.out.trans (hb.mono HW4.out.size))
  have HNA5 := Lib.hid (HNA4.out.keep hb)
  have HNB5 := Lib.hid (HNB4.out.keep hb)
  have HNC5 := Lib.hid (HNC4.out.keep hb)
  have HNy15 := Lib.hid (HNy14.out.keep hb)
  clear HW4 HNA4 HNB4 HNC4 HNy14
  have HNy25 := Lib.hid hn
  have Hy2 := Lib.hid hy2
  clear hb hn hy2
  go_wp2_with fail
  refine (add_ok pB mB cB B pC mC cC C _ HNB5.out HNC5.out HLB.out HLC.out (by first | omega | (rw [HLB.out]; omega)) (by first | omega | (rw [HLC.out]; omega))).mono ?_
  rintro e w6 hR
  try simp only [val_limbs] at hR
  obtain ⟨y3, py3, cy3, hy3, rfl, hb, hn, hsy3⟩ := hR.word (k := 13) (len_add hsB hsC (by omega) (by omega))
  have HW6 := Lib.hid (HW5.out.trans (hb.mono HW5.out.size))
  have HNA6 := Lib.hid (HNA5.out.keep hb)
  have HNB6 := Lib.hid (HNB5.out.keep hb)
  have HNC6 := Lib.hid (HNC5.out.keep hb)
  have HNy16 := Lib.hid (HNy15.out.keep hb)
  have HNy26 := Lib.hid (HNy25.out.keep hb)
  clear HW5 HNA5 HNB5 HNC5 HNy15 HNy25
  have HNy36 := Lib.hid hn
  have Hy3 := Lib.hid hy3
  clear hb hn hy3
  go_wp2_with fail
  refine (add_ok pA mA cA A py3 _ cy3 (limbs y3) _ HNA6.out HNy36.out HLA.out rfl (by first | omega | (rw [HLA.out]; omega)) (by omega)).mono ?_
  rintro e w7 hR
  try simp only [val_limbs] at hR
  obtain ⟨y4, py4, cy4, hy4, rfl, hb, hn, hsy4⟩ := hR.word (k := 14) (len_add hsA hsy3 (by omega) (by omega))
  have HW7 := Lib.hid (HW6.out.trans (hb.mono HW6.out.size))
  have HNA7 := Lib.hid (HNA6.out.keep hb)
  have HNB7 := Lib.hid (HNB6.out.keep hb)
  have HNC7 := Lib.hid (HNC6.out.keep hb)
  have HNy17 := Lib.hid (HNy16.out.keep hb)
  have HNy27 := Lib.hid (HNy26.out.keep hb)
  have HNy37 := Lib.hid (HNy36.out.keep hb)
  clear HW6 HNA6 HNB6 HNC6 HNy16 HNy26 HNy36
  have HNy47 := Lib.hid hn
  have Hy4 := Lib.hid hy4
  clear hb hn hy4
  go_wp2_with fail
  refine (same_ok py2 _ cy2 (limbs y2) py4 _ cy4 (limbs y4) _ HNy27.out HNy47.out rfl rfl).mono ?_
  rintro e w8 ⟨rfl, hb⟩
  rw [eq_limbs (show y2 = y4 from by rw [Hy2.out, Hy1.out, Hy4.out, Hy3.out, Nat.add_assoc])]
  have HW8 := Lib.hid (HW7.out.trans (hb.mono HW7.out.size))
  have HNA8 := Lib.hid (HNA7.out.keep hb)
  have HNB8 := Lib.hid (HNB7.out.keep hb)
  have HNC8 := Lib.hid (HNC7.out.keep hb)
  have HNy18 := Lib.hid (HNy17.out.keep hb)
  have HNy28 := Lib.hid (HNy27.out.keep hb)
  have HNy38 := Lib.hid (HNy37.out.keep hb)
  have HNy48 := Lib.hid (HNy47.out.keep hb)
  clear HW7 HNA7 HNB7 HNC7 HNy17 HNy27 HNy37 HNy47
  clear hb
  go_wp2_with fail
  clear HNy18
  clear HNy28
  clear HNy38
  clear HNy48
  refine (mul_ok pA mA cA A pB mB cB B _ HNA8.out HNB8.out HLA.out HLB.out (by first | omega | (rw [HLA.out]; omega)) (by first | omega | (rw [HLB.out]; omega))).mono ?_
  rintro e w9 hR
  try simp only [val_limbs] at hR
  obtain ⟨u1, pu1, cu1, hu1, rfl, hb, hn, hsu1⟩ := hR.word (k := 24) (len_mul hsA hsB (by omega))
  have HW9 := Lib.hid (HW8.out.trans (hb.mono HW8.out.size))
  have HNA9 := Lib.hid (HNA8.out.keep hb)
  have HNB9 := Lib.hid (HNB8.out.keep hb)
  have HNC9 := Lib.hid (HNC8.out.keep hb)
  clear HW8 HNA8 HNB8 HNC8
  have HNu19 := Lib.hid hn
  have Hu1 := Lib.hid hu1
  clear hb hn hu1
  go_wp2_with fail
  refine (mul_ok pB mB cB B pA mA cA A _ HNB9.out HNA9.out HLB.out HLA.out (by first | omega | (rw [HLB.out]; omega)) (by first | omega | (rw [HLA.out]; omega))).mono ?_
  rintro e w10 hR
  try simp only [val_limbs] at hR
  obtain ⟨u2, pu2, cu2, hu2, rfl, hb, hn, hsu2⟩ := hR.word (k := 24) (len_mul hsB hsA (by omega))
  have HW10 := Lib.hid (HW9.out.trans (hb.mono HW9.out.size))
  have HNA10 := Lib.hid (HNA9.out.keep hb)
  have HNB10 := Lib.hid (HNB9.out.keep hb)
  have HNC10 := Lib.hid (HNC9.out.keep hb)
  have HNu110 := Lib.hid (HNu19.out.keep hb)
  clear HW9 HNA9 HNB9 HNC9 HNu19
  have HNu210 := Lib.hid hn
  have Hu2 := Lib.hid hu2
  clear hb hn hu2
  go_wp2_with fail
  refine (same_ok pu1 _ cu1 (limbs u1) pu2 _ cu2 (limbs u2) _ HNu110.out HNu210.out rfl rfl).mono ?_
  rintro e w11 ⟨rfl, hb⟩
  rw [eq_limbs (show u1 = u2 from by rw [Hu1.out, Hu2.out, Nat.mul_comm])]
  have HW11 := Lib.hid (HW10.out.trans (hb.mono HW10.out.size))
  have HNA11 := Lib.hid (HNA10.out.keep hb)
  have HNB11 := Lib.hid (HNB10.out.keep hb)
  have HNC11 := Lib.hid (HNC10.out.keep hb)
  have HNu111 := Lib.hid (HNu110.out.keep hb)
  have HNu211 := Lib.hid (HNu210.out.keep hb)
  clear HW10 HNA10 HNB10 HNC10 HNu110 HNu210
  clear hb
  go_wp2_with fail
  clear HNu111
  clear HNu211
  refine (mul_ok pA mA cA A pB mB cB B _ HNA11.out HNB11.out HLA.out HLB.out (by first | omega | (rw [HLA.out]; omega)) (by first | omega | (rw [HLB.out]; omega))).mono ?_
  rintro e w12 hR
  try simp only [val_limbs] at hR
  obtain ⟨v1, pv1, cv1, hv1, rfl, hb, hn, hsv1⟩ := hR.word (k := 24) (len_mul hsA hsB (by omega))
  have HW12 := Lib.hid (HW11.out.trans (hb.mono HW11.out.size))
  have HNA12 := Lib.hid (HNA11.out.keep hb)
  have HNB12 := Lib.hid (HNB11.out.keep hb)
  have HNC12 := Lib.hid (HNC11.out.keep hb)
  clear HW11 HNA11 HNB11 HNC11
  have HNv112 := Lib.hid hn
  have Hv1 := Lib.hid hv1
  clear hb hn hv1
  go_wp2_with fail
  refine (mul_ok pv1 _ cv1 (limbs v1) pC mC cC C _ HNv112.out HNC12.out rfl HLC.out (by omega) (by first | omega | (rw [HLC.out]; omega))).mono ?_
  rintro e w13 hR
  try simp only [val_limbs] at hR
  obtain ⟨v2, pv2, cv2, hv2, rfl, hb, hn, hsv2⟩ := hR.word (k := 36) (len_mul hsv1 hsC (by omega))
  have HW13 := Lib.hid (HW12.out.trans (hb.mono HW12.out.size))
  have HNA13 := Lib.hid (HNA12.out.keep hb)
  have HNB13 := Lib.hid (HNB12.out.keep hb)
  have HNC13 := Lib.hid (HNC12.out.keep hb)
  have HNv113 := Lib.hid (HNv112.out.keep hb)
  clear HW12 HNA12 HNB12 HNC12 HNv112
  have HNv213 := Lib.hid hn
  have Hv2 := Lib.hid hv2
  clear hb hn hv2
  go_wp2_with fail
  refine (mul_ok pB mB cB B pC mC cC C _ HNB13.out HNC13.out HLB.out HLC.out (by first | omega | (rw [HLB.out]; omega)) (by first | omega | (rw [HLC.out]; omega))).mono ?_
  rintro e w14 hR
  try simp only [val_limbs] at hR
  obtain ⟨v3, pv3, cv3, hv3, rfl, hb, hn, hsv3⟩ := hR.word (k := 24) (len_mul hsB hsC (by omega))
  have HW14 := Lib.hid (HW13.out.trans (hb.mono HW13.out.size))
  have HNA14 := Lib.hid (HNA13.out.keep hb)
  have HNB14 := Lib.hid (HNB13.out.keep hb)
  have HNC14 := Lib.hid (HNC13.out.keep hb)
  have HNv114 := Lib.hid (HNv113.out.keep hb)
  have HNv214 := Lib.hid (HNv213.out.keep hb)
  clear HW13 HNA13 HNB13 HNC13 HNv113 HNv213
  have HNv314 := Lib.hid hn
  have Hv3 := Lib.hid hv3
  clear hb hn hv3
  go_wp2_with fail
  refine (mul_ok pA mA cA A pv3 _ cv3 (limbs v3) _ HNA14.out HNv314.out HLA.out rfl (by first | omega | (rw [HLA.out]; omega)) (by omega)).mono ?_
  rintro e w15 hR
  try simp only [val_limbs] at hR
  obtain ⟨v4, pv4, cv4, hv4, rfl, hb, hn, hsv4⟩ := hR.word (k := 36) (len_mul hsA hsv3 (by omega))
  have HW15 := Lib.hid (HW14.out.trans (hb.mono HW14.out.size))
  have HNA15 := Lib.hid (HNA14.out.keep hb)
  have HNB15 := Lib.hid (HNB14.out.keep hb)
  have HNC15 := Lib.hid (HNC14.out.keep hb)
  have HNv115 := Lib.hid (HNv114.out.keep hb)
  have HNv215 := Lib.hid (HNv214.out.keep hb)
  have HNv315 := Lib.hid (HNv314.out.keep hb)
  clear HW14 HNA14 HNB14 HNC14 HNv114 HNv214 HNv314
  have HNv415 := Lib.hid hn
  have Hv4 := Lib.hid hv4
  clear hb hn hv4
  go_wp2_with fail
  refine (same_ok pv2 _ cv2 (limbs v2) pv4 _ cv4 (limbs v4) _ HNv215.out HNv415.out rfl rfl).mono ?_
  rintro e w16 ⟨rfl, hb⟩
  rw [eq_limbs (show v2 = v4 from by rw [Hv2.out, Hv1.out, Hv4.out, Hv3.out, Nat.mul_assoc])]
  have HW16 := Lib.hid (HW15.out.trans (hb.mono HW15.out.size))
  have HNA16 := Lib.hid (HNA15.out.keep hb)
  have HNB16 := Lib.hid (HNB15.out.keep hb)
  have HNC16 := Lib.hid (HNC15.out.keep hb)
  have HNv116 := Lib.hid (HNv115.out.keep hb)
  have HNv216 := Lib.hid (HNv215.out.keep hb)
  have HNv316 := Lib.hid (HNv315.out.keep hb)
  have HNv416 := Lib.hid (HNv415.out.keep hb)
  clear HW15 HNA15 HNB15 HNC15 HNv115 HNv215 HNv315 HNv415
  clear hb
  go_wp2_with fail
  clear HNv116
  clear HNv216
  clear HNv316
  clear HNv416
  refine (add_ok pB mB cB B pC mC cC C _ HNB16.out HNC16.out HLB.out HLC.out (by first | omega | (rw [HLB.out]; omega)) (by first | omega | (rw [HLC.out]; omega))).mono ?_
  rintro e w17 hR
  try simp only [val_limbs] at hR
  obtain ⟨t1, pt1, ct1, ht1, rfl, hb, hn, hst1⟩ := hR.word (k := 13) (len_add hsB hsC (by omega) (by omega))
  have HW17 := Lib.hid (HW16.out.trans (hb.mono HW16.out.size))
  have HNA17 := Lib.hid (HNA16.out.keep hb)
  have HNB17 := Lib.hid (HNB16.out.keep hb)
  have HNC17 := Lib.hid (HNC16.out.keep hb)
  clear HW16 HNA16 HNB16 HNC16
  have HNt117 := Lib.hid hn
  have Ht1 := Lib.hid ht1
  clear hb hn ht1
  go_wp2_with fail
  refine (mul_ok pA mA cA A pt1 _ ct1 (limbs t1) _ HNA17.out HNt117.out HLA.out rfl (by first | omega | (rw [HLA.out]; omega)) (by omega)).mono ?_
  rintro e w18 hR
  try simp only [val_limbs] at hR
  obtain ⟨t2, pt2, ct2, ht2, rfl, hb, hn, hst2⟩ := hR.word (k := 25) (len_mul hsA hst1 (by omega))
  have HW18 := Lib.hid (HW17.out.trans (hb.mono HW17.out.size))
  have HNA18 := Lib.hid (HNA17.out.keep hb)
  have HNB18 := Lib.hid (HNB17.out.keep hb)
  have HNC18 := Lib.hid (HNC17.out.keep hb)
  have HNt118 := Lib.hid (HNt117.out.keep hb)
  clear HW17 HNA17 HNB17 HNC17 HNt117
  have HNt218 := Lib.hid hn
  have Ht2 := Lib.hid ht2
  clear hb hn ht2
  go_wp2_with fail
  refine (mul_ok pA mA cA A pB mB cB B _ HNA18.out HNB18.out HLA.out HLB.out (by first | omega | (rw [HLA.out]; omega)) (by first | omega | (rw [HLB.out]; omega))).mono ?_
  rintro e w19 hR
  try simp only [val_limbs] at hR
  obtain ⟨t3, pt3, ct3, ht3, rfl, hb, hn, hst3⟩ := hR.word (k := 24) (len_mul hsA hsB (by omega))
  have HW19 := Lib.hid (HW18.out.trans (hb.mono HW18.out.size))
  have HNA19 := Lib.hid (HNA18.out.keep hb)
  have HNB19 := Lib.hid (HNB18.out.keep hb)
  have HNC19 := Lib.hid (HNC18.out.keep hb)
  have HNt119 := Lib.hid (HNt118.out.keep hb)
  have HNt219 := Lib.hid (HNt218.out.keep hb)
  clear HW18 HNA18 HNB18 HNC18 HNt118 HNt218
  have HNt319 := Lib.hid hn
  have Ht3 := Lib.hid ht3
  clear hb hn ht3
  go_wp2_with fail
  refine (mul_ok pA mA cA A pC mC cC C _ HNA19.out HNC19.out HLA.out HLC.out (by first | omega | (rw [HLA.out]; omega)) (by first | omega | (rw [HLC.out]; omega))).mono ?_
  rintro e w20 hR
  try simp only [val_limbs] at hR
  obtain ⟨t4, pt4, ct4, ht4, rfl, hb, hn, hst4⟩ := hR.word (k := 24) (len_mul hsA hsC (by omega))
  have HW20 := Lib.hid (HW19.out.trans (hb.mono HW19.out.size))
  have HNA20 := Lib.hid (HNA19.out.keep hb)
  have HNB20 := Lib.hid (HNB19.out.keep hb)
  have HNC20 := Lib.hid (HNC19.out.keep hb)
  have HNt120 := Lib.hid (HNt119.out.keep hb)
  have HNt220 := Lib.hid (HNt219.out.keep hb)
  have HNt320 := Lib.hid (HNt319.out.keep hb)
  clear HW19 HNA19 HNB19 HNC19 HNt119 HNt219 HNt319
  have HNt420 := Lib.hid hn
  have Ht4 := Lib.hid ht4
  clear hb hn ht4
  go_wp2_with fail
  refine (add_ok pt3 _ ct3 (limbs t3) pt4 _ ct4 (limbs t4) _ HNt320.out HNt420.out rfl rfl (by omega) (by omega)).mono ?_
  rintro e w21 hR
  try simp only [val_limbs] at hR
  obtain ⟨t5, pt5, ct5, ht5, rfl, hb, hn, hst5⟩ := hR.word (k := 25) (len_add hst3 hst4 (by omega) (by omega))
  have HW21 := Lib.hid (HW20.out.trans (hb.mono HW20.out.size))
  have HNA21 := Lib.hid (HNA20.out.keep hb)
  have HNB21 := Lib.hid (HNB20.out.keep hb)
  have HNC21 := Lib.hid (HNC20.out.keep hb)
  have HNt121 := Lib.hid (HNt120.out.keep hb)
  have HNt221 := Lib.hid (HNt220.out.keep hb)
  have HNt321 := Lib.hid (HNt320.out.keep hb)
  have HNt421 := Lib.hid (HNt420.out.keep hb)
  clear HW20 HNA20 HNB20 HNC20 HNt120 HNt220 HNt320 HNt420
  have HNt521 := Lib.hid hn
  have Ht5 := Lib.hid ht5
  clear hb hn ht5
  go_wp2_with fail
  refine (same_ok pt2 _ ct2 (limbs t2) pt5 _ ct5 (limbs t5) _ HNt221.out HNt521.out rfl rfl).mono ?_
  rintro e w22 ⟨rfl, hb⟩
  rw [eq_limbs (show t2 = t5 from by rw [Ht2.out, Ht1.out, Ht5.out, Ht3.out, Ht4.out, Nat.mul_add])]
  have HW22 := Lib.hid (HW21.out.trans (hb.mono HW21.out.size))
  have HNA22 := Lib.hid (HNA21.out.keep hb)
  have HNB22 := Lib.hid (HNB21.out.keep hb)
  have HNC22 := Lib.hid (HNC21.out.keep hb)
  have HNt122 := Lib.hid (HNt121.out.keep hb)
  have HNt222 := Lib.hid (HNt221.out.keep hb)
  have HNt322 := Lib.hid (HNt321.out.keep hb)
  have HNt422 := Lib.hid (HNt421.out.keep hb)
  have HNt522 := Lib.hid (HNt521.out.keep hb)
  clear HW21 HNA21 HNB21 HNC21 HNt121 HNt221 HNt321 HNt421 HNt521
  clear hb
  go_wp2_with fail
  refine (awake_ok _ (Tab.keep HT.out HW22.out hg) (Nat.lt_of_lt_of_le hg HW22.out.size)).mono ?_
  rintro e w23 ⟨rfl, hb⟩
  have HW23 := Lib.hid (HW22.out.trans (hb.mono HW22.out.size))
  have HNA23 := Lib.hid (HNA22.out.keep hb)
  have HNB23 := Lib.hid (HNB22.out.keep hb)
  have HNC23 := Lib.hid (HNC22.out.keep hb)
  have HNt123 := Lib.hid (HNt122.out.keep hb)
  have HNt223 := Lib.hid (HNt222.out.keep hb)
  have HNt323 := Lib.hid (HNt322.out.keep hb)
  have HNt423 := Lib.hid (HNt422.out.keep hb)
  have HNt523 := Lib.hid (HNt522.out.keep hb)
  clear HW22 HNA22 HNB22 HNC22 HNt122 HNt222 HNt322 HNt422 HNt522
  clear hb
  go_wp2_with fail
  go_ret
  exact ⟨rfl, HW23.out⟩
end Go.Proofs.YtfdjlkffhikaeaaDoor
