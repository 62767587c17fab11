/- NaturalDivisors: the walk. Printed by wg.py. -/
import Derived.Test.YtfdjlkffhikaeaaDoorGcd
import Derived.Test.YtfdjlkffhikaeaaDoorRGcd
import Derived.Test.YtfdjlkffhikaeaaDoorRefD
import Derived.Test.YtfdjlkffhikaeaaDoorWord2
namespace Go.Proofs.YtfdjlkffhikaeaaDoor
open Go.RowKit Nt

set_option maxRecDepth 100000 in
set_option maxHeartbeats 2000000 in
theorem divisors_walk (pA : Option Addr) (nA cA : Nat) (lA : List Nat) (pB : Option Addr) (nB cB : Nat) (lB : List Nat) (pC : Option Addr) (nC cC : Nat) (lC : List Nat) (w : World) (haA : NatIn w pA cA lA) (haB : NatIn w pB cB lB) (haC : NatIn w pC cC lC) (hlA : lA.length = nA) (hlB : lB.length = nB) (hlC : lC.length = nC) (ht : Tab w) (hg : 0 < w.heap.size) :
    Calls Tryd.prog 12 #[.slice pA nA cA, .slice pB nB cB, .slice pC nC cC] w fun e w' => e = .returned (.bool true) ∧ Below w.heap.size w w' := by
  have hcA := haA.le
  have hdA := haA.cap
  obtain ⟨mA, hmA⟩ : ∃ m, m = min nA 12 := ⟨_, rfl⟩
  have hAA := haA.take (k := mA) (by omega)
  have hLA : (lA.take mA).length = mA := by rw [List.length_take]; omega
  have hiA : min nA 12 = mA := hmA.symm
  have hjA : min (nA : Int) 12 = (mA : Int) := by omega
  have hkA : mA ≤ 12 := by omega
  have hoA : mA ≤ nA := by omega
  have heA : nA ≤ cA := by omega
  have hfA : mA ≤ cA := by omega
  obtain ⟨A, eA⟩ : ∃ L, L = lA.take mA := ⟨_, rfl⟩
  rw [← eA] at hAA hLA
  have hsA : (limbs (val A)).length ≤ 12 := len_val hAA.lim hLA hkA
  have HNA0 := Lib.hid hAA
  have HLA := Lib.hid hLA
  have hcB := haB.le
  have hdB := haB.cap
  obtain ⟨mB, hmB⟩ : ∃ m, m = min nB 12 := ⟨_, rfl⟩
  have hAB := haB.take (k := mB) (by omega)
  have hLB : (lB.take mB).length = mB := by rw [List.length_take]; omega
  have hiB : min nB 12 = mB := hmB.symm
  have hjB : min (nB : Int) 12 = (mB : Int) := by omega
  have hkB : mB ≤ 12 := by omega
  have hoB : mB ≤ nB := by omega
  have heB : nB ≤ cB := by omega
  have hfB : mB ≤ cB := by omega
  obtain ⟨B, eB⟩ : ∃ L, L = lB.take mB := ⟨_, rfl⟩
  rw [← eB] at hAB hLB
  have hsB : (limbs (val B)).length ≤ 12 := len_val hAB.lim hLB hkB
  have HNB0 := Lib.hid hAB
  have HLB := Lib.hid hLB
  have hcC := haC.le
  have hdC := haC.cap
  obtain ⟨mC, hmC⟩ : ∃ m, m = min nC 12 := ⟨_, rfl⟩
  have hAC := haC.take (k := mC) (by omega)
  have hLC : (lC.take mC).length = mC := by rw [List.length_take]; omega
  have hiC : min nC 12 = mC := hmC.symm
  have hjC : min (nC : Int) 12 = (mC : Int) := by omega
  have hkC : mC ≤ 12 := by omega
  have hoC : mC ≤ nC := by omega
  have heC : nC ≤ cC := by omega
  have hfC : mC ≤ cC := by omega
  obtain ⟨C, eC⟩ : ∃ L, L = lC.take mC := ⟨_, rfl⟩
  rw [← eC] at hAC hLC
  have hsC : (limbs (val C)).length ≤ 12 := len_val hAC.lim hLC hkC
  have HNC0 := Lib.hid hAC
  have HLC := Lib.hid hLC
  have HT := Lib.hid ht
  have HW0 := Lib.hid (Below.refl w.heap.size w)
  clear ht haA hlA hmA eA hAA hLA hcA haB hlB hmB eB hAB hLB hcB haC hlC hmC eC hAC hLC hcC
  have hcs : Nat.gcd (val A) (val B) = 0 ∨ 0 < Nat.gcd (val A) (val B) := by omega
  have HCS := Lib.hid hcs
  clear hcs
  rcases HCS.out with hz | hz
  all_goals clear HCS
  · have HZ := Lib.hid hz
    clear hz
    go_enter Tryd.func12, Tryd.ntmps12
    go_wp2_with fail
    refine (cut_ok pA nA cA _ heA hdA).mono ?_
    rintro e w' ⟨rfl, rfl⟩
    rw [hiA]
    go_wp2_with fail
    refine (cut_ok pB nB cB _ heB hdB).mono ?_
    rintro e w' ⟨rfl, rfl⟩
    rw [hiB]
    go_wp2_with fail
    refine (cut_ok pC nC cC _ heC hdC).mono ?_
    rintro e w' ⟨rfl, rfl⟩
    rw [hiC]
    go_wp2_with fail
    refine (gcd_ok pA mA cA A pB mB cB B _ HNA0.out HNB0.out HLA.out HLB.out (by first | omega | (rw [HLA.out]; omega)) (by first | omega | (rw [HLB.out]; omega))).mono ?_
    rintro e w1 hR
    obtain ⟨g, pg, cg, hg, rfl, hb, hn, hsg⟩ := hR.word (k := 12) (len_gcd (Nat.le_trans hsA (by omega)) (Nat.le_trans hsB (by omega)))
    have HW1 := Lib.hid (HW0.out.trans (hb.mono HW0.out.size))
    have HNA1 := Lib.hid (HNA0.out.keep hb)
    have HNB1 := Lib.hid (HNB0.out.keep hb)
    have HNC1 := Lib.hid (HNC0.out.keep hb)
    clear HW0 HNA0 HNB0 HNC0
    have HNg1 := Lib.hid hn
    have Hg := Lib.hid hg
    clear hb hn hg
    go_wp2_with fail
    have hg0 : (limbs g).length = 0 := by
      rw [Hg.out, HZ.out, limbs_zero]; rfl
    have HG0 := Lib.hid hg0
    clear hg0
    refine (rgcd_ok pA mA cA A pB mB cB B _ HNA1.out HNB1.out HLA.out HLB.out (by first | omega | (rw [HLA.out]; omega)) (by first | omega | (rw [HLB.out]; omega))).mono ?_
    rintro e w2 hR
    obtain ⟨t, pt, ct, ht, rfl, hb, hn, hst⟩ := hR.word (k := 12) (len_gcd (Nat.le_trans hsA (by omega)) (Nat.le_trans hsB (by omega)))
    have HW2 := Lib.hid (HW1.out.trans (hb.mono HW1.out.size))
    have HNA2 := Lib.hid (HNA1.out.keep hb)
    have HNB2 := Lib.hid (HNB1.out.keep hb)
    have HNC2 := Lib.hid (HNC1.out.keep hb)
    have HNg2 := Lib.hid (HNg1.out.keep hb)
    clear HW1 HNA1 HNB1 HNC1 HNg1
    have HNt2 := Lib.hid hn
    have Ht := Lib.hid ht
    clear hb hn ht
    go_wp2_with fail
    refine (same_ok pg _ cg (limbs g) pt _ ct (limbs t) _ HNg2.out HNt2.out rfl rfl).mono ?_
    rintro e w3 ⟨rfl, hb⟩
    rw [eq_limbs (show g = t from by rw [Hg.out, Ht.out])]
    have HW3 := Lib.hid (HW2.out.trans (hb.mono HW2.out.size))
    have HNA3 := Lib.hid (HNA2.out.keep hb)
    have HNB3 := Lib.hid (HNB2.out.keep hb)
    have HNC3 := Lib.hid (HNC2.out.keep hb)
    have HNg3 := Lib.hid (HNg2.out.keep hb)
    have HNt3 := Lib.hid (HNt2.out.keep hb)
    clear HW2 HNA2 HNB2 HNC2 HNg2 HNt2
    clear hb
    go_wp2_with fail
    clear HNt3
    refine (gcd_ok pB mB cB B pA mA cA A _ HNB3.out HNA3.out HLB.out HLA.out (by first | omega | (rw [HLB.out]; omega)) (by first | omega | (rw [HLA.out]; omega))).mono ?_
    rintro e w4 hR
    obtain ⟨u, pu, cu, hu, rfl, hb, hn, hsu⟩ := hR.word (k := 12) (len_gcd (Nat.le_trans hsB (by omega)) (Nat.le_trans hsA (by omega)))
    have HW4 := Lib.hid (HW3.out.trans (hb.mono HW3.out.size))
    have HNA4 := Lib.hid (HNA3.out.keep hb)
    have HNB4 := Lib.hid (HNB3.out.keep hb)
    have HNC4 := Lib.hid (HNC3.out.keep hb)
    have HNg4 := Lib.hid (HNg3.out.keep hb)
    clear HW3 HNA3 HNB3 HNC3 HNg3
    have HNu4 := Lib.hid hn
    have Hu := Lib.hid hu
    clear hb hn hu
    go_wp2_with fail
    refine (same_ok pu _ cu (limbs u) pg _ cg (limbs g) _ HNu4.out HNg4.out rfl rfl).mono ?_
    rintro e w5 ⟨rfl, hb⟩
    rw [eq_limbs (show u = g from by rw [Hu.out, Hg.out, Nat.gcd_comm])]
    have HW5 := Lib.hid (HW4.out.trans (hb.mono HW4.out.size))
    have HNA5 := Lib.hid (HNA4.out.keep hb)
    have HNB5 := Lib.hid (HNB4.out.keep hb)
    have HNC5 := Lib.hid (HNC4.out.keep hb)
    have HNg5 := Lib.hid (HNg4.out.keep hb)
    have HNu5 := Lib.hid (HNu4.out.keep hb)
    clear HW4 HNA4 HNB4 HNC4 HNg4 HNu4
    clear hb
    go_wp2_with fail
    clear HNu5
    have HNn5 := Lib.hid (natIn_nil w5)
    have hsn := hs0
    refine (gcd_ok pA mA cA A none 0 0 [] _ HNA5.out HNn5.out HLA.out rfl (by first | omega | (rw [HLA.out]; omega)) (by omega)).mono ?_
    rintro e w6 hR
    obtain ⟨x, px, cx, hx, rfl, hb, hn, hsx⟩ := hR.word (k := 12) (len_gcd (Nat.le_trans hsA (by omega)) (Nat.le_trans hsn (by omega)))
    have HW6 := Lib.hid (HW5.out.trans (hb.mono HW5.out.size))
    have HNA6 := Lib.hid (HNA5.out.keep hb)
    have HNB6 := Lib.hid (HNB5.out.keep hb)
    have HNC6 := Lib.hid (HNC5.out.keep hb)
    have HNg6 := Lib.hid (HNg5.out.keep hb)
    have HNn6 := Lib.hid (HNn5.out.keep hb)
    clear HW5 HNA5 HNB5 HNC5 HNg5 HNn5
    have HNx6 := Lib.hid hn
    have Hx := Lib.hid hx
    clear hb hn hx
    go_wp2_with fail
    clear HNn6
    refine (rtrim_ok pA mA cA A _ HNA6.out HLA.out (by first | omega | (rw [HLA.out]; omega))).mono ?_
    rintro e w7 hR
    obtain ⟨y, py, cy, hy, rfl, hb, hn, hsy⟩ := hR.word (k := 12) (hsA)
    have HW7 := Lib.hid (HW6.out.trans (hb.mono HW6.out.size))
    have HNA7 := Lib.hid (HNA6.out.keep hb)
    have HNB7 := Lib.hid (HNB6.out.keep hb)
    have HNC7 := Lib.hid (HNC6.out.keep hb)
    have HNg7 := Lib.hid (HNg6.out.keep hb)
    have HNx7 := Lib.hid (HNx6.out.keep hb)
    clear HW6 HNA6 HNB6 HNC6 HNg6 HNx6
    have HNy7 := Lib.hid hn
    have Hy := Lib.hid hy
    clear hb hn hy
    go_wp2_with fail
    have hg0 := HG0.out
    refine (same_ok px _ cx (limbs x) py _ cy (limbs y) _ HNx7.out HNy7.out rfl rfl).mono ?_
    rintro e w8 ⟨rfl, hb⟩
    rw [eq_limbs (show x = y from by rw [Hx.out, Hy.out, val_nil, Nat.gcd_zero_right])]
    have HW8 := Lib.hid (HW7.out.trans (hb.mono HW7.out.size))
    have HNA8 := Lib.hid (HNA7.out.keep hb)
    have HNB8 := Lib.hid (HNB7.out.keep hb)
    have HNC8 := Lib.hid (HNC7.out.keep hb)
    have HNg8 := Lib.hid (HNg7.out.keep hb)
    have HNx8 := Lib.hid (HNx7.out.keep hb)
    have HNy8 := Lib.hid (HNy7.out.keep hb)
    clear HW7 HNA7 HNB7 HNC7 HNg7 HNx7 HNy7
    clear hb
    go_wp2_with fail
    clear HNx8
    clear HNy8
    clear hg0
    refine (rmul_ok pA mA cA A pC mC cC C _ HNA8.out HNC8.out HLA.out HLC.out (by first | omega | (rw [HLA.out]; omega)) (by first | omega | (rw [HLC.out]; omega))).mono ?_
    rintro e w9 hR
    obtain ⟨m1, pm1, cm1, hm1, rfl, hb, hn, hsm1⟩ := hR.word (k := 24) (len_mul hsA hsC (by omega))
    have HW9 := Lib.hid (HW8.out.trans (hb.mono HW8.out.size))
    have HNA9 := Lib.hid (HNA8.out.keep hb)
    have HNB9 := Lib.hid (HNB8.out.keep hb)
    have HNC9 := Lib.hid (HNC8.out.keep hb)
    have HNg9 := Lib.hid (HNg8.out.keep hb)
    clear HW8 HNA8 HNB8 HNC8 HNg8
    have HNm19 := Lib.hid hn
    have Hm1 := Lib.hid hm1
    clear hb hn hm1
    go_wp2_with fail
    refine (rmul_ok pB mB cB B pC mC cC C _ HNB9.out HNC9.out HLB.out HLC.out (by first | omega | (rw [HLB.out]; omega)) (by first | omega | (rw [HLC.out]; omega))).mono ?_
    rintro e w10 hR
    obtain ⟨m2, pm2, cm2, hm2, rfl, hb, hn, hsm2⟩ := hR.word (k := 24) (len_mul hsB hsC (by omega))
    have HW10 := Lib.hid (HW9.out.trans (hb.mono HW9.out.size))
    have HNA10 := Lib.hid (HNA9.out.keep hb)
    have HNB10 := Lib.hid (HNB9.out.keep hb)
    have HNC10 := Lib.hid (HNC9.out.keep hb)
    have HNg10 := Lib.hid (HNg9.out.keep hb)
    have HNm110 := Lib.hid (HNm19.out.keep hb)
    clear HW9 HNA9 HNB9 HNC9 HNg9 HNm19
    have HNm210 := Lib.hid hn
    have Hm2 := Lib.hid hm2
    clear hb hn hm2
    go_wp2_with fail
    refine (gcd_ok pm1 _ cm1 (limbs m1) pm2 _ cm2 (limbs m2) _ HNm110.out HNm210.out rfl rfl (by omega) (by omega)).mono ?_
    rintro e w11 hR
    simp only [val_limbs] at hR
    obtain ⟨h1, ph1, ch1, hh1, rfl, hb, hn, hsh1⟩ := hR.word (k := 24) (len_gcd (Nat.le_trans hsm1 (by omega)) (Nat.le_trans hsm2 (by omega)))
    have HW11 := Lib.hid (HW10.out.trans (hb.mono HW10.out.size))
    have HNA11 := Lib.hid (HNA10.out.keep hb)
    have HNB11 := Lib.hid (HNB10.out.keep hb)
    have HNC11 := Lib.hid (HNC10.out.keep hb)
    have HNg11 := Lib.hid (HNg10.out.keep hb)
    have HNm111 := Lib.hid (HNm110.out.keep hb)
    have HNm211 := Lib.hid (HNm210.out.keep hb)
    clear HW10 HNA10 HNB10 HNC10 HNg10 HNm110 HNm210
    have HNh111 := Lib.hid hn
    have Hh1 := Lib.hid hh1
    clear hb hn hh1
    go_wp2_with fail
    refine (rmul_ok pg 0 cg (limbs g) pC mC cC C _ HNg11.out HNC11.out HG0.out HLC.out (by first | omega | (rw [HG0.out]; omega)) (by first | omega | (rw [HLC.out]; omega))).mono ?_
    rintro e w12 hR
    simp only [val_limbs] at hR
    obtain ⟨h2, ph2, ch2, hh2, rfl, hb, hn, hsh2⟩ := hR.word (k := 24) (len_mul hsg hsC (by omega))
    have HW12 := Lib.hid (HW11.out.trans (hb.mono HW11.out.size))
    have HNA12 := Lib.hid (HNA11.out.keep hb)
    have HNB12 := Lib.hid (HNB11.out.keep hb)
    have HNC12 := Lib.hid (HNC11.out.keep hb)
    have HNg12 := Lib.hid (HNg11.out.keep hb)
    have HNm112 := Lib.hid (HNm111.out.keep hb)
    have HNm212 := Lib.hid (HNm211.out.keep hb)
    have HNh112 := Lib.hid (HNh111.out.keep hb)
    clear HW11 HNA11 HNB11 HNC11 HNg11 HNm111 HNm211 HNh111
    have HNh212 := Lib.hid hn
    have Hh2 := Lib.hid hh2
    clear hb hn hh2
    go_wp2_with fail
    refine (same_ok ph1 _ ch1 (limbs h1) ph2 _ ch2 (limbs h2) _ HNh112.out HNh212.out rfl rfl).mono ?_
    rintro e w13 ⟨rfl, hb⟩
    rw [eq_limbs (show h1 = h2 from by rw [Hh1.out, Hm1.out, Hm2.out, Hh2.out, Hg.out, Nat.gcd_mul_right])]
    have HW13 := Lib.hid (HW12.out.trans (hb.mono HW12.out.size))
    have HNA13 := Lib.hid (HNA12.out.keep hb)
    have HNB13 := Lib.hid (HNB12.out.keep hb)
    have HNC13 := Lib.hid (HNC12.out.keep hb)
    have HNg13 := Lib.hid (HNg12.out.keep hb)
    have HNm113 := Lib.hid (HNm112.out.keep hb)
    have HNm213 := Lib.hid (HNm212.out.keep hb)
    have HNh113 := Lib.hid (HNh112.out.keep hb)
    have HNh213 := Lib.hid (HNh212.out.keep hb)
    clear HW12 HNA12 HNB12 HNC12 HNg12 HNm112 HNm212 HNh112 HNh212
    clear hb
    go_wp2_with fail
    refine (awake_ok _ (Tab.keep HT.out HW13.out hg) (Nat.lt_of_lt_of_le hg HW13.out.size)).mono ?_
    rintro e w14 ⟨rfl, hb⟩
    have HW14 := Lib.hid (HW13.out.trans (hb.mono HW13.out.size))
    have HNA14 := Lib.hid (HNA13.out.keep hb)
    have HNB14 := Lib.hid (HNB13.out.keep hb)
    have HNC14 := Lib.hid (HNC13.out.keep hb)
    have HNg14 := Lib.hid (HNg13.out.keep hb)
    have HNm114 := Lib.hid (HNm113.out.keep hb)
    have HNm214 := Lib.hid (HNm213.out.keep hb)
    have HNh114 := Lib.hid (HNh113.out.keep hb)
    have HNh214 := Lib.hid (HNh213.out.keep hb)
    clear HW13 HNA13 HNB13 HNC13 HNg13 HNm113 HNm213 HNh113 HNh213
    clear hb
    go_wp2_with fail
    go_ret
    exact ⟨rfl, HW14.out⟩
  · have HZ := Lib.hid hz
    clear hz
    go_enter Tryd.func12, Tryd.ntmps12
    go_wp2_with fail
    refine (cut_ok pA nA cA _ heA hdA).mono ?_
    rintro e w' ⟨rfl, rfl⟩
    rw [hiA]
    go_wp2_with fail
    refine (cut_ok pB nB cB _ heB hdB).mono ?_
    rintro e w' ⟨rfl, rfl⟩
    rw [hiB]
    go_wp2_with fail
    refine (cut_ok pC nC cC _ heC hdC).mono ?_
    rintro e w' ⟨rfl, rfl⟩
    rw [hiC]
    go_wp2_with fail
    refine (gcd_ok pA mA cA A pB mB cB B _ HNA0.out HNB0.out HLA.out HLB.out (by first | omega | (rw [HLA.out]; omega)) (by first | omega | (rw [HLB.out]; omega))).mono ?_
    rintro e w1 hR
    obtain ⟨g, pg, cg, hg, rfl, hb, hn, hsg⟩ := hR.word (k := 12) (len_gcd (Nat.le_trans hsA (by omega)) (Nat.le_trans hsB (by omega)))
    have HW1 := Lib.hid (HW0.out.trans (hb.mono HW0.out.size))
    have HNA1 := Lib.hid (HNA0.out.keep hb)
    have HNB1 := Lib.hid (HNB0.out.keep hb)
    have HNC1 := Lib.hid (HNC0.out.keep hb)
    clear HW0 HNA0 HNB0 HNC0
    have HNg1 := Lib.hid hn
    have Hg := Lib.hid hg
    clear hb hn hg
    go_wp2_with fail
    have hg0 : 0 < (limbs g).length := by
      rw [Hg.out]; exact len_pos HZ.out
    have HG0 := Lib.hid hg0
    clear hg0
    refine (rgcd_ok pA mA cA A pB mB cB B _ HNA1.out HNB1.out HLA.out HLB.out (by first | omega | (rw [HLA.out]; omega)) (by first | omega | (rw [HLB.out]; omega))).mono ?_
    rintro e w2 hR
    obtain ⟨t, pt, ct, ht, rfl, hb, hn, hst⟩ := hR.word (k := 12) (len_gcd (Nat.le_trans hsA (by omega)) (Nat.le_trans hsB (by omega)))
    have HW2 := Lib.hid (HW1.out.trans (hb.mono HW1.out.size))
    have HNA2 := Lib.hid (HNA1.out.keep hb)
    have HNB2 := Lib.hid (HNB1.out.keep hb)
    have HNC2 := Lib.hid (HNC1.out.keep hb)
    have HNg2 := Lib.hid (HNg1.out.keep hb)
    clear HW1 HNA1 HNB1 HNC1 HNg1
    have HNt2 := Lib.hid hn
    have Ht := Lib.hid ht
    clear hb hn ht
    go_wp2_with fail
    refine (same_ok pg _ cg (limbs g) pt _ ct (limbs t) _ HNg2.out HNt2.out rfl rfl).mono ?_
    rintro e w3 ⟨rfl, hb⟩
    rw [eq_limbs (show g = t from by rw [Hg.out, Ht.out])]
    have HW3 := Lib.hid (HW2.out.trans (hb.mono HW2.out.size))
    have HNA3 := Lib.hid (HNA2.out.keep hb)
    have HNB3 := Lib.hid (HNB2.out.keep hb)
    have HNC3 := Lib.hid (HNC2.out.keep hb)
    have HNg3 := Lib.hid (HNg2.out.keep hb)
    have HNt3 := Lib.hid (HNt2.out.keep hb)
    clear HW2 HNA2 HNB2 HNC2 HNg2 HNt2
    clear hb
    go_wp2_with fail
    clear HNt3
    refine (gcd_ok pB mB cB B pA mA cA A _ HNB3.out HNA3.out HLB.out HLA.out (by first | omega | (rw [HLB.out]; omega)) (by first | omega | (rw [HLA.out]; omega))).mono ?_
    rintro e w4 hR
    obtain ⟨u, pu, cu, hu, rfl, hb, hn, hsu⟩ := hR.word (k := 12) (len_gcd (Nat.le_trans hsB (by omega)) (Nat.le_trans hsA (by omega)))
    have HW4 := Lib.hid (HW3.out.trans (hb.mono HW3.out.size))
    have HNA4 := Lib.hid (HNA3.out.keep hb)
    have HNB4 := Lib.hid (HNB3.out.keep hb)
    have HNC4 := Lib.hid (HNC3.out.keep hb)
    have HNg4 := Lib.hid (HNg3.out.keep hb)
    clear HW3 HNA3 HNB3 HNC3 HNg3
    have HNu4 := Lib.hid hn
    have Hu := Lib.hid hu
    clear hb hn hu
    go_wp2_with fail
    refine (same_ok pu _ cu (limbs u) pg _ cg (limbs g) _ HNu4.out HNg4.out rfl rfl).mono ?_
    rintro e w5 ⟨rfl, hb⟩
    rw [eq_limbs (show u = g from by rw [Hu.out, Hg.out, Nat.gcd_comm])]
    have HW5 := Lib.hid (HW4.out.trans (hb.mono HW4.out.size))
    have HNA5 := Lib.hid (HNA4.out.keep hb)
    have HNB5 := Lib.hid (HNB4.out.keep hb)
    have HNC5 := Lib.hid (HNC4.out.keep hb)
    have HNg5 := Lib.hid (HNg4.out.keep hb)
    have HNu5 := Lib.hid (HNu4.out.keep hb)
    clear HW4 HNA4 HNB4 HNC4 HNg4 HNu4
    clear hb
    go_wp2_with fail
    clear HNu5
    have HNn5 := Lib.hid (natIn_nil w5)
    have hsn := hs0
    refine (gcd_ok pA mA cA A none 0 0 [] _ HNA5.out HNn5.out HLA.out rfl (by first | omega | (rw [HLA.out]; omega)) (by omega)).mono ?_
    rintro e w6 hR
    obtain ⟨x, px, cx, hx, rfl, hb, hn, hsx⟩ := hR.word (k := 12) (len_gcd (Nat.le_trans hsA (by omega)) (Nat.le_trans hsn (by omega)))
    have HW6 := Lib.hid (HW5.out.trans (hb.mono HW5.out.size))
    have HNA6 := Lib.hid (HNA5.out.keep hb)
    have HNB6 := Lib.hid (HNB5.out.keep hb)
    have HNC6 := Lib.hid (HNC5.out.keep hb)
    have HNg6 := Lib.hid (HNg5.out.keep hb)
    have HNn6 := Lib.hid (HNn5.out.keep hb)
    clear HW5 HNA5 HNB5 HNC5 HNg5 HNn5
    have HNx6 := Lib.hid hn
    have Hx := Lib.hid hx
    clear hb hn hx
    go_wp2_with fail
    clear HNn6
    refine (rtrim_ok pA mA cA A _ HNA6.out HLA.out (by first | omega | (rw [HLA.out]; omega))).mono ?_
    rintro e w7 hR
    obtain ⟨y, py, cy, hy, rfl, hb, hn, hsy⟩ := hR.word (k := 12) (hsA)
    have HW7 := Lib.hid (HW6.out.trans (hb.mono HW6.out.size))
    have HNA7 := Lib.hid (HNA6.out.keep hb)
    have HNB7 := Lib.hid (HNB6.out.keep hb)
    have HNC7 := Lib.hid (HNC6.out.keep hb)
    have HNg7 := Lib.hid (HNg6.out.keep hb)
    have HNx7 := Lib.hid (HNx6.out.keep hb)
    clear HW6 HNA6 HNB6 HNC6 HNg6 HNx6
    have HNy7 := Lib.hid hn
    have Hy := Lib.hid hy
    clear hb hn hy
    go_wp2_with fail
    have hg0 := HG0.out
    refine (same_ok px _ cx (limbs x) py _ cy (limbs y) _ HNx7.out HNy7.out rfl rfl).mono ?_
    rintro e w8 ⟨rfl, hb⟩
    rw [eq_limbs (show x = y from by rw [Hx.out, Hy.out, val_nil, Nat.gcd_zero_right])]
    have HW8 := Lib.hid (HW7.out.trans (hb.mono HW7.out.size))
    have HNA8 := Lib.hid (HNA7.out.keep hb)
    have HNB8 := Lib.hid (HNB7.out.keep hb)
    have HNC8 := Lib.hid (HNC7.out.keep hb)
    have HNg8 := Lib.hid (HNg7.out.keep hb)
    have HNx8 := Lib.hid (HNx7.out.keep hb)
    have HNy8 := Lib.hid (HNy7.out.keep hb)
    clear HW7 HNA7 HNB7 HNC7 HNg7 HNx7 HNy7
    clear hb
    go_wp2_with fail
    clear HNx8
    clear HNy8
    refine (rdivide_ok pA mA cA A pg _ cg (limbs g) _ HNA8.out HNg8.out HLA.out rfl (by first | omega | (rw [HLA.out]; omega)) (by omega)).mono ?_
    rintro e w9 hR
    simp only [val_limbs] at hR
    rw [posB_true (show 0 < g by rw [Hg.out]; exact HZ.out), rmd_pos (show 0 < g by rw [Hg.out]; exact HZ.out)] at hR
    obtain ⟨qa, pqa, cqa, ra, pra, cra, hqa, hra, rfl, hb, hn, hn', hsqa, hsra⟩ := hR.word (k := 12) (j := 12) (len_le hsA (Nat.div_le_self _ _)) (len_le hsA (Nat.mod_le _ _))
    have HW9 := Lib.hid (HW8.out.trans (hb.mono HW8.out.size))
    have HNA9 := Lib.hid (HNA8.out.keep hb)
    have HNB9 := Lib.hid (HNB8.out.keep hb)
    have HNC9 := Lib.hid (HNC8.out.keep hb)
    have HNg9 := Lib.hid (HNg8.out.keep hb)
    clear HW8 HNA8 HNB8 HNC8 HNg8
    have HNqa9 := Lib.hid hn
    have Hqa := Lib.hid hqa
    clear hn hqa
    have HNra9 := Lib.hid hn'
    have Hra := Lib.hid hra
    clear hn' hra
    clear hb
    have hr1 : ra = 0 := by rw [Hra.out, Hg.out]; exact Nat.mod_eq_zero_of_dvd (Nat.gcd_dvd_left _ _)
    have hr2 : (limbs ra).length = 0 := by rw [hr1, limbs_zero]; rfl
    rw [hr2]
    clear hr1 hr2
    clear HNqa9
    clear HNra9
    go_wp2_with fail
    refine (rdivide_ok pB mB cB B pg _ cg (limbs g) _ HNB9.out HNg9.out HLB.out rfl (by first | omega | (rw [HLB.out]; omega)) (by omega)).mono ?_
    rintro e w10 hR
    simp only [val_limbs] at hR
    rw [posB_true (show 0 < g by rw [Hg.out]; exact HZ.out), rmd_pos (show 0 < g by rw [Hg.out]; exact HZ.out)] at hR
    obtain ⟨qb, pqb, cqb, rb, prb, crb, hqb, hrb, rfl, hb, hn, hn', hsqb, hsrb⟩ := hR.word (k := 12) (j := 12) (len_le hsB (Nat.div_le_self _ _)) (len_le hsB (Nat.mod_le _ _))
    have HW10 := Lib.hid (HW9.out.trans (hb.mono HW9.out.size))
    have HNA10 := Lib.hid (HNA9.out.keep hb)
    have HNB10 := Lib.hid (HNB9.out.keep hb)
    have HNC10 := Lib.hid (HNC9.out.keep hb)
    have HNg10 := Lib.hid (HNg9.out.keep hb)
    clear HW9 HNA9 HNB9 HNC9 HNg9
    have HNqb10 := Lib.hid hn
    have Hqb := Lib.hid hqb
    clear hn hqb
    have HNrb10 := Lib.hid hn'
    have Hrb := Lib.hid hrb
    clear hn' hrb
    clear hb
    have hr1 : rb = 0 := by rw [Hrb.out, Hg.out]; exact Nat.mod_eq_zero_of_dvd (Nat.gcd_dvd_right _ _)
    have hr2 : (limbs rb).length = 0 := by rw [hr1, limbs_zero]; rfl
    rw [hr2]
    clear hr1 hr2
    clear HNqb10
    clear HNrb10
    go_wp2_with fail
    clear hg0
    refine (rmul_ok pA mA cA A pC mC cC C _ HNA10.out HNC10.out HLA.out HLC.out (by first | omega | (rw [HLA.out]; omega)) (by first | omega | (rw [HLC.out]; omega))).mono ?_
    rintro e w11 hR
    obtain ⟨m1, pm1, cm1, hm1, rfl, hb, hn, hsm1⟩ := hR.word (k := 24) (len_mul hsA hsC (by omega))
    have HW11 := Lib.hid (HW10.out.trans (hb.mono HW10.out.size))
    have HNA11 := Lib.hid (HNA10.out.keep hb)
    have HNB11 := Lib.hid (HNB10.out.keep hb)
    have HNC11 := Lib.hid (HNC10.out.keep hb)
    have HNg11 := Lib.hid (HNg10.out.keep hb)
    clear HW10 HNA10 HNB10 HNC10 HNg10
    have HNm111 := Lib.hid hn
    have Hm1 := Lib.hid hm1
    clear hb hn hm1
    go_wp2_with fail
    refine (rmul_ok pB mB cB B pC mC cC C _ HNB11.out HNC11.out HLB.out HLC.out (by first | omega | (rw [HLB.out]; omega)) (by first | omega | (rw [HLC.out]; omega))).mono ?_
    rintro e w12 hR
    obtain ⟨m2, pm2, cm2, hm2, rfl, hb, hn, hsm2⟩ := hR.word (k := 24) (len_mul hsB hsC (by omega))
    have HW12 := Lib.hid (HW11.out.trans (hb.mono HW11.out.size))
    have HNA12 := Lib.hid (HNA11.out.keep hb)
    have HNB12 := Lib.hid (HNB11.out.keep hb)
    have HNC12 := Lib.hid (HNC11.out.keep hb)
    have HNg12 := Lib.hid (HNg11.out.keep hb)
    have HNm112 := Lib.hid (HNm111.out.keep hb)
    clear HW11 HNA11 HNB11 HNC11 HNg11 HNm111
    have HNm212 := Lib.hid hn
    have Hm2 := Lib.hid hm2
    clear hb hn hm2
    go_wp2_with fail
    refine (gcd_ok pm1 _ cm1 (limbs m1) pm2 _ cm2 (limbs m2) _ HNm112.out HNm212.out rfl rfl (by omega) (by omega)).mono ?_
    rintro e w13 hR
    simp only [val_limbs] at hR
    obtain ⟨h1, ph1, ch1, hh1, rfl, hb, hn, hsh1⟩ := hR.word (k := 24) (len_gcd (Nat.le_trans hsm1 (by omega)) (Nat.le_trans hsm2 (by omega)))
    have HW13 := Lib.hid (HW12.out.trans (hb.mono HW12.out.size))
    have HNA13 := Lib.hid (HNA12.out.keep hb)
    have HNB13 := Lib.hid (HNB12.out.keep hb)
    have HNC13 := Lib.hid (HNC12.out.keep hb)
    have HNg13 := Lib.hid (HNg12.out.keep hb)
    have HNm113 := Lib.hid (HNm112.out.keep hb)
    have HNm213 := Lib.hid (HNm212.out.keep hb)
    clear HW12 HNA12 HNB12 HNC12 HNg12 HNm112 HNm212
    have HNh113 := Lib.hid hn
    have Hh1 := Lib.hid hh1
    clear hb hn hh1
    go_wp2_with fail
    refine (rmul_ok pg _ cg (limbs g) pC mC cC C _ HNg13.out HNC13.out rfl HLC.out (by omega) (by first | omega | (rw [HLC.out]; omega))).mono ?_
    rintro e w14 hR
    simp only [val_limbs] at hR
    obtain ⟨h2, ph2, ch2, hh2, rfl, hb, hn, hsh2⟩ := hR.word (k := 24) (len_mul hsg hsC (by omega))
    have HW14 := Lib.hid (HW13.out.trans (hb.mono HW13.out.size))
    have HNA14 := Lib.hid (HNA13.out.keep hb)
    have HNB14 := Lib.hid (HNB13.out.keep hb)
    have HNC14 := Lib.hid (HNC13.out.keep hb)
    have HNg14 := Lib.hid (HNg13.out.keep hb)
    have HNm114 := Lib.hid (HNm113.out.keep hb)
    have HNm214 := Lib.hid (HNm213.out.keep hb)
    have HNh114 := Lib.hid (HNh113.out.keep hb)
    clear HW13 HNA13 HNB13 HNC13 HNg13 HNm113 HNm213 HNh113
    have HNh214 := Lib.hid hn
    have Hh2 := Lib.hid hh2
    clear hb hn hh2
    go_wp2_with fail
    refine (same_ok ph1 _ ch1 (limbs h1) ph2 _ ch2 (limbs h2) _ HNh114.out HNh214.out rfl rfl).mono ?_
    rintro e w15 ⟨rfl, hb⟩
    rw [eq_limbs (show h1 = h2 from by rw [Hh1.out, Hm1.out, Hm2.out, Hh2.out, Hg.out, Nat.gcd_mul_right])]
    have HW15 := Lib.hid (HW14.out.trans (hb.mono HW14.out.size))
    have HNA15 := Lib.hid (HNA14.out.keep hb)
    have HNB15 := Lib.hid (HNB14.out.keep hb)
    have HNC15 := Lib.hid (HNC14.out.keep hb)
    have HNg15 := Lib.hid (HNg14.out.keep hb)
    have HNm115 := Lib.hid (HNm114.out.keep hb)
    have HNm215 := Lib.hid (HNm214.out.keep hb)
    have HNh115 := Lib.hid (HNh114.out.keep hb)
    have HNh215 := Lib.hid (HNh214.out.keep hb)
    clear HW14 HNA14 HNB14 HNC14 HNg14 HNm114 HNm214 HNh114 HNh214
    clear hb
    go_wp2_with fail
    refine (awake_ok _ (Tab.keep HT.out HW15.out hg) (Nat.lt_of_lt_of_le hg HW15.out.size)).mono ?_
    rintro e w16 ⟨rfl, hb⟩
    have HW16 := Lib.hid (HW15.out.trans (hb.mono HW15.out.size))
    have HNA16 := Lib.hid (HNA15.out.keep hb)
    have HNB16 := Lib.hid (HNB15.out.keep hb)
    have HNC16 := Lib.hid (HNC15.out.keep hb)
    have HNg16 := Lib.hid (HNg15.out.keep hb)
    have HNm116 := Lib.hid (HNm115.out.keep hb)
    have HNm216 := Lib.hid (HNm215.out.keep hb)
    have HNh116 := Lib.hid (HNh115.out.keep hb)
    have HNh216 := Lib.hid (HNh215.out.keep hb)
    clear HW15 HNA15 HNB15 HNC15 HNg15 HNm115 HNm215 HNh115 HNh215
    clear hb
    go_wp2_with fail
    go_ret
    exact ⟨rfl, HW16.out⟩
end Go.Proofs.YtfdjlkffhikaeaaDoor
