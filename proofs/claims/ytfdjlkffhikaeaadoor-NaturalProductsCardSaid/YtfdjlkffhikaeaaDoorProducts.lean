/- NaturalProducts: the walk. Printed by wg.py. -/
import Derived.Test.YtfdjlkffhikaeaaDoorWord
import Derived.Test.YtfdjlkffhikaeaaDoorMul
import Derived.Test.YtfdjlkffhikaeaaDoorRefB
namespace Go.Proofs.YtfdjlkffhikaeaaDoor
open Go.RowKit Nt

set_option maxRecDepth 100000 in
set_option maxHeartbeats 2000000 in
theorem products_walk (pA : Option Addr) (nA cA : Nat) (lA : List Nat) (pB : Option Addr) (nB cB : Nat) (lB : List Nat) (w : World) (haA : NatIn w pA cA lA) (haB : NatIn w pB cB lB) (hlA : lA.length = nA) (hlB : lB.length = nB) (ht : Tab w) (hg : 0 < w.heap.size) :
    Calls Tryd.prog 7 #[.slice pA nA cA, .slice pB nB cB] w fun e w' => e = .returned (.bool true) ∧ Below w.heap.size w w' := by
  have hcA := haA.le
  have hdA := haA.cap
  obtain ⟨mA, hmA⟩ : ∃ m, m = min nA 40 := ⟨_, rfl⟩
  have hAA := haA.take (k := mA) (by omega)
  have hLA : (lA.take mA).length = mA := by rw [List.length_take]; omega
  have hiA : min nA 40 = mA := hmA.symm
  have hjA : min (nA : Int) 40 = (mA : Int) := by omega
  have hkA : mA ≤ 40 := by omega
  have hoA : mA ≤ nA := by omega
  have heA : nA ≤ cA := by omega
  have hfA : mA ≤ cA := by omega
  obtain ⟨A, eA⟩ : ∃ L, L = lA.take mA := ⟨_, rfl⟩
  rw [← eA] at hAA hLA
  have hsA : (limbs (val A)).length ≤ 40 := len_val hAA.lim hLA hkA
  have HNA0 := Lib.hid hAA
  have HLA := Lib.hid hLA
  have hcB := haB.le
  have hdB := haB.cap
  obtain ⟨mB, hmB⟩ : ∃ m, m = min nB 40 := ⟨_, rfl⟩
  have hAB := haB.take (k := mB) (by omega)
  have hLB : (lB.take mB).length = mB := by rw [List.length_take]; omega
  have hiB : min nB 40 = mB := hmB.symm
  have hjB : min (nB : Int) 40 = (mB : Int) := by omega
  have hkB : mB ≤ 40 := by omega
  have hoB : mB ≤ nB := by omega
  have heB : nB ≤ cB := by omega
  have hfB : mB ≤ cB := by omega
  obtain ⟨B, eB⟩ : ∃ L, L = lB.take mB := ⟨_, rfl⟩
  rw [← eB] at hAB hLB
  have hsB : (limbs (val B)).length ≤ 40 := len_val hAB.lim hLB hkB
  have HNB0 := Lib.hid hAB
  have HLB := Lib.hid hLB
  have HT := Lib.hid ht
  have HW0 := Lib.hid (Below.refl w.heap.size w)
  clear ht haA hlA hmA eA hAA hLA hcA haB hlB hmB eB hAB hLB hcB
  have hcs : val A = 0 ∨ (val A ≠ 0 ∧ val B = 0) ∨ (val A ≠ 0 ∧ val B ≠ 0 ∧ nb (val A * val B) = nb (val A) + nb (val B)) ∨ (val A ≠ 0 ∧ val B ≠ 0 ∧ nb (val A * val B) = nb (val A) + nb (val B) - 1) := nb_cases (val A) (val B)
  have hxA := nb_len hsA
  have hxB := nb_len hsB
  have HCS := Lib.hid hcs
  clear hcs
  rcases HCS.out with hz | ⟨ha0, hz⟩ | ⟨ha0, hb0, hz⟩ | ⟨ha0, hb0, hz⟩
  all_goals clear HCS
  · have HZ := Lib.hid hz
    clear hz
    go_enter Tryd.func7, Tryd.ntmps7
    go_wp2_with fail
    go_quiet (fail)
    go_wp2_with fail
    have hb : Below w.heap.size w (w.drewN nq) := below_drewN (Below.refl _ _) nq
    have HW1 := Lib.hid (HW0.out.trans (hb.mono HW0.out.size))
    have HNA1 := Lib.hid (HNA0.out.keep hb)
    have HNB1 := Lib.hid (HNB0.out.keep hb)
    clear HW0 HNA0 HNB0
    clear hb
    refine (mul_ok pA mA cA A pB mB cB B _ HNA1.out HNB1.out HLA.out HLB.out (by first | omega | (rw [HLA.out]; omega)) (by first | omega | (rw [HLB.out]; omega))).mono ?_
    rintro e w2 hR
    obtain ⟨p, pp, cp, hp, rfl, hb, hn, hsp⟩ := hR.word (k := 80) (len_mul hsA hsB (by omega))
    have HW2 := Lib.hid (HW1.out.trans (hb.mono HW1.out.size))
    have HNA2 := Lib.hid (HNA1.out.keep hb)
    have HNB2 := Lib.hid (HNB1.out.keep hb)
    clear HW1 HNA1 HNB1
    have HNp2 := Lib.hid hn
    have Hp := Lib.hid hp
    clear hb hn hp
    go_wp2_with fail
    refine (rbits_ok pA mA cA A _ HNA2.out HLA.out (by first | omega | (rw [HLA.out]; omega))).mono ?_
    rintro e w' ⟨rfl, rfl⟩
    rw [HZ.out, nb_zero]
    go_wp2_with fail
    refine (rbits_ok pB mB cB B _ HNB2.out HLB.out (by first | omega | (rw [HLB.out]; omega))).mono ?_
    rintro e w' ⟨rfl, rfl⟩
    go_wp2_with fail
    refine (bits_ok pp _ cp (limbs p) _ HNp2.out rfl (by omega)).mono ?_
    rintro e w' ⟨rfl, rfl⟩
    simp only [val_limbs]
    rw [show nb p = 0 from by rw [Hp.out, HZ.out, Nat.zero_mul, nb_zero]]
    go_wp2_with fail
    refine (rmul_ok pA mA cA A pB mB cB B _ HNA2.out HNB2.out HLA.out HLB.out (by first | omega | (rw [HLA.out]; omega)) (by first | omega | (rw [HLB.out]; omega))).mono ?_
    rintro e w3 hR
    obtain ⟨q, pq, cq, hq, rfl, hb, hn, hsq⟩ := hR.word (k := 80) (len_mul hsA hsB (by omega))
    have HW3 := Lib.hid (HW2.out.trans (hb.mono HW2.out.size))
    have HNA3 := Lib.hid (HNA2.out.keep hb)
    have HNB3 := Lib.hid (HNB2.out.keep hb)
    have HNp3 := Lib.hid (HNp2.out.keep hb)
    clear HW2 HNA2 HNB2 HNp2
    have HNq3 := Lib.hid hn
    have Hq := Lib.hid hq
    clear hb hn hq
    go_wp2_with fail
    refine (same_ok pp _ cp (limbs p) pq _ cq (limbs q) _ HNp3.out HNq3.out rfl rfl).mono ?_
    rintro e w4 ⟨rfl, hb⟩
    rw [eq_limbs (show p = q from by rw [Hp.out, Hq.out])]
    have HW4 := Lib.hid (HW3.out.trans (hb.mono HW3.out.size))
    have HNA4 := Lib.hid (HNA3.out.keep hb)
    have HNB4 := Lib.hid (HNB3.out.keep hb)
    have HNp4 := Lib.hid (HNp3.out.keep hb)
    have HNq4 := Lib.hid (HNq3.out.keep hb)
    clear HW3 HNA3 HNB3 HNp3 HNq3
    clear hb
    go_wp2_with fail
    refine (awake_ok _ (Tab.keep HT.out HW4.out hg) (Nat.lt_of_lt_of_le hg HW4.out.size)).mono ?_
    rintro e w5 ⟨rfl, hb⟩
    have HW5 := Lib.hid (HW4.out.trans (hb.mono HW4.out.size))
    have HNA5 := Lib.hid (HNA4.out.keep hb)
    have HNB5 := Lib.hid (HNB4.out.keep hb)
    have HNp5 := Lib.hid (HNp4.out.keep hb)
    have HNq5 := Lib.hid (HNq4.out.keep hb)
    clear HW4 HNA4 HNB4 HNp4 HNq4
    clear hb
    go_wp2_with fail
    go_ret
    exact ⟨rfl, HW5.out⟩
  · have HZ := Lib.hid hz
    have HA0 := Lib.hid ha0
    clear hz ha0
    have hm0 : (((nb (val A) : Nat) : Int) == 0) = false := nb_ne HA0.out
    go_enter Tryd.func7, Tryd.ntmps7
    go_wp2_with fail
    go_quiet (fail)
    go_wp2_with fail
    have hb : Below w.heap.size w (w.drewN nq) := below_drewN (Below.refl _ _) nq
    have HW1 := Lib.hid (HW0.out.trans (hb.mono HW0.out.size))
    have HNA1 := Lib.hid (HNA0.out.keep hb)
    have HNB1 := Lib.hid (HNB0.out.keep hb)
    clear HW0 HNA0 HNB0
    clear hb
    refine (mul_ok pA mA cA A pB mB cB B _ HNA1.out HNB1.out HLA.out HLB.out (by first | omega | (rw [HLA.out]; omega)) (by first | omega | (rw [HLB.out]; omega))).mono ?_
    rintro e w2 hR
    obtain ⟨p, pp, cp, hp, rfl, hb, hn, hsp⟩ := hR.word (k := 80) (len_mul hsA hsB (by omega))
    have HW2 := Lib.hid (HW1.out.trans (hb.mono HW1.out.size))
    have HNA2 := Lib.hid (HNA1.out.keep hb)
    have HNB2 := Lib.hid (HNB1.out.keep hb)
    clear HW1 HNA1 HNB1
    have HNp2 := Lib.hid hn
    have Hp := Lib.hid hp
    clear hb hn hp
    go_wp2_with fail
    refine (rbits_ok pA mA cA A _ HNA2.out HLA.out (by first | omega | (rw [HLA.out]; omega))).mono ?_
    rintro e w' ⟨rfl, rfl⟩
    go_wp2_with fail
    refine (rbits_ok pB mB cB B _ HNB2.out HLB.out (by first | omega | (rw [HLB.out]; omega))).mono ?_
    rintro e w' ⟨rfl, rfl⟩
    rw [HZ.out, nb_zero]
    go_wp2_with fail
    refine (bits_ok pp _ cp (limbs p) _ HNp2.out rfl (by omega)).mono ?_
    rintro e w' ⟨rfl, rfl⟩
    simp only [val_limbs]
    rw [show nb p = 0 from by rw [Hp.out, HZ.out, Nat.mul_zero, nb_zero]]
    go_wp2_with fail
    refine (rmul_ok pA mA cA A pB mB cB B _ HNA2.out HNB2.out HLA.out HLB.out (by first | omega | (rw [HLA.out]; omega)) (by first | omega | (rw [HLB.out]; omega))).mono ?_
    rintro e w3 hR
    obtain ⟨q, pq, cq, hq, rfl, hb, hn, hsq⟩ := hR.word (k := 80) (len_mul hsA hsB (by omega))
    have HW3 := Lib.hid (HW2.out.trans (hb.mono HW2.out.size))
    have HNA3 := Lib.hid (HNA2.out.keep hb)
    have HNB3 := Lib.hid (HNB2.out.keep hb)
    have HNp3 := Lib.hid (HNp2.out.keep hb)
    clear HW2 HNA2 HNB2 HNp2
    have HNq3 := Lib.hid hn
    have Hq := Lib.hid hq
    clear hb hn hq
    go_wp2_with fail
    refine (same_ok pp _ cp (limbs p) pq _ cq (limbs q) _ HNp3.out HNq3.out rfl rfl).mono ?_
    rintro e w4 ⟨rfl, hb⟩
    rw [eq_limbs (show p = q from by rw [Hp.out, Hq.out])]
    have HW4 := Lib.hid (HW3.out.trans (hb.mono HW3.out.size))
    have HNA4 := Lib.hid (HNA3.out.keep hb)
    have HNB4 := Lib.hid (HNB3.out.keep hb)
    have HNp4 := Lib.hid (HNp3.out.keep hb)
    have HNq4 := Lib.hid (HNq3.out.keep hb)
    clear HW3 HNA3 HNB3 HNp3 HNq3
    clear hb
    go_wp2_with fail
    refine (awake_ok _ (Tab.keep HT.out HW4.out hg) (Nat.lt_of_lt_of_le hg HW4.out.size)).mono ?_
    rintro e w5 ⟨rfl, hb⟩
    have HW5 := Lib.hid (HW4.out.trans (hb.mono HW4.out.size))
    have HNA5 := Lib.hid (HNA4.out.keep hb)
    have HNB5 := Lib.hid (HNB4.out.keep hb)
    have HNp5 := Lib.hid (HNp4.out.keep hb)
    have HNq5 := Lib.hid (HNq4.out.keep hb)
    clear HW4 HNA4 HNB4 HNp4 HNq4
    clear hb
    go_wp2_with fail
    go_ret
    exact ⟨rfl, HW5.out⟩
  · have HZ := Lib.hid hz
    have HA0 := Lib.hid ha0
    have HB0 := Lib.hid hb0
    clear hz ha0 hb0
    have hm0 : (((nb (val A) : Nat) : Int) == 0) = false := nb_ne HA0.out
    have hn0 : (((nb (val B) : Nat) : Int) == 0) = false := nb_ne HB0.out
    obtain ⟨m, hm⟩ : ∃ m, m = nb (val A) := ⟨_, rfl⟩
    obtain ⟨n, hn⟩ : ∃ n, n = nb (val B) := ⟨_, rfl⟩
    have hm1 : 1 ≤ m := by rw [hm]; exact nb_one HA0.out
    have hn1 : 1 ≤ n := by rw [hn]; exact nb_one HB0.out
    rw [← hm] at hm0 hxA HZ
    rw [← hn] at hn0 hxB HZ
    have HM := Lib.hid hm
    have HNN := Lib.hid hn
    clear hm hn
    have hmn : (((m + n : Nat) : Int) == 0) = false := by rw [beq_eq_false_iff_ne]; omega
    have hmn1 : ((m : Int) + (n : Int) == 0) = false := by rw [beq_eq_false_iff_ne]; omega
    have hmn2 : (((m + n : Nat) : Int) == (m : Int) + (n : Int)) = true := by rw [beq_iff_eq]; omega
    go_enter Tryd.func7, Tryd.ntmps7
    go_wp2_with fail
    go_quiet (fail)
    go_wp2_with fail
    have hb : Below w.heap.size w (w.drewN nq) := below_drewN (Below.refl _ _) nq
    have HW1 := Lib.hid (HW0.out.trans (hb.mono HW0.out.size))
    have HNA1 := Lib.hid (HNA0.out.keep hb)
    have HNB1 := Lib.hid (HNB0.out.keep hb)
    clear HW0 HNA0 HNB0
    clear hb
    refine (mul_ok pA mA cA A pB mB cB B _ HNA1.out HNB1.out HLA.out HLB.out (by first | omega | (rw [HLA.out]; omega)) (by first | omega | (rw [HLB.out]; omega))).mono ?_
    rintro e w2 hR
    obtain ⟨p, pp, cp, hp, rfl, hb, hn, hsp⟩ := hR.word (k := 80) (len_mul hsA hsB (by omega))
    have HW2 := Lib.hid (HW1.out.trans (hb.mono HW1.out.size))
    have HNA2 := Lib.hid (HNA1.out.keep hb)
    have HNB2 := Lib.hid (HNB1.out.keep hb)
    clear HW1 HNA1 HNB1
    have HNp2 := Lib.hid hn
    have Hp := Lib.hid hp
    clear hb hn hp
    go_wp2_with fail
    refine (rbits_ok pA mA cA A _ HNA2.out HLA.out (by first | omega | (rw [HLA.out]; omega))).mono ?_
    rintro e w' ⟨rfl, rfl⟩
    rw [← HM.out]
    go_wp2_with fail
    refine (rbits_ok pB mB cB B _ HNB2.out HLB.out (by first | omega | (rw [HLB.out]; omega))).mono ?_
    rintro e w' ⟨rfl, rfl⟩
    rw [← HNN.out]
    go_wp2_with fail
    refine (bits_ok pp _ cp (limbs p) _ HNp2.out rfl (by omega)).mono ?_
    rintro e w' ⟨rfl, rfl⟩
    simp only [val_limbs]
    rw [show nb p = m + n from by rw [Hp.out]; exact HZ.out]
    go_wp2_with fail
    refine (rmul_ok pA mA cA A pB mB cB B _ HNA2.out HNB2.out HLA.out HLB.out (by first | omega | (rw [HLA.out]; omega)) (by first | omega | (rw [HLB.out]; omega))).mono ?_
    rintro e w3 hR
    obtain ⟨q, pq, cq, hq, rfl, hb, hn, hsq⟩ := hR.word (k := 80) (len_mul hsA hsB (by omega))
    have HW3 := Lib.hid (HW2.out.trans (hb.mono HW2.out.size))
    have HNA3 := Lib.hid (HNA2.out.keep hb)
    have HNB3 := Lib.hid (HNB2.out.keep hb)
    have HNp3 := Lib.hid (HNp2.out.keep hb)
    clear HW2 HNA2 HNB2 HNp2
    have HNq3 := Lib.hid hn
    have Hq := Lib.hid hq
    clear hb hn hq
    go_wp2_with fail
    refine (same_ok pp _ cp (limbs p) pq _ cq (limbs q) _ HNp3.out HNq3.out rfl rfl).mono ?_
    rintro e w4 ⟨rfl, hb⟩
    rw [eq_limbs (show p = q from by rw [Hp.out, Hq.out])]
    have HW4 := Lib.hid (HW3.out.trans (hb.mono HW3.out.size))
    have HNA4 := Lib.hid (HNA3.out.keep hb)
    have HNB4 := Lib.hid (HNB3.out.keep hb)
    have HNp4 := Lib.hid (HNp3.out.keep hb)
    have HNq4 := Lib.hid (HNq3.out.keep hb)
    clear HW3 HNA3 HNB3 HNp3 HNq3
    clear hb
    go_wp2_with fail
    refine (awake_ok _ (Tab.keep HT.out HW4.out hg) (Nat.lt_of_lt_of_le hg HW4.out.size)).mono ?_
    rintro e w5 ⟨rfl, hb⟩
    have HW5 := Lib.hid (HW4.out.trans (hb.mono HW4.out.size))
    have HNA5 := Lib.hid (HNA4.out.keep hb)
    have HNB5 := Lib.hid (HNB4.out.keep hb)
    have HNp5 := Lib.hid (HNp4.out.keep hb)
    have HNq5 := Lib.hid (HNq4.out.keep hb)
    clear HW4 HNA4 HNB4 HNp4 HNq4
    clear hb
    go_wp2_with fail
    go_ret
    exact ⟨rfl, HW5.out⟩
  · have HZ := Lib.hid hz
    have HA0 := Lib.hid ha0
    have HB0 := Lib.hid hb0
    clear hz ha0 hb0
    have hm0 : (((nb (val A) : Nat) : Int) == 0) = false := nb_ne HA0.out
    have hn0 : (((nb (val B) : Nat) : Int) == 0) = false := nb_ne HB0.out
    obtain ⟨m, hm⟩ : ∃ m, m = nb (val A) := ⟨_, rfl⟩
    obtain ⟨n, hn⟩ : ∃ n, n = nb (val B) := ⟨_, rfl⟩
    have hm1 : 1 ≤ m := by rw [hm]; exact nb_one HA0.out
    have hn1 : 1 ≤ n := by rw [hn]; exact nb_one HB0.out
    rw [← hm] at hm0 hxA HZ
    rw [← hn] at hn0 hxB HZ
    have HM := Lib.hid hm
    have HNN := Lib.hid hn
    clear hm hn
    have hmn : (((m + n - 1 : Nat) : Int) == 0) = false := by rw [beq_eq_false_iff_ne]; omega
    have hmn2 : (((m + n - 1 : Nat) : Int) == (m : Int) + (n : Int)) = false := by rw [beq_eq_false_iff_ne]; omega
    have hmn3 : (((m + n - 1 : Nat) : Int) == (m : Int) + (n : Int) - 1) = true := by rw [beq_iff_eq]; omega
    go_enter Tryd.func7, Tryd.ntmps7
    go_wp2_with fail
    go_quiet (fail)
    go_wp2_with fail
    have hb : Below w.heap.size w (w.drewN nq) := below_drewN (Below.refl _ _) nq
    have HW1 := Lib.hid (HW0.out.trans (hb.mono HW0.out.size))
    have HNA1 := Lib.hid (HNA0.out.keep hb)
    have HNB1 := Lib.hid (HNB0.out.keep hb)
    clear HW0 HNA0 HNB0
    clear hb
    refine (mul_ok pA mA cA A pB mB cB B _ HNA1.out HNB1.out HLA.out HLB.out (by first | omega | (rw [HLA.out]; omega)) (by first | omega | (rw [HLB.out]; omega))).mono ?_
    rintro e w2 hR
    obtain ⟨p, pp, cp, hp, rfl, hb, hn, hsp⟩ := hR.word (k := 80) (len_mul hsA hsB (by omega))
    have HW2 := Lib.hid (HW1.out.trans (hb.mono HW1.out.size))
    have HNA2 := Lib.hid (HNA1.out.keep hb)
    have HNB2 := Lib.hid (HNB1.out.keep hb)
    clear HW1 HNA1 HNB1
    have HNp2 := Lib.hid hn
    have Hp := Lib.hid hp
    clear hb hn hp
    go_wp2_with fail
    refine (rbits_ok pA mA cA A _ HNA2.out HLA.out (by first | omega | (rw [HLA.out]; omega))).mono ?_
    rintro e w' ⟨rfl, rfl⟩
    rw [← HM.out]
    go_wp2_with fail
    refine (rbits_ok pB mB cB B _ HNB2.out HLB.out (by first | omega | (rw [HLB.out]; omega))).mono ?_
    rintro e w' ⟨rfl, rfl⟩
    rw [← HNN.out]
    go_wp2_with fail
    refine (bits_ok pp _ cp (limbs p) _ HNp2.out rfl (by omega)).mono ?_
    rintro e w' ⟨rfl, rfl⟩
    simp only [val_limbs]
    rw [show nb p = m + n - 1 from by rw [Hp.out]; exact HZ.out]
    go_wp2_with fail
    refine (rmul_ok pA mA cA A pB mB cB B _ HNA2.out HNB2.out HLA.out HLB.out (by first | omega | (rw [HLA.out]; omega)) (by first | omega | (rw [HLB.out]; omega))).mono ?_
    rintro e w3 hR
    obtain ⟨q, pq, cq, hq, rfl, hb, hn, hsq⟩ := hR.word (k := 80) (len_mul hsA hsB (by omega))
    have HW3 := Lib.hid (HW2.out.trans (hb.mono HW2.out.size))
    have HNA3 := Lib.hid (HNA2.out.keep hb)
    have HNB3 := Lib.hid (HNB2.out.keep hb)
    have HNp3 := Lib.hid (HNp2.out.keep hb)
    clear HW2 HNA2 HNB2 HNp2
    have HNq3 := Lib.hid hn
    have Hq := Lib.hid hq
    clear hb hn hq
    go_wp2_with fail
    refine (same_ok pp _ cp (limbs p) pq _ cq (limbs q) _ HNp3.out HNq3.out rfl rfl).mono ?_
    rintro e w4 ⟨rfl, hb⟩
    rw [eq_limbs (show p = q from by rw [Hp.out, Hq.out])]
    have HW4 := Lib.hid (HW3.out.trans (hb.mono HW3.out.size))
    have HNA4 := Lib.hid (HNA3.out.keep hb)
    have HNB4 := Lib.hid (HNB3.out.keep hb)
    have HNp4 := Lib.hid (HNp3.out.keep hb)
    have HNq4 := Lib.hid (HNq3.out.keep hb)
    clear HW3 HNA3 HNB3 HNp3 HNq3
    clear hb
    go_wp2_with fail
    refine (awake_ok _ (Tab.keep HT.out HW4.out hg) (Nat.lt_of_lt_of_le hg HW4.out.size)).mono ?_
    rintro e w5 ⟨rfl, hb⟩
    have HW5 := Lib.hid (HW4.out.trans (hb.mono HW4.out.size))
    have HNA5 := Lib.hid (HNA4.out.keep hb)
    have HNB5 := Lib.hid (HNB4.out.keep hb)
    have HNp5 := Lib.hid (HNp4.out.keep hb)
    have HNq5 := Lib.hid (HNq4.out.keep hb)
    clear HW4 HNA4 HNB4 HNp4 HNq4
    clear hb
    go_wp2_with fail
    go_ret
    exact ⟨rfl, HW5.out⟩
end Go.Proofs.YtfdjlkffhikaeaaDoor
