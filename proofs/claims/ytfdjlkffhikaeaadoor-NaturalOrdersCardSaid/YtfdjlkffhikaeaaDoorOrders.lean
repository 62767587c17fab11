/- NaturalOrders: the walk. Printed by wg.py. -/
import Derived.Test.YtfdjlkffhikaeaaDoorWord
import Derived.Test.YtfdjlkffhikaeaaDoorAdd
import Derived.Test.YtfdjlkffhikaeaaDoorCmp
import Derived.Test.YtfdjlkffhikaeaaDoorRefB
import Derived.Test.YtfdjlkffhikaeaaDoorRefD
import Derived.Test.YtfdjlkffhikaeaaDoorApp
namespace Go.Proofs.YtfdjlkffhikaeaaDoor
open Go.RowKit Nt

set_option maxRecDepth 100000 in
set_option maxHeartbeats 2000000 in
theorem orders_walk (pA : Option Addr) (nA cA : Nat) (lA : List Nat) (pB : Option Addr) (nB cB : Nat) (lB : List Nat) (zz : Int) (w : World) (haA : NatIn w pA cA lA) (haB : NatIn w pB cB lB) (hlA : lA.length = nA) (hlB : lB.length = nB) (hzz : -9223372036854775808 ≤ zz ∧ zz ≤ 9223372036854775807) (ht : Tab w) (hg : 0 < w.heap.size) :
    Calls Tryd.prog 5 #[.slice pA nA cA, .slice pB nB cB, .int .i64 zz] w fun e w' => e = .returned (.bool true) ∧ Below w.heap.size w w' := by
  have hcA := haA.le
  have hdA := haA.cap
  obtain ⟨mA, hmA⟩ : ∃ m, m = min nA 12 := ⟨_, rfl⟩
  have hAA := haA.take (k := mA) (by omega)
  have hLA : (lA.take mA).length = mA := by rw [List.length_take]; omega
  have hiA : min nA 12 = mA := hmA.symm
  have hjA : min (nA : Int) 12 = (mA : Int) := by omega
  have hkA : mA ≤ 12 := by omega
  have hoA : mA ≤ nA := by omega
  have heA : nA ≤ cA := by omega
  have hfA : mA ≤ cA := by omega
  obtain ⟨A, eA⟩ : ∃ L, L = lA.take mA := ⟨_, rfl⟩
  rw [← eA] at hAA hLA
  have hsA : (limbs (val A)).length ≤ 12 := len_val hAA.lim hLA hkA
  have HNA0 := Lib.hid hAA
  have HLA := Lib.hid hLA
  have hcB := haB.le
  have hdB := haB.cap
  obtain ⟨mB, hmB⟩ : ∃ m, m = min nB 12 := ⟨_, rfl⟩
  have hAB := haB.take (k := mB) (by omega)
  have hLB : (lB.take mB).length = mB := by rw [List.length_take]; omega
  have hiB : min nB 12 = mB := hmB.symm
  have hjB : min (nB : Int) 12 = (mB : Int) := by omega
  have hkB : mB ≤ 12 := by omega
  have hoB : mB ≤ nB := by omega
  have heB : nB ≤ cB := by omega
  have hfB : mB ≤ cB := by omega
  obtain ⟨B, eB⟩ : ∃ L, L = lB.take mB := ⟨_, rfl⟩
  rw [← eB] at hAB hLB
  have hsB : (limbs (val B)).length ≤ 12 := len_val hAB.lim hLB hkB
  have HNB0 := Lib.hid hAB
  have HLB := Lib.hid hLB
  have HT := Lib.hid ht
  have HW0 := Lib.hid (Below.refl w.heap.size w)
  clear ht haA hlA hmA eA hAA hLA hcA haB hlB hmB eB hAB hLB hcB
  obtain ⟨c0, hc0⟩ : ∃ c, c = cmp (val A) (val B) := ⟨_, rfl⟩
  have hcb : -1 ≤ c0 ∧ c0 ≤ 1 := by rw [hc0]; exact cmp_bd _ _
  have hcl := hcb.1
  have hcu := hcb.2
  have HC := Lib.hid hc0
  clear hc0 hcb
  have hrow := row_lit (B := w.heap.size) w (cs := #[]) (L := []) rfl lim_nil (n := 0) rfl (by omega) (Nat.le_refl _)
  have hAn := HNA0.out.keep (below_new w (.cells #[] 35))
  have HNA_ := Lib.hid HNA0.out
  have HNB_ := Lib.hid HNB0.out
  go_enter Tryd.func5, Tryd.ntmps5
  go_wp2_with fail
  refine (cut_ok pA nA cA _ heA hdA).mono ?_
  rintro e w' ⟨rfl, rfl⟩
  rw [hiA]
  go_wp2_with fail
  refine (cut_ok pB nB cB _ heB hdB).mono ?_
  rintro e w' ⟨rfl, rfl⟩
  rw [hiB]
  go_wp2_with (at_builtin; refine wpList_apw _ rfl _ _ rfl rfl hrow rfl hAn HLA.out (by omega) (by omega) (by simp) ?_)
  intro g1 c1 w1 hR1 hb
  replace hb := (below_new w (.cells #[] 35)).trans hb
  have HW1 := Lib.hid (HW0.out.trans (hb.mono HW0.out.size))
  have HNA1 := Lib.hid (HNA0.out.keep hb)
  have HNB1 := Lib.hid (HNB0.out.keep hb)
  clear HW0 HNA0 HNB0
  have HR1 := Lib.hid hR1
  clear hR1 hrow hAn hb
  go_wp2_with fail
  refine (fold_ok zz 5 _ (by omega) (by omega) hzz).mono ?_
  rintro e w' ⟨⟨r, hr0, hr1, rfl⟩, rfl⟩
  obtain ⟨k, rfl⟩ : ∃ k : Nat, r = (k : Int) := ⟨r.toNat, by omega⟩
  have hR1 := HR1.out
  have hw1 := HW1.out.size
  go_wp2_with (at_builtin; refine wpList_apz _ rfl _ _ rfl rfl hR1 k rfl rfl (by omega) (by omega) hw1 ?_)
  intro g2 c2 w2 hR2 hb
  clear hR1
  obtain ⟨nl, hnl⟩ : ∃ x, x = mA + k := ⟨_, rfl⟩
  obtain ⟨Lg, hLg⟩ : ∃ x, x = A ++ List.replicate k 0 := ⟨_, rfl⟩
  rw [← hnl] at hR2 ⊢
  rw [← hLg] at hR2
  have hLl := hR2.len
  obtain ⟨gg, cc, he, hN, _⟩ := hR2.natIn
  simp only [Value.slice.injEq, Option.some.injEq, Addr.mk.injEq, and_true, true_and] at he
  obtain ⟨rfl, rfl⟩ := he
  have hLv : Hid (val Lg = val A) := by rw [hLg, val_append, val_zeros]; exact Nat.add_zero _
  have hw2 := HW1.out.trans hb
  have HW2 := Lib.hid hw2
  have HNA2 := Lib.hid (HNA1.out.below hb (fun h => (HNA_.out.ptr h).2))
  have HNB2 := Lib.hid (HNB1.out.below hb (fun h => (HNB_.out.ptr h).2))
  clear HW1 HNA1 HNB1
  have HNg2 := Lib.hid hN
  have HLg := Lib.hid hLl
  have hnl2 : nl ≤ 20 := by omega
  clear hb hw2 hw1 hR2 hN hLl hnl HR1 hLg
  go_wp2_with fail
  refine (cmp_ok pA mA cA A pB mB cB B _ HNA2.out HNB2.out HLA.out HLB.out).mono ?_
  rintro e w3 ⟨rfl, hb⟩
  rw [← HC.out]
  have HW3 := Lib.hid (HW2.out.trans (hb.mono HW2.out.size))
  have HNA3 := Lib.hid (HNA2.out.keep hb)
  have HNB3 := Lib.hid (HNB2.out.keep hb)
  have HNg3 := Lib.hid (HNg2.out.keep hb)
  clear HW2 HNA2 HNB2 HNg2
  clear hb
  go_wp2_with fail
  refine (rcmp_ok pA mA cA A pB mB cB B _ HNA3.out HNB3.out HLA.out HLB.out).mono ?_
  rintro e w4 ⟨rfl, hb⟩
  rw [← HC.out]
  have HW4 := Lib.hid (HW3.out.trans (hb.mono HW3.out.size))
  have HNA4 := Lib.hid (HNA3.out.keep hb)
  have HNB4 := Lib.hid (HNB3.out.keep hb)
  have HNg4 := Lib.hid (HNg3.out.keep hb)
  clear HW3 HNA3 HNB3 HNg3
  clear hb
  go_wp2_with fail
  have hneg : IntKind.i64.wrap (-c0) = -c0 := IntWalk.i64_in _ (by omega)
  refine (cmp_ok pB mB cB B pA mA cA A _ HNB4.out HNA4.out HLB.out HLA.out).mono ?_
  rintro e w5 ⟨rfl, hb⟩
  rw [cmp_swap (val A) (val B), ← HC.out]
  have HW5 := Lib.hid (HW4.out.trans (hb.mono HW4.out.size))
  have HNA5 := Lib.hid (HNA4.out.keep hb)
  have HNB5 := Lib.hid (HNB4.out.keep hb)
  have HNg5 := Lib.hid (HNg4.out.keep hb)
  clear HW4 HNA4 HNB4 HNg4
  clear hb
  go_wp2_with fail
  refine (cmp_ok (some ⟨g2, 0, none⟩) nl c2 Lg pA mA cA A _ HNg5.out HNA5.out HLg.out HLA.out).mono ?_
  rintro e w6 ⟨rfl, hb⟩
  rw [hLv.out, cmp_eq rfl]
  have HW6 := Lib.hid (HW5.out.trans (hb.mono HW5.out.size))
  have HNA6 := Lib.hid (HNA5.out.keep hb)
  have HNB6 := Lib.hid (HNB5.out.keep hb)
  have HNg6 := Lib.hid (HNg5.out.keep hb)
  clear HW5 HNA5 HNB5 HNg5
  clear hb
  go_wp2_with fail
  refine (cmp_ok (some ⟨g2, 0, none⟩) nl c2 Lg pB mB cB B _ HNg6.out HNB6.out HLg.out HLB.out).mono ?_
  rintro e w7 ⟨rfl, hb⟩
  rw [hLv.out, ← HC.out]
  have HW7 := Lib.hid (HW6.out.trans (hb.mono HW6.out.size))
  have HNA7 := Lib.hid (HNA6.out.keep hb)
  have HNB7 := Lib.hid (HNB6.out.keep hb)
  have HNg7 := Lib.hid (HNg6.out.keep hb)
  clear HW6 HNA6 HNB6 HNg6
  clear hb
  go_wp2_with fail
  refine (add_ok pA mA cA A pB mB cB B _ HNA7.out HNB7.out HLA.out HLB.out (by first | omega | (rw [HLA.out]; omega)) (by first | omega | (rw [HLB.out]; omega))).mono ?_
  rintro e w8 hR
  obtain ⟨s, ps, cs, hs, rfl, hb, hn, hss⟩ := hR.word (k := 13) (len_add hsA hsB (by omega) (by omega))
  have HW8 := Lib.hid (HW7.out.trans (hb.mono HW7.out.size))
  have HNA8 := Lib.hid (HNA7.out.keep hb)
  have HNB8 := Lib.hid (HNB7.out.keep hb)
  have HNg8 := Lib.hid (HNg7.out.keep hb)
  clear HW7 HNA7 HNB7 HNg7
  have HNs8 := Lib.hid hn
  have Hs := Lib.hid hs
  clear hb hn hs
  go_wp2_with fail
  refine (cmp_ok ps _ cs (limbs s) pA mA cA A _ HNs8.out HNA8.out rfl HLA.out).mono ?_
  rintro e w9 ⟨rfl, hb⟩
  simp only [val_limbs]
  have HW9 := Lib.hid (HW8.out.trans (hb.mono HW8.out.size))
  have HNA9 := Lib.hid (HNA8.out.keep hb)
  have HNB9 := Lib.hid (HNB8.out.keep hb)
  have HNg9 := Lib.hid (HNg8.out.keep hb)
  have HNs9 := Lib.hid (HNs8.out.keep hb)
  clear HW8 HNA8 HNB8 HNg8 HNs8
  clear hb
  obtain ⟨t, ht⟩ : ∃ t, t = cmp s (val A) := ⟨_, rfl⟩
  have ht0 : 0 ≤ t := by
    have h1 : ¬ cmp s (val A) < 0 := by rw [cmp_neg, Hs.out]; omega
    rw [ht]; omega
  rw [← ht]
  clear ht
  go_wp2_with fail
  refine (awake_ok _ (Tab.keep HT.out HW9.out hg) (Nat.lt_of_lt_of_le hg HW9.out.size)).mono ?_
  rintro e w10 ⟨rfl, hb⟩
  have HW10 := Lib.hid (HW9.out.trans (hb.mono HW9.out.size))
  have HNA10 := Lib.hid (HNA9.out.keep hb)
  have HNB10 := Lib.hid (HNB9.out.keep hb)
  have HNg10 := Lib.hid (HNg9.out.keep hb)
  have HNs10 := Lib.hid (HNs9.out.keep hb)
  clear HW9 HNA9 HNB9 HNg9 HNs9
  clear hb
  go_wp2_with fail
  go_ret
  exact ⟨rfl, HW10.out⟩
end Go.Proofs.YtfdjlkffhikaeaaDoor
