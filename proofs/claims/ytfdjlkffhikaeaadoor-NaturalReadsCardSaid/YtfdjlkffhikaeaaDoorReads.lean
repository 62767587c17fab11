/- NaturalReads: the walk. Printed by wg.py. -/
import Derived.Test.YtfdjlkffhikaeaaDoorWord
import Derived.Test.YtfdjlkffhikaeaaDoorUint
import Derived.Test.YtfdjlkffhikaeaaDoorTrim
import Derived.Test.YtfdjlkffhikaeaaDoorRefB
namespace Go.Proofs.YtfdjlkffhikaeaaDoor
open Go.RowKit Nt

set_option maxRecDepth 100000 in
set_option maxHeartbeats 2000000 in
theorem reads_walk (pA : Option Addr) (nA cA : Nat) (lA : List Nat) (zv : Int) (w : World) (haA : NatIn w pA cA lA) (hlA : lA.length = nA) (hzv : 0 ≤ zv ∧ zv ≤ 18446744073709551615) (ht : Tab w) (hg : 0 < w.heap.size) :
    Calls Tryd.prog 6 #[.slice pA nA cA, .int .u64 zv] w fun e w' => e = .returned (.bool true) ∧ Below w.heap.size w w' := by
  have hcA := haA.le
  have hdA := haA.cap
  obtain ⟨mA, hmA⟩ : ∃ m, m = min nA 200 := ⟨_, rfl⟩
  have hAA := haA.take (k := mA) (by omega)
  have hLA : (lA.take mA).length = mA := by rw [List.length_take]; omega
  have hiA : min nA 200 = mA := hmA.symm
  have hjA : min (nA : Int) 200 = (mA : Int) := by omega
  have hkA : mA ≤ 200 := by omega
  have hoA : mA ≤ nA := by omega
  have heA : nA ≤ cA := by omega
  have hfA : mA ≤ cA := by omega
  obtain ⟨A, eA⟩ : ∃ L, L = lA.take mA := ⟨_, rfl⟩
  rw [← eA] at hAA hLA
  have hsA : (limbs (val A)).length ≤ 200 := len_val hAA.lim hLA hkA
  have HNA0 := Lib.hid hAA
  have HLA := Lib.hid hLA
  have HT := Lib.hid ht
  have HW0 := Lib.hid (Below.refl w.heap.size w)
  clear ht haA hlA hmA eA hAA hLA hcA
  obtain ⟨v, rfl⟩ : ∃ v : Nat, zv = (v : Int) := ⟨zv.toNat, by omega⟩
  have hv : v < 18446744073709551616 := by omega
  have hv2 : (limbs v).length ≤ 2 := limbs_length_le (by rw [show bp 2 = 18446744073709551616 from rfl]; exact hv)
  obtain ⟨uv, huv⟩ : ∃ x, x = u64v (val A) := ⟨_, rfl⟩
  obtain ⟨ok, hok⟩ : ∃ x, x = u64ok (val A) := ⟨_, rfl⟩
  have HV := Lib.hid hv
  have HUV := Lib.hid huv
  have HOK := Lib.hid hok
  clear huv hok hzv hv
  cases ok
  · go_enter Tryd.func6, Tryd.ntmps6
    go_wp2_with fail
    refine (uint_ok pA mA cA A _ HNA0.out HLA.out).mono ?_
    rintro e w1 ⟨rfl, hb⟩
    rw [← HUV.out, ← HOK.out]
    have HW1 := Lib.hid (HW0.out.trans (hb.mono HW0.out.size))
    have HNA1 := Lib.hid (HNA0.out.keep hb)
    clear HW0 HNA0
    clear hb
    go_wp2_with fail
    refine (ruint_ok pA mA cA A _ HNA1.out HLA.out).mono ?_
    rintro e w' ⟨rfl, rfl⟩
    rw [← HUV.out, ← HOK.out]
    go_wp2_with fail
    refine (fromUint_ok v HV.out _).mono ?_
    rintro e w2 hR
    obtain ⟨f, pf, cf, hf, rfl, hb, hn, hsf⟩ := hR.word (k := 2) (hv2)
    have HW2 := Lib.hid (HW1.out.trans (hb.mono HW1.out.size))
    have HNA2 := Lib.hid (HNA1.out.keep hb)
    clear HW1 HNA1
    have HNf2 := Lib.hid hn
    have Hf := Lib.hid hf
    clear hb hn hf
    go_wp2_with fail
    refine (uint_ok pf _ cf (limbs f) _ HNf2.out rfl).mono ?_
    rintro e w3 ⟨rfl, hb⟩
    simp only [val_limbs]
    rw [show u64v f = v from by rw [Hf.out, u64v_fit HV.out], show u64ok f = true from by rw [Hf.out, u64ok_fit HV.out]]
    have HW3 := Lib.hid (HW2.out.trans (hb.mono HW2.out.size))
    have HNA3 := Lib.hid (HNA2.out.keep hb)
    have HNf3 := Lib.hid (HNf2.out.keep hb)
    clear HW2 HNA2 HNf2
    clear hb
    go_wp2_with fail
    clear HNf3
    refine (trim_ok pA mA cA A _ HNA3.out HLA.out (by first | omega | (rw [HLA.out]; omega))).mono ?_
    rintro e w4 hR
    obtain ⟨t, pt, ct, ht, rfl, hb, hn, hst⟩ := hR.word (k := 200) (hsA)
    have HW4 := Lib.hid (HW3.out.trans (hb.mono HW3.out.size))
    have HNA4 := Lib.hid (HNA3.out.keep hb)
    clear HW3 HNA3
    have HNt4 := Lib.hid hn
    have Ht := Lib.hid ht
    clear hb hn ht
    go_wp2_with fail
    refine (rtrim_ok pA mA cA A _ HNA4.out HLA.out (by first | omega | (rw [HLA.out]; omega))).mono ?_
    rintro e w5 hR
    obtain ⟨u, pu, cu, hu, rfl, hb, hn, hsu⟩ := hR.word (k := 200) (hsA)
    have HW5 := Lib.hid (HW4.out.trans (hb.mono HW4.out.size))
    have HNA5 := Lib.hid (HNA4.out.keep hb)
    have HNt5 := Lib.hid (HNt4.out.keep hb)
    clear HW4 HNA4 HNt4
    have HNu5 := Lib.hid hn
    have Hu := Lib.hid hu
    clear hb hn hu
    go_wp2_with fail
    refine (same_ok pt _ ct (limbs t) pu _ cu (limbs u) _ HNt5.out HNu5.out rfl rfl).mono ?_
    rintro e w6 ⟨rfl, hb⟩
    rw [eq_limbs (show t = u from by rw [Ht.out, Hu.out])]
    have HW6 := Lib.hid (HW5.out.trans (hb.mono HW5.out.size))
    have HNA6 := Lib.hid (HNA5.out.keep hb)
    have HNt6 := Lib.hid (HNt5.out.keep hb)
    have HNu6 := Lib.hid (HNu5.out.keep hb)
    clear HW5 HNA5 HNt5 HNu5
    clear hb
    go_wp2_with fail
    clear HNt6
    clear HNu6
    refine (fromUint_ok v HV.out _).mono ?_
    rintro e w7 hR
    obtain ⟨x, px, cx, hx, rfl, hb, hn, hsx⟩ := hR.word (k := 2) (hv2)
    have HW7 := Lib.hid (HW6.out.trans (hb.mono HW6.out.size))
    have HNA7 := Lib.hid (HNA6.out.keep hb)
    clear HW6 HNA6
    have HNx7 := Lib.hid hn
    have Hx := Lib.hid hx
    clear hb hn hx
    go_wp2_with fail
    refine (rfromUint_ok v HV.out _).mono ?_
    rintro e w8 hR
    obtain ⟨y, py, cy, hy, rfl, hb, hn, hsy⟩ := hR.word (k := 2) (hv2)
    have HW8 := Lib.hid (HW7.out.trans (hb.mono HW7.out.size))
    have HNA8 := Lib.hid (HNA7.out.keep hb)
    have HNx8 := Lib.hid (HNx7.out.keep hb)
    clear HW7 HNA7 HNx7
    have HNy8 := Lib.hid hn
    have Hy := Lib.hid hy
    clear hb hn hy
    go_wp2_with fail
    refine (same_ok px _ cx (limbs x) py _ cy (limbs y) _ HNx8.out HNy8.out rfl rfl).mono ?_
    rintro e w9 ⟨rfl, hb⟩
    rw [eq_limbs (show x = y from by rw [Hx.out, Hy.out])]
    have HW9 := Lib.hid (HW8.out.trans (hb.mono HW8.out.size))
    have HNA9 := Lib.hid (HNA8.out.keep hb)
    have HNx9 := Lib.hid (HNx8.out.keep hb)
    have HNy9 := Lib.hid (HNy8.out.keep hb)
    clear HW8 HNA8 HNx8 HNy8
    clear hb
    go_wp2_with fail
    clear HNx9
    clear HNy9
    refine (bits_ok pA mA cA A _ HNA9.out HLA.out (by first | omega | (rw [HLA.out]; omega))).mono ?_
    rintro e w' ⟨rfl, rfl⟩
    go_wp2_with fail
    refine (rbits_ok pA mA cA A _ HNA9.out HLA.out (by first | omega | (rw [HLA.out]; omega))).mono ?_
    rintro e w' ⟨rfl, rfl⟩
    go_wp2_with fail
    refine (awake_ok _ (Tab.keep HT.out HW9.out hg) (Nat.lt_of_lt_of_le hg HW9.out.size)).mono ?_
    rintro e w10 ⟨rfl, hb⟩
    have HW10 := Lib.hid (HW9.out.trans (hb.mono HW9.out.size))
    have HNA10 := Lib.hid (HNA9.out.keep hb)
    clear HW9 HNA9
    clear hb
    go_wp2_with fail
    go_ret
    exact ⟨rfl, HW10.out⟩
  · go_enter Tryd.func6, Tryd.ntmps6
    go_wp2_with fail
    refine (uint_ok pA mA cA A _ HNA0.out HLA.out).mono ?_
    rintro e w1 ⟨rfl, hb⟩
    rw [← HUV.out, ← HOK.out]
    have HW1 := Lib.hid (HW0.out.trans (hb.mono HW0.out.size))
    have HNA1 := Lib.hid (HNA0.out.keep hb)
    clear HW0 HNA0
    clear hb
    go_wp2_with fail
    refine (ruint_ok pA mA cA A _ HNA1.out HLA.out).mono ?_
    rintro e w' ⟨rfl, rfl⟩
    rw [← HUV.out, ← HOK.out]
    go_wp2_with fail
    refine (fromUint_ok v HV.out _).mono ?_
    rintro e w2 hR
    obtain ⟨f, pf, cf, hf, rfl, hb, hn, hsf⟩ := hR.word (k := 2) (hv2)
    have HW2 := Lib.hid (HW1.out.trans (hb.mono HW1.out.size))
    have HNA2 := Lib.hid (HNA1.out.keep hb)
    clear HW1 HNA1
    have HNf2 := Lib.hid hn
    have Hf := Lib.hid hf
    clear hb hn hf
    go_wp2_with fail
    refine (uint_ok pf _ cf (limbs f) _ HNf2.out rfl).mono ?_
    rintro e w3 ⟨rfl, hb⟩
    simp only [val_limbs]
    rw [show u64v f = v from by rw [Hf.out, u64v_fit HV.out], show u64ok f = true from by rw [Hf.out, u64ok_fit HV.out]]
    have HW3 := Lib.hid (HW2.out.trans (hb.mono HW2.out.size))
    have HNA3 := Lib.hid (HNA2.out.keep hb)
    have HNf3 := Lib.hid (HNf2.out.keep hb)
    clear HW2 HNA2 HNf2
    clear hb
    go_wp2_with fail
    clear HNf3
    refine (trim_ok pA mA cA A _ HNA3.out HLA.out (by first | omega | (rw [HLA.out]; omega))).mono ?_
    rintro e w4 hR
    obtain ⟨t, pt, ct, ht, rfl, hb, hn, hst⟩ := hR.word (k := 200) (hsA)
    have HW4 := Lib.hid (HW3.out.trans (hb.mono HW3.out.size))
    have HNA4 := Lib.hid (HNA3.out.keep hb)
    clear HW3 HNA3
    have HNt4 := Lib.hid hn
    have Ht := Lib.hid ht
    clear hb hn ht
    go_wp2_with fail
    refine (rtrim_ok pA mA cA A _ HNA4.out HLA.out (by first | omega | (rw [HLA.out]; omega))).mono ?_
    rintro e w5 hR
    obtain ⟨u, pu, cu, hu, rfl, hb, hn, hsu⟩ := hR.word (k := 200) (hsA)
    have HW5 := Lib.hid (HW4.out.trans (hb.mono HW4.out.size))
    have HNA5 := Lib.hid (HNA4.out.keep hb)
    have HNt5 := Lib.hid (HNt4.out.keep hb)
    clear HW4 HNA4 HNt4
    have HNu5 := Lib.hid hn
    have Hu := Lib.hid hu
    clear hb hn hu
    go_wp2_with fail
    refine (same_ok pt _ ct (limbs t) pu _ cu (limbs u) _ HNt5.out HNu5.out rfl rfl).mono ?_
    rintro e w6 ⟨rfl, hb⟩
    rw [eq_limbs (show t = u from by rw [Ht.out, Hu.out])]
    have HW6 := Lib.hid (HW5.out.trans (hb.mono HW5.out.size))
    have HNA6 := Lib.hid (HNA5.out.keep hb)
    have HNt6 := Lib.hid (HNt5.out.keep hb)
    have HNu6 := Lib.hid (HNu5.out.keep hb)
    clear HW5 HNA5 HNt5 HNu5
    clear hb
    go_wp2_with fail
    clear HNt6
    clear HNu6
    refine (fromUint_ok v HV.out _).mono ?_
    rintro e w7 hR
    obtain ⟨x, px, cx, hx, rfl, hb, hn, hsx⟩ := hR.word (k := 2) (hv2)
    have HW7 := Lib.hid (HW6.out.trans (hb.mono HW6.out.size))
    have HNA7 := Lib.hid (HNA6.out.keep hb)
    clear HW6 HNA6
    have HNx7 := Lib.hid hn
    have Hx := Lib.hid hx
    clear hb hn hx
    go_wp2_with fail
    refine (rfromUint_ok v HV.out _).mono ?_
    rintro e w8 hR
    obtain ⟨y, py, cy, hy, rfl, hb, hn, hsy⟩ := hR.word (k := 2) (hv2)
    have HW8 := Lib.hid (HW7.out.trans (hb.mono HW7.out.size))
    have HNA8 := Lib.hid (HNA7.out.keep hb)
    have HNx8 := Lib.hid (HNx7.out.keep hb)
    clear HW7 HNA7 HNx7
    have HNy8 := Lib.hid hn
    have Hy := Lib.hid hy
    clear hb hn hy
    go_wp2_with fail
    refine (same_ok px _ cx (limbs x) py _ cy (limbs y) _ HNx8.out HNy8.out rfl rfl).mono ?_
    rintro e w9 ⟨rfl, hb⟩
    rw [eq_limbs (show x = y from by rw [Hx.out, Hy.out])]
    have HW9 := Lib.hid (HW8.out.trans (hb.mono HW8.out.size))
    have HNA9 := Lib.hid (HNA8.out.keep hb)
    have HNx9 := Lib.hid (HNx8.out.keep hb)
    have HNy9 := Lib.hid (HNy8.out.keep hb)
    clear HW8 HNA8 HNx8 HNy8
    clear hb
    go_wp2_with fail
    clear HNx9
    clear HNy9
    refine (bits_ok pA mA cA A _ HNA9.out HLA.out (by first | omega | (rw [HLA.out]; omega))).mono ?_
    rintro e w' ⟨rfl, rfl⟩
    go_wp2_with fail
    refine (rbits_ok pA mA cA A _ HNA9.out HLA.out (by first | omega | (rw [HLA.out]; omega))).mono ?_
    rintro e w' ⟨rfl, rfl⟩
    go_wp2_with fail
    refine (awake_ok _ (Tab.keep HT.out HW9.out hg) (Nat.lt_of_lt_of_le hg HW9.out.size)).mono ?_
    rintro e w10 ⟨rfl, hb⟩
    have HW10 := Lib.hid (HW9.out.trans (hb.mono HW9.out.size))
    have HNA10 := Lib.hid (HNA9.out.keep hb)
    clear HW9 HNA9
    clear hb
    go_wp2_with fail
    go_ret
    exact ⟨rfl, HW10.out⟩
end Go.Proofs.YtfdjlkffhikaeaaDoor
