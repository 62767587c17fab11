/- NaturalExponents: the walk. Printed by wg.py. -/
import Derived.Test.YtfdjlkffhikaeaaDoorRPower
import Derived.Test.YtfdjlkffhikaeaaDoorRefB
import Derived.Test.YtfdjlkffhikaeaaDoorRefD
namespace Go.Proofs.YtfdjlkffhikaeaaDoor
open Go.RowKit Nt

set_option maxRecDepth 100000 in
set_option maxHeartbeats 2000000 in
theorem exps_walk (pA : Option Addr) (nA cA : Nat) (lA : List Nat) (zj : Int) (zk : Int) (w : World) (haA : NatIn w pA cA lA) (hlA : lA.length = nA) (hzj : -9223372036854775808 ≤ zj ∧ zj ≤ 9223372036854775807) (hzk : -9223372036854775808 ≤ zk ∧ zk ≤ 9223372036854775807) (ht : Tab w) (hg : 0 < w.heap.size) :
    Calls Tryd.prog 11 #[.slice pA nA cA, .int .i64 zj, .int .i64 zk] w fun e w' => e = .returned (.bool true) ∧ Below w.heap.size w w' := by
  have hcA := haA.le
  have hdA := haA.cap
  obtain ⟨mA, hmA⟩ : ∃ m, m = min nA 2 := ⟨_, rfl⟩
  have hAA := haA.take (k := mA) (by omega)
  have hLA : (lA.take mA).length = mA := by rw [List.length_take]; omega
  have hiA : min nA 2 = mA := hmA.symm
  have hjA : min (nA : Int) 2 = (mA : Int) := by omega
  have hkA : mA ≤ 2 := by omega
  have hoA : mA ≤ nA := by omega
  have heA : nA ≤ cA := by omega
  have hfA : mA ≤ cA := by omega
  obtain ⟨A, eA⟩ : ∃ L, L = lA.take mA := ⟨_, rfl⟩
  rw [← eA] at hAA hLA
  have hsA : (limbs (val A)).length ≤ 2 := len_val hAA.lim hLA hkA
  have HNA0 := Lib.hid hAA
  have HLA := Lib.hid hLA
  have HT := Lib.hid ht
  have HW0 := Lib.hid (Below.refl w.heap.size w)
  clear ht haA hlA hmA eA hAA hLA hcA
  go_enter Tryd.func11, Tryd.ntmps11
  go_wp2_with fail
  refine (fold_ok zj 25 _ (by omega) (by omega) hzj).mono ?_
  rintro e w' ⟨⟨r, hr0, hr1, rfl⟩, rfl⟩
  obtain ⟨i, rfl⟩ : ∃ k : Nat, r = (k : Int) := ⟨r.toNat, by omega⟩
  have hi : i ≤ 24 := by omega
  clear hr0 hr1
  go_wp2_with fail
  refine (fold_ok zk 25 _ (by omega) (by omega) hzk).mono ?_
  rintro e w' ⟨⟨r, hr0, hr1, rfl⟩, rfl⟩
  obtain ⟨k, rfl⟩ : ∃ k : Nat, r = (k : Int) := ⟨r.toNat, by omega⟩
  have hk : k ≤ 24 := by omega
  clear hr0 hr1
  go_wp2_with fail
  refine (power_ok pA mA cA A ((i : Nat)) _ HNA0.out HLA.out (by omega) (by omega) (by omega)).mono ?_
  rintro e w1 hR
  have hpk := pow_ok hsA (show i ≤ 48 by omega)
  obtain ⟨x, px, cx, hx, rfl, hb, hn, hsx⟩ := hR.word (K := 100) hpk.1 hpk.2 (Nat.le_trans (pow_len2 hsA i) (by omega))
  clear hpk
  have HW1 := Lib.hid (HW0.out.trans (hb.mono HW0.out.size))
  have HNA1 := Lib.hid (HNA0.out.keep hb)
  clear HW0 HNA0
  have HNx1 := Lib.hid hn
  have Hx := Lib.hid hx
  clear hb hn hx
  go_wp2_with fail
  refine (power_ok pA mA cA A ((k : Nat)) _ HNA1.out HLA.out (by omega) (by omega) (by omega)).mono ?_
  rintro e w2 hR
  have hpk := pow_ok hsA (show k ≤ 48 by omega)
  obtain ⟨y, py, cy, hy, rfl, hb, hn, hsy⟩ := hR.word (K := 100) hpk.1 hpk.2 (Nat.le_trans (pow_len2 hsA k) (by omega))
  clear hpk
  have HW2 := Lib.hid (HW1.out.trans (hb.mono HW1.out.size))
  have HNA2 := Lib.hid (HNA1.out.keep hb)
  have HNx2 := Lib.hid (HNx1.out.keep hb)
  clear HW1 HNA1 HNx1
  have HNy2 := Lib.hid hn
  have Hy := Lib.hid hy
  clear hb hn hy
  go_wp2_with fail
  refine (power_ok pA mA cA A ((i : Int) + (k : Int)) _ HNA2.out HLA.out (by omega) (by omega) (by omega)).mono ?_
  rintro e w3 hR
  have hpk := pow_ok2 hsA (show i + k ≤ 48 by omega)
  obtain ⟨z, pz, cz, hz, rfl, hb, hn, hsz⟩ := hR.word (K := 100) hpk.1 hpk.2 (Nat.le_trans (pow_len2 hsA (i + k)) (by omega))
  clear hpk
  have HW3 := Lib.hid (HW2.out.trans (hb.mono HW2.out.size))
  have HNA3 := Lib.hid (HNA2.out.keep hb)
  have HNx3 := Lib.hid (HNx2.out.keep hb)
  have HNy3 := Lib.hid (HNy2.out.keep hb)
  clear HW2 HNA2 HNx2 HNy2
  have HNz3 := Lib.hid hn
  have Hz := Lib.hid hz
  clear hb hn hz
  go_wp2_with fail
  refine (rmul_ok px _ cx (limbs x) py _ cy (limbs y) _ HNx3.out HNy3.out rfl rfl (by omega) (by omega)).mono ?_
  rintro e w4 hR
  simp only [val_limbs] at hR
  obtain ⟨m, pm, cm, hm, rfl, hb, hn, hsm⟩ := hR.word (k := 200) (len_mul hsx hsy (by omega))
  have HW4 := Lib.hid (HW3.out.trans (hb.mono HW3.out.size))
  have HNA4 := Lib.hid (HNA3.out.keep hb)
  have HNx4 := Lib.hid (HNx3.out.keep hb)
  have HNy4 := Lib.hid (HNy3.out.keep hb)
  have HNz4 := Lib.hid (HNz3.out.keep hb)
  clear HW3 HNA3 HNx3 HNy3 HNz3
  have HNm4 := Lib.hid hn
  have Hm := Lib.hid hm
  clear hb hn hm
  go_wp2_with fail
  refine (same_ok pm _ cm (limbs m) pz _ cz (limbs z) _ HNm4.out HNz4.out rfl rfl).mono ?_
  rintro e w5 ⟨rfl, hb⟩
  rw [eq_limbs (show m = z from by rw [Hm.out, Hx.out, Hy.out, Hz.out, Nat.pow_add])]
  have HW5 := Lib.hid (HW4.out.trans (hb.mono HW4.out.size))
  have HNA5 := Lib.hid (HNA4.out.keep hb)
  have HNx5 := Lib.hid (HNx4.out.keep hb)
  have HNy5 := Lib.hid (HNy4.out.keep hb)
  have HNz5 := Lib.hid (HNz4.out.keep hb)
  have HNm5 := Lib.hid (HNm4.out.keep hb)
  clear HW4 HNA4 HNx4 HNy4 HNz4 HNm4
  clear hb
  go_wp2_with fail
  refine (awake_ok _ (Tab.keep HT.out HW5.out hg) (Nat.lt_of_lt_of_le hg HW5.out.size)).mono ?_
  rintro e w6 ⟨rfl, hb⟩
  have HW6 := Lib.hid (HW5.out.trans (hb.mono HW5.out.size))
  have HNA6 := Lib.hid (HNA5.out.keep hb)
  have HNx6 := Lib.hid (HNx5.out.keep hb)
  have HNy6 := Lib.hid (HNy5.out.keep hb)
  have HNz6 := Lib.hid (HNz5.out.keep hb)
  have HNm6 := Lib.hid (HNm5.out.keep hb)
  clear HW5 HNA5 HNx5 HNy5 HNz5 HNm5
  clear hb
  go_wp2_with fail
  go_ret
  exact ⟨rfl, HW6.out⟩
end Go.Proofs.YtfdjlkffhikaeaaDoor
