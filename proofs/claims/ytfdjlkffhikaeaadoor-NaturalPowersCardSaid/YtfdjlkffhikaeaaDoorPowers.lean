/- NaturalPowers: the walk. Printed by wg.py. -/
import Derived.Test.YtfdjlkffhikaeaaDoorRPower
import Derived.Test.YtfdjlkffhikaeaaDoorRefB
import Derived.Test.YtfdjlkffhikaeaaDoorRefD
namespace Go.Proofs.YtfdjlkffhikaeaaDoor
open Go.RowKit Nt

set_option maxRecDepth 100000 in
set_option maxHeartbeats 2000000 in
theorem powers_walk (pA : Option Addr) (nA cA : Nat) (lA : List Nat) (zk : Int) (w : World) (haA : NatIn w pA cA lA) (hlA : lA.length = nA) (hzk : -9223372036854775808 ≤ zk ∧ zk ≤ 9223372036854775807) (ht : Tab w) (hg : 0 < w.heap.size) :
    Calls Tryd.prog 10 #[.slice pA nA cA, .int .i64 zk] w fun e w' => e = .returned (.bool true) ∧ Below w.heap.size w w' := by
  have hcA := haA.le
  have hdA := haA.cap
  obtain ⟨mA, hmA⟩ : ∃ m, m = min nA 3 := ⟨_, rfl⟩
  have hAA := haA.take (k := mA) (by omega)
  have hLA : (lA.take mA).length = mA := by rw [List.length_take]; omega
  have hiA : min nA 3 = mA := hmA.symm
  have hjA : min (nA : Int) 3 = (mA : Int) := by omega
  have hkA : mA ≤ 3 := by omega
  have hoA : mA ≤ nA := by omega
  have heA : nA ≤ cA := by omega
  have hfA : mA ≤ cA := by omega
  obtain ⟨A, eA⟩ : ∃ L, L = lA.take mA := ⟨_, rfl⟩
  rw [← eA] at hAA hLA
  have hsA : (limbs (val A)).length ≤ 3 := len_val hAA.lim hLA hkA
  have HNA0 := Lib.hid hAA
  have HLA := Lib.hid hLA
  have HT := Lib.hid ht
  have HW0 := Lib.hid (Below.refl w.heap.size w)
  clear ht haA hlA hmA eA hAA hLA hcA
  go_enter Tryd.func10, Tryd.ntmps10
  go_wp2_with fail
  refine (fold_ok zk 30 _ (by omega) (by omega) hzk).mono ?_
  rintro e w' ⟨⟨r, hr0, hr1, rfl⟩, rfl⟩
  go_wp2_with fail
  have hb0 := below_new w (.cells #[.int .i64 zk, .int .i64 r] 3)
  have h0 := cell_new w #[.int .i64 zk, .int .i64 r] 3 0
  have h1 := cell_new w #[.int .i64 zk, .int .i64 r] 3 1
  have HB0 := Lib.hid hb0
  have H0 := Lib.hid h0
  have H1 := Lib.hid h1
  have HZ := Lib.hid hzk
  have hzl := hzk.1
  have hzu := hzk.2
  clear hb0 h0 h1 hzk
  go_loopw [21] (fun iv wr => ∃ i : Nat, i ≤ 2 ∧ iv = .int .i64 i ∧ Below w.heap.size w wr ∧ w.heap.size < wr.heap.size ∧ wr.cell? ⟨w.heap.size, 0, none⟩ = some (.int .i64 zk) ∧ wr.cell? ⟨w.heap.size, 1, none⟩ = some (.int .i64 r)) (fun iv _ => 2 - (intOf iv).toNat)
  case atStart => exact ⟨0, by omega, rfl, HB0.out, by simp, H0.out, H1.out⟩
  case round =>
    obtain ⟨i, hi, rfl, hbw, hsz, hc0, hc1⟩ := hrel
    have HBW := Lib.hid hbw
    clear hbw
    rcases (by omega : i = 0 ∨ i = 1 ∨ i = 2) with rfl | rfl | rfl
    · have HC0 := Lib.hid hc0
      have HC1 := Lib.hid hc1
      have HW10 := HBW
      have HNA10 := Lib.hid (HNA0.out.keep HBW.out)
      have HSZ := Lib.hid hsz
      clear hc1
      go_wp2_with fail
      refine (power_ok pA mA cA A (zk) _ HNA10.out HLA.out (by omega) (by omega) (by omega)).mono ?_
      rintro e w11 hR
      have hpk := (⟨rfl, rfl⟩ : powV (val A) zk = powV (val A) zk ∧ powE (val A) zk = powE (val A) zk)
      obtain ⟨x, px, cx, hx, rfl, hb, hn, hsx⟩ := hR.word (K := 8193) hpk.1 hpk.2 (pow_len3 hsA)
      clear hpk
      have HW11 := Lib.hid (HW10.out.trans (hb.mono HW10.out.size))
      have HR11 := Lib.hid hb
      have HNA11 := Lib.hid (HNA10.out.keep hb)
      clear HW10 HNA10
      have HNx11 := Lib.hid hn
      have Hx := Lib.hid hx
      clear hb hn hx
      go_wp2_with fail
      refine (rpower_ok pA mA cA A (zk) _ HNA11.out HLA.out (by omega) (by omega) (by omega)).mono ?_
      rintro e w12 hR
      have hpk := (⟨rfl, rfl⟩ : powV (val A) zk = powV (val A) zk ∧ powE (val A) zk = powE (val A) zk)
      obtain ⟨y, py, cy, hy, rfl, hb, hn, hsy⟩ := hR.word (K := 8193) hpk.1 hpk.2 (pow_len3 hsA)
      clear hpk
      have HW12 := Lib.hid (HW11.out.trans (hb.mono HW11.out.size))
      have HR12 := Lib.hid (HR11.out.trans (hb.mono HR11.out.size))
      have HNA12 := Lib.hid (HNA11.out.keep hb)
      have HNx12 := Lib.hid (HNx11.out.keep hb)
      clear HW11 HNA11 HNx11
      have HNy12 := Lib.hid hn
      have Hy := Lib.hid hy
      clear hb hn hy
      go_wp2_with fail
      refine (same_ok px _ cx (limbs x) py _ cy (limbs y) _ HNx12.out HNy12.out rfl rfl).mono ?_
      rintro e w13 ⟨rfl, hb⟩
      rw [eq_limbs (show x = y from by rw [Hx.out, Hy.out])]
      have HW13 := Lib.hid (HW12.out.trans (hb.mono HW12.out.size))
      have HR13 := Lib.hid (HR12.out.trans (hb.mono HR12.out.size))
      have HNA13 := Lib.hid (HNA12.out.keep hb)
      have HNx13 := Lib.hid (HNx12.out.keep hb)
      have HNy13 := Lib.hid (HNy12.out.keep hb)
      clear HW12 HNA12 HNx12 HNy12
      clear hb
      go_wp2_with fail
      go_roundw
      case rel => exact ⟨1, by omega, by go_num, HW13.out, Nat.lt_of_lt_of_le HSZ.out HR13.out.size, below_cell2 HR13.out HC0.out HSZ.out, below_cell2 HR13.out HC1.out HSZ.out⟩
      case measure => simp [intOf]
    · have HC0 := Lib.hid hc0
      have HC1 := Lib.hid hc1
      have HW10 := HBW
      have HNA10 := Lib.hid (HNA0.out.keep HBW.out)
      have HSZ := Lib.hid hsz
      clear hc0
      go_wp2_with fail
      refine (power_ok pA mA cA A (r) _ HNA10.out HLA.out (by omega) (by omega) (by omega)).mono ?_
      rintro e w11 hR
      have hpk := (⟨rfl, rfl⟩ : powV (val A) r = powV (val A) r ∧ powE (val A) r = powE (val A) r)
      obtain ⟨x, px, cx, hx, rfl, hb, hn, hsx⟩ := hR.word (K := 8193) hpk.1 hpk.2 (pow_len3 hsA)
      clear hpk
      have HW11 := Lib.hid (HW10.out.trans (hb.mono HW10.out.size))
      have HR11 := Lib.hid hb
      have HNA11 := Lib.hid (HNA10.out.keep hb)
      clear HW10 HNA10
      have HNx11 := Lib.hid hn
      have Hx := Lib.hid hx
      clear hb hn hx
      go_wp2_with fail
      refine (rpower_ok pA mA cA A (r) _ HNA11.out HLA.out (by omega) (by omega) (by omega)).mono ?_
      rintro e w12 hR
      have hpk := (⟨rfl, rfl⟩ : powV (val A) r = powV (val A) r ∧ powE (val A) r = powE (val A) r)
      obtain ⟨y, py, cy, hy, rfl, hb, hn, hsy⟩ := hR.word (K := 8193) hpk.1 hpk.2 (pow_len3 hsA)
      clear hpk
      have HW12 := Lib.hid (HW11.out.trans (hb.mono HW11.out.size))
      have HR12 := Lib.hid (HR11.out.trans (hb.mono HR11.out.size))
      have HNA12 := Lib.hid (HNA11.out.keep hb)
      have HNx12 := Lib.hid (HNx11.out.keep hb)
      clear HW11 HNA11 HNx11
      have HNy12 := Lib.hid hn
      have Hy := Lib.hid hy
      clear hb hn hy
      go_wp2_with fail
      refine (same_ok px _ cx (limbs x) py _ cy (limbs y) _ HNx12.out HNy12.out rfl rfl).mono ?_
      rintro e w13 ⟨rfl, hb⟩
      rw [eq_limbs (show x = y from by rw [Hx.out, Hy.out])]
      have HW13 := Lib.hid (HW12.out.trans (hb.mono HW12.out.size))
      have HR13 := Lib.hid (HR12.out.trans (hb.mono HR12.out.size))
      have HNA13 := Lib.hid (HNA12.out.keep hb)
      have HNx13 := Lib.hid (HNx12.out.keep hb)
      have HNy13 := Lib.hid (HNy12.out.keep hb)
      clear HW12 HNA12 HNx12 HNy12
      clear hb
      go_wp2_with fail
      go_roundw
      case rel => exact ⟨2, by omega, by go_num, HW13.out, Nat.lt_of_lt_of_le HSZ.out HR13.out.size, below_cell2 HR13.out HC0.out HSZ.out, below_cell2 HR13.out HC1.out HSZ.out⟩
      case measure => simp [intOf]
    · have HW10 := HBW
      have HNA10 := Lib.hid (HNA0.out.keep HBW.out)
      clear hc0 hc1
      go_wp2_with fail
      refine (awake_ok _ (Tab.keep HT.out HW10.out hg) (Nat.lt_of_lt_of_le hg HW10.out.size)).mono ?_
      rintro e w11 ⟨rfl, hb⟩
      have HW11 := Lib.hid (HW10.out.trans (hb.mono HW10.out.size))
      have HR11 := Lib.hid hb
      have HNA11 := Lib.hid (HNA10.out.keep hb)
      clear HW10 HNA10
      clear hb
      go_wp2_with fail
      go_ret
      exact ⟨rfl, HW11.out⟩
end Go.Proofs.YtfdjlkffhikaeaaDoor
