/- NaturalPrints: the law's walk. -/
import Derived.Test.YtgaicejcjkpekaaDoorParse
import Derived.Test.YtgaicejcjkpekaaDoorAwake
import Derived.Test.YtgaicejcjkpekaaDoorRFormat
namespace Go.Proofs.YtgaicejcjkpekaaDoor
open Go.RowKit Nt

set_option maxRecDepth 100000 in
set_option maxHeartbeats 2000000 in
theorem prints_walk (pA : Option Addr) (nA cA : Nat) (lA : List Nat) (w : World) (haA : NatIn w pA cA lA) (hlA : lA.length = nA) (ht : Tab w) (hg0 : 4 < w.heap.size) :
    Calls Tryd.prog 5 #[.slice pA nA cA] w fun e w' => e = .returned (.bool true) ∧ Below w.heap.size w w' := by
  have hcA := haA.le
  have hdA := haA.cap
  obtain ⟨m, hm⟩ : ∃ m, m = min nA 30 := ⟨_, rfl⟩
  have hA := haA.take (k := m) (by omega)
  have hL : (lA.take m).length = m := by rw [List.length_take]; omega
  have hmi : min (nA : Int) 30 = (m : Int) := by omega
  have hmi2 : min nA 30 = m := hm.symm
  have hm30 : m ≤ 30 := by omega
  have hmn : m ≤ nA := by omega
  have hnc : nA ≤ cA := by omega
  have hmc : m ≤ cA := by omega
  obtain ⟨A, hAd⟩ : ∃ A, A = lA.take m := ⟨_, rfl⟩
  rw [← hAd] at hA hL
  have hvl := limbs_length_val_le hA.lim
  rw [hL] at hvl
  obtain ⟨v, hv⟩ : ∃ v, v = val A := ⟨_, rfl⟩
  rw [← hv] at hvl
  have hdl : (dec v).length ≤ 301 := by have := dec_len_le2 hvl; omega
  have HG := Lib.hid (dec_good v)
  obtain ⟨t, htd⟩ : ∃ t : ByteArray, t = ⟨(dec v).toArray⟩ := ⟨_, rfl⟩
  have htl : t.data.toList = dec v := by rw [htd]
  have hts : t.size ≤ 301 := by rw [← len_size, htl]; exact hdl
  have HP : Hid (pV t.data.toList = v ∧ pE t.data.toList = 0) := by
    have h1 := par_good (l := t.data.toList) (by rw [htl]; exact HG.out.1) (by rw [htl]; omega)
    rw [h1.1, h1.2, htl, HG.out.2]
    exact ⟨rfl, rfl⟩
  have HA := Lib.hid hA
  have HL := Lib.hid hL
  have HV := Lib.hid hv
  have HTD := Lib.hid htd
  have HT := Lib.hid ht
  clear hm hA hL hAd hv htd htl ht haA hlA hcA
  go_enter Tryd.func5, Tryd.ntmps5
  go_wp2_with fail
  refine (format_ok pA m cA A _ HA.out HL.out (by omega) HT.out hg0).mono ?_
  rintro e w1 ⟨rfl, hb1⟩
  rw [← HV.out, ← HTD.out]
  have HB1 := Lib.hid hb1
  have HA1 := Lib.hid (HA.out.keep hb1)
  have hs1 := hb1.size
  clear hb1
  go_wp2_with fail
  refine (parse_ok t _ (by omega)).mono ?_
  rintro e w2 ⟨p2, c2, rfl, hb2, hm2⟩
  rw [HP.out.1] at hm2
  rw [HP.out.1, HP.out.2]
  have HB2 := Lib.hid (HB1.out.trans (hb2.mono hs1))
  have HN2 := Lib.hid hm2.natIn
  have HA2 := Lib.hid (HA1.out.keep hb2)
  have hs2 := HB2.out.size
  clear hb2 hm2
  go_wp2_with fail
  refine (rformat_ok pA m cA A _ HA2.out HL.out (by omega)).mono ?_
  rintro e w3 ⟨rfl, hb3⟩
  rw [← HV.out, ← HTD.out]
  have HB3 := Lib.hid (HB2.out.trans (hb3.mono hs2))
  have HN3 := Lib.hid (HN2.out.keep hb3)
  have HA3 := Lib.hid (HA2.out.keep hb3)
  have hs3 := HB3.out.size
  clear hb3
  go_wp2_with fail
  refine (rtrim_ok pA m cA A _ HA3.out HL.out (by omega)).mono ?_
  rintro e w4 ⟨p4, c4, rfl, hb4, hm4⟩
  rw [← HV.out] at hm4 ⊢
  have HB4 := Lib.hid (HB3.out.trans (hb4.mono hs3))
  have HN4 := Lib.hid (HN3.out.keep hb4)
  have HM4 := Lib.hid hm4.natIn
  have hs4 := HB4.out.size
  clear hb4 hm4
  go_wp2_with fail
  refine (same_ok p2 _ c2 (limbs v) p4 _ c4 (limbs v) _ HN4.out HM4.out rfl rfl).mono ?_
  rintro e w5 ⟨rfl, hb5⟩
  rw [eqL_true rfl]
  have HB5 := Lib.hid (HB4.out.trans (hb5.mono hs4))
  have hs5 := HB5.out.size
  clear hb5
  go_wp2_with fail
  refine (awake_ok _ (Tab.keep HT.out HB5.out hg0) (Nat.lt_of_lt_of_le hg0 hs5)).mono ?_
  rintro e w6 ⟨rfl, hb6⟩
  have HB6 := Lib.hid (HB5.out.trans (hb6.mono hs5))
  clear hb6
  go_wp2_with fail
  go_ret
  exact ⟨rfl, HB6.out⟩
end Go.Proofs.YtgaicejcjkpekaaDoor
