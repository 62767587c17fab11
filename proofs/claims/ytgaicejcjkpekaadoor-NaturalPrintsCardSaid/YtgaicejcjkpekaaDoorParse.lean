/- natural.Parse. -/
import Derived.Test.YtgaicejcjkpekaaDoorRParse
import Derived.Test.YtgaicejcjkpekaaDoorShelf
import Derived.Test.YtgaicejcjkpekaaDoorAdd
import Derived.Test.YtgaicejcjkpekaaDoorMul
import Derived.Test.YtgaicejcjkpekaaDoorTrim
namespace Go.Proofs.YtgaicejcjkpekaaDoor
open Go.RowKit Nt

def digsB : ByteArray := ⟨#[48, 49, 50, 51, 52, 53, 54, 55, 56, 57]⟩
theorem trim_yes (s : ByteArray) (w : World) (hs : s.size ≤ 100000) (h : s.data.toList.all isD = true) :
    Calls Tryd.prog 15 #[.string s, .string ⟨#[48, 49, 50, 51, 52, 53, 54, 55, 56, 57]⟩] w fun e w' => e = .returned (.string ⟨#[]⟩) ∧ Below w.heap.size w w' :=
  (Any.strings_Trim_laid Tryd.lays160 (by kernel_rfl) s ⟨#[48, 49, 50, 51, 52, 53, 54, 55, 56, 57]⟩ w (by omega) (by decide) (ascii_of_all (by decide))).mono fun e w' ⟨he, hb⟩ => ⟨by
    rw [he]
    have h2 := trim_all h
    unfold digs at h2
    rw [h2], hb⟩
theorem trim_no (s : ByteArray) (w : World) (hs : s.size ≤ 100000) (h : s.data.toList.all isD = false) :
    Calls Tryd.prog 15 #[.string s, .string ⟨#[48, 49, 50, 51, 52, 53, 54, 55, 56, 57]⟩] w fun e w' => (∃ r : ByteArray, e = .returned (.string r) ∧ r.data.toList ≠ []) ∧ Below w.heap.size w w' :=
  (Any.strings_Trim_laid Tryd.lays160 (by kernel_rfl) s ⟨#[48, 49, 50, 51, 52, 53, 54, 55, 56, 57]⟩ w (by omega) (by decide) (ascii_of_all (by decide))).mono fun e w' ⟨he, hb⟩ => ⟨⟨_, he, trim_some h⟩, hb⟩
theorem pu_ok (s : ByteArray) (w : World) (hs : s.data.toList.all isD = true) (h0 : s.data.toList ≠ []) (hl : s.size ≤ 9) :
    Calls Tryd.prog 16 #[.string s, .int .i64 10, .int .i64 64] w fun e w' => e = .returned (.tuple #[.int .u64 ((dval s.data.toList : Nat) : Int), .nilIface]) ∧ Below w.heap.size w w' :=
  (Tryd.strconv_ParseUint_10_at64_ok s (by omega) (dval s.data.toList) (parse_piece hs h0 (by rw [len_size]; exact hl)) w).mono fun e w' ⟨he, hw⟩ => ⟨he, by
    rcases hw with rfl | rfl
    · exact Below.refl _ _
    · exact Lib.bytesWorld_below _ _ _⟩

theorem toList_eq' (s : ByteArray) : s.toList = s.data.toList := ByteArray.toList_eq s
theorem toList_len (s : ByteArray) : s.toList.length = s.size := by rw [toList_eq', len_size]
theorem not_nil {s : ByteArray} (h : 0 < s.size) : (¬ s.toList = []) ∧ s.toList.isEmpty = false := by
  have h1 : ¬ s.toList = [] := by
    intro e
    have := toList_len s
    rw [e] at this
    simp at this
    omega
  exact ⟨h1, List.isEmpty_eq_false_iff.2 h1⟩
theorem one_byte {s : ByteArray} (h : s.size = 1) (h0 : s[0].toNat = 48) : s.toList = [48] := by
  rw [toList_eq']
  have h1 := len_size s
  rw [h] at h1
  obtain ⟨x, hx⟩ := List.length_eq_one_iff.1 h1
  have h2 := head_at (s := s) (by omega)
  rw [hx] at h2 ⊢
  simp only [List.head?_cons, Option.some.injEq] at h2
  rw [h2]
  congr 1
  exact UInt8.toNat_inj.1 h0

set_option maxRecDepth 100000 in
set_option maxHeartbeats 2000000 in
theorem parse_ok (s : ByteArray) (w : World) (hs : s.size ≤ 100000) :
    Calls Tryd.prog 6 #[.string s] w (RetPar s.data.toList w) := by
  by_cases h0 : s.size = 0
  · have hb := Lib.hid (par_bad (bad_nil h0))
    obtain rfl : s = ⟨#[]⟩ := ByteArray.ext (Array.eq_empty_of_size_eq_zero h0)
    go_enter Tryd.func6, Tryd.ntmps6
    go_wp2_with fail
    go_ret2
    exact ret_par0 hb.out (Below.refl _ _)
  have hp : 0 < s.size := by omega
  have HNE := Lib.hid (not_nil hp)
  by_cases h48 : 1 < s.size ∧ s[0].toNat = 48
  · have hb := Lib.hid (par_bad (bad_zero h48.1 h48.2))
    have hne := (not_nil hp).1
    have hne2 := (not_nil hp).2
    have hc : ((s[0].toNat : Int) == 48) = true := by rw [beq_iff_eq]; omega
    have hc2 : (s[0].toNat : Int) = 48 := by omega
    have hn1 : ¬ s.toList = [48] := by
      intro e
      have := toList_len s
      rw [e] at this
      simp at this
      omega
    clear h48
    go_enter Tryd.func6, Tryd.ntmps6
    go_wp2_with fail
    go_ret2
    exact ret_par0 hb.out (Below.refl _ _)
  have HC : Hid (s.size = 1 ∨ s[0].toNat ≠ 48) := by
    show _ ∨ _
    omega
  have hne := (not_nil hp).1
  have hne2 := (not_nil hp).2
  have hn1 : s[0].toNat = 48 → s.toList = [48] := by
    intro e
    rcases HC.out with h | h
    · exact one_byte h e
    · exact absurd e h
  clear h48
  go_enter Tryd.func6, Tryd.ntmps6
  by_cases h48 : s[0].toNat = 48
  · have hc : ((s[0].toNat : Int) == 48) = true := by rw [beq_iff_eq]; omega
    have hc2 : (s[0].toNat : Int) = 48 := by omega
    have hn2 := hn1 h48
    clear hn1 h48
    go_wp2_with fail
    by_cases hall : s.data.toList.all isD = true
    · have hg := Lib.hid (good_of hp HC.out hall)
      have HA := Lib.hid hall
      clear hall
      refine (trim_yes s _ hs HA.out).mono ?_
      rintro e w1 ⟨rfl, hb1⟩
      have HB1 := Lib.hid hb1
      clear hb1
      by_cases hlong : 4096 < s.size
      · have hb := Lib.hid (par_long hg.out (by rw [len_size]; exact hlong))
        have hl : (4096 : Int) < (s.size : Int) := by omega
        go_wp2_with fail
        go_ret2
        exact ret_par0 hb.out HB1.out
      · have hb := Lib.hid (par_good hg.out (by rw [len_size]; omega))
        have hl : ¬ (4096 : Int) < (s.size : Int) := by omega
        go_wp2_with fail
        go_loopg [0, 4] (s.size + 1) (fun gk sv ov wr => ∃ (t : ByteArray) (x : Nat) (p : Option Addr) (c n : Nat), sv = .string t ∧ ov = .slice p n c ∧ (limbs x).length = n ∧ x * 10 ^ t.data.toList.length + dval t.data.toList = dval s.data.toList ∧ (x = 0 ∨ t.data.toList.length % 9 = 0) ∧ t.data.toList.all isD = true ∧ t.size ≤ s.size ∧
            Mine w.heap.size wr p c (limbs x) ∧ Below w.heap.size w wr ∧ t.size < gk)
        case atStart => exact ⟨s, 0, none, 0, 0, rfl, rfl, len_zero, by omega, .inl rfl, HA.out, Nat.le_refl _, mine_zero _ _, HB1.out, by omega⟩
        case round =>
          obtain ⟨t, x, p, c, n, rfl, rfl, hn, hV, h9, htd, hts, hm, hbw, hgk⟩ := hrel
          have HNn := Lib.hid hn
          have HV := Lib.hid hV
          have H9 := Lib.hid h9
          have HTD := Lib.hid htd
          have HM := Lib.hid hm
          have HBw := Lib.hid hbw
          have HGK := Lib.hid hgk
          have hxl : (limbs x).length ≤ 100000 := by
            have h1 := len_dval HA.out
            rw [len_size] at h1
            have h2 : x * 1 ≤ x * 10 ^ t.data.toList.length := Nat.mul_le_mul_left _ (Nat.pow_pos (by omega))
            exact Nat.le_trans (limbs_length_mono (by omega : x ≤ dval s.data.toList)) (by omega)
          rw [hn] at hxl
          clear hn hV h9 htd hm hbw hgk
          by_cases ht0 : t.size = 0
          · obtain rfl : t = ⟨#[]⟩ := ByteArray.ext (Array.eq_empty_of_size_eq_zero ht0)
            have hx : Hid (x = dval s.data.toList) := by
              have := HV.out
              simp only [List.length_nil, Nat.pow_zero, Nat.mul_one, dval_nil, Nat.add_zero] at this
              exact this
            go_wp2_with fail
            go_ret2
            have hm := HM.out
            rw [hx.out] at hm
            exact ⟨p, c, by rw [hb.out.1, hb.out.2, ← HNn.out, hx.out]; rfl, HBw.out, by rw [hb.out.1]; exact hm⟩
          · have htp : 0 < t.size := by omega
            have tn1 := (not_nil htp).1
            have tn2 := (not_nil htp).2
            obtain ⟨m, hmd⟩ : ∃ m, m = (t.size - 1) % 9 + 1 := ⟨_, rfl⟩
            have hmi : ((t.size : Int) - 1) % 9 + 1 = (m : Int) := by omega
            have hm1 : 1 ≤ m := by omega
            have hm9 : m ≤ 9 := by omega
            have hmt : m ≤ t.size := by omega
            have hpc := piece (out := x) (n := m) (l := t.data.toList) (by rw [len_size]; exact hmd) (by rw [len_size]; exact htp) H9.out
            have HPC := Lib.hid hpc
            have e1 : (t.extract 0 m).data.toList = t.data.toList.take m := by rw [Lib.extract_data]; simp
            have e2 : (t.extract m t.size).data.toList = t.data.toList.drop m := Lib.extract_to_end t m
            have a1 : (t.extract 0 m).data.toList.all isD = true := by
              rw [e1, List.all_eq_true]; intro b hb'; exact List.all_eq_true.1 HTD.out b (List.mem_of_mem_take hb')
            have a2 : (t.extract m t.size).data.toList.all isD = true := by
              rw [e2, List.all_eq_true]; intro b hb'; exact List.all_eq_true.1 HTD.out b (List.mem_of_mem_drop hb')
            have z1 : (t.extract 0 m).size = m := by rw [← len_size, e1, List.length_take, len_size]; omega
            have z2 : (t.extract m t.size).size = t.size - m := by rw [← len_size, e2, List.length_drop, len_size]
            have E1 := Lib.hid e1
            have E2 := Lib.hid e2
            have A1 := Lib.hid a1
            have A2 := Lib.hid a2
            have Z1 := Lib.hid z1
            have Z2 := Lib.hid z2
            have ne1 : Hid ((t.extract 0 m).data.toList ≠ []) := by
              show _ ≠ _
              intro e
              have := Z1.out
              rw [← len_size, e] at this
              simp at this
              omega
            have hv9 : dval (t.extract 0 m).data.toList ≤ 999999999 := by
              have h1 := dval_lt _ A1.out
              rw [len_size, Z1.out] at h1
              have h2 : 10 ^ m ≤ 10 ^ 9 := Nat.pow_le_pow_right (by omega) hm9
              omega
            clear hpc e1 e2 a1 a2 z1 z2 hmd ht0
            go_wp2_with fail
            refine (pu_ok _ _ A1.out ne1.out (by rw [Z1.out]; exact hm9)).mono ?_
            rintro e w2 ⟨rfl, hb2⟩
            obtain ⟨v, hvd⟩ : ∃ v, v = dval (t.extract 0 m).data.toList := ⟨_, rfl⟩
            rw [← hvd] at hv9 ⊢
            have HVD := Lib.hid hvd
            have HB2 := Lib.hid (HBw.out.trans (hb2.mono HBw.out.size))
            have HM2 := Lib.hid (HM.out.keep hb2)
            clear hb2 hvd
            go_wp2_with fail
            have hch := natIn_new w2 (cs := #[.int .u32 1000000000]) (L := [1000000000]) (n := 1) (by simp [limbV]) (lim_cons (by omega) lim_nil) rfl (by omega)
            refine (mul_ok p n c (limbs x) _ 1 1 [1000000000] _ (HM2.out.natIn.keep (below_new _ _)) hch HNn.out rfl (by omega) (by omega)).mono ?_
            rintro e w3 ⟨p3, c3, rfl, hb3, hm3⟩
            rw [val_limbs, show val [1000000000] = 1000000000 from rfl] at hm3 ⊢
            have hb3' : Below w2.heap.size w2 w3 := (below_new _ _).trans (hb3.mono (by simp))
            have hl3 : (limbs (x * 1000000000)).length ≤ 100001 := len_mul (i := 100000) (j := 1) (by rw [HNn.out]; exact hxl) (limbs_length_le (by rw [show bp 1 = 4294967296 from rfl]; omega)) (by omega)
            have HB3 := Lib.hid (HB2.out.trans (hb3'.mono HB2.out.size))
            have HM3 := Lib.hid hm3
            have hs3 := HB3.out.size
            clear hb3 hb3' hm3 hch
            go_wp2_with fail
            refine (fromUint_ok v (by omega) _).mono ?_
            rintro e w4 ⟨p4, c4, rfl, hb4, hm4⟩
            have HB4 := Lib.hid (HB3.out.trans (hb4.mono hs3))
            have HM4 := Lib.hid hm4
            have HM34 := Lib.hid (HM3.out.keep hb4)
            have hl4 : (limbs v).length ≤ 1 := limbs_length_le (by rw [show bp 1 = 4294967296 from rfl]; omega)
            have hs4 := HB4.out.size
            clear hb4 hm4
            go_wp2_with fail
            refine (add_ok p3 _ c3 (limbs (x * 1000000000)) p4 _ c4 (limbs v) _ HM34.out.natIn HM4.out.natIn rfl rfl (by omega) (by omega)).mono ?_
            rintro e w5 ⟨p5, c5, rfl, hb5, hm5⟩
            rw [val_limbs, val_limbs] at hm5 ⊢
            have HB5 := Lib.hid (HB4.out.trans (hb5.mono hs4))
            have HM5 := Lib.hid (hm5.mono hs4)
            clear hb5 hm5
            go_wp2_with fail
            go_roundg t.size
            case measure => exact HGK.out
            case rel =>
              refine ⟨t.extract m t.size, x * 1000000000 + v, p5, c5, _, rfl, rfl, rfl, ?_, .inr ?_, A2.out, by rw [Z2.out]; omega, HM5.out, HB5.out, by rw [Z2.out]; omega⟩
              · rw [E2.out, HVD.out, E1.out, HPC.out.2.2.2.1, HV.out]
              · rw [E2.out]; exact HPC.out.2.2.2.2
    · have hall2 : s.data.toList.all isD = false := by simpa using hall
      have hb := Lib.hid (par_bad (show good s.data.toList = false by
        rw [Bool.eq_false_iff]; intro hg; exact hall (good_iff.1 hg).2.2))
      refine (trim_no s _ hs hall2).mono ?_
      rintro e w1 ⟨⟨r, rfl, hr⟩, hb1⟩
      have HB1 := Lib.hid hb1
      have hr1 : ¬ r.toList = [] := by rw [toList_eq']; exact hr
      have hr2 : r.toList.isEmpty = false := List.isEmpty_eq_false_iff.2 hr1
      clear hb1 hr hall hall2
      go_wp2_with fail
      go_ret2
      exact ret_par0 hb.out HB1.out
  · have hc : ((s[0].toNat : Int) == 48) = false := by rw [beq_eq_false_iff_ne]; omega
    have hc2 : ¬ (s[0].toNat : Int) = 48 := by omega
    clear hn1 h48
    go_wp2_with fail
    by_cases hall : s.data.toList.all isD = true
    · have hg := Lib.hid (good_of hp HC.out hall)
      have HA := Lib.hid hall
      clear hall
      refine (trim_yes s _ hs HA.out).mono ?_
      rintro e w1 ⟨rfl, hb1⟩
      have HB1 := Lib.hid hb1
      clear hb1
      by_cases hlong : 4096 < s.size
      · have hb := Lib.hid (par_long hg.out (by rw [len_size]; exact hlong))
        have hl : (4096 : Int) < (s.size : Int) := by omega
        go_wp2_with fail
        go_ret2
        exact ret_par0 hb.out HB1.out
      · have hb := Lib.hid (par_good hg.out (by rw [len_size]; omega))
        have hl : ¬ (4096 : Int) < (s.size : Int) := by omega
        go_wp2_with fail
        go_loopg [0, 4] (s.size + 1) (fun gk sv ov wr => ∃ (t : ByteArray) (x : Nat) (p : Option Addr) (c n : Nat), sv = .string t ∧ ov = .slice p n c ∧ (limbs x).length = n ∧ x * 10 ^ t.data.toList.length + dval t.data.toList = dval s.data.toList ∧ (x = 0 ∨ t.data.toList.length % 9 = 0) ∧ t.data.toList.all isD = true ∧ t.size ≤ s.size ∧
            Mine w.heap.size wr p c (limbs x) ∧ Below w.heap.size w wr ∧ t.size < gk)
        case atStart => exact ⟨s, 0, none, 0, 0, rfl, rfl, len_zero, by omega, .inl rfl, HA.out, Nat.le_refl _, mine_zero _ _, HB1.out, by omega⟩
        case round =>
          obtain ⟨t, x, p, c, n, rfl, rfl, hn, hV, h9, htd, hts, hm, hbw, hgk⟩ := hrel
          have HNn := Lib.hid hn
          have HV := Lib.hid hV
          have H9 := Lib.hid h9
          have HTD := Lib.hid htd
          have HM := Lib.hid hm
          have HBw := Lib.hid hbw
          have HGK := Lib.hid hgk
          have hxl : (limbs x).length ≤ 100000 := by
            have h1 := len_dval HA.out
            rw [len_size] at h1
            have h2 : x * 1 ≤ x * 10 ^ t.data.toList.length := Nat.mul_le_mul_left _ (Nat.pow_pos (by omega))
            exact Nat.le_trans (limbs_length_mono (by omega : x ≤ dval s.data.toList)) (by omega)
          rw [hn] at hxl
          clear hn hV h9 htd hm hbw hgk
          by_cases ht0 : t.size = 0
          · obtain rfl : t = ⟨#[]⟩ := ByteArray.ext (Array.eq_empty_of_size_eq_zero ht0)
            have hx : Hid (x = dval s.data.toList) := by
              have := HV.out
              simp only [List.length_nil, Nat.pow_zero, Nat.mul_one, dval_nil, Nat.add_zero] at this
              exact this
            go_wp2_with fail
            go_ret2
            have hm := HM.out
            rw [hx.out] at hm
            exact ⟨p, c, by rw [hb.out.1, hb.out.2, ← HNn.out, hx.out]; rfl, HBw.out, by rw [hb.out.1]; exact hm⟩
          · have htp : 0 < t.size := by omega
            have tn1 := (not_nil htp).1
            have tn2 := (not_nil htp).2
            obtain ⟨m, hmd⟩ : ∃ m, m = (t.size - 1) % 9 + 1 := ⟨_, rfl⟩
            have hmi : ((t.size : Int) - 1) % 9 + 1 = (m : Int) := by omega
            have hm1 : 1 ≤ m := by omega
            have hm9 : m ≤ 9 := by omega
            have hmt : m ≤ t.size := by omega
            have hpc := piece (out := x) (n := m) (l := t.data.toList) (by rw [len_size]; exact hmd) (by rw [len_size]; exact htp) H9.out
            have HPC := Lib.hid hpc
            have e1 : (t.extract 0 m).data.toList = t.data.toList.take m := by rw [Lib.extract_data]; simp
            have e2 : (t.extract m t.size).data.toList = t.data.toList.drop m := Lib.extract_to_end t m
            have a1 : (t.extract 0 m).data.toList.all isD = true := by
              rw [e1, List.all_eq_true]; intro b hb'; exact List.all_eq_true.1 HTD.out b (List.mem_of_mem_take hb')
            have a2 : (t.extract m t.size).data.toList.all isD = true := by
              rw [e2, List.all_eq_true]; intro b hb'; exact List.all_eq_true.1 HTD.out b (List.mem_of_mem_drop hb')
            have z1 : (t.extract 0 m).size = m := by rw [← len_size, e1, List.length_take, len_size]; omega
            have z2 : (t.extract m t.size).size = t.size - m := by rw [← len_size, e2, List.length_drop, len_size]
            have E1 := Lib.hid e1
            have E2 := Lib.hid e2
            have A1 := Lib.hid a1
            have A2 := Lib.hid a2
            have Z1 := Lib.hid z1
            have Z2 := Lib.hid z2
            have ne1 : Hid ((t.extract 0 m).data.toList ≠ []) := by
              show _ ≠ _
              intro e
              have := Z1.out
              rw [← len_size, e] at this
              simp at this
              omega
            have hv9 : dval (t.extract 0 m).data.toList ≤ 999999999 := by
              have h1 := dval_lt _ A1.out
              rw [len_size, Z1.out] at h1
              have h2 : 10 ^ m ≤ 10 ^ 9 := Nat.pow_le_pow_right (by omega) hm9
              omega
            clear hpc e1 e2 a1 a2 z1 z2 hmd ht0
            go_wp2_with fail
            refine (pu_ok _ _ A1.out ne1.out (by rw [Z1.out]; exact hm9)).mono ?_
            rintro e w2 ⟨rfl, hb2⟩
            obtain ⟨v, hvd⟩ : ∃ v, v = dval (t.extract 0 m).data.toList := ⟨_, rfl⟩
            rw [← hvd] at hv9 ⊢
            have HVD := Lib.hid hvd
            have HB2 := Lib.hid (HBw.out.trans (hb2.mono HBw.out.size))
            have HM2 := Lib.hid (HM.out.keep hb2)
            clear hb2 hvd
            go_wp2_with fail
            have hch := natIn_new w2 (cs := #[.int .u32 1000000000]) (L := [1000000000]) (n := 1) (by simp [limbV]) (lim_cons (by omega) lim_nil) rfl (by omega)
            refine (mul_ok p n c (limbs x) _ 1 1 [1000000000] _ (HM2.out.natIn.keep (below_new _ _)) hch HNn.out rfl (by omega) (by omega)).mono ?_
            rintro e w3 ⟨p3, c3, rfl, hb3, hm3⟩
            rw [val_limbs, show val [1000000000] = 1000000000 from rfl] at hm3 ⊢
            have hb3' : Below w2.heap.size w2 w3 := (below_new _ _).trans (hb3.mono (by simp))
            have hl3 : (limbs (x * 1000000000)).length ≤ 100001 := len_mul (i := 100000) (j := 1) (by rw [HNn.out]; exact hxl) (limbs_length_le (by rw [show bp 1 = 4294967296 from rfl]; omega)) (by omega)
            have HB3 := Lib.hid (HB2.out.trans (hb3'.mono HB2.out.size))
            have HM3 := Lib.hid hm3
            have hs3 := HB3.out.size
            clear hb3 hb3' hm3 hch
            go_wp2_with fail
            refine (fromUint_ok v (by omega) _).mono ?_
            rintro e w4 ⟨p4, c4, rfl, hb4, hm4⟩
            have HB4 := Lib.hid (HB3.out.trans (hb4.mono hs3))
            have HM4 := Lib.hid hm4
            have HM34 := Lib.hid (HM3.out.keep hb4)
            have hl4 : (limbs v).length ≤ 1 := limbs_length_le (by rw [show bp 1 = 4294967296 from rfl]; omega)
            have hs4 := HB4.out.size
            clear hb4 hm4
            go_wp2_with fail
            refine (add_ok p3 _ c3 (limbs (x * 1000000000)) p4 _ c4 (limbs v) _ HM34.out.natIn HM4.out.natIn rfl rfl (by omega) (by omega)).mono ?_
            rintro e w5 ⟨p5, c5, rfl, hb5, hm5⟩
            rw [val_limbs, val_limbs] at hm5 ⊢
            have HB5 := Lib.hid (HB4.out.trans (hb5.mono hs4))
            have HM5 := Lib.hid (hm5.mono hs4)
            clear hb5 hm5
            go_wp2_with fail
            go_roundg t.size
            case measure => exact HGK.out
            case rel =>
              refine ⟨t.extract m t.size, x * 1000000000 + v, p5, c5, _, rfl, rfl, rfl, ?_, .inr ?_, A2.out, by rw [Z2.out]; omega, HM5.out, HB5.out, by rw [Z2.out]; omega⟩
              · rw [E2.out, HVD.out, E1.out, HPC.out.2.2.2.1, HV.out]
              · rw [E2.out]; exact HPC.out.2.2.2.2
    · have hall2 : s.data.toList.all isD = false := by simpa using hall
      have hb := Lib.hid (par_bad (show good s.data.toList = false by
        rw [Bool.eq_false_iff]; intro hg; exact hall (good_iff.1 hg).2.2))
      refine (trim_no s _ hs hall2).mono ?_
      rintro e w1 ⟨⟨r, rfl, hr⟩, hb1⟩
      have HB1 := Lib.hid hb1
      have hr1 : ¬ r.toList = [] := by rw [toList_eq']; exact hr
      have hr2 : r.toList.isEmpty = false := List.isEmpty_eq_false_iff.2 hr1
      clear hb1 hr hall hall2
      go_wp2_with fail
      go_ret2
      exact ret_par0 hb.out HB1.out
end Go.Proofs.YtgaicejcjkpekaaDoor
