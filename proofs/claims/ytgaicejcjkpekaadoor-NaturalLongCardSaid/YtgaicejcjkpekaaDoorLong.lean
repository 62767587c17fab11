/- NaturalLong: the law's walk. -/
import Derived.Test.YtgaicejcjkpekaaDoorParse
import Derived.Test.YtgaicejcjkpekaaDoorAwake
import Derived.Test.YtgaicejcjkpekaaDoorBytes
import Derived.Deep.LoopGhost
namespace Go.Proofs.YtgaicejcjkpekaaDoor
open Go.RowKit Nt

/-- The text of NaturalLong. -/
def longT (k : Nat) (L : List UInt8) : Prop := L.length = k ∧ ∀ j, j < k → (bt L j).toNat = 49 + j % 9
theorem long_good {k : Nat} {L : List UInt8} (h : longT k L) (hk : 0 < k) : good L = true := by
  obtain ⟨hl, hv⟩ := h
  refine good_iff.2 ⟨?_, .inr ?_, ?_⟩
  · intro e
    rw [e] at hl
    simp at hl
    omega
  · have h0 := hv 0 hk
    rw [bt_eq (by omega)] at h0
    rw [List.head?_eq_getElem?, List.getElem?_eq_getElem (by omega)]
    intro e
    simp only [Option.some.injEq] at e
    rw [e] at h0
    have : (48 : UInt8).toNat = 48 := rfl
    omega
  · rw [List.all_eq_true]
    intro b hb
    obtain ⟨j, hj, rfl⟩ := List.getElem_of_mem hb
    have h0 := hv j (by omega)
    rw [bt_eq hj] at h0
    exact isD_iff.2 (by omega)
set_option maxRecDepth 100000 in
set_option maxHeartbeats 2000000 in
theorem long_walk (z : Int) (w : World) (hz : -9223372036854775808 ≤ z ∧ z ≤ 9223372036854775807) (ht : Tab w) (hg0 : 4 < w.heap.size) :
    Calls Tryd.prog 4 #[.int .i64 z] w fun e w' => e = .returned (.bool true) ∧ Below w.heap.size w w' := by
  have HT := Lib.hid ht
  clear ht
  go_enter Tryd.func4, Tryd.ntmps4
  go_wp2_with fail
  refine (fold_ok z 5 _ (by omega) (by omega) hz).mono ?_
  rintro e w' ⟨⟨r, hr0, hr1, rfl⟩, rfl⟩
  obtain ⟨k, hk⟩ : ∃ k : Nat, k = 4094 + r.toNat := ⟨_, rfl⟩
  have hki : 4094 + r = (k : Int) := by omega
  have hk1 : 4094 ≤ k := by omega
  have hk2 : k ≤ 4098 := by omega
  have hmk := run_make_row' (P := Tryd.prog) 32 5 (.int .u8 0) 1 Tryd.underlying32 info8 rfl .i64 .i64 k (by omega) (by omega)
  have HO := Lib.hid (own_madeB w k)
  have HB := Lib.hid (below_new w (.cells (madeCells #[Value.int .u8 0] k) 5))
  clear hk hz
  go_wp2_with fail
  go_loopg [15] (k + 1) (fun gk iv wr => ∃ (i : Nat) (L : List UInt8), i ≤ k ∧ iv = .int .i64 i ∧ L.length = k ∧ (∀ j, j < i → (bt L j).toNat = 49 + j % 9) ∧ OwnB wr w.heap.size L ∧ Below w.heap.size w wr ∧ k - i < gk)
  case atStart => exact ⟨0, _, Nat.zero_le _, rfl, by simp, fun j hj => by omega, HO.out, HB.out, by omega⟩
  case round =>
    clear HO HB hmk
    obtain ⟨i, L, hi, rfl, hl, hv, ho, hb, hgk⟩ := hrel
    have HL := Lib.hid hl
    have HV := Lib.hid hv
    have HO := Lib.hid ho
    have HB := Lib.hid hb
    have HGK := Lib.hid hgk
    clear hl hv ho hb hgk
    by_cases hlt : i < k
    · have hc := HO.out.cell (i := i) (by rw [HL.out]; exact hlt)
      have hf := HO.out.frozen i
      obtain ⟨x, hx⟩ : ∃ x, x = UInt8.ofNat (49 + i % 9) := ⟨_, rfl⟩
      have hxn : x.toNat = 49 + i % 9 := by rw [hx, UInt8.toNat_ofNat']; omega
      have hxi : 49 + (i : Int) % 9 = (x.toNat : Int) := by omega
      have hxb : (x.toNat : Int) ≤ 57 := by omega
      have HXN := Lib.hid hxn
      clear hx hxn
      go_wp2_with fail
      go_roundg (k - i)
      case measure => exact HGK.out
      case rel =>
        refine ⟨i + 1, L.set i x, by omega, by go_num, by rw [List.length_set]; exact HL.out, ?_, HO.out.set rfl, below_set HB.out (Nat.le_refl _) _, by omega⟩
        intro j hj
        by_cases e : j = i
        · subst e; rw [bt_set_eq (by rw [HL.out]; exact hlt)]; exact HXN.out
        · rw [bt_set_ne e]; exact HV.out j (by omega)
    · obtain rfl : k = i := by omega
      have hT : longT k L := ⟨HL.out, HV.out⟩
      have hg := Lib.hid (long_good hT (by omega))
      have hcv := run_str (c := k) HO.out HL.out
      obtain ⟨t, htd⟩ : ∃ t : ByteArray, t = ⟨L.toArray⟩ := ⟨_, rfl⟩
      rw [← htd] at hcv
      have htl : t.data.toList = L := by rw [htd]
      have hts : t.size = k := by rw [← len_size, htl, HL.out]
      have HTL := Lib.hid htl
      have HTS := Lib.hid hts
      have HTD := Lib.hid htd
      clear htd htl hts hT
      go_wp2_with fail
      refine (parse_ok t _ (by rw [HTS.out]; omega)).mono ?_
      rintro e w1 ⟨p1, c1, rfl, hb1, hm1⟩
      have HB1 := Lib.hid (HB.out.trans (hb1.mono HB.out.size))
      have HN1 := Lib.hid hm1.natIn
      have hcv1 := run_str (c := k) (HO.out.keep hb1) HL.out
      rw [← HTD.out] at hcv1
      have hs1 := HB1.out.size
      clear hb1 hm1 hcv
      by_cases hlong : 4096 < k
      · have hp := par_long (l := t.data.toList) (by rw [HTL.out]; exact hg.out) (by rw [len_size, HTS.out]; exact hlong)
        rw [hp.1, hp.2, len_zero]
        clear hp hcv1
        go_wp2_with fail
        refine (awake_ok _ (Tab.keep HT.out HB1.out hg0) (Nat.lt_of_lt_of_le hg0 hs1)).mono ?_
        rintro e w5 ⟨rfl, hb5⟩
        have HB5 := Lib.hid (HB1.out.trans (hb5.mono hs1))
        clear hb5
        go_wp2_with fail
        go_ret
        exact ⟨rfl, HB5.out⟩
      · have hp := par_good (l := t.data.toList) (by rw [HTL.out]; exact hg.out) (by rw [len_size, HTS.out]; omega)
        obtain ⟨v, hv⟩ : ∃ v, v = dval t.data.toList := ⟨_, rfl⟩
        rw [hp.1, ← hv] at HN1
        rw [hp.1, hp.2, ← hv]
        have HVd := Lib.hid hv
        clear hp hv
        go_wp2_with fail
        refine (rdigits_ok t _ (by rw [HTS.out]; omega) (by rw [HTL.out]; exact (good_iff.1 hg.out).2.2)).mono ?_
        rintro e w2 ⟨p2, c2, rfl, hb2, hm2⟩
        rw [← HVd.out] at hm2 ⊢
        have HB2 := Lib.hid (HB1.out.trans (hb2.mono hs1))
        have HN2 := Lib.hid hm2.natIn
        have HN12 := Lib.hid (HN1.out.keep hb2)
        have hs2 := HB2.out.size
        clear hb2 hm2 hcv1
        go_wp2_with fail
        refine (same_ok p1 _ c1 (limbs v) p2 _ c2 (limbs v) _ HN12.out HN2.out rfl rfl).mono ?_
        rintro e w3 ⟨rfl, hb3⟩
        rw [eqL_true rfl]
        have HB3 := Lib.hid (HB2.out.trans (hb3.mono hs2))
        have hs3 := HB3.out.size
        clear hb3
        go_wp2_with fail
        refine (awake_ok _ (Tab.keep HT.out HB3.out hg0) (Nat.lt_of_lt_of_le hg0 hs3)).mono ?_
        rintro e w5 ⟨rfl, hb5⟩
        have HB5 := Lib.hid (HB3.out.trans (hb5.mono hs3))
        clear hb5
        go_wp2_with fail
        go_ret
        exact ⟨rfl, HB5.out⟩
end Go.Proofs.YtgaicejcjkpekaaDoor
