/- The reference: Format. -/
import Derived.Test.YtgaicejcjkpekaaDoorBytes
import Derived.Test.YtgaicejcjkpekaaDoorRShort
import Derived.Deep.AppendLies
import Derived.Deep.LoopGhost
import Derived.Outline
namespace Go.Proofs.YtgaicejcjkpekaaDoor
open Go.RowKit Nt

/-- What the first loop keeps: bs are the last digits, from the last on. -/
structure Dg (V cur : Nat) (bs : List UInt8) : Prop where
  eq : 0 < cur → dec V = dec cur ++ bs.reverse
  fin : cur = 0 → (dec V = bs.reverse ∧ bs ≠ []) ∨ (V = 0 ∧ bs = [])
theorem Dg.start (V : Nat) : Dg V V [] := ⟨fun _ => by simp, fun h => .inr ⟨h, rfl⟩⟩
theorem Dg.step {V cur : Nat} {bs : List UInt8} {x : UInt8} (h : Dg V cur bs) (h0 : 0 < cur) (hx : x.toNat = 48 + cur % 10) : Dg V (cur / 10) (bs ++ [x]) := by
  have hxe : x = UInt8.ofNat (48 + cur % 10) := by rw [← hx, UInt8.ofNat_toNat]
  have e := h.eq h0
  refine ⟨fun h1 => ?_, fun h1 => .inl ⟨?_, by simp⟩⟩
  · rw [e, dec_big (by omega), hxe]; simp
  · rw [e, dec_small (by omega), hxe, show cur % 10 = cur from by omega]; simp
theorem dec_len_le2 {V n : Nat} (h : (limbs V).length ≤ n) : (dec V).length ≤ 10 * n + 1 := by
  apply dec_len_le (10 * n)
  have h1 : V < bp n := lt_bp_of h
  have h2 : bp n ≤ 10 ^ (10 * n) := by
    unfold bp
    rw [Nat.pow_mul]
    exact Nat.pow_le_pow_left (by omega) n
  have h3 : 10 ^ (10 * n) ≤ 10 ^ (10 * n + 1) := Nat.pow_le_pow_right (by omega) (by omega)
  omega
theorem Dg.len {V cur : Nat} {bs : List UInt8} (h : Dg V cur bs) : bs.length ≤ (dec V).length := by
  rcases Nat.eq_zero_or_pos cur with h0 | h0
  · rcases h.fin h0 with ⟨e, _⟩ | ⟨_, rfl⟩
    · rw [e, List.length_reverse]; exact Nat.le_refl _
    · exact Nat.zero_le _
  · rw [h.eq h0, List.length_append, List.length_reverse]; omega
theorem rev_of {L bs : List UInt8} {n : Nat} (h1 : L.length = n) (h2 : bs.length = n) (h : ∀ j, j < n → bt L (n - 1 - j) = bt bs j) : L = bs.reverse := by
  apply List.ext_getElem (by rw [List.length_reverse, h1, h2])
  intro i hi hi'
  have h3 := h (n - 1 - i) (by omega)
  rw [show n - 1 - (n - 1 - i) = i from by omega, bt_eq (by omega), bt_eq (by omega)] at h3
  rw [h3, List.getElem_reverse]
  congr 1
  omega
theorem rowB_keep {B n : Nat} {w w' : World} {v : Value} {t : TypeId} {xs : List Value} (h : w.ownsRow B t 1 v n xs) (hb : Below w.heap.size w w') : w'.ownsRow B t 1 v n xs := by
  refine ⟨h.1, ?_⟩
  rcases h.2 with hn | ⟨g, cap, cur, rfl, hbb, hgg, rest⟩
  · exact .inl hn
  · exact .inr ⟨g, cap, cur, rfl, hbb, by rw [hb.block g (Array.getElem?_eq_some_iff.1 hgg).1]; exact hgg, rest⟩
theorem short_word {q r k : Nat} {w w' : World} {e : Ending} (h : RetShort q r w e w') (hk : (limbs q).length ≤ k) :
    ∃ x p c, x = q ∧ e = .returned (.tuple #[.slice p (limbs x).length c, .int .u32 ((r : Nat) : Int)]) ∧ Below w.heap.size w w' ∧ Mine w.heap.size w' p c (limbs x) ∧ (limbs x).length ≤ k := by
  obtain ⟨p, c, he, hb, hm⟩ := h
  exact ⟨q, p, c, rfl, he, hb, hm, hk⟩

set_option maxRecDepth 100000 in
set_option maxHeartbeats 2000000 in
theorem rformat_ok (p : Option Addr) (n c : Nat) (l : List Nat) (w : World) (h : NatIn w p c l) (hn : l.length = n) (hs : n ≤ 1000) :
    Calls Tryd.prog 13 #[.slice p n c] w fun e w' => e = .returned (.string ⟨(dec (val l)).toArray⟩) ∧ Below w.heap.size w w' := by
  subst hn
  have H := Lib.hid h
  have hvl := limbs_length_val_le h.lim
  obtain ⟨V, hV⟩ : ∃ V, V = val l := ⟨_, rfl⟩
  rw [← hV] at hvl ⊢
  have HV := Lib.hid hV
  have hdl : (dec V).length ≤ 10001 := by have := dec_len_le2 hvl; omega
  have HD0 := Lib.hid (Dg.start V)
  obtain ⟨j0, hj, hj0, hj1, hj2⟩ := info_parts info8
  have HJ := Lib.hid hj
  have HJ0 := Lib.hid hj0
  have HJ1 := Lib.hid hj1
  have HJ2 := Lib.hid hj2
  clear h hV hj hj0 hj1 hj2
  go_enter Tryd.func13, Tryd.ntmps13
  go_wp2_with fail
  refine (rtrim_ok p _ c l _ H.out rfl (by omega)).mono ?_
  rintro e w1 ⟨p1, c1, rfl, hb1, hm1⟩
  rw [← HV.out] at hm1 ⊢
  have HB1 := Lib.hid hb1
  have HN1 := Lib.hid hm1.natIn
  clear hb1 hm1
  go_wp2_with fail
  go_loopg [0, 3] (V + 1) (fun gk nv bv' wr => ∃ (bv : Value) (cur : Nat) (pn : Option Addr) (cn nn : Nat) (bs : List UInt8), bv' = bv ∧ nv = .slice pn nn cn ∧ (limbs cur).length = nn ∧ NatIn wr pn cn (limbs cur) ∧ nn ≤ 1000 ∧ wr.ownsRow w.heap.size 5 1 bv bs.length (bs.map byteV) ∧ Below w.heap.size w wr ∧ Dg V cur bs ∧ cur < gk)
  case atStart => exact ⟨_, V, p1, c1, _, [], rfl, rfl, rfl, HN1.out, by omega, World.ownsRow_nil _ _ _ _, HB1.out, HD0.out, by omega⟩
  case round =>
    obtain ⟨bv, cur, pn, cn, nn, bs, hb0, rfl, hnn, hN, hnb, hrow, hbw, hdg, hgk⟩ := hrel
    have hb0' := hb0.symm
    subst hb0'
    clear hb0
    have HNN := Lib.hid hnn
    have HN := Lib.hid hN
    have HRow := Lib.hid hrow
    have HBw := Lib.hid hbw
    have HDG := Lib.hid hdg
    have HGK := Lib.hid hgk
    have hbl := Nat.le_trans hdg.len hdl
    clear hnn hN hrow hbw hdg hgk
    by_cases h0 : cur = 0
    · have hn0 : nn = 0 := by rw [← HNN.out, h0, limbs_zero]; rfl
      have hfin := Lib.hid (HDG.out.fin h0)
      subst hn0
      clear h0
      rcases hfin.out with hf | hf
      · obtain ⟨hf1, hf2⟩ := hf
        have hbp : 0 < bs.length := List.length_pos_iff.2 hf2
        obtain ⟨g, cap, hv, hgb, hgl⟩ := HRow.out.form hbp
        have HF1 := Lib.hid hf1
        have HRow2 : Hid (wr.ownsRow w.heap.size 5 1 (.slice (some ⟨g, 0, none⟩) bs.length cap) bs.length (bs.map byteV)) := by
          show World.ownsRow _ _ _ _ _ _ _
          rw [← hv]; exact HRow.out
        subst hv
        obtain ⟨m, hm⟩ : ∃ m, m = bs.length := ⟨_, rfl⟩
        rw [← hm] at HRow2 hbp hbl ⊢
        have HM := Lib.hid hm
        have hmk := run_make_row' (P := Tryd.prog) 32 5 (.int .u8 0) 1 Tryd.underlying32 info8 rfl .i64 .i64 m (by omega) (by omega)
        have HO := Lib.hid (own_madeB wr m)
        have HR3 := Lib.hid (rowB_keep HRow2.out (below_new wr (.cells (madeCells #[Value.int .u8 0] m) 5)))
        have HB3 := Lib.hid (HBw.out.trans ((below_new wr (.cells (madeCells #[Value.int .u8 0] m) 5)).mono HBw.out.size))
        obtain ⟨g2, hg2⟩ : ∃ x, x = wr.heap.size := ⟨_, rfl⟩
        have hne : g ≠ wr.heap.size := by omega
        have hws := HBw.out.size
        clear hf1 hf2 hm HRow HRow2 hfin
        go_wp2_with fail
        rw [← hg2] at HO hne hws ⊢
        clear hg2
        go_loopg [33] (m + 1) (fun gk iv wq => ∃ (i : Nat) (L : List UInt8), i ≤ m ∧ iv = .int .i64 i ∧ L.length = m ∧ OwnB wq g2 L ∧ wq.ownsRow w.heap.size 5 1 (.slice (some ⟨g, 0, none⟩) m cap) m (bs.map byteV) ∧ Below w.heap.size w wq ∧ (∀ j, j < i → bt L (m - 1 - j) = bt bs j) ∧ m - i < gk)
        case atStart => exact ⟨0, List.replicate m 0, Nat.zero_le _, rfl, List.length_replicate, HO.out, HR3.out, HB3.out, fun j hj => by omega, by omega⟩
        case round =>
          clear HO HR3 HB3 hmk
          obtain ⟨i, L, hi, rfl, hl, ho, hr, hb, hv, hgk⟩ := hrel
          have HL := Lib.hid hl
          have HO := Lib.hid ho
          have HR := Lib.hid hr
          have HB := Lib.hid hb
          have HVj := Lib.hid hv
          have HGK2 := Lib.hid hgk
          clear hl ho hr hb hv hgk
          by_cases hlt : i < m
          · have hbc := HR.out.cells (g := g) rfl i (byteV (bt bs i)) (by
              rw [List.getElem?_map, List.getElem?_eq_getElem (by have := HM.out; omega), bt_eq (by have := HM.out; omega)]; rfl)
            rw [Addr.add_lit, Nat.zero_add] at hbc
            unfold byteV at hbc
            obtain ⟨q, hq⟩ : ∃ q, q = m - 1 - i := ⟨_, rfl⟩
            have hqi : (m : Int) - 1 - (i : Int) = (q : Int) := by omega
            have hqm : q < m := by omega
            have hoc := HO.out.cell (i := q) (by rw [HL.out]; exact hqm)
            have hof := HO.out.frozen q
            have HQ := Lib.hid hq
            clear hq
            go_wp2_with fail
            go_roundg (m - i)
            case measure => exact HGK2.out
            case rel =>
              refine ⟨i + 1, L.set q (bt bs i), by omega, by go_num, by rw [List.length_set]; exact HL.out, HO.out.set rfl, ?_, below_set HB.out hws _, ?_, by omega⟩
              · refine ⟨HR.out.1, ?_⟩
                rcases HR.out.2 with hn | ⟨g', cap', cur', hv', hbb, hgg, rest⟩
                · exact .inl hn
                · simp only [Value.slice.injEq, Option.some.injEq, Addr.mk.injEq, and_true, true_and] at hv'
                  obtain ⟨rfl, rfl⟩ := hv'
                  exact .inr ⟨g, cap, cur', rfl, hbb, by rw [Below.heap_setCell _ _ _ _ (by exact hne)]; exact hgg, rest⟩
              · intro j hj
                by_cases e : j = i
                · subst e; rw [← HQ.out, bt_set_eq (by rw [HL.out]; exact hqm)]
                · rw [bt_set_ne (by have := HQ.out; omega)]; exact HVj.out j (by omega)
          · obtain rfl : m = i := by omega
            have hrv := rev_of HL.out HM.out.symm HVj.out
            have hcv := run_str (c := m) HO.out HL.out
            rw [hrv, ← HF1.out] at hcv
            clear hrv
            go_wp2_with fail
            go_ret
            exact ⟨rfl, HB.out⟩
      · obtain ⟨hf1, hf2⟩ := hf
        subst hf2
        have hbv : bv = .slice none 0 0 ∨ ∃ g cap, bv = .slice (some ⟨g, 0, none⟩) 0 cap := by
          rcases HRow.out.2 with ⟨h1, _⟩ | ⟨g, cap, cu, h1, _⟩
          · exact .inl h1
          · exact .inr ⟨g, cap, h1⟩
        have HV0 := Lib.hid hf1
        have hdec0 : dec V = [48] := by rw [HV0.out, dec_small (by omega)]; rfl
        have HDEC := Lib.hid hdec0
        clear hf1 hdec0 hfin HRow
        rcases hbv with rfl | ⟨g, cap, rfl⟩
        · go_wp2_with fail
          go_ret
          exact ⟨by rw [HDEC.out]; rfl, HBw.out⟩
        · go_wp2_with fail
          go_ret
          exact ⟨by rw [HDEC.out]; rfl, HBw.out⟩
    · have hcp : 0 < cur := Nat.pos_of_ne_zero h0
      have hn0 : 0 < nn := by rw [← HNN.out]; exact len_pos hcp
      clear h0
      go_wp2_with fail
      refine (rshort_ok pn nn cn (limbs cur) 10 _ HN.out HNN.out (by omega) (by omega) (by omega)).mono ?_
      rintro e w2 hR
      rw [val_limbs] at hR
      obtain ⟨q, p2, c2, hq, rfl, hb2, hn2, hql⟩ := short_word hR (k := 1000) (len_le (a := cur) (by rw [HNN.out]; exact hnb) (Nat.div_le_self _ _))
      obtain ⟨r, hr⟩ : ∃ r, r = cur % 10 := ⟨_, rfl⟩
      rw [← hr]
      obtain ⟨x, hx⟩ : ∃ x, x = UInt8.ofNat (48 + r) := ⟨_, rfl⟩
      have hr9 : r ≤ 9 := by omega
      have hxn : x.toNat = 48 + r := by rw [hx, UInt8.toNat_ofNat']; omega
      have hxi : 48 + (r : Int) = (x.toNat : Int) := by omega
      have hxb : (x.toNat : Int) ≤ 57 := by omega
      have HX : Hid (x.toNat = 48 + cur % 10) := by rw [← hr]; exact hxn
      have HQ := Lib.hid hq
      have HN2 := Lib.hid hn2
      have HB2 := Lib.hid (HBw.out.trans (hb2.mono HBw.out.size))
      have hrow2 := rowB_keep (rowB_keep HRow.out hb2) (below_new w2 (.cells #[.int .u8 (x.toNat : Int)] 5))
      have hs2 := HB2.out.size
      have hnews := World.news_of_block (heap_alloc_new w2 (.cells #[.int .u8 (x.toNat : Int)] 5))
      have hbase : w.heap.size ≤ (w2.alloc (.cells #[.int .u8 (x.toNat : Int)] 5)).heap.size := by simp only [World.size_alloc]; omega
      clear hq hn2 hb2 hR hx hxn hr
      go_wp2_with (at_builtin; refine wpList_append_lies _ rfl _ _ 32 rfl w.heap.size 5 j0 (.int .u8 0) 1 1 Tryd.underlying32 HJ.out HJ0.out HJ1.out HJ2.out rfl (by omega) _ bs.length _ rfl hrow2 _ 1 1 [.int .u8 (x.toNat : Int)] rfl rfl hnews (by simp [Value.oneCell']) (by omega) (by unfold maxLen; omega) (by omega) hbase _ rfl ?_)
      intro g8 c8 w3 hown hgr hat hlt8
      have hb3 : Below w.heap.size (w2.alloc (.cells #[.int .u8 (x.toNat : Int)] 5)) w3 := (Below.refl _ _).grown hgr hbase (fun k hk => (hrow2.lt k hk).1)
      have HB3 := Lib.hid ((HB2.out.trans ((below_new w2 (.cells #[.int .u8 (x.toNat : Int)] 5)).mono hs2)).trans hb3)
      have hm3 : Mine wr.heap.size w3 p2 c2 (limbs q) := (HN2.out.keep (below_new _ _)).only hgr (fun h0 e => by
        have h1 := HN2.out.ge h0
        have h2 := (HRow.out.lt _ e).2
        omega)
      have HM3 := Lib.hid hm3
      have hown' : w3.ownsRow w.heap.size 5 1 (.slice (some ⟨g8, 0, none⟩) (bs.length + 1) c8) (bs ++ [x]).length ((bs ++ [x]).map byteV) := by
        rw [List.length_append, List.map_append]; exact hown
      have HOWN := Lib.hid hown'
      clear hown hgr hat hlt8 hb3 hrow2 hnews hbase hm3 hown'
      go_wp2_with fail
      go_roundg cur
      case measure => exact HGK.out
      case rel => exact ⟨_, q, p2, c2, _, bs ++ [x], rfl, rfl, rfl, HM3.out.natIn, hql, HOWN.out, HB3.out, by rw [HQ.out]; exact HDG.out.step hcp HX.out, by rw [HQ.out]; omega⟩
end Go.Proofs.YtgaicejcjkpekaaDoor
