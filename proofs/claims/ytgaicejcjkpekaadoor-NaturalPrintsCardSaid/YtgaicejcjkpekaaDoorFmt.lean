/- natural.Format. -/
import Derived.Test.YtgaicejcjkpekaaDoorTrim
import Derived.Test.YtgaicejcjkpekaaDoorSmall
import Derived.Test.YtgaicejcjkpekaaDoorFmtM
import Derived.Test.YtgaicejcjkpekaaDoorShelf
import Derived.WalkSmall
import Derived.Deep.LoopGhost
import Derived.Shelf.Strings.BuilderF
namespace Go.Proofs.YtgaicejcjkpekaaDoor
open Go.RowKit Nt

/-- The table that Itoa reads. -/
def Tab (w : World) : Prop := Lib.TabIs Tryd.prog w "internal/strconv.uint64pow10" .u64 Lib.pow10Tab
theorem glob_pow : Tryd.prog.globalNamed "internal/strconv.uint64pow10" = some 4 := by kernel_rfl
theorem Tab.keep {w w' : World} (h : Tab w) (hb : Below w.heap.size w w') (hg : 4 < w.heap.size) : Tab w' := var?_below hb glob_pow hg h
theorem below_grow' (w : World) (k : Nat) (os : Array Obj) : Below w.heap.size w (Go.Sort.grow (w.drewN k) os) :=
  ⟨rfl, rfl, rfl, by simp [Go.Sort.grow], fun i hi => by simp only [Go.Sort.grow, World.drewN]; rw [Array.getElem?_append_left hi]⟩

theorem itoa_ok (n : Nat) (hn : n < 4294967296) (w : World) (ht : Tab w) :
    Calls Tryd.prog 21 #[.int .i64 (n : Int)] w fun e w' => ∃ D : ByteArray, Hid (D.data.toList = dec n) ∧ e = .returned (.string D) ∧ Below w.heap.size w w' :=
  (Tryd.strconv_Itoa (n : Int) (by omega) (by omega) w ht).mono fun e w' ⟨he, k, os, hw⟩ => ⟨⟨(dec n).toArray⟩, rfl, by rw [he, itoa_dec], by rw [hw]; exact below_grow' w k os⟩
theorem repL_zero (c : Nat) : Lib.repeatL [48] c = List.replicate c 48 := by
  induction c with
  | zero => rfl
  | succ c ih => rw [Lib.repeatL, ih, List.replicate_succ]; rfl
theorem repeat_ok (c : Nat) (hc : c ≤ 9) (w : World) :
    Calls Tryd.prog 24 #[.string ⟨#[48]⟩, .int .i64 (c : Int)] w fun e w' => ∃ D : ByteArray, Hid (D.data.toList = List.replicate c 48) ∧ e = .returned (.string D) ∧ Below w.heap.size w w' :=
  (Tryd.strings_Repeat ⟨#[48]⟩ c w (by omega) (by show 1 * c ≤ 140737488355328; omega)).mono fun e w' ⟨he, hb⟩ => ⟨⟨(List.replicate c 48).toArray⟩, rfl, by rw [he, ← repL_zero], hb⟩
/-- The pieces, the last one first. -/
def joinR (ps : List ByteArray) : List UInt8 := (ps.reverse.map fun s => s.data.toList).flatten
theorem joinR_snoc (ps : List ByteArray) (s : ByteArray) : joinR (ps ++ [s]) = s.data.toList ++ joinR ps := by
  unfold joinR; simp
theorem joinR_drop {ps : List ByteArray} {j : Nat} (h : j < ps.length) : joinR (ps.drop j) = joinR (ps.drop (j + 1)) ++ (ps[j]).data.toList := by
  have e := List.drop_eq_getElem_cons h
  unfold joinR
  rw [e, List.reverse_cons, List.map_append, List.flatten_append]
  simp only [List.map_cons, List.map_nil, List.flatten_cons, List.flatten_nil, List.append_nil]
theorem joinR_le_all {ps : List ByteArray} (h : ∀ x ∈ ps, x.size ≤ 9) : (joinR ps).length ≤ 9 * ps.length := by
  induction ps with
  | nil => simp [joinR]
  | cons s ps ih =>
    have h1 := ih (fun x hx => h x (by simp [hx]))
    have h2 := h s (by simp)
    have h3 : s.data.toList.length = s.size := rfl
    unfold joinR at h1 ⊢
    simp only [List.reverse_cons, List.map_append, List.map_cons, List.map_nil, List.flatten_append, List.flatten_cons, List.flatten_nil, List.append_nil, List.length_append, List.length_cons, h3]
    omega
theorem joinR_le {ps : List ByteArray} (h : ∀ x ∈ ps, x.size ≤ 9) (k : Nat) : (joinR (ps.drop k)).length ≤ 9 * ps.length := by
  have h1 := joinR_le_all (ps := ps.drop k) (fun x hx => h x (List.mem_of_mem_drop hx))
  rw [List.length_drop] at h1
  omega
theorem ws_ok (B b : Nat) (bs : List Value) (s : ByteArray) (w : World) (h : Lib.IsBuilderF 52 5 B b bs w) (hlen : bs.length + s.size ≤ 140737488355328) (hBw : B ≤ w.heap.size) :
    Calls Tryd.prog 25 #[.pointer (some ⟨b, 0, none⟩), .string s] w fun e w' => e = .returned (.tuple #[.int .i64 s.size, .nilIface]) ∧ Lib.IsBuilderF 52 5 B b (bs ++ Lib.strCells s) w' ∧ Below B w w' :=
  (Any.Builder_WriteString_f { Tryd.lays105 with } Tryd.Builder_Extra_105 B b bs s w h hlen hBw).mono fun _ _ ⟨h1, h2, h3⟩ => ⟨h1, Or.inr h2, h3⟩
theorem infoStr : (Tryd.prog.info? 9).map (fun i => (i.zero, i.size, i.bytes)) = some (some (.string ⟨#[]⟩), 1, 16) := by kernel_rfl

set_option maxRecDepth 100000 in
set_option maxHeartbeats 400000 in
theorem format_ok (p : Option Addr) (n c : Nat) (l : List Nat) (w : World) (h : NatIn w p c l) (hn : l.length = n) (hs : n ≤ 1000000000) (ht : Tab w) (hg : 4 < w.heap.size) :
    Calls Tryd.prog 9 #[.slice p n c] w fun e w' => e = .returned (.string ⟨(dec (val l)).toArray⟩) ∧ Below w.heap.size w w' := by
  subst hn
  have hlt := val_lt h.lim
  obtain ⟨i0, hi, hz0, hz1, hz2⟩ := info_parts infoStr
  go_enter Tryd.func9, Tryd.ntmps9
  go_wp2_with fail
  refine (trim_ok p _ c l w h rfl (by omega)).mono ?_
  rintro e w1 ⟨p1, c1, rfl, hb1, hm1⟩
  obtain ⟨N, hN⟩ : ∃ N, N = val l := ⟨_, rfl⟩
  rw [← hN] at hlt hm1 ⊢
  have HN := Lib.hid hN
  have HB1 := Lib.hid hb1
  have HM1 := Lib.hid hm1
  have HT1 := Lib.hid (Tab.keep ht hb1 hg)
  have HTab0 := Lib.hid ht
  have hsz1 := hb1.size
  have hll : (limbs N).length ≤ l.length := by rw [hN]; exact limbs_length_val_le h.lim
  clear hN hb1 hm1 h ht
  by_cases hz : N = 0
  · subst hz
    rw [limbs_zero]
    have HD : Hid (dec 0 = [48]) := dec_small (by omega)
    go_wp2_with fail
    go_ret
    rw [← HN.out, HD.out]
    exact ⟨rfl, HB1.out⟩
  · have hlp : 0 < (limbs N).length := by
      rw [limbs_pos hz]; simp
    have hl0 : (((limbs N).length : Int) == 0) = false := by rw [beq_eq_false_iff_ne]; omega
    have HNz := Lib.hid hz
    have HLt := Lib.hid hlt
    have HP := Lib.hid hlp
    clear hz hlt
    go_wp2_with fail
    have hNd : Hid (0 < N) := Nat.pos_of_ne_zero HNz.out
    go_loopg [3, 4] N (fun g rv pv wr => ∃ (R : List Nat) (ps : List ByteArray), rv = .slice p1 R.length c1 ∧ Mine w.heap.size wr p1 c1 R ∧ R = limbs g ∧ wr.ownsRow w1.heap.size 9 1 pv ps.length (ps.map Value.string) ∧ Below w.heap.size w wr ∧ w1.heap.size ≤ wr.heap.size ∧ Tab wr ∧
        (∀ x ∈ ps, x.size ≤ 9) ∧ ps.length ≤ 32 * l.length ∧ g * 2 ^ ps.length ≤ N ∧ (0 < g → dec N = dec g ++ joinR ps) ∧ (g = 0 → dec N = joinR ps ∧ 0 < ps.length))
    case atStart =>
      refine ⟨limbs N, [], rfl, HM1.out, rfl, World.ownsRow_nil _ _ _ _, HB1.out, Nat.le_refl _, HT1.out, fun x hx => by simp at hx, Nat.zero_le _, by simp, fun _ => by simp [joinR], fun h0 => absurd h0 HNz.out⟩
    case round =>
      obtain ⟨R, ps, rfl, hM, hR, hown, hbl, hs1, htab, hps, hpl, hcnt, hd1, hd2⟩ := hrel
      have HM := Lib.hid hM
      have HR := Lib.hid hR
      have HOwn := Lib.hid hown
      have HBl := Lib.hid hbl
      have HTab := Lib.hid htab
      have HPs := Lib.hid hps
      have HCnt := Lib.hid hcnt
      have HD1 := Lib.hid hd1
      have HD2 := Lib.hid hd2
      clear hM hR hown hbl htab hps hcnt hd1 hd2
      by_cases h0 : 0 < R.length
      · have hgp : Hid (0 < gk) := by
          apply Nat.pos_of_ne_zero
          intro e
          have := HR.out
          rw [e, limbs_zero] at this
          rw [this] at h0; simp at h0
        have hpl2 : ps.length < 32 * l.length := by
          have h1 : 1 * 2 ^ ps.length ≤ gk * 2 ^ ps.length := Nat.mul_le_mul_right _ hgp.out
          have h2 := HCnt.out
          have h3 := HLt.out
          rw [bp_two_pow] at h3
          exact (Nat.pow_lt_pow_iff_right (by omega : 1 < 2)).1 (by omega)
        go_wp2_with fail
        refine (small_ok w.heap.size p1 _ c1 R 1000000000 _ HM.out rfl (by omega) (by omega)).mono ?_
        rintro e w3 ⟨R2, rfl, hR2, hR2v, hM3, hW3⟩
        have hvR : val R = gk := by rw [HR.out, val_limbs]
        rw [hvR] at hR2v ⊢
        clear hvR
        obtain ⟨q, hq⟩ : ∃ q, q = gk / 1000000000 := ⟨_, rfl⟩
        obtain ⟨r, hr⟩ : ∃ r, r = gk % 1000000000 := ⟨_, rfl⟩
        rw [← hq] at hR2v
        rw [← hr]
        have hr9 : r < 1000000000 := by rw [hr]; exact Nat.mod_lt _ (by omega)
        have Hq := Lib.hid hq
        have Hr := Lib.hid hr
        have HR2 := Lib.hid hR2
        have HR2v := Lib.hid hR2v
        have HM3 := Lib.hid hM3
        have HW3 := Lib.hid hW3
        have hb3 : Below w.heap.size wr w3 := hW3.below (by have := HBl.out.size; omega) (fun h => HM.out.ge h)
        have HB3 := Lib.hid hb3
        have hT3 : Tab w3 := var?_below hb3 glob_pow hg HTab.out
        have HT3 := Lib.hid hT3
        clear hq hr hR2 hR2v hM3 hW3 hb3 hT3
        rw [show (r : Int) = (r : Int) from rfl]
        go_wp2_with fail
        refine (itoa_ok r (by omega) _ HT3.out).mono ?_
        rintro e w4 ⟨D, hD, rfl, hb4⟩
        have hDs : D.size = (dec r).length := by rw [← hD.out]; rfl
        have hd9 : D.size ≤ 9 := by rw [hDs]; exact dec_len_le 8 r (by omega)
        have HDs := Lib.hid hDs
        clear hDs
        have HB4 := Lib.hid hb4
        clear hb4
        go_wp2_with fail
        refine (low_ok p1 _ c1 R2 _ (HM3.out.natIn.keep HB4.out) HR2.out).mono ?_
        rintro e w' ⟨X, hX, rfl, hXn, rfl⟩
        have hX1 : X = limbs q := by rw [hX.out, HR2v.out]
        have HX1 := Lib.hid hX1
        have hMX : Mine w.heap.size w4 p1 c1 X := by rw [hX.out]; exact HM3.out.low.keep HB4.out
        have HMX := Lib.hid hMX
        have hO3 : w3.ownsRow w1.heap.size 9 1 u4 ps.length (ps.map Value.string) := by
          refine HOwn.out.kept HW3.out ?_
          cases hh : u4.ownBlock with
          | none => exact .inl rfl
          | some g =>
            refine .inr ?_
            rw [if_pos h0]
            have h5 := (HOwn.out.lt g hh).1
            have h6 := (HM1.out.natIn.ptr HP.out).2
            intro e
            simp only [Option.some.injEq] at e
            omega
        have hO4 : w4.ownsRow w1.heap.size 9 1 u4 ps.length (ps.map Value.string) := hO3.kept (row := none) ⟨HB4.out.os, HB4.out.tape, HB4.out.output, HB4.out.size, fun k hk _ => HB4.out.block k hk⟩ (by
          cases hh : u4.ownBlock with
          | none => exact .inl rfl
          | some g => exact .inr (by simp))
        have HO4 := Lib.hid hO4
        clear hX1 hMX hXn hO3 hO4
        by_cases hXl : 0 < X.length
        · have hqp : Hid (0 < q) := by
            apply Nat.pos_of_ne_zero
            intro e
            have h1 := HX1.out
            rw [e, limbs_zero] at h1
            rw [h1] at hXl; simp at hXl
          go_wp2_with fail
          rw [show (9 : Int) - (D.size : Int) = ((9 - D.size : Nat) : Int) from by omega]
          refine (repeat_ok (9 - D.size) (by omega) _).mono ?_
          rintro e w5 ⟨Z, hZ, rfl, hb5⟩
          have hZs : Z.size = 9 - D.size := by
            have : Z.data.toList.length = 9 - D.size := by rw [hZ.out, List.length_replicate]
            exact this
          have HZs := Lib.hid hZs
          have hZ9 : Z.size ≤ 9 := by omega
          have HO5 := Lib.hid (HO4.out.kept (row := none) (w' := w5) ⟨hb5.os, hb5.tape, hb5.output, hb5.size, fun k hk _ => hb5.block k hk⟩ (by
            cases hh : u4.ownBlock with
            | none => exact .inl rfl
            | some g => exact .inr (by simp)))
          have HM5 := Lib.hid (HMX.out.keep hb5)
          have HB5 := Lib.hid hb5
          clear hb5 hZs
          go_wp2_with (at_builtin; refine wpList_append_own _ rfl _ _ 46 rfl w1.heap.size 9 i0 (.string ⟨#[]⟩) 1 16 Tryd.underlying46 hi hz0 hz1 hz2 rfl (by decide) _ _ _ rfl (HO5.out.alloc _) ⟨w5.heap.size, 0, none⟩ 1 1 [.string (Z ++ D)] rfl rfl ?c1 ?c2 ?c3 ?c4 ?c5 ?_)
          case c1 => exact cell_one_new _ _ _
          case c2 => intro u hu; simp at hu; subst hu; rfl
          case c3 => unfold maxLen; omega
          case c4 => omega
          case c5 => have := HB5.out.size; have := HB4.out.size; have := HB3.out.size; have := HW3.out.size; simp only [World.size_alloc]; omega
          intro v' w6 hown6 hgr6 _
          have hne6 : ∀ k, u4.ownBlock = some k → w1.heap.size ≤ k := fun k hk => (HOwn.out.lt k hk).1
          have hbw6 : Below w.heap.size w w6 := by
            refine Below.grown (w := w5.alloc (.cells #[.string (Z ++ D)] 9)) ?_ hgr6 ?_ (fun k hk => by have := hne6 k hk; omega)
            · refine Below.alloc ?_ ?_ _
              · exact (HBl.out.trans HB3.out).trans ((HB4.out.trans (HB5.out.mono HB4.out.size)).mono (by have := HB3.out.size; have := HBl.out.size; omega))
              · have := HB5.out.size; have := HB4.out.size; have := HB3.out.size; have := HBl.out.size; omega
            · have := HB5.out.size; have := HB4.out.size; have := HB3.out.size; have := HBl.out.size; simp only [World.size_alloc]; omega
          have hM6 : Mine w.heap.size w6 p1 c1 X := by
            refine Mine.only (HM5.out.keep (below_new _ _)) hgr6 (fun h e => ?_)
            have h5 := hne6 _ e
            have h6 := (HM1.out.natIn.ptr HP.out).2
            omega
          have HBw6 := Lib.hid hbw6
          have HM6 := Lib.hid hM6
          have HOwn6 := Lib.hid hown6
          have HG6 := Lib.hid hgr6
          clear hbw6 hM6 hown6 hgr6 hne6
          go_wp2_with fail
          go_roundg q
          case measure => have := Hq.out; have := hgp.out; omega
          case rel =>
            have hlen : (ps ++ [Z ++ D]).length = ps.length + 1 := by simp
            refine ⟨X, ps ++ [Z ++ D], rfl, HM6.out, HX1.out, ?_, HBw6.out, ?_, var?_below HBw6.out glob_pow hg HTab0.out, ?_, by rw [hlen]; omega, ?_, ?_, ?_⟩
            · have := HOwn6.out
              simpa using this
            · have := HG6.out.size
              simp only [World.size_alloc] at this
              have := HB5.out.size; have := HB4.out.size; have := HB3.out.size; omega
            · intro x hx
              rcases List.mem_append.1 hx with hx | hx
              · exact HPs.out x hx
              · simp only [List.mem_singleton] at hx
                subst hx
                rw [ByteArray.size_append]; have := HZs.out; omega
            · rw [hlen, Nat.pow_succ]
              have h1 := HCnt.out
              have h2 : q * 2 ≤ gk := by have := Hq.out; omega
              have h3 : q * 2 * 2 ^ ps.length ≤ gk * 2 ^ ps.length := Nat.mul_le_mul_right _ h2
              have e : q * (2 ^ ps.length * 2) = q * 2 * 2 ^ ps.length := by grind
              omega
            · intro hq0
              rw [HD1.out hgp.out, joinR_snoc, dec_piece Hq.out Hr.out hq0, ByteArray.data_append, Array.toList_append, hZ.out, hD.out, HDs.out, List.append_assoc]
            · intro hq0
              exact absurd hq0 (by have := hqp.out; omega)
        · have hqz : Hid (q = 0) := by
            have h1 := HX1.out
            rw [List.length_eq_zero_iff.1 (by omega : X.length = 0)] at h1
            exact (limbs_inj (h1.symm.trans limbs_zero.symm))
          go_wp2_with (at_builtin; refine wpList_append_own _ rfl _ _ 46 rfl w1.heap.size 9 i0 (.string ⟨#[]⟩) 1 16 Tryd.underlying46 hi hz0 hz1 hz2 rfl (by decide) _ _ _ rfl (HO4.out.alloc _) ⟨w4.heap.size, 0, none⟩ 1 1 [.string D] rfl rfl ?c1 ?c2 ?c3 ?c4 ?c5 ?_)
          case c1 => exact cell_one_new _ _ _
          case c2 => intro u hu; simp at hu; subst hu; rfl
          case c3 => unfold maxLen; omega
          case c4 => omega
          case c5 => have := HB4.out.size; have := HB4.out.size; have := HB3.out.size; have := HW3.out.size; simp only [World.size_alloc]; omega
          intro v' w6 hown6 hgr6 _
          have hne6 : ∀ k, u4.ownBlock = some k → w1.heap.size ≤ k := fun k hk => (HOwn.out.lt k hk).1
          have hbw6 : Below w.heap.size w w6 := by
            refine Below.grown (w := w4.alloc (.cells #[.string D] 9)) ?_ hgr6 ?_ (fun k hk => by have := hne6 k hk; omega)
            · refine Below.alloc ?_ ?_ _
              · exact (HBl.out.trans HB3.out).trans (HB4.out.mono (by have := HB3.out.size; have := HBl.out.size; omega))
              · have := HB4.out.size; have := HB3.out.size; have := HBl.out.size; omega
            · have := HB4.out.size; have := HB3.out.size; have := HBl.out.size; simp only [World.size_alloc]; omega
          have hM6 : Mine w.heap.size w6 p1 c1 X := by
            refine Mine.only (HMX.out.keep (below_new _ _)) hgr6 (fun h e => ?_)
            have h5 := hne6 _ e
            have h6 := (HM1.out.natIn.ptr HP.out).2
            omega
          have HBw6 := Lib.hid hbw6
          have HM6 := Lib.hid hM6
          have HOwn6 := Lib.hid hown6
          have HG6 := Lib.hid hgr6
          clear hbw6 hM6 hown6 hgr6 hne6
          go_wp2_with fail
          go_roundg q
          case measure => have := Hq.out; have := hgp.out; omega
          case rel =>
            have hlen : (ps ++ [D]).length = ps.length + 1 := by simp
            refine ⟨X, ps ++ [D], rfl, HM6.out, HX1.out, ?_, HBw6.out, ?_, var?_below HBw6.out glob_pow hg HTab0.out, ?_, by rw [hlen]; omega, ?_, ?_, ?_⟩
            · have := HOwn6.out
              simpa using this
            · have := HG6.out.size
              simp only [World.size_alloc] at this
              have := HB4.out.size; have := HB3.out.size; omega
            · intro x hx
              rcases List.mem_append.1 hx with hx | hx
              · exact HPs.out x hx
              · simp only [List.mem_singleton] at hx
                subst hx
                exact hd9
            · rw [hlen, Nat.pow_succ]
              have h1 := HCnt.out
              have h2 : q * 2 ≤ gk := by have := Hq.out; omega
              have h3 : q * 2 * 2 ^ ps.length ≤ gk * 2 ^ ps.length := Nat.mul_le_mul_right _ h2
              have e : q * (2 ^ ps.length * 2) = q * 2 * 2 ^ ps.length := by grind
              omega
            · intro hq0
              exact absurd hqz.out (by omega)
            · intro _
              refine ⟨?_, by rw [hlen]; omega⟩
              have hgr : gk = r := by have h1 := Hq.out; have h2 := Hr.out; have h3 := hqz.out; omega
              rw [HD1.out hgp.out, joinR_snoc, hD.out, ← hgr]
      · obtain hR0 : R.length = 0 := by omega
        have hgk : Hid (gk = 0) := by
          have h1 := HR.out
          rw [List.length_eq_zero_iff.1 hR0] at h1
          exact (limbs_inj (h1.symm.trans limbs_zero.symm))
        have hfin := HD2.out hgk.out
        have HFin := Lib.hid hfin.1
        have hps0 := hfin.2
        rcases HOwn.out.2 with ⟨_, h0'⟩ | ⟨g, cap, cur, rfl, hgb, hgc, hgl, hgm, hgs, hgt⟩
        · omega
        have hcellA : Hid (∀ j (hj : j < ps.length), wr.cell? ⟨g, j, none⟩ = some (.string ps[j])) := by
          intro j hj
          have h1 := HOwn.out.cellAt j (by omega)
          rw [h1]
          simp [hj]
        have hgw : g < wr.heap.size := (Array.getElem?_eq_some_iff.1 hgc).1
        have hcap : cap ≤ 9223372036854775807 := by unfold maxLen at hgm; omega
        clear hR0 hfin hgc hgs hgt hgm
        go_wp2_with fail
        obtain ⟨wo, rfl⟩ : ∃ wo : World, wo = wr := ⟨_, rfl⟩
        obtain ⟨wb, hwb⟩ : ∃ wb : World, wb = wo.alloc (.cells #[.pointer none, .slice none 0 0] 52) := ⟨_, rfl⟩
        have hIB : Lib.IsBuilderF 52 5 wo.heap.size wo.heap.size [] wb := by
          rw [hwb]
          exact (Lib.fresh_isBuilder 52 5 wo).imp Lib.BuilderAtF.of Lib.BuilderAtF.of
        have hszb : wo.heap.size < wb.heap.size := by rw [hwb]; simp
        have hbb : Below wo.heap.size wo wb := by rw [hwb]; exact below_new _ _
        rw [← hwb]
        have HIB := Lib.hid hIB
        have HBB := Lib.hid hbb
        clear hwb hIB hbb
        go_loopw [7] (fun iv wq => ∃ k : Nat, k ≤ ps.length ∧ iv = .int .i64 ((k : Int) - 1) ∧ Lib.IsBuilderF 52 5 wo.heap.size wo.heap.size (Lib.byteCells (joinR (ps.drop k))) wq ∧ Below wo.heap.size wo wq ∧ wo.heap.size ≤ wq.heap.size) (fun iv _ => (intOf iv + 1).toNat)
        case atStart => exact ⟨ps.length, Nat.le_refl _, rfl, by rw [List.drop_of_length_le (Nat.le_refl _)]; exact HIB.out, HBB.out, by omega⟩
        case round =>
          obtain ⟨k, hk, rfl, hib, hbq, hsq⟩ := hrel
          have HIb := Lib.hid hib
          have HBq := Lib.hid hbq
          clear hib hbq
          by_cases hk0 : 0 < k
          · obtain ⟨j, rfl⟩ : ∃ j, k = j + 1 := ⟨k - 1, by omega⟩
            rw [show (((j + 1 : Nat) : Int) - 1) = (j : Int) from by omega]
            have hcj := (HBq.out.cell (p := ⟨g, j, none⟩) hgw).trans (hcellA.out j (by omega))
            obtain ⟨s, hs2⟩ : ∃ s, s = ps[j]'(by omega) := ⟨_, rfl⟩
            rw [← hs2] at hcj
            have hss : s.size ≤ 9 := by rw [hs2]; exact HPs.out _ (List.getElem_mem _)
            have hjl : (joinR (ps.drop (j + 1))).length ≤ 9 * ps.length := joinR_le HPs.out (j + 1)
            have HS2 := Lib.hid hs2
            have HJl := Lib.hid hjl
            clear hs2 hjl
            go_wp2_with fail
            refine (ws_ok wo.heap.size wo.heap.size (Lib.byteCells (joinR (ps.drop (j + 1)))) s _ HIb.out (by rw [Lib.byteCells_length]; have := HJl.out; omega) hsq).mono ?_
            rintro e w7 ⟨rfl, hib7, hb7⟩
            have HIb7 := Lib.hid hib7
            have HB7 := Lib.hid hb7
            clear hib7 hb7
            go_wp2_with fail
            go_roundw
            case rel =>
              refine ⟨j, by omega, rfl, ?_, HBq.out.trans HB7.out, Nat.le_trans hsq HB7.out.size⟩
              have h1 := HIb7.out
              rw [joinR_drop (by omega), ← HS2.out, Lib.byteCells_append]
              exact h1
            case measure => simp [intOf]
          · obtain rfl : k = 0 := by omega
            rw [show (((0 : Nat) : Int) - 1) = -1 from by omega]
            have hib0 := HIb.out
            rw [List.drop_zero] at hib0
            have HIb0 := Lib.hid hib0
            clear hib0
            go_wp2_with fail
            refine (Tryd.Builder_String_any_f wo.heap.size wo.heap.size (joinR ps) _ HIb0.out hsq).mono ?_
            rintro e w8 ⟨rfl, _, hb8⟩
            have HB8 := Lib.hid hb8
            clear hb8
            go_wp2_with fail
            go_ret
            refine ⟨by rw [← HN.out, HFin.out]; rfl, HBl.out.trans ((HBq.out.trans HB8.out).mono (by have := HBl.out.size; omega))⟩
end Go.Proofs.YtgaicejcjkpekaaDoor
