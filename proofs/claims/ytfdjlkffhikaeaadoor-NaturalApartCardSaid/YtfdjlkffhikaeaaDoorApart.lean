/- NaturalApart: the walk. Printed by wg.py. -/
import Derived.Deep.LoopGhost
import Derived.Deep.AppendLies

import Derived.Test.YtfdjlkffhikaeaaDoorGcd
import Derived.Test.YtfdjlkffhikaeaaDoorRefB
import Derived.Test.YtfdjlkffhikaeaaDoorRefC
import Derived.Test.YtfdjlkffhikaeaaDoorRefD
import Derived.Test.YtfdjlkffhikaeaaDoorAdd
import Derived.Test.YtfdjlkffhikaeaaDoorMul
import Derived.Test.YtfdjlkffhikaeaaDoorSub
import Derived.Test.YtfdjlkffhikaeaaDoorDiv
import Derived.Test.YtfdjlkffhikaeaaDoorApp
import Derived.Test.YtfdjlkffhikaeaaDoorWord2
namespace Go.Proofs.YtfdjlkffhikaeaaDoor
open Go.RowKit Nt

/-- A result that may be written at will: its cells, if any, are a block of limbs from B on. -/
def Scrap (B : Nat) (w : World) (v : Value) : Prop := ∃ p n c, v = .slice p n c ∧ (n = 0 ∨ ∃ b L, p = some ⟨b, 0, none⟩ ∧ B ≤ b ∧ Own w b L ∧ n ≤ L.length ∧ L.length ≤ 9223372036854775807)
theorem Mine.scrap {B : Nat} {w : World} {p : Option Addr} {c : Nat} {l : List Nat} (h : Mine B w p c l) : Scrap B w (.slice p l.length c) := by
  obtain ⟨h1, h2, h3, h4⟩ := h
  refine ⟨p, l.length, c, rfl, ?_⟩
  rcases h4 with rfl | ⟨b, L, rfl, hB, hO, hL, hc⟩
  · exact .inl rfl
  · exact .inr ⟨b, l ++ L, rfl, hB, hO, by rw [List.length_append]; omega, by rw [List.length_append]; omega⟩
theorem Scrap.keep {B : Nat} {w w' : World} {v : Value} (h : Scrap B w v) (hb : Below w.heap.size w w') : Scrap B w' v := by
  obtain ⟨p, n, c, rfl, h4⟩ := h
  refine ⟨p, n, c, rfl, ?_⟩
  rcases h4 with rfl | ⟨b, L, rfl, hB, hO, hL, hc⟩
  · exact .inl rfl
  · exact .inr ⟨b, L, rfl, hB, hO.below hb hO.lt, hL, hc⟩
theorem Scrap.store {B : Nat} {w : World} {v : Value} (h : Scrap B w v) (g o : Nat) : Scrap B (w.setCell ⟨g, o, none⟩ (.int .u32 9)) v := by
  obtain ⟨p, n, c, rfl, h4⟩ := h
  refine ⟨p, n, c, rfl, ?_⟩
  rcases h4 with rfl | ⟨b, L, rfl, hB, hO, hL, hc⟩
  · exact .inl rfl
  · by_cases e : b = g
    · subst e
      exact .inr ⟨b, L.set o 9, rfl, hB, hO.set rfl, by rw [List.length_set]; exact hL, by rw [List.length_set]; exact hc⟩
    · exact .inr ⟨b, L, rfl, hB, by unfold Own; rw [Below.heap_setCell _ _ _ _ (by exact e)]; exact hO, hL, hc⟩
theorem Scrap.grown {B g : Nat} {w w' : World} {v : Value} (h : Scrap B w v) (hg : w.grownBy w' (some g)) (hr : ∃ cs fr, w.heap[g]? = some (.cells cs 23 fr)) : Scrap B w' v := by
  obtain ⟨p, n, c, rfl, h4⟩ := h
  refine ⟨p, n, c, rfl, ?_⟩
  rcases h4 with rfl | ⟨b, L, rfl, hB, hO, hL, hc⟩
  · exact .inl rfl
  · refine .inr ⟨b, L, rfl, hB, ?_, hL, hc⟩
    obtain ⟨cs, fr, hr⟩ := hr
    unfold Own
    rw [hg.block b hO.lt (by
      intro e
      simp only [Option.some.injEq] at e
      subst e
      have := hr.symm.trans hO
      simp at this)]
    exact hO
theorem row_type {B n g c : Nat} {w : World} {t : TypeId} {xs : List Value} (h : w.ownsRow B t 1 (.slice (some ⟨g, 0, none⟩) n c) n xs) : ∃ cs fr, w.heap[g]? = some (.cells cs t fr) := by
  rcases h.2 with ⟨h', _⟩ | ⟨g', cap, cur, h', hbb, hgg, rest⟩
  · simp at h'
  · simp only [Value.slice.injEq, Option.some.injEq, Addr.mk.injEq, and_true, true_and] at h'
    obtain ⟨rfl, _⟩ := h'
    exact ⟨_, _, hgg⟩
theorem RetNat.scrap {v : Nat} {w w' : World} {e : Ending} (h : RetNat v w e w') {B : Nat} (hB : B ≤ w.heap.size) : ∃ p n c, e = .returned (.slice p n c) ∧ Below w.heap.size w w' ∧ Scrap B w' (.slice p n c) := by
  obtain ⟨p, c, rfl, hb, hm⟩ := h
  exact ⟨p, _, c, rfl, hb, (hm.mono hB).scrap⟩
/-- The world of the loops that write the results. -/
structure Ap (B g8 : Nat) (W w : World) (V : Nat → Value) : Prop where
  bel : Below B W w
  row : ∃ cs fr, w.heap[g8]? = some (.cells cs 23 fr)
  cell : ∀ j, j < 8 → w.cell? ⟨g8, j, none⟩ = some (V j)
  scr : ∀ j, j < 8 → Scrap B w (V j)
theorem Ap.store {B g8 : Nat} {W w : World} {V : Nat → Value} (h : Ap B g8 W w V) {b : Nat} {L : List Nat} (hb : B ≤ b) (hO : Own w b L) (o : Nat) : Ap B g8 W (w.setCell ⟨b, o, none⟩ (.int .u32 9)) V := by
  obtain ⟨cs, fr, hr⟩ := h.row
  have hne : g8 ≠ b := by
    rintro rfl
    have := hr.symm.trans hO
    simp at this
  have hh : (w.setCell ⟨b, o, none⟩ (.int .u32 9)).heap[g8]? = w.heap[g8]? := Below.heap_setCell _ _ _ _ (by exact hne)
  exact ⟨below_set h.bel hb _, ⟨cs, fr, hh.trans hr⟩, fun j hj => (World.cell?_of_block (w := w) (a := ⟨g8, j, none⟩) hh).trans (h.cell j hj), fun j hj => (h.scr j hj).store b o⟩
theorem infoNat : (Tryd.prog.info? 23).map (fun i => (i.zero, i.size, i.bytes)) = some (some (.slice none 0 0), 1, 24) := by kernel_rfl
theorem row_keep {B n : Nat} {w w' : World} {v : Value} {t : TypeId} {xs : List Value} (h : w.ownsRow B t 1 v n xs) (hb : Below w.heap.size w w') : w'.ownsRow B t 1 v n xs := by
  refine ⟨h.1, ?_⟩
  rcases h.2 with hn | ⟨g, cap, cur, rfl, hbb, hgg, rest⟩
  · exact .inl hn
  · exact .inr ⟨g, cap, cur, rfl, hbb, by rw [hb.block g (Array.getElem?_eq_some_iff.1 hgg).1]; exact hgg, rest⟩
theorem ap_start {B g8 cap : Nat} {W w : World} {xs : List Value} (h : w.ownsRow B 23 1 (.slice (some ⟨g8, 0, none⟩) 8 cap) 8 xs) (hb : Below B W w) (hs : ∀ v ∈ xs, Scrap B w v) : Ap B g8 W w (fun j => xs.getD j undef) := by
  have hl : xs.length = 8 := by simpa using h.1
  have hc := h.cells (g := g8) rfl
  refine ⟨hb, ?_, fun j hj => ?_, fun j hj => ?_⟩
  · rcases h.2 with ⟨h', _⟩ | ⟨g, cap, cur, h', hbb, hgg, rest⟩
    · simp at h'
    · simp only [Value.slice.injEq, Option.some.injEq, Addr.mk.injEq, and_true, true_and] at h'
      obtain ⟨rfl, _⟩ := h'
      exact ⟨_, _, hgg⟩
  · have h1 := hc j (xs.getD j undef) (by rw [List.getElem?_eq_getElem (by omega), List.getD_eq_getElem?_getD, List.getElem?_eq_getElem (by omega)]; rfl)
    rw [Addr.add_lit, Nat.zero_add] at h1
    exact h1
  · refine hs _ ?_
    rw [List.getD_eq_getElem?_getD, List.getElem?_eq_getElem (by omega)]
    exact List.getElem_mem _

set_option maxRecDepth 100000 in
set_option maxHeartbeats 2000000 in
theorem apart_walk (pA : Option Addr) (nA cA : Nat) (lA : List Nat) (pB : Option Addr) (nB cB : Nat) (lB : List Nat) (w : World) (haA : NatIn w pA cA lA) (haB : NatIn w pB cB lB) (hlA : lA.length = nA) (hlB : lB.length = nB) (ht : Tab w) (hg : 0 < w.heap.size) :
    Calls Tryd.prog 14 #[.slice pA nA cA, .slice pB nB cB] w fun e w' => e = .returned (.bool true) ∧ Below w.heap.size w w' := by
  have hcA := haA.le
  have hdA := haA.cap
  obtain ⟨mA, hmA⟩ : ∃ m, m = min nA 12 := ⟨_, rfl⟩
  have hAA := haA.take (k := mA) (by omega)
  have hLA : (lA.take mA).length = mA := by rw [List.length_take]; omega
  have hiA : min nA 12 = mA := hmA.symm
  have hjA : min (nA : Int) 12 = (mA : Int) := by omega
  have hkA : mA ≤ 12 := by omega
  have hoA : mA ≤ nA := by omega
  have heA : nA ≤ cA := by omega
  have hfA : mA ≤ cA := by omega
  obtain ⟨A, eA⟩ : ∃ L, L = lA.take mA := ⟨_, rfl⟩
  rw [← eA] at hAA hLA
  have hsA : (limbs (val A)).length ≤ 12 := len_val hAA.lim hLA hkA
  have HNA0 := Lib.hid hAA
  have HLA := Lib.hid hLA
  have hcB := haB.le
  have hdB := haB.cap
  obtain ⟨mB, hmB⟩ : ∃ m, m = min nB 12 := ⟨_, rfl⟩
  have hAB := haB.take (k := mB) (by omega)
  have hLB : (lB.take mB).length = mB := by rw [List.length_take]; omega
  have hiB : min nB 12 = mB := hmB.symm
  have hjB : min (nB : Int) 12 = (mB : Int) := by omega
  have hkB : mB ≤ 12 := by omega
  have hoB : mB ≤ nB := by omega
  have heB : nB ≤ cB := by omega
  have hfB : mB ≤ cB := by omega
  obtain ⟨B, eB⟩ : ∃ L, L = lB.take mB := ⟨_, rfl⟩
  rw [← eB] at hAB hLB
  have hsB : (limbs (val B)).length ≤ 12 := len_val hAB.lim hLB hkB
  have HNB0 := Lib.hid hAB
  have HLB := Lib.hid hLB
  have HT := Lib.hid ht
  have HW0 := Lib.hid (Below.refl w.heap.size w)
  clear ht haA hlA hmA eA hAA hLA hcA haB hlB hmB eB hAB hLB hcB
  have HNA_ := Lib.hid HNA0.out
  have HNB_ := Lib.hid HNB0.out
  go_enter Tryd.func14, Tryd.ntmps14
  go_wp2_with fail
  refine (cut_ok pA nA cA _ heA hdA).mono ?_
  rintro e w' ⟨rfl, rfl⟩
  rw [hiA]
  go_wp2_with fail
  refine (cut_ok pB nB cB _ heB hdB).mono ?_
  rintro e w' ⟨rfl, rfl⟩
  rw [hiB]
  obtain ⟨i0, hi, hz0, hz1, hz2⟩ := info_parts info32
  go_wp2_with (at_make; refine wpList_make_own _ rfl _ _ _ rfl w.heap.size 35 i0 (.int .u32 0) 1 Tryd.underlying23 hi hz0 hz1 .i64 .i64 _ (mA + 2) rfl rfl (by omega) (by rw [hz2]; omega) (by unfold maxLen; omega) (Nat.le_refl _) ?_)
  intro w1 hown hgr
  have hb : Below w.heap.size w w1 := (Below.refl _ _).grown hgr (Nat.le_refl _) (by simp)
  have hR1 : RowOf w.heap.size w1 (.slice (some ⟨w.heap.size, 0, none⟩) 0 (mA + 2)) 0 [] := ⟨hown, lim_nil, _, _, rfl⟩
  clear hi hz0 hz1 hz2 hown hgr
  have HW1 := Lib.hid (HW0.out.trans (hb.mono HW0.out.size))
  have HNA1 := Lib.hid (HNA0.out.keep hb)
  have HNB1 := Lib.hid (HNB0.out.keep hb)
  clear HW0 HNA0 HNB0
  have hb1 := hb.size
  clear hb
  have hAn := HNA1.out
  go_wp2_with (at_builtin; refine wpList_apw _ rfl _ _ rfl rfl hR1 rfl hAn HLA.out (by omega) (by omega) hb1 ?_)
  intro g2 c2 w2 hR2 hb
  try simp only [Nat.zero_add, List.nil_append] at hR2
  have HW2 := Lib.hid (HW1.out.trans hb)
  have HNA2 := Lib.hid (HNA1.out.below hb (fun h => (HNA_.out.ptr h).2))
  have HNB2 := Lib.hid (HNB1.out.below hb (fun h => (HNB_.out.ptr h).2))
  clear HW1 HNA1 HNB1
  clear hR1 hAn hb hb1
  have h56 := natIn_new w2 (cs := #[.int .u32 5, .int .u32 6]) (L := [5, 6]) (n := 2) (by simp [limbV]) (lim_cons (by omega) (lim_cons (by omega) lim_nil)) rfl (by omega)
  have hR3 := hR2.kept (below_new w2 (.cells #[.int .u32 5, .int .u32 6] 35))
  have hb2 : w.heap.size ≤ (w2.alloc (.cells #[.int .u32 5, .int .u32 6] 35)).heap.size := by have := HW2.out.size; simp only [World.size_alloc]; omega
  go_wp2_with (at_builtin; refine wpList_apw _ rfl _ _ rfl rfl hR3 rfl h56 rfl (by omega) (by omega) hb2 ?_)
  intro g3 c3 W hR4 hb
  replace hb := (below_new w2 (.cells #[.int .u32 5, .int .u32 6] 35)).mono HW2.out.size |>.trans hb
  have HW3 := Lib.hid (HW2.out.trans hb)
  have HNA3 := Lib.hid (HNA2.out.below hb (fun h => (HNA_.out.ptr h).2))
  have HNB3 := Lib.hid (HNB2.out.below hb (fun h => (HNB_.out.ptr h).2))
  clear HW2 HNA2 HNB2
  have hRl := hR4.len
  obtain ⟨gg, cc, he, hN, _⟩ := hR4.natIn
  simp only [Value.slice.injEq, Option.some.injEq, Addr.mk.injEq, and_true, true_and] at he
  obtain ⟨rfl, rfl⟩ := he
  have hNt := hN.take (k := mA) (by omega)
  have hta : (A ++ [5, 6]).take mA = A := by rw [List.take_append_of_le_length (by have := HLA.out; omega), List.take_of_length_le (by have := HLA.out; omega)]
  rw [hta] at hNt
  have hcc := hN.le
  rw [hRl] at hcc
  have hcc2 : mA ≤ c3 := by omega
  have HRl := Lib.hid hRl
  have HNR3 := Lib.hid hN
  have HNg3 := Lib.hid hNt
  have HV3 := Lib.hid (Below.refl W.heap.size W)
  clear hRl hN hNt hta hcc hR4 hR3 hR2 hb hb2 h56
  have HZA := Lib.hid HNA3.out
  have HZB := Lib.hid HNB3.out
  have HZR := Lib.hid HNR3.out
  have HZg := Lib.hid HNg3.out
  have hWs := HW3.out.size
  have HWW := Lib.hid HW3.out
  have hsg := hsA
  go_wp2_with fail
  refine (trim_ok (some ⟨g3, 0, none⟩) mA c3 A _ HNg3.out HLA.out (by omega)).mono ?_
  rintro e w4 hR
  obtain ⟨px1, nx1, cx1, rfl, hb, hs⟩ := hR.scrap (B := W.heap.size) HV3.out.size
  have HW4 := Lib.hid (HW3.out.trans (hb.mono HW3.out.size))
  have HNA4 := Lib.hid (HNA3.out.keep hb)
  have HNB4 := Lib.hid (HNB3.out.keep hb)
  have HNR4 := Lib.hid (HNR3.out.keep hb)
  have HNg4 := Lib.hid (HNg3.out.keep hb)
  clear HW3 HNA3 HNB3 HNR3 HNg3
  have HV4 := Lib.hid (HV3.out.trans (hb.mono HV3.out.size))
  clear HV3
  have HSx14 := Lib.hid hs
  clear hb hs hR
  go_wp2_with fail
  have HNn4 := Lib.hid (natIn_nil w4)
  have hsn := hs0
  refine (add_ok (some ⟨g3, 0, none⟩) mA c3 A none 0 0 [] _ HNg4.out HNn4.out HLA.out rfl (by first | omega | (rw [HLA.out]; omega)) (by simp)).mono ?_
  rintro e w5 hR
  obtain ⟨px2, nx2, cx2, rfl, hb, hs⟩ := hR.scrap (B := W.heap.size) HV4.out.size
  have HW5 := Lib.hid (HW4.out.trans (hb.mono HW4.out.size))
  have HNA5 := Lib.hid (HNA4.out.keep hb)
  have HNB5 := Lib.hid (HNB4.out.keep hb)
  have HNR5 := Lib.hid (HNR4.out.keep hb)
  have HNg5 := Lib.hid (HNg4.out.keep hb)
  have HNn5 := Lib.hid (HNn4.out.keep hb)
  clear HW4 HNA4 HNB4 HNR4 HNg4 HNn4
  have HV5 := Lib.hid (HV4.out.trans (hb.mono HV4.out.size))
  have HSx15 := Lib.hid (HSx14.out.keep hb)
  clear HV4 HSx14
  have HSx25 := Lib.hid hs
  clear hb hs hR
  go_wp2_with fail
  have hn := natIn_new w5 (cs := #[.int .u32 1]) (L := [1]) (n := 1) (by simp [limbV]) (lim_cons (by omega) lim_nil) rfl (by omega)
  have hb := below_new w5 (.cells #[.int .u32 1] 35)
  have HW6 := Lib.hid (HW5.out.trans (hb.mono HW5.out.size))
  have HNA6 := Lib.hid (HNA5.out.keep hb)
  have HNB6 := Lib.hid (HNB5.out.keep hb)
  have HNR6 := Lib.hid (HNR5.out.keep hb)
  have HNg6 := Lib.hid (HNg5.out.keep hb)
  have HNn6 := Lib.hid (HNn5.out.keep hb)
  clear HW5 HNA5 HNB5 HNR5 HNg5 HNn5
  have HV6 := Lib.hid (HV5.out.trans (hb.mono HV5.out.size))
  have HSx16 := Lib.hid (HSx15.out.keep hb)
  have HSx26 := Lib.hid (HSx25.out.keep hb)
  clear HV5 HSx15 HSx25
  have HNI6 := Lib.hid hn
  clear hb hn
  refine (mul_ok (some ⟨g3, 0, none⟩) mA c3 A _ 1 1 [1] _ HNg6.out HNI6.out HLA.out rfl (by first | omega | (rw [HLA.out]; omega)) (by simp)).mono ?_
  rintro e w7 hR
  obtain ⟨px3, nx3, cx3, rfl, hb, hs⟩ := hR.scrap (B := W.heap.size) HV6.out.size
  have HW7 := Lib.hid (HW6.out.trans (hb.mono HW6.out.size))
  have HNA7 := Lib.hid (HNA6.out.keep hb)
  have HNB7 := Lib.hid (HNB6.out.keep hb)
  have HNR7 := Lib.hid (HNR6.out.keep hb)
  have HNg7 := Lib.hid (HNg6.out.keep hb)
  have HNn7 := Lib.hid (HNn6.out.keep hb)
  have HNI7 := Lib.hid (HNI6.out.keep hb)
  clear HW6 HNA6 HNB6 HNR6 HNg6 HNn6 HNI6
  have HV7 := Lib.hid (HV6.out.trans (hb.mono HV6.out.size))
  have HSx17 := Lib.hid (HSx16.out.keep hb)
  have HSx27 := Lib.hid (HSx26.out.keep hb)
  clear HV6 HSx16 HSx26
  have HSx37 := Lib.hid hs
  clear hb hs hR
  go_wp2_with fail
  clear HNI7
  refine (gcd_ok (some ⟨g3, 0, none⟩) mA c3 A none 0 0 [] _ HNg7.out HNn7.out HLA.out rfl (by first | omega | (rw [HLA.out]; omega)) (by simp)).mono ?_
  rintro e w8 hR
  obtain ⟨px4, nx4, cx4, rfl, hb, hs⟩ := hR.scrap (B := W.heap.size) HV7.out.size
  have HW8 := Lib.hid (HW7.out.trans (hb.mono HW7.out.size))
  have HNA8 := Lib.hid (HNA7.out.keep hb)
  have HNB8 := Lib.hid (HNB7.out.keep hb)
  have HNR8 := Lib.hid (HNR7.out.keep hb)
  have HNg8 := Lib.hid (HNg7.out.keep hb)
  have HNn8 := Lib.hid (HNn7.out.keep hb)
  clear HW7 HNA7 HNB7 HNR7 HNg7 HNn7
  have HV8 := Lib.hid (HV7.out.trans (hb.mono HV7.out.size))
  have HSx18 := Lib.hid (HSx17.out.keep hb)
  have HSx28 := Lib.hid (HSx27.out.keep hb)
  have HSx38 := Lib.hid (HSx37.out.keep hb)
  clear HV7 HSx17 HSx27 HSx37
  have HSx48 := Lib.hid hs
  clear hb hs hR
  go_wp2_with fail
  refine (add_ok (some ⟨g3, 0, none⟩) mA c3 A pB mB cB B _ HNg8.out HNB8.out HLA.out HLB.out (by first | omega | (rw [HLA.out]; omega)) (by first | omega | (rw [HLB.out]; omega))).mono ?_
  rintro e w9 hR
  obtain ⟨px5, nx5, cx5, rfl, hb, hs⟩ := hR.scrap (B := W.heap.size) HV8.out.size
  have HW9 := Lib.hid (HW8.out.trans (hb.mono HW8.out.size))
  have HNA9 := Lib.hid (HNA8.out.keep hb)
  have HNB9 := Lib.hid (HNB8.out.keep hb)
  have HNR9 := Lib.hid (HNR8.out.keep hb)
  have HNg9 := Lib.hid (HNg8.out.keep hb)
  have HNn9 := Lib.hid (HNn8.out.keep hb)
  clear HW8 HNA8 HNB8 HNR8 HNg8 HNn8
  have HV9 := Lib.hid (HV8.out.trans (hb.mono HV8.out.size))
  have HSx19 := Lib.hid (HSx18.out.keep hb)
  have HSx29 := Lib.hid (HSx28.out.keep hb)
  have HSx39 := Lib.hid (HSx38.out.keep hb)
  have HSx49 := Lib.hid (HSx48.out.keep hb)
  clear HV8 HSx18 HSx28 HSx38 HSx48
  have HSx59 := Lib.hid hs
  clear hb hs hR
  go_wp2_with fail
  have hrow := World.ownsRow_lit (e := 23) (size := 1) (base := W.heap.size) w9 #[.slice px1 nx1 cx1, .slice px2 nx2 cx2, .slice px3 nx3 cx3, .slice px4 nx4 cx4, .slice px5 nx5 cx5] 5 HV9.out.size (by unfold maxLen; omega) rfl
  have hb := below_new w9 (.cells #[.slice px1 nx1 cx1, .slice px2 nx2 cx2, .slice px3 nx3 cx3, .slice px4 nx4 cx4, .slice px5 nx5 cx5] 23)
  have HW10 := Lib.hid (HW9.out.trans (hb.mono HW9.out.size))
  have HNA10 := Lib.hid (HNA9.out.keep hb)
  have HNB10 := Lib.hid (HNB9.out.keep hb)
  have HNR10 := Lib.hid (HNR9.out.keep hb)
  have HNg10 := Lib.hid (HNg9.out.keep hb)
  have HNn10 := Lib.hid (HNn9.out.keep hb)
  clear HW9 HNA9 HNB9 HNR9 HNg9 HNn9
  have HV10 := Lib.hid (HV9.out.trans (hb.mono HV9.out.size))
  have HSx110 := Lib.hid (HSx19.out.keep hb)
  have HSx210 := Lib.hid (HSx29.out.keep hb)
  have HSx310 := Lib.hid (HSx39.out.keep hb)
  have HSx410 := Lib.hid (HSx49.out.keep hb)
  have HSx510 := Lib.hid (HSx59.out.keep hb)
  clear HV9 HSx19 HSx29 HSx39 HSx49 HSx59
  have HQ10 := Lib.hid hrow
  clear hrow hb
  have hn := natIn_new (w9.alloc (.cells #[.slice px1 nx1 cx1, .slice px2 nx2 cx2, .slice px3 nx3 cx3, .slice px4 nx4 cx4, .slice px5 nx5 cx5] 23)) (cs := #[.int .u32 1]) (L := [1]) (n := 1) (by simp [limbV]) (lim_cons (by omega) lim_nil) rfl (by omega)
  have hb := below_new (w9.alloc (.cells #[.slice px1 nx1 cx1, .slice px2 nx2 cx2, .slice px3 nx3 cx3, .slice px4 nx4 cx4, .slice px5 nx5 cx5] 23)) (.cells #[.int .u32 1] 35)
  rw [World.size_alloc] at hn
  have HW11 := Lib.hid (HW10.out.trans (hb.mono HW10.out.size))
  have HNA11 := Lib.hid (HNA10.out.keep hb)
  have HNB11 := Lib.hid (HNB10.out.keep hb)
  have HNR11 := Lib.hid (HNR10.out.keep hb)
  have HNg11 := Lib.hid (HNg10.out.keep hb)
  have HNn11 := Lib.hid (HNn10.out.keep hb)
  clear HW10 HNA10 HNB10 HNR10 HNg10 HNn10
  have HV11 := Lib.hid (HV10.out.trans (hb.mono HV10.out.size))
  have HSx111 := Lib.hid (HSx110.out.keep hb)
  have HSx211 := Lib.hid (HSx210.out.keep hb)
  have HSx311 := Lib.hid (HSx310.out.keep hb)
  have HSx411 := Lib.hid (HSx410.out.keep hb)
  have HSx511 := Lib.hid (HSx510.out.keep hb)
  have HQ11 := Lib.hid (row_keep HQ10.out hb)
  clear HQ10
  clear HV10 HSx110 HSx210 HSx310 HSx410 HSx510
  have HNJ11 := Lib.hid hn
  clear hb hn
  have hsJ := hsI
  refine (divide_ok (some ⟨g3, 0, none⟩) mA c3 A _ 1 1 [1] _ HNg11.out HNJ11.out HLA.out rfl (by first | omega | (rw [HLA.out]; omega)) (by simp)).mono ?_
  rintro e w12 ⟨pq, cq, pr, cr, rfl, hb, hq, hr⟩
  replace hq := (hq.mono HV11.out.size).scrap
  replace hr := (hr.mono HV11.out.size).scrap
  obtain ⟨nq, hnq⟩ : ∃ n, n = (limbs (val A / val [1])).length := ⟨_, rfl⟩
  rw [← hnq] at hq ⊢
  clear hnq
  obtain ⟨nr, hnr⟩ : ∃ n, n = (limbs (rmd (val A) (val [1]))).length := ⟨_, rfl⟩
  rw [← hnr] at hr ⊢
  clear hnr
  have HW12 := Lib.hid (HW11.out.trans (hb.mono HW11.out.size))
  have HNA12 := Lib.hid (HNA11.out.keep hb)
  have HNB12 := Lib.hid (HNB11.out.keep hb)
  have HNR12 := Lib.hid (HNR11.out.keep hb)
  have HNg12 := Lib.hid (HNg11.out.keep hb)
  have HNn12 := Lib.hid (HNn11.out.keep hb)
  have HNJ12 := Lib.hid (HNJ11.out.keep hb)
  clear HW11 HNA11 HNB11 HNR11 HNg11 HNn11 HNJ11
  have HV12 := Lib.hid (HV11.out.trans (hb.mono HV11.out.size))
  have HSx112 := Lib.hid (HSx111.out.keep hb)
  have HSx212 := Lib.hid (HSx211.out.keep hb)
  have HSx312 := Lib.hid (HSx311.out.keep hb)
  have HSx412 := Lib.hid (HSx411.out.keep hb)
  have HSx512 := Lib.hid (HSx511.out.keep hb)
  have HQ12 := Lib.hid (row_keep HQ11.out hb)
  clear HQ11
  clear HV11 HSx111 HSx211 HSx311 HSx411 HSx511
  have HSq12 := Lib.hid hq
  have HSr12 := Lib.hid hr
  clear hb hq hr
  clear HNJ12
  go_wp2_with fail
  refine (sub_ok (some ⟨g3, 0, none⟩) mA c3 A none 0 0 [] _ HNg12.out HNn12.out HLA.out rfl (by first | omega | (rw [HLA.out]; omega)) (by simp)).mono ?_
  rintro e w13 ⟨ps, cs, rfl, hb, hs⟩
  replace hs := (hs.mono HV12.out.size).scrap
  obtain ⟨ns, hns⟩ : ∃ n, n = (limbs (val A - val [])).length := ⟨_, rfl⟩
  rw [← hns] at hs ⊢
  clear hns
  have HW13 := Lib.hid (HW12.out.trans (hb.mono HW12.out.size))
  have HNA13 := Lib.hid (HNA12.out.keep hb)
  have HNB13 := Lib.hid (HNB12.out.keep hb)
  have HNR13 := Lib.hid (HNR12.out.keep hb)
  have HNg13 := Lib.hid (HNg12.out.keep hb)
  have HNn13 := Lib.hid (HNn12.out.keep hb)
  clear HW12 HNA12 HNB12 HNR12 HNg12 HNn12
  have HV13 := Lib.hid (HV12.out.trans (hb.mono HV12.out.size))
  have HSx113 := Lib.hid (HSx112.out.keep hb)
  have HSx213 := Lib.hid (HSx212.out.keep hb)
  have HSx313 := Lib.hid (HSx312.out.keep hb)
  have HSx413 := Lib.hid (HSx412.out.keep hb)
  have HSx513 := Lib.hid (HSx512.out.keep hb)
  have HSq13 := Lib.hid (HSq12.out.keep hb)
  have HSr13 := Lib.hid (HSr12.out.keep hb)
  have HQ13 := Lib.hid (row_keep HQ12.out hb)
  clear HQ12
  clear HV12 HSx112 HSx212 HSx312 HSx412 HSx512 HSq12 HSr12
  have HSs13 := Lib.hid hs
  clear hb hs
  obtain ⟨j0, hj, hj0, hj1, hj2⟩ := info_parts infoNat
  have hrow3 := row_keep HQ13.out (below_new w13 (.cells #[.slice pq nq cq, .slice pr nr cr, .slice ps ns cs] 23))
  have hbase3 : W.heap.size ≤ (w13.alloc (.cells #[.slice pq nq cq, .slice pr nr cr, .slice ps ns cs] 23)).heap.size := by have := HV13.out.size; simp only [World.size_alloc]; omega
  have hnews3 := World.news_of_block (heap_alloc_new w13 (.cells #[.slice pq nq cq, .slice pr nr cr, .slice ps ns cs] 23)) 
  go_wp2_with (at_builtin; refine wpList_append_lies _ rfl _ _ 53 rfl W.heap.size 23 j0 (.slice none 0 0) 1 24 Tryd.underlying53 hj hj0 hj1 hj2 rfl (by omega) _ 5 _ rfl hrow3 _ 3 3 [.slice pq nq cq, .slice pr nr cr, .slice ps ns cs] rfl rfl hnews3 (by simp [Value.oneCell']) (by omega) (by unfold maxLen; omega) (by omega) hbase3 _ rfl ?_)
  intro g8 c8 wr hown8 hgr8 hat8 hlt8
  have hbg : Below W.heap.size (w13.alloc (.cells #[.slice pq nq cq, .slice pr nr cr, .slice ps ns cs] 23)) wr := (Below.refl _ _).grown hgr8 hbase3 (fun k hk => (hrow3.lt k hk).1)
  have hbW : Below W.heap.size W wr := (HV13.out.trans ((below_new w13 _).mono HV13.out.size)).trans hbg
  obtain ⟨V, hAp⟩ : ∃ V, Ap W.heap.size g8 W wr V := by
    refine ⟨_, ap_start hown8 hbW ?_⟩
    intro v hv
    have hsc : Scrap W.heap.size (w13.alloc (.cells #[.slice pq nq cq, .slice pr nr cr, .slice ps ns cs] 23)) v := by
      simp only [List.mem_cons, List.not_mem_nil, or_false] at hv
      rcases hv with rfl | rfl | rfl | rfl | rfl | rfl | rfl | rfl
      · exact HSx113.out.keep (below_new _ _)
      · exact HSx213.out.keep (below_new _ _)
      · exact HSx313.out.keep (below_new _ _)
      · exact HSx413.out.keep (below_new _ _)
      · exact HSx513.out.keep (below_new _ _)
      · exact HSq13.out.keep (below_new _ _)
      · exact HSr13.out.keep (below_new _ _)
      · exact HSs13.out.keep (below_new _ _)
    exact hsc.grown hgr8 (row_type hrow3)
  have HAp := Lib.hid hAp
  clear hj hj0 hj1 hj2 hrow3 hnews3 hbase3 hown8 hgr8 hat8 hlt8 hbg hbW hAp HSx113 HSx213 HSx313 HSx413 HSx513 HSq13 HSr13 HSs13 HQ13 HV13 HW13 HNA13 HNB13 HNR13 HNg13 HNn13
  go_wp2_with fail
  go_loopg [64] 9 (fun gk iv wr => ∃ i : Nat, i ≤ 8 ∧ iv = .int .i64 i ∧ Ap W.heap.size g8 W wr V ∧ 8 - i < gk)
  case atStart => exact ⟨0, by omega, rfl, HAp.out, by omega⟩
  case round =>
    clear HAp
    obtain ⟨i, hi, rfl, hap, hgk⟩ := hrel
    have HAp := Lib.hid hap
    have HGK := Lib.hid hgk
    clear hap hgk
    by_cases hi8 : i < 8
    · have hcell := HAp.out.cell i hi8
      obtain ⟨p, n, c, hv, hsc⟩ := HAp.out.scr i hi8
      have hnb : n ≤ 9223372036854775807 := by rcases hsc with rfl | ⟨b, L, rfl, hB, hO, hL, hc⟩ <;> omega
      rw [hv] at hcell
      have HVi := Lib.hid hv
      clear hv hsc
      go_wp2_with fail
      go_loopg [70] (n + 1) (fun gk2 iv wq => ∃ k : Nat, k ≤ n ∧ iv = .int .i64 k ∧ Ap W.heap.size g8 W wq V ∧ n - k < gk2)
      case atStart => exact ⟨0, by omega, rfl, HAp.out, by omega⟩
      case round =>
        clear HAp hcell
        obtain ⟨k, hk, rfl, hap, hgk⟩ := hrel
        have HAp := Lib.hid hap
        have HGK2 := Lib.hid hgk
        clear hap hgk
        by_cases hkn : k < n
        · obtain ⟨p', n', c', hv', hsc⟩ := HAp.out.scr i hi8
          rw [HVi.out] at hv'
          simp only [Value.slice.injEq] at hv'
          obtain ⟨rfl, rfl, rfl⟩ := hv'
          rcases hsc with h0 | ⟨b, L, rfl, hB, hO, hL, hc⟩
          · omega
          · have hoc := hO.cell (i := k) (by omega)
            have hof := hO.frozen k
            have hst := HAp.out.store hB hO k
            have HST := Lib.hid hst
            clear hst hO
            go_wp2_with fail
            go_roundg (n - k)
            case measure => exact HGK2.out
            case rel => exact ⟨k + 1, by omega, by go_num, HST.out, by omega⟩
        · obtain rfl : n = k := by omega
          go_wp2_with fail
          go_roundg (8 - i)
          case measure => exact HGK.out
          case rel => exact ⟨i + 1, by omega, by go_num, HAp.out, by omega⟩
    · obtain rfl : i = 8 := by omega
      have HW20 := Lib.hid (HWW.out.trans (HAp.out.bel.mono hWs))
      have HNA20 := Lib.hid (HZA.out.below HAp.out.bel (fun h => (HZA.out.ptr h).2))
      have HNB20 := Lib.hid (HZB.out.below HAp.out.bel (fun h => (HZB.out.ptr h).2))
      have HNR20 := Lib.hid (HZR.out.below HAp.out.bel (fun h => (HZR.out.ptr h).2))
      have hrow := row_lit (B := wr.heap.size) wr (cs := #[]) (L := []) rfl lim_nil (n := 0) rfl (by omega) (Nat.le_refl _)
      have hAn := HNA20.out.keep (below_new wr (.cells #[] 35))
      clear HAp HGK
      go_wp2_with (at_builtin; refine wpList_apw _ rfl _ _ rfl rfl hrow rfl hAn HLA.out (by omega) (by omega) (by simp) ?_)
      intro g5 c5 w20 hR5 hb
      try simp only [Nat.zero_add, List.nil_append] at hR5
      replace hb := (below_new wr (.cells #[] 35)).trans hb
      have h56 := natIn_new w20 (cs := #[.int .u32 5, .int .u32 6]) (L := [5, 6]) (n := 2) (by simp [limbV]) (lim_cons (by omega) (lim_cons (by omega) lim_nil)) rfl (by omega)
      have hR6 := hR5.kept (below_new w20 (.cells #[.int .u32 5, .int .u32 6] 35))
      have hb6 : wr.heap.size ≤ (w20.alloc (.cells #[.int .u32 5, .int .u32 6] 35)).heap.size := by have := hb.size; simp only [World.size_alloc]; omega
      have HBa := Lib.hid hb
      clear hrow hAn hb hR5
      go_wp2_with (at_builtin; refine wpList_apw _ rfl _ _ rfl rfl hR6 rfl h56 rfl (by omega) (by omega) hb6 ?_)
      intro g6 c6 w21 hR7 hb2
      have hb : Below wr.heap.size wr w21 := HBa.out.trans (((below_new w20 (.cells #[.int .u32 5, .int .u32 6] 35)).mono HBa.out.size).trans hb2)
      have hRl := hR7.len
      obtain ⟨gg, cc, he, hN, _⟩ := hR7.natIn
      simp only [Value.slice.injEq, Option.some.injEq, Addr.mk.injEq, and_true, true_and] at he
      obtain ⟨rfl, rfl⟩ := he
      have HW21 := Lib.hid (HW20.out.trans (hb.mono HW20.out.size))
      have HNA21 := Lib.hid (HNA20.out.keep hb)
      have HNB21 := Lib.hid (HNB20.out.keep hb)
      have HNR21 := Lib.hid (HNR20.out.keep hb)
      clear HW20 HNA20 HNB20 HNR20
      have HNQ21 := Lib.hid hN
      have HQl := Lib.hid hRl
      clear hb hb2 hRl hN hR7 hR6 h56 hb6 HBa
      go_wp2_with fail
      refine (same_ok (some ⟨g3, 0, none⟩) (mA + 2) c3 (A ++ [5, 6]) (some ⟨g6, 0, none⟩) (mA + 2) c6 (A ++ [5, 6]) _ HNR21.out HNQ21.out HRl.out HQl.out).mono ?_
      rintro e w22 ⟨rfl, hb⟩
      rw [eqL_true rfl]
      have HW22 := Lib.hid (HW21.out.trans (hb.mono HW21.out.size))
      have HNA22 := Lib.hid (HNA21.out.keep hb)
      have HNB22 := Lib.hid (HNB21.out.keep hb)
      have HNR22 := Lib.hid (HNR21.out.keep hb)
      have HNQ22 := Lib.hid (HNQ21.out.keep hb)
      clear HW21 HNA21 HNB21 HNR21 HNQ21
      clear hb
      go_wp2_with fail
      clear HNR22
      clear HNQ22
      refine (add_ok pA mA cA A pB mB cB B _ HNA22.out HNB22.out HLA.out HLB.out (by first | omega | (rw [HLA.out]; omega)) (by first | omega | (rw [HLB.out]; omega))).mono ?_
      rintro e w23 hR
      obtain ⟨y1, py1, cy1, hy1, rfl, hb, hn, hsy1⟩ := hR.word (k := 13) (len_add hsA hsB (by omega) (by omega))
      have HW23 := Lib.hid (HW22.out.trans (hb.mono HW22.out.size))
      have HNA23 := Lib.hid (HNA22.out.keep hb)
      have HNB23 := Lib.hid (HNB22.out.keep hb)
      clear HW22 HNA22 HNB22
      have HNy123 := Lib.hid hn
      have Hy1 := Lib.hid hy1
      clear hb hn hy1
      go_wp2_with fail
      refine (radd_ok pA mA cA A pB mB cB B _ HNA23.out HNB23.out HLA.out HLB.out (by first | omega | (rw [HLA.out]; omega)) (by first | omega | (rw [HLB.out]; omega))).mono ?_
      rintro e w24 hR
      obtain ⟨y2, py2, cy2, hy2, rfl, hb, hn, hsy2⟩ := hR.word (k := 13) (len_add hsA hsB (by omega) (by omega))
      have HW24 := Lib.hid (HW23.out.trans (hb.mono HW23.out.size))
      have HNA24 := Lib.hid (HNA23.out.keep hb)
      have HNB24 := Lib.hid (HNB23.out.keep hb)
      have HNy124 := Lib.hid (HNy123.out.keep hb)
      clear HW23 HNA23 HNB23 HNy123
      have HNy224 := Lib.hid hn
      have Hy2 := Lib.hid hy2
      clear hb hn hy2
      go_wp2_with fail
      refine (same_ok py1 _ cy1 (limbs y1) py2 _ cy2 (limbs y2) _ HNy124.out HNy224.out rfl rfl).mono ?_
      rintro e w25 ⟨rfl, hb⟩
      rw [eq_limbs (show y1 = y2 from by rw [Hy1.out, Hy2.out])]
      have HW25 := Lib.hid (HW24.out.trans (hb.mono HW24.out.size))
      have HNA25 := Lib.hid (HNA24.out.keep hb)
      have HNB25 := Lib.hid (HNB24.out.keep hb)
      have HNy125 := Lib.hid (HNy124.out.keep hb)
      have HNy225 := Lib.hid (HNy224.out.keep hb)
      clear HW24 HNA24 HNB24 HNy124 HNy224
      clear hb
      go_wp2_with fail
      refine (awake_ok _ (Tab.keep HT.out HW25.out hg) (Nat.lt_of_lt_of_le hg HW25.out.size)).mono ?_
      rintro e w26 ⟨rfl, hb⟩
      have HW26 := Lib.hid (HW25.out.trans (hb.mono HW25.out.size))
      have HNA26 := Lib.hid (HNA25.out.keep hb)
      have HNB26 := Lib.hid (HNB25.out.keep hb)
      have HNy126 := Lib.hid (HNy125.out.keep hb)
      have HNy226 := Lib.hid (HNy225.out.keep hb)
      clear HW25 HNA25 HNB25 HNy125 HNy225
      clear hb
      go_wp2_with fail
      go_ret
      exact ⟨rfl, HW26.out⟩
end Go.Proofs.YtfdjlkffhikaeaaDoor
