/- natural.up: zero bits behind a number. -/
import Derived.Test.YtfdjlkffhikaeaaDoorApp
import Derived.Test.YtfdjlkffhikaeaaDoorWord
import Derived.Test.YtfdjlkffhikaeaaDoorShift
import Derived.Test.YtfdjlkffhikaeaaDoorLow
import Derived.Deep.RegionHeld3
import Derived.Deep.OwnRows
import Derived.Outline
namespace Go.Proofs.YtfdjlkffhikaeaaDoor
open Go.RowKit Nt

theorem madeCells_limbs (n : Nat) : madeCells #[Value.int .u32 0] n = ((List.replicate n 0).map limbV).toArray := by
  apply Array.toList_inj.1
  rw [toList_madeCells_one, List.map_replicate]
  rfl
theorem own_made (w : World) (n : Nat) : Own (w.alloc (.cells (madeCells #[Value.int .u32 0] n) 35)) w.heap.size (List.replicate n 0) := own_new w (madeCells_limbs n)

/-- append onto a full row of limbs: a new block. -/
theorem run_apf (w : World) {g : Nat} {L : List Nat} {n : Nat} (h : Own w g L) (hL : Lim L) (hn : L.length = n) {p : Option Addr} {m c : Nat} {l : List Nat} (hl : NatIn w p c l) (hm : l.length = m) (h0 : 0 < m) (s1 : n ≤ 1000000000) (s2 : m ≤ 1000000000) (ty : TypeId) :
    ∃ cg w', Sem.run Tryd.prog (Builtin.append_ #[23, 23] ty #[.slice (some ⟨g, 0, none⟩) n n, .slice p m c]) w = .ok (.slice (some ⟨w.heap.size, 0, none⟩) (n + m) cg) w' ∧ Mine w.heap.size w' (some ⟨w.heap.size, 0, none⟩) cg (L ++ l) ∧ Below w.heap.size w w' := by
  obtain ⟨i0, hi, hz0, hz1, hz2⟩ := info_parts info32
  subst hm hn
  obtain ⟨hp, hlt⟩ := hl.ptr h0
  have hr := run_append_grow (P := Tryd.prog) w 23 ty 35 i0 (.int .u32 0) Tryd.underlying23 hi hz0 ⟨g, 0, none⟩ L.length L.length (L.map limbV) (by simp [hz1])
    (fun j v hj => by
      simp only [List.getElem?_map, Option.map_eq_some_iff] at hj
      obtain ⟨x, hx, rfl⟩ := hj
      obtain ⟨hjl, hx⟩ := List.getElem?_eq_some_iff.1 hx
      rw [Addr.add_lit, Nat.zero_add, h.cell hjl, lm_eq hjl, hx]; rfl)
    ⟨blk p, ofs p, none⟩ l.length c (l.map limbV) (by simp [hz1])
    (fun j v hj => by
      simp only [List.getElem?_map, Option.map_eq_some_iff] at hj
      obtain ⟨x, hx, rfl⟩ := hj
      obtain ⟨hjl, hx⟩ := List.getElem?_eq_some_iff.1 hx
      rw [Addr.add_lit, hl.cell j hjl, lm_eq hjl, hx]; rfl) (by omega) (by omega) (by
        have := growslice_fits (need := L.length + l.length) (old := L.length) (bytes := i0.bytes) (by omega) (by rw [hz2]; omega)
        omega)
  have hge := grownCap_ge w (L.length + l.length) L.length 35
  have hle := grownCap_le_maxLen w (L.length + l.length) L.length 35 (by unfold maxLen; omega)
  rw [← hp] at hr
  have hlen : (L ++ l).length = L.length + l.length := List.length_append
  refine ⟨_, _, hr, ⟨lim_append hL hl.lim, by rw [hlen]; exact hge, hle, .inr ⟨w.heap.size, List.replicate (grownCap w (L.length + l.length) L.length 35 - (L.length + l.length)) 0, rfl, Nat.le_refl _, ?_, lim_zeros _, ?_⟩⟩, ⟨rfl, rfl, rfl, by simp, fun k hk => Below.heap_alloc w.drew _ _ (by simpa using hk)⟩⟩
  · refine own_new w.drew ?_
    apply Array.toList_inj.1
    simp [zeroCells_eq]
  · rw [List.length_replicate, hlen]; omega

/-- .. as one step of a region that draws. -/
theorem step_apf {ops : Array Oper} {o : Oper} {a : Act} {w : World} {K : Act → World → Prop} {Q : Exit → Act → World → Prop} {E : Prop} (hg : o.guard = none) (s x : Operand)
    (hop : o.op = .call { callee := .builtin .append, args := #[s, x], argTypes := #[23, 23] }) {g n : Nat} {L : List Nat} (hs : a.eval s = .slice (some ⟨g, 0, none⟩) n n) (h : Own w g L) (hL : Lim L) (hn : L.length = n) {p : Option Addr} {m c : Nat} (hx : a.eval x = .slice p m c) {l : List Nat} (hl : NatIn w p c l) (hm : l.length = m) (h0 : 0 < m) (s1 : n ≤ 1000000000) (s2 : m ≤ 1000000000)
    (hK : ∀ p' cg w', Mine w.heap.size w' p' cg (L ++ l) → Below w.heap.size w w' → K (a.put o.dst (.slice p' (n + m) cg)) w') :
    if Region.wanted o (yielded ops a.tmps) = true then Oper.wp Tryd.prog o a w K Q else E := by
  have hw : Region.wanted o (yielded ops a.tmps) = true := by simp [Region.wanted, hg]
  rw [if_pos hw]
  obtain ⟨cg, w', hr, h2, h3⟩ := run_apf w h hL hn hl hm h0 s1 s2 o.type
  unfold Oper.wp execOp
  simp only [hop, resolve, invoke, builtin, Sem.run_bind, Sem.run_pure, Result.andThen_ok, List.map_toArray, List.map_cons, List.map_nil, hs, hx, hr]
  exact hK _ cg w' h2 h3

theorem shift_any (p : Option Addr) (n cp : Nat) (l : List Nat) (s : Nat) (w : World) (h : NatIn w p cp l) (hn : l.length = n) (hs : s < 32) (sz : n ≤ 1000000000) :
    Calls Tryd.prog 47 #[.slice p n cp, .int .i64 (s : Int)] w fun e w' =>
      ∃ g L, e = .returned (.slice (some ⟨g, 0, none⟩) (n + 1) (n + 1)) ∧ L.length = n + 1 ∧ val L = val l * 2 ^ s ∧ Lim L ∧ Own w' g L ∧ Below w.heap.size w w' ∧ w.heap.size < w'.heap.size :=
  (shift_ok p n cp l s w h hn hs sz).mono fun _ _ ⟨L, h1, h2, h3, h4, h5, h6⟩ => ⟨_, L, h1, h2, h3, h4, h5, h6, h5.lt⟩
theorem below_drew1 (B : Nat) (w : World) : Below B w w.drew := (Below.refl _ _).drew

set_option maxRecDepth 100000 in
set_option maxHeartbeats 1000000 in
theorem up_ok (p : Option Addr) (n c : Nat) (l : List Nat) (b : Nat) (w : World) (h : NatIn w p c l) (hn : l.length = n) (hs : n ≤ 100000000) (hb : b ≤ 1000000000) :
    Calls Tryd.prog 65 #[.slice p n c, .int .i64 (b : Int)] w (RetNat (val l * 2 ^ b) w) := by
  obtain ⟨q, hq⟩ : ∃ q, q = b / 32 := ⟨_, rfl⟩
  obtain ⟨s, hss⟩ : ∃ s, s = b % 32 := ⟨_, rfl⟩
  have hqi : (b : Int) / 32 = (q : Int) := by omega
  have hsi : (b : Int) % 32 = (s : Int) := by omega
  have hqd : (b : Int).tdiv 32 = (q : Int) := by rw [Int.tdiv_eq_ediv_of_nonneg (by omega)]; exact hqi
  have hsd : (b : Int).tmod 32 = (s : Int) := by rw [Int.tmod_eq_emod_of_nonneg (by omega)]; exact hsi
  have hqn : q ≤ 100000000 := by omega
  have hs32 : s < 32 := by omega
  have HV : Hid (val l * 2 ^ b = bp q * (val l * 2 ^ s)) := by
    show _ = _
    rw [bp_two_pow, show b = s + 32 * q by omega, Nat.pow_add]; grind
  have H := Lib.hid h
  have hwq : IntKind.i64.wrap (q : Int) = (q : Int) := IntWalk.i64_in _ (by omega)
  have hmk := run_make_row' (P := Tryd.prog) 23 35 (.int .u32 0) 4 Tryd.underlying23 info32 rfl .i64 .i64 q (by omega) (by omega)
  clear hq hss h
  go_enter Tryd.func65, Tryd.ntmps65
  go_wp2_with fail
  go_region_held3 (fun _ => True) (trivial) ((first
    | (go_at_call_of 47 (Value.slice p n c); refine (shift_any p n c l s _ (NatIn.drew H.out) hn hs32 (by omega)).mono ?_; rintro e wx ⟨g1, L, rfl, h1, h2, h3, h4, h5, h6⟩)
    | (go_at_call_of 47 (Value.slice p n c); refine (shift_any p n c l s _ (NatIn.drew (NatIn.keep H.out (below_new _ _))) hn hs32 (by omega)).mono ?_; rintro e wx ⟨g1, L, rfl, h1, h2, h3, h4, h5, h6⟩)
    | (refine step_apf (by rfl) _ _ (by rfl) (by rfl) (((own_made w q).drewN 1).below h5 (by simp)) (lim_zeros q) (by simp) (by rfl) (Own.whole h4 h3 h1 (by omega)) h1 (by omega) (by omega) (by omega) ?_; intro pg cg w2 hR hbl)
    | (refine step_apf (by rfl) _ _ (by rfl) (by rfl) (own_made wx q) (lim_zeros q) (by simp) (by rfl) ((Own.whole h4 h3 h1 (by omega)).keep (below_new _ _)) h1 (by omega) (by omega) (by omega) ?_; intro pg cg w2 hR hbl)
    | (go_at_call 44; refine (low_ok _ _ _ _ _ hR.natIn (by rw [List.length_append, List.length_replicate, h1])).mono ?_; rintro e w' ⟨Y, hY, rfl, hYn, rfl⟩)))
  all_goals
    have hval : val (List.replicate q 0 ++ L) = val l * 2 ^ b := by
      rw [val_append, val_zeros, List.length_replicate, h2, HV.out]; exact Nat.zero_add _
    have HVal := Lib.hid hval
    have HR := Lib.hid hR
    have HBL := Lib.hid hbl
    have HY := Lib.hid hY
    have H5 := Lib.hid h5
    have hs6 := h6
    clear hval hR hbl h5 h2
    go_wp2_with fail
    go_ret
    simp only [World.size_drew, World.size_alloc] at hs6
  · refine ret_mine HY.out (HR.out.mono (by omega)) HVal.out ?_
    exact ((below_new w _).drew.trans (H5.out.mono (by simp))).trans (HBL.out.mono (by omega))
  · refine ret_mine HY.out (HR.out.mono (by simp; omega)) HVal.out ?_
    exact ((Below.refl _ _).drew.trans (H5.out.mono (by simp))).trans (((below_new wx _).mono (by omega)).trans (HBL.out.mono (by simp; omega)))
end Go.Proofs.YtfdjlkffhikaeaaDoor
