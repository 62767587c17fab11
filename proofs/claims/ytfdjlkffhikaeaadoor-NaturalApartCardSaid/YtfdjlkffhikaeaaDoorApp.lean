/- append onto the call's own row: words and zeros. -/
import Derived.Test.YtfdjlkffhikaeaaDoorBase
namespace Go.Proofs.YtfdjlkffhikaeaaDoor
open Go.RowKit Nt

/-- The call's own row of limbs: the limbs L, with room behind them. -/
def RowOf (B : Nat) (w : World) (v : Value) (n : Nat) (L : List Nat) : Prop := w.ownsRow B 35 1 v n (L.map limbV) ∧ Lim L ∧ ∃ g c, v = .slice (some ⟨g, 0, none⟩) n c

theorem RowOf.len {B : Nat} {w : World} {v : Value} {n : Nat} {L : List Nat} (h : RowOf B w v n L) : L.length = n := by
  have := h.1.1
  simpa using this
theorem RowOf.natIn {B : Nat} {w : World} {v : Value} {n : Nat} {L : List Nat} (h : RowOf B w v n L) : ∃ g c, v = .slice (some ⟨g, 0, none⟩) n c ∧ NatIn w (some ⟨g, 0, none⟩) c L ∧ B ≤ g := by
  have hlen := h.len
  obtain ⟨ho, hl, g, c, rfl⟩ := h
  refine ⟨g, c, rfl, ⟨hl, ?_, ?_, ?_, ?_⟩, (ho.lt g rfl).1⟩
  · rcases ho.2 with ⟨h', _⟩ | ⟨g', c', cur, h', _, _, hnc, _⟩
    · simp at h'
    · simp only [Value.slice.injEq] at h'
      omega
  · rcases ho.2 with ⟨h', _⟩ | ⟨g', c', cur, h', _, _, _, hcm, _⟩
    · simp at h'
    · simp only [Value.slice.injEq] at h'
      unfold maxLen at hcm
      omega
  · intro _
    refine ⟨by unfold blk ofs; rfl, ?_⟩
    rw [show blk (some ⟨g, 0, none⟩) = g from by unfold blk; rfl]
    exact (ho.lt g rfl).2
  · intro i hi
    rw [show blk (some ⟨g, 0, none⟩) = g from by unfold blk; rfl, show ofs (some ⟨g, 0, none⟩) = 0 from by unfold ofs; rfl, Nat.zero_add, ho.cellAt i (by omega)]
    rw [List.getElem?_map, List.getElem?_eq_getElem hi, lm_eq hi]
    rfl
theorem RowOf.kept {B : Nat} {w w' : World} {v : Value} {n : Nat} {L : List Nat} (h : RowOf B w v n L) (hb : Below w.heap.size w w') : RowOf B w' v n L := by
  refine ⟨?_, h.2.1, h.2.2⟩
  refine ⟨h.1.1, ?_⟩
  rcases h.1.2 with hn | ⟨g, cap, cur, rfl, hbb, hgg, rest⟩
  · exact .inl hn
  · exact .inr ⟨g, cap, cur, rfl, hbb, by rw [hb.block g (Array.getElem?_eq_some_iff.1 hgg).1]; exact hgg, rest⟩
theorem row_lit {B : Nat} (w : World) {cs : Array Value} {L : List Nat} (h : cs = (L.map limbV).toArray) (hl : Lim L) {n : Nat} (hn : L.length = n) (hn2 : n ≤ 1000) (hB : B ≤ w.heap.size) :
    RowOf B (w.alloc (.cells cs 35)) (.slice (some ⟨w.heap.size, 0, none⟩) n n) n L := by
  refine ⟨?_, hl, _, _, rfl⟩
  have := World.ownsRow_lit (e := 35) (size := 1) w cs n hB (by unfold maxLen; omega) (by rw [h]; simp; omega)
  rw [h] at this ⊢
  exact this

theorem grown_below {B : Nat} {w w' : World} {v : Value} {n : Nat} {L : List Nat} (h : RowOf B w v n L) (hB : B ≤ w.heap.size) (hg : w.grownBy w' v.ownBlock) : Below B w w' :=
  (Below.refl B w).grown hg hB (fun k hk => (h.1.lt k hk).1)

theorem run_apw {B : Nat} (w : World) {v : Value} {n : Nat} {L : List Nat} (h : RowOf B w v n L) {p : Option Addr} {m c : Nat} {l : List Nat} (hl : NatIn w p c l) (hm : l.length = m) (s1 : n ≤ 1000000000) (s2 : m ≤ 1000000000) (hB : B ≤ w.heap.size) (ty : TypeId) :
    ∃ v' w', Sem.run Tryd.prog (Builtin.append_ #[23, 23] ty #[v, .slice p m c]) w = .ok v' w' ∧ RowOf B w' v' (n + m) (L ++ l) ∧ w.grownBy w' v.ownBlock := by
  obtain ⟨i0, hi, hz0, hz1, hz2⟩ := info_parts info32
  subst hm
  obtain ⟨ho, hL, g, cap, rfl⟩ := h
  by_cases h0 : l = []
  · subst h0
    refine ⟨_, w, ?_, ⟨by simpa using ho, by simpa using hL, g, cap, rfl⟩, ⟨rfl, rfl, rfl, Nat.le_refl _, fun _ _ _ => rfl⟩⟩
    rcases ho.2 with ⟨h', _⟩ | ⟨g', c', cur, h', _, _, hnc, _⟩
    · simp at h'
    · simp only [Value.slice.injEq] at h'
      obtain ⟨_, _, rfl⟩ := h'
      cases p with
      | none => simp [Builtin.append_, run_underlying Tryd.underlying23, sizeOf, typeInfo, hi, Builtin.lenOf, Builtin.firstCells, hnc, storeCells]
      | some a => simp [Builtin.append_, run_underlying Tryd.underlying23, sizeOf, typeInfo, hi, Builtin.lenOf, Builtin.firstCells, loadCells, loadCellsFrom, hnc, storeCells]
  · have hlp : 0 < l.length := List.length_pos_iff.2 h0
    obtain ⟨hp, hlt⟩ := hl.ptr hlp
    obtain ⟨v', w', hr, h2, h3, h4⟩ := run_append_own (P := Tryd.prog) w B 23 ty 35 i0 (.int .u32 0) 1 4 Tryd.underlying23 hi hz0 hz1 hz2 rfl (by omega) _ n _ ho ⟨blk p, ofs p, none⟩ l.length c (l.map limbV) (by simp)
      (fun j v hj => by
        simp only [List.getElem?_map, Option.map_eq_some_iff] at hj
        obtain ⟨x, hx, rfl⟩ := hj
        obtain ⟨hjl, hx⟩ := List.getElem?_eq_some_iff.1 hx
        rw [Addr.add_lit, hl.cell j hjl, lm_eq hjl, hx]; rfl)
      (fun u hu => by obtain ⟨x, _, rfl⟩ := List.mem_map.1 hu; rfl) (by unfold maxLen; omega) (by omega) hB
    rw [← hp] at hr
    refine ⟨v', w', hr, ⟨by rw [List.map_append]; exact h2, lim_append hL hl.lim, ?_⟩, h3⟩
    rcases h2.2 with ⟨h', _⟩ | ⟨g', c', cur, h', _⟩
    · have := (h4.1 h').1
      simp at this
    · exact ⟨g', c', h'⟩

theorem run_apz {B : Nat} (w : World) {v : Value} {n : Nat} {L : List Nat} (h : RowOf B w v n L) (r : Nat) (s1 : n ≤ 1000000000) (s2 : r ≤ 1000) (hB : B ≤ w.heap.size) (ty : TypeId) :
    ∃ v' w', Sem.run Tryd.prog (Builtin.append_ #[23, 3] ty #[v, .int .i64 (r : Int)]) w = .ok v' w' ∧ RowOf B w' v' (n + r) (L ++ List.replicate r 0) ∧ w.grownBy w' v.ownBlock := by
  obtain ⟨i0, hi, hz0, hz1, hz2⟩ := info_parts info32
  obtain ⟨ho, hL, g, cap, rfl⟩ := h
  have hw : IntKind.i64.wrap (r : Int) = (r : Int) := IntWalk.i64_in _ (by omega)
  have hr0 : ¬ ((r : Int) < 0) := by omega
  have hr1 : ¬ (281474976710656 < (r : Int) * (i0.bytes : Int)) := by rw [hz2]; omega
  have hlz : Lim (List.replicate r 0) := lim_zeros r
  have hlen : ((L ++ List.replicate r 0).map limbV).length = (n + r) * 1 := by
    have := ho.1
    simp at this ⊢
    omega
  rcases ho.2 with ⟨h', _⟩ | ⟨g', c', cur, h', hbg, hgg, hnc, hcm, hcs, htake⟩
  · simp at h'
  · simp only [Value.slice.injEq, Option.some.injEq, Addr.mk.injEq, and_true, true_and] at h'
    obtain ⟨rfl, rfl⟩ := h'
    by_cases hroom : n + r ≤ cap
    · by_cases hrz : r = 0
      · subst hrz
        refine ⟨_, w, ?_, ⟨by simpa using ho, by simpa using hL, g, cap, rfl⟩, ⟨rfl, rfl, rfl, Nat.le_refl _, fun _ _ _ => rfl⟩⟩
        have hnc' : n ≤ cap := hnc
        simp [Builtin.append_, run_underlying Tryd.underlying23, run_underlying Tryd.underlying3, sizeOf, typeInfo, hi, asInt, asIntOf, hnc', storeCells, show IntKind.i64.wrap 0 = 0 from rfl]
      · have hst := run_storeCells_at Tryd.prog g n 35 ((List.replicate r 0).map limbV) 0 cur w hgg (by simp; omega) (fun u hu => by obtain ⟨x, _, rfl⟩ := List.mem_map.1 hu; rfl)
        simp only [Nat.add_zero] at hst
        refine ⟨.slice (some ⟨g, 0, none⟩) (n + r) cap, w.setRow g (cur.toList.take n ++ (List.replicate r 0).map limbV ++ cur.toList.drop (n + ((List.replicate r 0).map limbV).length)).toArray, ?_, ⟨⟨hlen, .inr ⟨g, cap, _, rfl, hbg, setRow_heap w g cur _ 35 _ hgg, hroom, hcm, ?_, ?_⟩⟩, lim_append hL hlz, g, cap, rfl⟩,
          ⟨rfl, rfl, rfl, by simp, fun k _ hk => setRow_other w g k _ (fun e => hk (by simp [Value.ownBlock, e]))⟩⟩
        · rw [← zeroCells_eq] at hst
          simp [Builtin.append_, run_underlying Tryd.underlying23, run_underlying Tryd.underlying3, sizeOf, typeInfo, zeroValue, hi, hz0, hz1, asInt, asIntOf, hw, hr0, hr1, hroom, hrz, Addr.add_lit, hst]
          rw [zeroCells_eq]
          simp [size_zeroCells, Value.cells]
        · simp only [List.size_toArray, List.length_append, List.length_take, List.length_drop, Array.length_toList, List.length_map, List.length_replicate]
          omega
        · simp only [Nat.mul_one] at htake
          rw [htake, ← hlen, List.map_append]
          exact List.take_left
    · have hrz : r ≠ 0 := by omega
      have hfo := run_firstCells_some (P := Tryd.prog) w.drew i0.size n ⟨g, 0, none⟩ n cap (L.map limbV) (by rw [hz1]; exact ho.1) (by
        intro j u hu
        have := ho.cells (g := g) rfl j u hu
        simpa using this)
      rw [hz1] at hfo
      have hge := grownCap_ge w (n + r) cap 35
      have hcm2 := grownCap_le_maxLen w (n + r) cap 35 (by unfold maxLen; omega)
      have h63 : ¬ (9223372036854775807 < ((n : Int) + (r : Int))) := by omega
      have h48 : ¬ (281474976710656 < Builtin.nextslicecap (n + r) cap * i0.bytes) := by
        have := growslice_fits (need := n + r) (old := cap) (bytes := i0.bytes) (by omega) (by rw [hz2]; omega)
        omega
      refine ⟨.slice (some ⟨w.heap.size, 0, none⟩) (n + r) (grownCap w (n + r) cap 35), w.drew.alloc (.cells ((L.map limbV).toArray ++ Builtin.zeroCells (Value.int .u32 0).cells r ++ Builtin.zeroCells (Value.int .u32 0).cells (grownCap w (n + r) cap 35 - (n + r))) 35), ?_,
        ⟨⟨hlen, .inr ⟨w.heap.size, _, _, rfl, hB, heap_alloc_new w.drew _, hge, hcm2, ?_, ?_⟩⟩, lim_append hL hlz, _, _, rfl⟩, ⟨rfl, rfl, rfl, by simp, fun k hk _ => Below.heap_alloc w.drew _ k hk⟩⟩
      · simp [Builtin.append_, run_underlying Tryd.underlying23, run_underlying Tryd.underlying3, sizeOf, typeInfo, zeroValue, hi, hz0, hz1, asInt, asIntOf, hw, hr0, hr1, hroom, hrz, h63, h48, Question.forced, hfo, newRow, grownCap]
      · have := ho.1
        simp only [Array.size_append, List.size_toArray, size_zeroCells, Nat.mul_one, Value.cells] at this ⊢
        simp at this ⊢
        omega
      · simp only [Array.toList_append, List.append_assoc, zeroCells_eq]
        rw [← List.append_assoc, ← List.map_append, ← hlen]
        exact List.take_left

theorem wpList_apw {ops : Array Oper} {rest : List Oper} {o : Oper} {a : Act} {Q : Exit → Act → World → Prop} {B : Nat} (w : World) (hg : o.guard = none) (s x : Operand)
    (hop : o.op = .call { callee := .builtin .append, args := #[s, x], argTypes := #[23, 23] }) {v : Value} {n : Nat} {L : List Nat} (hs : a.eval s = v) (h : RowOf B w v n L) {p : Option Addr} {m c : Nat} (hx : a.eval x = .slice p m c) {l : List Nat} (hl : NatIn w p c l) (hm : l.length = m) (s1 : n ≤ 1000000000) (s2 : m ≤ 1000000000) (hB : B ≤ w.heap.size)
    (hK : ∀ g c w', RowOf B w' (.slice (some ⟨g, 0, none⟩) (n + m) c) (n + m) (L ++ l) → Below B w w' → wpList Tryd.prog ops Q rest (a.put o.dst (.slice (some ⟨g, 0, none⟩) (n + m) c)) w') :
    wpList Tryd.prog ops Q (o :: rest) a w := by
  refine wpList_plain hg fun K hK' => ?_
  obtain ⟨v', w', hr, h2, h3⟩ := run_apw w h hl hm s1 s2 hB o.type
  have hb := grown_below h hB h3
  obtain ⟨g, c', rfl⟩ := h2.2.2
  unfold Oper.wp execOp
  simp only [hop, resolve, invoke, builtin, Sem.run_bind, Sem.run_pure, Result.andThen_ok, List.map_toArray, List.map_cons, List.map_nil, hs, hx, hr]
  exact hK' _ _ (hK g c' w' h2 hb)

theorem wpList_apz {ops : Array Oper} {rest : List Oper} {o : Oper} {a : Act} {Q : Exit → Act → World → Prop} {B : Nat} (w : World) (hg : o.guard = none) (s x : Operand)
    (hop : o.op = .call { callee := .builtin .append, args := #[s, x], argTypes := #[23, 3] }) {v : Value} {n : Nat} {L : List Nat} (hs : a.eval s = v) (h : RowOf B w v n L) {z : Int} (r : Nat) (hx : a.eval x = .int .i64 z) (hz : z = (r : Int)) (s1 : n ≤ 1000000000) (s2 : r ≤ 1000) (hB : B ≤ w.heap.size)
    (hK : ∀ g c w', RowOf B w' (.slice (some ⟨g, 0, none⟩) (n + r) c) (n + r) (L ++ List.replicate r 0) → Below B w w' → wpList Tryd.prog ops Q rest (a.put o.dst (.slice (some ⟨g, 0, none⟩) (n + r) c)) w') :
    wpList Tryd.prog ops Q (o :: rest) a w := by
  refine wpList_plain hg fun K hK' => ?_
  obtain ⟨v', w', hr, h2, h3⟩ := run_apz w h r s1 s2 hB o.type
  have hb := grown_below h hB h3
  obtain ⟨g, c', rfl⟩ := h2.2.2
  subst hz
  unfold Oper.wp execOp
  simp only [hop, resolve, invoke, builtin, Sem.run_bind, Sem.run_pure, Result.andThen_ok, List.map_toArray, List.map_cons, List.map_nil, hs, hx, hr]
  exact hK' _ _ (hK g c' w' h2 hb)
end Go.Proofs.YtfdjlkffhikaeaaDoor
