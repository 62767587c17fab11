/- The rows' common part: from a row's condition to the walks' words and back. -/
import Derived.Test.YtgaicejcjkpekaaDoorAwake
import Derived.Test.YtgaicejcjkpekaaDoorCards
import Derived.Test.YtgaicejcjkpekaaDoorTie
import Derived.ProofKit
import Derived.OpenShut
import Derived.Carry
import Derived.Deep.DeepHandedRow
import Derived.Lib.LaidTab
namespace Go.Proofs.YtgaicejcjkpekaaDoor
open Go.RowKit Nt Go.ChangeShapes Go.WideShapes Go.ChangeAt

theorem own_knob : ownKnob Tryd.prog.godebug = none := by kernel_rfl
theorem laid_out : laidOutB Tryd.prog = true := by kernel_rfl
theorem pow_type : (Tryd.prog.globals[4]?).map (·.type) = some 119 := by kernel_rfl
theorem cells_tab : Tryd.prog.cellsOf 119 = 20 := by kernel_rfl
theorem cells_u64 : Tryd.prog.cellsOf 38 = 1 := by kernel_rfl
theorem cells_u32 : Tryd.prog.cellsOf 44 = 1 := by kernel_rfl

theorem tab_of_laid {W : World} {a b : String × DataW Unit} {rest : List (String × DataW Unit)}
    (h : laidMet Tryd.prog (a :: b :: ("internal/strconv.uint64pow10", Lib.tabData .u64 Lib.pow10Tab) :: rest) W) : Tab W ∧ 4 < W.heap.size := by
  obtain ⟨ps, hl, -, hh⟩ := h
  obtain ⟨_, _, _, _, _, q1, _, _, _, _, hl, e1⟩ := hl
  obtain ⟨_, _, _, _, _, q2, _, _, _, _, hl, e2⟩ := hl
  obtain ⟨g', t', cs, fuel, p, q, hg', ht', hvar, hd, _, e3⟩ := hl
  obtain rfl := Option.some.inj (glob_pow.symm.trans hg')
  obtain rfl := Option.some.inj (pow_type.symm.trans ht')
  have hc := Lib.cells_of_tab Tryd.underlying119 Tryd.underlying38 cells_u64 cells_tab hd
  have hcs : cs = (Lib.pow10Tab.map fun z => Value.int .u64 z).toArray := by rw [← hc]
  refine ⟨by unfold Tab Lib.TabIs; rw [hvar, hcs], ?_⟩
  have hm : MemPlace.cell 4 0 ∈ ps := by
    rw [e1, e2, e3]
    have : MemPlace.cell 4 0 ∈ MemPlace.row ⟨4, 0, none⟩ cs.size := by
      rw [hcs]
      simp [MemPlace.row, Lib.pow10Tab]
    simp [this]
  obtain ⟨⟨c, t, hw⟩, _⟩ := hh _ _ hm
  exact (Array.getElem?_eq_some_iff.1 hw).1

theorem add_none (b o i : Nat) : (⟨b, o, none⟩ : Addr).add i = ⟨b, o + i, none⟩ := by unfold Addr.add; split <;> simp_all
theorem spot0 {W : World} {a : Addr} {n : Nat} {f : Nat → Value} (h : ∀ i, i < n → W.cell? (a.add i) = some (f i)) (hn : 0 < n) : a = ⟨a.block, a.off, none⟩ := by
  have h1 := World.cell?_spot (h 0 hn)
  cases a
  simp_all [Addr.add]
theorem cell_lt {W : World} {a : Addr} {v : Value} (h : W.cell? (a.add 0) = some v) : a.block < W.heap.size := by
  unfold World.cell? at h
  have e : (a.add 0).block = a.block := by simp [Addr.add]
  rw [e] at h
  by_cases hb : a.block < W.heap.size
  · exact hb
  · rw [Array.getElem?_eq_none (by omega)] at h
    simp at h

section
variable {H : Type} {enc : TypeId × Value → H}
set_option maxRecDepth 100000 in
/-- A slice of limbs, opened. -/
theorem open_nat {W : World} {r : Reach} {base b0 : Nat} {v : Value} {d : DataW H} {ps : List MemPlace} (hv : Value.okWide Tryd.prog W r base 23 v) (h : DataW.Trod enc Tryd.prog W b0 (fun _ => true) true 23 v d ps) :
    ∃ p n c l, v = .slice p n c ∧ NatIn W p c l ∧ l.length = n := by
  obtain ⟨a, n, c, rfl⟩ := okWide_slice Tryd.underlying23 hv
  obtain ⟨fuel, hf⟩ := h
  rcases open_ints Tryd.underlying23 Tryd.underlying44 cells_u32 hf with ⟨hc, _⟩ | ⟨a', n', c', zs, hc, _, hle, hm, hz, _, hcell, hwf⟩
  · simp [Value.cells] at hc
    obtain ⟨rfl, rfl, rfl⟩ := hc
    exact ⟨none, 0, 0, [], rfl, ⟨fun x hx => (by cases hx), Nat.le_refl _, by omega, fun h => absurd h (by decide), fun i hi => absurd hi (by simp)⟩, rfl⟩
  · simp [Value.cells] at hc
    obtain ⟨rfl, rfl, rfl⟩ := hc
    simp only [if_true] at hz
    have hb : ∀ i, 0 ≤ zs.getD i 0 ∧ zs.getD i 0 ≤ 4294967295 := fun i => by
      have := range_u32 hwf i
      simpa [List.getD] using this
    refine ⟨some a', n, c, (zs.take n).map Int.toNat, rfl, ⟨?_, ?_, ?_, ?_, ?_⟩, ?_⟩
    · intro x hx
      obtain ⟨z, hz1, rfl⟩ := List.mem_map.1 hx
      obtain ⟨i, hi⟩ := List.getElem?_of_mem (List.mem_of_mem_take hz1)
      have := hb i
      rw [List.getD, hi] at this
      simp at this
      omega
    · simp; omega
    · unfold maxLen at hm; omega
    · intro hl
      have h0 : 0 < zs.length := by simp at hl; omega
      have h2 := spot0 hcell h0
      rw [show blk (some a') = a'.block from by unfold blk; rfl, show ofs (some a') = a'.off from by unfold ofs; rfl]
      exact ⟨congrArg some h2, cell_lt (hcell 0 h0)⟩
    · intro i hi
      have hi' : i < zs.length ∧ i < n := by simp at hi; omega
      have h2 := spot0 hcell (by omega)
      have h1 := hcell i hi'.1
      rw [h2, add_none] at h1
      rw [show blk (some a') = a'.block from by unfold blk; rfl, show ofs (some a') = a'.off from by unfold ofs; rfl]
      have h3 : ((lm ((zs.take n).map Int.toNat) i : Nat) : Int) = zs.getD i 0 := by
        rw [lm_eq hi, List.getElem_map, List.getElem_take]
        have := (hb i).1
        rw [List.getD, List.getElem?_eq_getElem hi'.1] at this ⊢
        simp at this ⊢
        omega
      rw [h3]
      exact h1
    · simp; omega

/-- The arguments read as before: below the old heap nothing has turned. -/
theorem trodAll_below {W W' : World} (hb : Below W.heap.size W W') : ∀ {ts : List TypeId} {vs : List Value} {ds : List (DataW H)} {ps : List MemPlace},
    (∀ t ∈ ts, Tryd.prog.readableRec t = true ∧ t < Tryd.prog.types.size) → DataW.TrodAll enc Tryd.prog W 0 (fun _ => true) true ts vs ds ps → (∀ x ∈ ps, x.block < W.heap.size) →
    DataW.TrodAll enc Tryd.prog W' 0 (fun b => decide (b < W.heap.size)) true ts vs ds ps
  | [], vs, ds, ps, _, h, _ => by
    obtain ⟨rfl, rfl, rfl⟩ := trodAll_nil h
    exact trodAll_mk0
  | t :: ts, vs, ds, ps, hr, h, hlt => by
    obtain ⟨v, vs1, d, ds1, a, b, rfl, rfl, rfl, h1, h2⟩ := trodAll_cons h
    have hrt := hr t (by simp)
    exact ⟨a, b, Below.trod laid_out hrt.1 hrt.2 h1 hb (fun x hx => hlt x (by simp [hx])), trodAll_below hb (fun t' ht' => hr t' (by simp [ht'])) h2 (fun x hx => hlt x (by simp [hx])), rfl⟩

/-- What a walk that ends in 'true' and below the old heap leaves gives the row. -/
theorem post_true {fn : Func} {s : ChangeSpec} {W W' : World} {args : Array Value} {ds gs : List (DataW H)} {before : List MemPlace}
    (hvs : s.vars = []) (hres : fn.resultTypes = #[4]) (hread : ∀ t ∈ fn.params.toList, Tryd.prog.readableRec t = true ∧ t < Tryd.prog.types.size)
    (hfn : s.fn H (ds ++ gs) = { results := [.lit (.bool true)], args := ds })
    (hW : DataW.Whole enc Tryd.prog fn.params.toList s.vars false W args.toList ds gs before) (hb : Below W.heap.size W W') :
    s.post enc Tryd.prog fn false true false false W args (.bool true) W' := by
  obtain ⟨p, q, hA, hV, he, hz, hn⟩ := id hW
  rw [hvs] at hV
  obtain ⟨rfl, rfl⟩ := trodVars_none hV
  have hpb : before = p := by rw [he, List.append_nil]
  refine ⟨ds, [], before, [], p, [], hW, ?_, ?_, ?_, Below.frame hb _, fun h => by cases h⟩
  · rw [hres, hfn]
    exact trodAll_cons_mk (shut_bool Tryd.underlying4 _) trodAll_mk0
  · rw [hfn]
    exact trodAll_below hb hread hA (fun x hx => hW.lt x (by rw [hpb]; exact hx))
  · rw [hvs, hfn]
    rfl
end

def tab32 : List Int := [0, 1, 28, 2, 29, 14, 24, 3, 30, 22, 20, 15, 25, 17, 4, 8, 31, 27, 13, 23, 21, 19, 16, 7, 26, 12, 18, 6, 11, 5, 10, 9]
def tab64 : List Int := [0, 1, 56, 2, 57, 49, 28, 3, 61, 58, 42, 50, 38, 29, 17, 4, 62, 47, 59, 36, 45, 43, 51, 22, 53, 39, 33, 30, 24, 18, 12, 5, 63, 55, 48, 27, 60, 41, 37, 16, 46, 35, 44, 21, 52, 32, 23, 11, 54, 26, 40, 15, 34, 20, 31, 10, 25, 14, 19, 9, 13, 8, 7, 6]

/-- A world for the witness: the settled one, with the three tables laid. -/
def layTab (k : IntKind) (zs : List Int) : Obj → Obj
  | .cells _ t frozen => .cells (zs.map fun z => Value.int k z).toArray t frozen
  | o => o
noncomputable def laidWorld (os : Os) : World :=
  { World.holding Tryd.prog os ⟨#[], #[], []⟩ with heap := (((World.holding Tryd.prog os ⟨#[], #[], []⟩).heap.modify 4 (layTab .u64 Lib.pow10Tab)).modify 6 (layTab .u8 tab32)).modify 7 (layTab .u8 tab64) }
end Go.Proofs.YtgaicejcjkpekaaDoor
