/- The words in which the walks of the layer natural are told: a slice that holds limbs, a block that a call owns; their small laws. -/
import Derived.Test.YtgaicejcjkpekaaDoorRows
import Derived.Test.YtgaicejcjkpekaaDoorMath
import Derived.WalkKit
import Derived.WalkSpells
import Derived.WalkLawsBesides
import Derived.BigQuiet
import Derived.Deep.QuietTactic
import Derived.Lib.Hide
namespace Go.Proofs.YtgaicejcjkpekaaDoor
open Go.RowKit Nt

def blk (p : Option Addr) : Nat := (p.getD ⟨0, 0, none⟩).block
def ofs (p : Option Addr) : Nat := (p.getD ⟨0, 0, none⟩).off

/-- In world w the slice that begins at p, with room for c, holds the limbs l. -/
structure NatIn (w : World) (p : Option Addr) (c : Nat) (l : List Nat) : Prop where
  lim : Lim l
  le : l.length ≤ c
  cap : c ≤ 9223372036854775807
  ptr : 0 < l.length → p = some ⟨blk p, ofs p, none⟩ ∧ blk p < w.heap.size
  cell : ∀ i, i < l.length → w.cell? ⟨blk p, ofs p + i, none⟩ = some (.int .u32 ((lm l i : Nat) : Int))

theorem NatIn.below {w w' : World} {p : Option Addr} {c : Nat} {l : List Nat} (h : NatIn w p c l) {B : Nat} (hb : Below B w w') (hB : 0 < l.length → blk p < B) : NatIn w' p c l :=
  ⟨h.lim, h.le, h.cap, fun hl => ⟨(h.ptr hl).1, Nat.lt_of_lt_of_le (h.ptr hl).2 hb.size⟩, fun i hi => by rw [hb.cell (p := ⟨blk p, ofs p + i, none⟩) (hB (by omega))]; exact h.cell i hi⟩
theorem NatIn.keep {w w' : World} {p : Option Addr} {c : Nat} {l : List Nat} (h : NatIn w p c l) (hb : Below w.heap.size w w') : NatIn w' p c l :=
  h.below hb fun hl => (h.ptr hl).2

theorem NatIn.ix {w : World} {p : Option Addr} {c : Nat} {l : List Nat} (h : NatIn w p c l) {z : Int} (h0 : 0 ≤ z) {n : Nat} (h1 : z < n) (h2 : n ≤ l.length) (c' : Nat) (ww : World) :
    Sem.run Tryd.prog (Instr.indexAt 23 (.slice p n c') (.int .i64 z)) ww = .ok (.pointer (some ⟨blk p, ofs p + z.toNat, none⟩)) ww := by
  have hp := (h.ptr (by omega)).1
  generalize blk p = b at hp ⊢
  generalize ofs p = o at hp ⊢
  subst hp
  simp [go_sem]; omega

theorem NatIn.take {w : World} {p : Option Addr} {c : Nat} {l : List Nat} (h : NatIn w p c l) {k : Nat} (hk : k ≤ l.length) : NatIn w p c (l.take k) := by
  have hl : (l.take k).length = k := by rw [List.length_take]; omega
  refine ⟨lim_take h.lim k, ?_, h.cap, fun h0 => h.ptr (by omega), fun i hi => ?_⟩
  · have := h.le; omega
  · rw [hl] at hi
    rw [h.cell i (by omega)]
    have e : lm (l.take k) i = lm l i := by rw [lm_eq (by omega), lm_eq (by omega), List.getElem_take]
    rw [e]

/-- Block B holds the limbs L and nothing else. -/
def limbV (x : Nat) : Value := .int .u32 (x : Int)
def Own (w : World) (B : Nat) (L : List Nat) : Prop := w.heap[B]? = some (.cells (L.map limbV).toArray 44 (0, 0))

theorem Own.lt {w : World} {B : Nat} {L : List Nat} (h : Own w B L) : B < w.heap.size := (Array.getElem?_eq_some_iff.1 h).1
theorem Own.cell {w : World} {B : Nat} {L : List Nat} (h : Own w B L) {i : Nat} (hi : i < L.length) : w.cell? ⟨B, i, none⟩ = some (.int .u32 ((lm L i : Nat) : Int)) := by
  unfold World.cell?
  rw [h]
  simp [lm_eq hi, limbV, hi]
theorem Own.frozen {w : World} {B : Nat} {L : List Nat} (h : Own w B L) (i : Nat) : w.frozen? ⟨B, i, none⟩ = false := by
  unfold World.frozen?
  rw [h]
  simp
theorem Own.set {w : World} {B : Nat} {L : List Nat} (h : Own w B L) {i : Nat} {x : Nat} {z : Int} (hz : z = (x : Int)) : Own (w.setCell ⟨B, i, none⟩ (.int .u32 z)) B (L.set i x) := by
  subst hz
  unfold Own at h ⊢
  have e : (L.set i x).map limbV = (L.map limbV).set i (.int .u32 (x : Int)) := by rw [List.map_set]; rfl
  simp only [World.setCell, Array.getElem?_modify, h, Option.map_some, e, if_true]
  simp
theorem Own.natIn {w : World} {B c : Nat} {L : List Nat} (h : Own w B L) (hl : Lim L) {n : Nat} (hn : n ≤ L.length) (hc : n ≤ c) (hc2 : c ≤ 9223372036854775807) : NatIn w (some ⟨B, 0, none⟩) c (L.take n) := by
  have hl' : (L.take n).length = n := by rw [List.length_take]; omega
  refine ⟨lim_take hl n, by omega, hc2, fun _ => ⟨rfl, h.lt⟩, fun i hi => ?_⟩
  show w.cell? ⟨B, 0 + i, none⟩ = _
  rw [Nat.zero_add, h.cell (by omega)]
  have e : lm (L.take n) i = lm L i := by rw [lm_eq (by omega), lm_eq (by omega), List.getElem_take]
  rw [e]
theorem Own.whole {w : World} {B c : Nat} {L : List Nat} (h : Own w B L) (hl : Lim L) (hc : L.length = c) (hc2 : c ≤ 9223372036854775807) : NatIn w (some ⟨B, 0, none⟩) c L := by
  subst hc
  have := h.natIn hl (Nat.le_refl _) (Nat.le_refl _) hc2
  rwa [List.take_of_length_le (Nat.le_refl _)] at this
theorem Own.below {w w' : World} {B B' : Nat} {L : List Nat} (h : Own w B L) (hb : Below B' w w') (hB : B < B') : Own w' B L := by
  unfold Own at h ⊢; rw [hb.block B hB]; exact h

/-- The slice (p, c) that holds l is new memory of a call's own: blocks from B0 on. -/
def Mine (B0 : Nat) (w : World) (p : Option Addr) (c : Nat) (l : List Nat) : Prop :=
  Lim l ∧ l.length ≤ c ∧ c ≤ 9223372036854775807 ∧ (l = [] ∨ ∃ B L, p = some ⟨B, 0, none⟩ ∧ B0 ≤ B ∧ Own w B (l ++ L) ∧ Lim L ∧ c = l.length + L.length)
theorem Mine.natIn {B0 : Nat} {w : World} {p : Option Addr} {c : Nat} {l : List Nat} (h : Mine B0 w p c l) : NatIn w p c l := by
  obtain ⟨h1, h2, h3, h4⟩ := h
  rcases h4 with rfl | ⟨B, L, rfl, hB, hO, hL, hc⟩
  · exact ⟨h1, h2, h3, fun h => absurd h (by simp), fun i hi => absurd hi (by simp)⟩
  · have := hO.natIn (c := c) (lim_append h1 hL) (n := l.length) (by simp) h2 h3
    simpa using this

/-- What every function that returns a number does: it returns the number's limbs in new memory, and nothing that was there has changed. -/
def RetNat (n : Nat) (w : World) (e : Ending) (w' : World) : Prop :=
  ∃ p c, e = .returned (.slice p (limbs n).length c) ∧ Below w.heap.size w w' ∧ Mine w.heap.size w' p c (limbs n)

theorem mine_low {B0 B : Nat} {w : World} {L : List Nat} {c n : Nat} (h : Own w B L) (hl : Lim L) (hB : B0 ≤ B) (hc : L.length = c) (hn : val L = n) :
    limbs n = [] ∨ ∃ B' L', (some ⟨B, 0, none⟩ : Option Addr) = some ⟨B', 0, none⟩ ∧ B0 ≤ B' ∧ Own w B' (limbs n ++ L') ∧ Lim L' ∧ c = (limbs n).length + L'.length := by
  subst hn
  obtain ⟨k, e⟩ := limbs_prefix hl
  refine .inr ⟨B, List.replicate k 0, rfl, hB, by rw [← e]; exact h, lim_zeros k, ?_⟩
  rw [← hc, ← List.length_append, ← e]

/-- The end of a function that returns low(out), out a block of its own. -/
theorem ret_low {w w' : World} {B c n : Nat} {M A : List Nat} (hA : Hid (A = limbs (val M))) (h : Own w' B M) (hl : Lim M) (hB : w.heap.size ≤ B) (hc : M.length = c) (hn : val M = n) (hb : Below w.heap.size w w') (hc2 : c ≤ 9223372036854775807) :
    RetNat n w (.returned (.slice (some ⟨B, 0, none⟩) A.length c)) w' := by
  have hA' := hA.out
  subst hn hc hA'
  exact ⟨_, _, rfl, hb, lim_limbs _, limbs_length_val_le hl, hc2, mine_low h hl hB rfl rfl⟩

/-- A callee that leaves the world alone, met in a quiet region: behind no draws, and behind an earlier quiet region. -/
theorem quiet1 {P : Program} {f : FuncId} {args : Array Value} {v : Value} (h : ∀ W : World, Calls P f args W fun e w' => e = .returned v ∧ W = w') (w : World) (n : Nat) :
    Calls P f args (w.drewN n) fun e w' => e = .returned v ∧ ∃ m, w' = w.drewN m :=
  (h _).mono fun _ _ hh => ⟨hh.1, n, hh.2.symm⟩
theorem quiet2 {P : Program} {f : FuncId} {args : Array Value} {v : Value} (h : ∀ W : World, Calls P f args W fun e w' => e = .returned v ∧ W = w') (w : World) (a n : Nat) :
    Calls P f args (w.drewN (a + n)) fun e w' => e = .returned v ∧ ∃ m, w' = w.drewN (a + m) :=
  (h _).mono fun _ _ hh => ⟨hh.1, n, hh.2.symm⟩

theorem Mine.mono {B B' : Nat} {w : World} {p : Option Addr} {c : Nat} {l : List Nat} (h : Mine B w p c l) (hB : B' ≤ B) : Mine B' w p c l := by
  obtain ⟨h1, h2, h3, h4⟩ := h
  refine ⟨h1, h2, h3, h4.imp id ?_⟩
  rintro ⟨g, L, e, hg, r⟩
  exact ⟨g, L, e, by omega, r⟩
theorem Mine.keep {B : Nat} {w w' : World} {p : Option Addr} {c : Nat} {l : List Nat} (h : Mine B w p c l) (hb : Below w.heap.size w w') : Mine B w' p c l := by
  obtain ⟨h1, h2, h3, h4⟩ := h
  refine ⟨h1, h2, h3, h4.imp id ?_⟩
  rintro ⟨g, L, e, hg, hO, r⟩
  exact ⟨g, L, e, hg, hO.below hb hO.lt, r⟩
theorem RetNat.behind {n : Nat} {w w1 w' : World} {e : Ending} (hb : Below w.heap.size w w1) (h : RetNat n w1 e w') : RetNat n w e w' := by
  obtain ⟨p, c, rfl, hb2, hm⟩ := h
  exact ⟨p, c, rfl, hb.trans (hb2.mono hb.size), hm.mono hb.size⟩
theorem Mine.frozen {B : Nat} {w : World} {p : Option Addr} {c : Nat} {l : List Nat} (h : Mine B w p c l) (h0 : 0 < l.length) (i : Nat) : w.frozen? ⟨blk p, i, none⟩ = false := by
  obtain ⟨h1, h2, h3, h4⟩ := h
  rcases h4 with rfl | ⟨g, L, rfl, hg, hO, r⟩
  · simp at h0
  · exact hO.frozen i
theorem Mine.ge {B : Nat} {w : World} {p : Option Addr} {c : Nat} {l : List Nat} (h : Mine B w p c l) (h0 : 0 < l.length) : B ≤ blk p := by
  obtain ⟨h1, h2, h3, h4⟩ := h
  rcases h4 with rfl | ⟨g, L, rfl, hg, hO, r⟩
  · simp at h0
  · exact hg
theorem Mine.set {B : Nat} {w : World} {p : Option Addr} {c : Nat} {l : List Nat} (h : Mine B w p c l) {i x : Nat} (hi : i < l.length) (hx : x < 4294967296) {z : Int} (hz : z = (x : Int)) :
    Mine B (w.setCell ⟨blk p, ofs p + i, none⟩ (.int .u32 z)) p c (l.set i x) := by
  obtain ⟨h1, h2, h3, h4⟩ := h
  refine ⟨lim_set h1 hx, by rw [List.length_set]; exact h2, h3, ?_⟩
  rcases h4 with rfl | ⟨g, L, rfl, hg, hO, hL, hc⟩
  · simp at hi
  · refine .inr ⟨g, L, rfl, hg, ?_, hL, by rw [List.length_set]; exact hc⟩
    have := hO.set (i := i) hz
    rw [List.set_append_left _ _ hi] at this
    show Own (w.setCell ⟨g, 0 + i, none⟩ _) g _
    rw [Nat.zero_add]; exact this
theorem Mine.low {B : Nat} {w : World} {p : Option Addr} {c : Nat} {l : List Nat} (h : Mine B w p c l) : Mine B w p c (limbs (val l)) := by
  obtain ⟨h1, h2, h3, h4⟩ := h
  have hle := limbs_length_val_le h1
  refine ⟨lim_limbs _, by omega, h3, ?_⟩
  rcases h4 with rfl | ⟨g, L, rfl, hg, hO, hL, hc⟩
  · exact .inl (by rw [val, limbs_zero])
  · obtain ⟨k, e⟩ := limbs_prefix h1
    refine .inr ⟨g, List.replicate k 0 ++ L, rfl, hg, by rw [← List.append_assoc, ← e]; exact hO, lim_append (lim_zeros k) hL, ?_⟩
    rw [List.length_append, ← Nat.add_assoc, ← List.length_append, ← e]; exact hc
theorem ret_mine {w w' : World} {p : Option Addr} {c n : Nat} {M A : List Nat} (hA : Hid (A = limbs (val M))) (h : Mine w.heap.size w' p c M) (hn : val M = n) (hb : Below w.heap.size w w') :
    RetNat n w (.returned (.slice p A.length c)) w' := by
  have hA' := hA.out
  subst hn hA'
  exact ⟨_, _, rfl, hb, h.low⟩
theorem Own.mine {B B0 : Nat} {w : World} {L : List Nat} (h : Own w B L) (hB : B0 ≤ B) (hl : Lim L) (hc : L.length ≤ 9223372036854775807) : Mine B0 w (some ⟨B, 0, none⟩) L.length L :=
  ⟨hl, Nat.le_refl _, hc, .inr ⟨B, [], rfl, hB, by rw [List.append_nil]; exact h, lim_nil, rfl⟩⟩
theorem below_set {B : Nat} {a w : World} (h : Below B a w) {b o : Nat} (hb : B ≤ b) (u : Value) : Below B a (w.setCell ⟨b, o, none⟩ u) := h.setCell hb u
theorem blk_some (b o : Nat) : blk (some ⟨b, o, none⟩) = b := rfl
theorem ofs_some (b o : Nat) : ofs (some ⟨b, o, none⟩) = o := rfl
theorem or_u64 {r x : Nat} (hr : r < 4294967296) (hx : x < 4294967296) : Go.bits .or .u64 ((r : Int) * 4294967296) (x : Int) = (r : Int) * 4294967296 + (x : Int) := by
  refine bits_join .u64 64 (Nat.le_refl _) (fun n h0 h1 => IntWalk.u64_in n ⟨h0, by omega⟩) 32 _ _ (by omega) (by omega) (by omega) (by omega) (by omega) (by omega)
/-- Only the block of p has changed. -/
def Only (w w' : World) (p : Option Addr) : Prop := w.grownBy w' (some (blk p))
theorem Only.refl (w : World) (p : Option Addr) : Only w w p := ⟨rfl, rfl, rfl, Nat.le_refl _, fun _ _ _ => rfl⟩
theorem Only.set {w w' : World} {p : Option Addr} (h : Only w w' p) (o : Nat) (u : Value) : Only w (w'.setCell ⟨blk p, o, none⟩ u) p :=
  ⟨h.os, h.tape, h.output, by have := h.size; simpa [World.setCell] using this, fun k hk hne => (Below.heap_setCell w' ⟨blk p, o, none⟩ u k (fun e => hne (by rw [e]))).trans (h.block k hk hne)⟩
theorem Only.drewN {w w' : World} {p : Option Addr} (h : Only w w' p) (n : Nat) : Only w (w'.drewN n) p := ⟨h.os, h.tape, h.output, h.size, h.block⟩
theorem Only.below {w w' : World} {p : Option Addr} (h : Only w w' p) {B : Nat} (hB : B ≤ blk p) (hB2 : B ≤ w.heap.size) : Below B w w' :=
  ⟨h.os, h.tape, h.output, h.size, fun k hk => h.block k (by omega) (fun e => by simp only [Option.some.injEq] at e; omega)⟩
/-- Nothing has been written. -/
theorem Only.of_nil {w w' : World} {p : Option Addr} (h : Below w.heap.size w w') : Only w w' p := ⟨h.os, h.tape, h.output, h.size, fun k hk _ => h.block k hk⟩

theorem NatIn.drewN {w : World} {p : Option Addr} {c : Nat} {l : List Nat} (h : NatIn w p c l) (n : Nat) : NatIn (w.drewN n) p c l := h.keep (below_drewN (Below.refl _ _) n)
theorem NatIn.drew {w : World} {p : Option Addr} {c : Nat} {l : List Nat} (h : NatIn w p c l) : NatIn w.drew p c l := h.keep ((Below.refl _ _).drew)
theorem Own.drewN {w : World} {B : Nat} {L : List Nat} (h : Own w B L) (n : Nat) : Own (w.drewN n) B L := h
theorem Mine.drewN {B : Nat} {w : World} {p : Option Addr} {c : Nat} {l : List Nat} (h : Mine B w p c l) (n : Nat) : Mine B (w.drewN n) p c l := h
theorem Mine.drew {B : Nat} {w : World} {p : Option Addr} {c : Nat} {l : List Nat} (h : Mine B w p c l) : Mine B w.drew p c l := h
theorem only_refl (w : World) (r : Option Nat) : w.grownBy w r := ⟨rfl, rfl, rfl, Nat.le_refl _, fun _ _ _ => rfl⟩
theorem only_drewN {a w : World} {r : Option Nat} (h : a.grownBy w r) (n : Nat) : a.grownBy (w.drewN n) r := ⟨h.os, h.tape, h.output, h.size, h.block⟩
theorem only_set {a w : World} {g : Nat} (h : a.grownBy w (some g)) (o : Nat) (u : Value) : a.grownBy (w.setCell ⟨g, o, none⟩ u) (some g) :=
  ⟨h.os, h.tape, h.output, by have := h.size; simpa [World.setCell] using this, fun k hk hne => (Below.heap_setCell w ⟨g, o, none⟩ u k (fun e => hne (by rw [e]))).trans (h.block k hk hne)⟩
theorem NatIn.only {w w' : World} {p : Option Addr} {c g : Nat} {l : List Nat} (h : NatIn w p c l) (hg : w.grownBy w' (some g)) (hne : 0 < l.length → blk p ≠ g) : NatIn w' p c l :=
  ⟨h.lim, h.le, h.cap, fun hl => ⟨(h.ptr hl).1, Nat.lt_of_lt_of_le (h.ptr hl).2 hg.size⟩, fun i hi => by
    rw [World.cell?_of_block (w := w) (a := ⟨blk p, ofs p + i, none⟩) (hg.block _ (h.ptr (by omega)).2 (fun e => hne (by omega) (by simpa using e)))]; exact h.cell i hi⟩
theorem NatIn.store {w : World} {p : Option Addr} {c g : Nat} {l : List Nat} (h : NatIn w p c l) (hne : 0 < l.length → blk p ≠ g) (o : Nat) (u : Value) : NatIn (w.setCell ⟨g, o, none⟩ u) p c l :=
  h.only (only_set (only_refl w _) o u) hne

/-- Only the block of p may have been written, and only if n is not 0. -/
def Wrote (n : Nat) (w w' : World) (p : Option Addr) : Prop := w.grownBy w' (if 0 < n then some (blk p) else none)
theorem Wrote.refl (n : Nat) (w : World) (p : Option Addr) : Wrote n w w p := only_refl _ _
theorem Wrote.set {n : Nat} {w w' : World} {p : Option Addr} (h : Wrote n w w' p) (h0 : 0 < n) (o : Nat) (u : Value) : Wrote n w (w'.setCell ⟨blk p, o, none⟩ u) p := by
  unfold Wrote at h ⊢; rw [if_pos h0] at h ⊢; exact only_set h o u
theorem Wrote.drewN {n : Nat} {w w' : World} {p : Option Addr} (h : Wrote n w w' p) (k : Nat) : Wrote n w (w'.drewN k) p := only_drewN h k
theorem Wrote.below {n : Nat} {w w' : World} {p : Option Addr} (h : Wrote n w w' p) {B : Nat} (hB : B ≤ w.heap.size) (hp : 0 < n → B ≤ blk p) : Below B w w' :=
  ⟨h.os, h.tape, h.output, h.size, fun k hk => h.block k (by omega) (by
    by_cases h0 : 0 < n
    · rw [if_pos h0]; intro e; simp only [Option.some.injEq] at e; have := hp h0; omega
    · rw [if_neg h0]; intro e; cases e)⟩

theorem or_u32 {x y : Nat} (hx : x < 4294967296) (hy : y < 4294967296) : Go.bits .or .u32 (x : Int) (y : Int) = ((x ||| y : Nat) : Int) :=
  (bits_nat .u32 32 (Nat.le_refl _) (fun n h0 h1 => IntWalk.u32_in n ⟨h0, by omega⟩) x y (by omega) (by omega)).2
theorem Mine.only {B : Nat} {w w' : World} {p : Option Addr} {c : Nat} {l : List Nat} {row : Option Nat} (h : Mine B w p c l) (hg : w.grownBy w' row) (hne : 0 < l.length → row ≠ some (blk p)) : Mine B w' p c l := by
  obtain ⟨h1, h2, h3, h4⟩ := h
  refine ⟨h1, h2, h3, ?_⟩
  rcases h4 with rfl | ⟨g, L, rfl, hB, hO, r⟩
  · exact .inl rfl
  · by_cases h0 : 0 < l.length
    · refine .inr ⟨g, L, rfl, hB, ?_, r⟩
      unfold Own
      rw [hg.block g hO.lt (fun e => hne h0 e.symm)]
      exact hO
    · exact .inl (List.length_eq_zero_iff.1 (by omega))
theorem own_new (w : World) {cs : Array Value} {L : List Nat} (h : cs = (L.map limbV).toArray) : Own (w.alloc (.cells cs 44)) w.heap.size L := by
  subst h; exact heap_alloc_new w _
theorem below_new (w : World) (o : Obj) : Below w.heap.size w (w.alloc o) := (Below.refl _ _).alloc (Nat.le_refl _) o

theorem info32 : (Tryd.prog.info? 44).map (fun i => (i.zero, i.size, i.bytes)) = some (some (.int .u32 0), 1, 4) := by kernel_rfl

/-- make([]uint32, n) -/
theorem wpList_mk {ops : Array Oper} {rest : List Oper} {o : Oper} {a : Act} {Q : Exit → Act → World → Prop} (w : World)
    (hg : o.guard = none) (l c : Operand) (hop : o.op = Op.makeSlice 23 l c) {z : Int} (n : Nat) (hl : a.eval l = .int .i64 z) (hc : a.eval c = .int .i64 z) (hz : z = (n : Int)) (hn : n ≤ 35184372088832)
    (hK : ∀ w', w.heap.size < w'.heap.size → Own w' w.heap.size (List.replicate n 0) → Below w.heap.size w w' → wpList Tryd.prog ops Q rest (a.put o.dst (.slice (some ⟨w.heap.size, 0, none⟩) n n)) w') :
    wpList Tryd.prog ops Q (o :: rest) a w := by
  obtain ⟨i0, hi, hz0, hz1, hz2⟩ := info_parts info32
  refine wpList_make_full w hg l c 23 hop w.heap.size 44 i0 (.int .u32 0) 1 Tryd.underlying23 hi hz0 hz1 .i64 .i64 z z n hl hc hz hz (by rw [hz2]; omega) (by unfold maxLen; omega) (Nat.le_refl _) ?_
  intro w' hown hgr
  have hb : Below w.heap.size w w' := (Below.refl _ _).grown hgr (Nat.le_refl _) (by simp)
  obtain ⟨_, ho⟩ := hown
  rcases ho with ⟨h, _⟩ | ⟨g, cap, cur, hv, hbg, hh, hnc, hcm, hcs, htk⟩
  · simp at h
  · simp only [Value.slice.injEq, Option.some.injEq, Addr.mk.injEq] at hv
    obtain ⟨⟨rfl, _⟩, _, rfl⟩ := hv
    refine hK w' (by have := (Array.getElem?_eq_some_iff.1 hh).1; omega) ?_ hb
    unfold Own
    rw [hh]
    have e : cur = (List.map limbV (List.replicate n 0)).toArray := by
      apply Array.toList_inj.1
      simp only [Value.cells, toList_madeCells_one, Nat.mul_one] at htk
      rw [List.map_replicate, show limbV 0 = .int .u32 0 from rfl]
      rw [← htk, List.take_of_length_le (by rw [Array.length_toList]; omega)]
    rw [e]

theorem zeroCells_eq (n : Nat) : (Builtin.zeroCells (Value.int .u32 0).cells n).toList = (List.replicate n 0).map limbV := by
  apply List.ext_getElem?
  intro j
  by_cases hj : j < n
  · simp [Builtin.zeroCells, Value.cells, hj, Nat.mod_one, limbV]
  · simp [Builtin.zeroCells, Value.cells, hj]

/-- append([]uint32(nil), x...): a copy. -/
theorem run_cp (w : World) {p : Option Addr} {n c : Nat} {l : List Nat} (h : NatIn w p c l) (hn : l.length = n) (hs : n ≤ 1000000000000) (ty : TypeId) :
    ∃ p' c' w', Sem.run Tryd.prog (Builtin.append_ #[23, 23] ty #[.slice none 0 0, .slice p n c]) w = .ok (.slice p' n c') w' ∧ Below w.heap.size w w' ∧ Mine w.heap.size w' p' c' l := by
  obtain ⟨i0, hi, hz0, hz1, hz2⟩ := info_parts info32
  subst hn
  by_cases h0 : l = []
  · subst h0
    refine ⟨none, 0, w, ?_, Below.refl _ _, lim_nil, Nat.le_refl _, by omega, .inl rfl⟩
    cases p with
    | none => simp [Builtin.append_, run_underlying Tryd.underlying23, sizeOf, typeInfo, hi, Builtin.lenOf, Builtin.firstCells]
    | some a => simp [Builtin.append_, run_underlying Tryd.underlying23, sizeOf, typeInfo, hi, Builtin.lenOf, Builtin.firstCells, loadCells, loadCellsFrom]
  · have hl : 0 < l.length := List.length_pos_iff.2 h0
    obtain ⟨hp, hlt⟩ := h.ptr hl
    have hr := run_append_nil (P := Tryd.prog) w 23 ty 44 i0 (.int .u32 0) Tryd.underlying23 hi hz0 ⟨blk p, ofs p, none⟩ l.length c (l.map limbV) (by simp [hz1])
      (fun j v hj => by
        simp only [List.getElem?_map, Option.map_eq_some_iff] at hj
        obtain ⟨x, hx, rfl⟩ := hj
        obtain ⟨hjl, hx⟩ := List.getElem?_eq_some_iff.1 hx
        rw [Addr.add_lit, h.cell j hjl, lm_eq hjl, hx]; rfl) hl (by omega) (by rw [hz2]; omega)
    have hge := grownCap_ge w l.length 0 44
    have hle := grownCap_le_maxLen w l.length 0 44 (by unfold maxLen; omega)
    rw [← hp] at hr
    refine ⟨_, _, _, hr, ⟨rfl, rfl, rfl, by simp, fun k hk => Below.heap_alloc w.drew _ _ (by simpa using hk)⟩, h.lim, hge, hle, .inr ⟨w.heap.size, List.replicate (grownCap w l.length 0 44 - l.length) 0, rfl, Nat.le_refl _, ?_, lim_zeros _, ?_⟩⟩
    · have hnew := heap_alloc_new w.drew (.cells ((List.map limbV l).toArray ++ Builtin.zeroCells (Value.int .u32 0).cells (grownCap w l.length 0 44 - l.length)) 44)
      have e : (List.map limbV l).toArray ++ Builtin.zeroCells (Value.int .u32 0).cells (grownCap w l.length 0 44 - l.length) = (List.map limbV (l ++ List.replicate (grownCap w l.length 0 44 - l.length) 0)).toArray := by
        apply Array.toList_inj.1
        rw [Array.toList_append, zeroCells_eq, List.map_append]
      rw [e] at hnew ⊢
      exact hnew
    · rw [List.length_replicate]; omega

theorem wpList_cp {ops : Array Oper} {rest : List Oper} {o : Oper} {a : Act} {Q : Exit → Act → World → Prop} (w : World) (hg : o.guard = none) (s x : Operand)
    (hop : o.op = .call { callee := .builtin .append, args := #[s, x], argTypes := #[23, 23] }) (hs : a.eval s = .slice none 0 0) {p : Option Addr} {n c : Nat} (hx : a.eval x = .slice p n c) {l : List Nat} (h : NatIn w p c l) (hn : l.length = n) (hsz : n ≤ 1000000000000)
    (hK : ∀ p' c' w', Below w.heap.size w w' → Mine w.heap.size w' p' c' l → wpList Tryd.prog ops Q rest (a.put o.dst (.slice p' n c')) w') :
    wpList Tryd.prog ops Q (o :: rest) a w := by
  refine wpList_plain hg fun K hK' => ?_
  obtain ⟨p', c', w', hr, hb, hm⟩ := run_cp w h hn hsz o.type
  unfold Oper.wp execOp
  simp only [hop, resolve, invoke, builtin, Sem.run_bind, Sem.run_pure, Result.andThen_ok, List.map_toArray, List.map_cons, List.map_nil, hs, hx, hr]
  exact hK' _ _ (hK p' c' w' hb hm)

attribute [irreducible] blk ofs
end Go.Proofs.YtgaicejcjkpekaaDoor
