/- Blocks of bytes of a call's own; string(b). -/
import Derived.Test.YtgaicejcjkpekaaDoorRDigits
import Derived.Laws.BytesString
import Derived.Laws.Cells
import Derived.Deep.OwnRows
namespace Go.Proofs.YtgaicejcjkpekaaDoor
open Go.RowKit Nt

def byteV (b : UInt8) : Value := .int .u8 (b.toNat : Int)
/-- Block B holds the bytes L and nothing else. -/
def OwnB (w : World) (B : Nat) (L : List UInt8) : Prop := w.heap[B]? = some (.cells (L.map byteV).toArray 5 (0, 0))
def bt (L : List UInt8) (i : Nat) : UInt8 := L.getD i 0
theorem bt_eq {L : List UInt8} {i : Nat} (h : i < L.length) : bt L i = L[i] := by unfold bt; rw [List.getD_eq_getElem?_getD, List.getElem?_eq_getElem h]; rfl
theorem bt_set_ne {L : List UInt8} {i j : Nat} {x : UInt8} (h : j ≠ i) : bt (L.set i x) j = bt L j := by
  unfold bt; rw [List.getD_eq_getElem?_getD, List.getD_eq_getElem?_getD, List.getElem?_set_ne (by omega)]
theorem bt_set_eq {L : List UInt8} {i : Nat} {x : UInt8} (h : i < L.length) : bt (L.set i x) i = x := by
  unfold bt; rw [List.getD_eq_getElem?_getD, List.getElem?_set_self h]; rfl
theorem OwnB.lt {w : World} {B : Nat} {L : List UInt8} (h : OwnB w B L) : B < w.heap.size := (Array.getElem?_eq_some_iff.1 h).1
theorem OwnB.cell {w : World} {B : Nat} {L : List UInt8} (h : OwnB w B L) {i : Nat} (hi : i < L.length) : w.cell? ⟨B, i, none⟩ = some (.int .u8 ((bt L i).toNat : Int)) := by
  unfold World.cell?
  rw [h]
  simp [bt_eq hi, byteV, hi]
theorem OwnB.frozen {w : World} {B : Nat} {L : List UInt8} (h : OwnB w B L) (i : Nat) : w.frozen? ⟨B, i, none⟩ = false := by
  unfold World.frozen?
  rw [h]
  simp
theorem OwnB.set {w : World} {B : Nat} {L : List UInt8} (h : OwnB w B L) {i : Nat} {x : UInt8} {z : Int} (hz : z = (x.toNat : Int)) : OwnB (w.setCell ⟨B, i, none⟩ (.int .u8 z)) B (L.set i x) := by
  subst hz
  unfold OwnB at h ⊢
  have e : (L.set i x).map byteV = (L.map byteV).set i (.int .u8 (x.toNat : Int)) := by rw [List.map_set]; rfl
  simp only [World.setCell, Array.getElem?_modify, h, Option.map_some, e, if_true]
  simp
theorem OwnB.below {w w' : World} {B B' : Nat} {L : List UInt8} (h : OwnB w B L) (hb : Below B' w w') (hB : B < B') : OwnB w' B L := by
  unfold OwnB at h ⊢; rw [hb.block B hB]; exact h
theorem OwnB.keep {w w' : World} {B : Nat} {L : List UInt8} (h : OwnB w B L) (hb : Below w.heap.size w w') : OwnB w' B L := h.below hb h.lt
theorem info8 : (Tryd.prog.info? 5).map (fun i => (i.zero, i.size, i.bytes)) = some (some (.int .u8 0), 1, 1) := by kernel_rfl
theorem own_madeB (w : World) (n : Nat) : OwnB (w.alloc (.cells (madeCells #[Value.int .u8 0] n) 5)) w.heap.size (List.replicate n 0) := by
  have e : madeCells #[Value.int .u8 0] n = ((List.replicate n (0 : UInt8)).map byteV).toArray := by
    apply Array.toList_inj.1
    rw [toList_madeCells_one, List.map_replicate]
    rfl
  rw [e]
  exact heap_alloc_new w _
theorem foldl_push (L : List UInt8) : ∀ r : ByteArray, (L.map fun b => ((b.toNat : Nat) : Int)).foldl (fun r n => r.push (UInt8.ofNat n.toNat)) r = ⟨r.data ++ L.toArray⟩ := by
  induction L with
  | nil => intro r; simp
  | cons b L ih =>
    intro r
    rw [List.map_cons, List.foldl_cons, ih]
    apply ByteArray.ext
    simp [ByteArray.push]
/-- string(b), b a whole block. -/
theorem run_str {w : World} {B n c : Nat} {L : List UInt8} (h : OwnB w B L) (hn : L.length = n) :
    Sem.run Tryd.prog (convert 32 9 (.slice (some ⟨B, 0, none⟩) n c)) w = .ok (.string ⟨L.toArray⟩) w := by
  subst hn
  rw [run_convert_bytes_string w _ _ 5 _ _ _ Tryd.underlying32 Tryd.underlying5 Tryd.underlying9]
  have hl := run_loadCells_list (P := Tryd.prog) (w := w) ⟨B, 0, none⟩ (L.map byteV) (fun j v hj => by
    simp only [List.getElem?_map, Option.map_eq_some_iff] at hj
    obtain ⟨x, hx, rfl⟩ := hj
    obtain ⟨hjl, hx⟩ := List.getElem?_eq_some_iff.1 hx
    rw [Addr.add_lit, Nat.zero_add, h.cell hjl, bt_eq hjl, hx]; rfl)
  rw [List.length_map] at hl
  have e : L.map byteV = (L.map fun b => ((b.toNat : Nat) : Int)).map (Value.int .u8) := by rw [List.map_map]; rfl
  rw [e] at hl
  rw [run_bytesToString w ⟨B, 0, none⟩ L.length c (L.map fun b => ((b.toNat : Nat) : Int)) hl, foldl_push]
  congr 2
  apply ByteArray.ext
  simp [ByteArray.empty, ByteArray.emptyWithCapacity]
  rfl
end Go.Proofs.YtgaicejcjkpekaaDoor
