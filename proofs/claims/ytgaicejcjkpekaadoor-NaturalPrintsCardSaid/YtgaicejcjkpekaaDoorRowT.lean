/- The rows' common part where the library's error values and the tables of package utf8 are laid, too. -/
import Derived.Test.YtgaicejcjkpekaaDoorRow
import Derived.ChangeMaps5
namespace Go.Proofs.YtgaicejcjkpekaaDoor
open Go.RowKit Nt Go.ChangeShapes Go.WideShapes Go.ChangeAt

def acceptT : List Int := [128, 191, 160, 191, 128, 159, 144, 191, 128, 143, 0, 0, 0, 0, 0, 0, 0, 0, 0, 0, 0, 0, 0, 0, 0, 0, 0, 0, 0, 0, 0, 0]
def firstT : List Int := Go.Pinned.utf8FirstZ.map Int.ofNat
def rangeS : ByteArray := ⟨#[118, 97, 108, 117, 101, 32, 111, 117, 116, 32, 111, 102, 32, 114, 97, 110, 103, 101]⟩
def syntaxS : ByteArray := ⟨#[105, 110, 118, 97, 108, 105, 100, 32, 115, 121, 110, 116, 97, 120]⟩
noncomputable def lowT : Nat := (World.holding Tryd.prog default ⟨#[], #[], []⟩).heap.size
def layErr (b : Nat) : Obj → Obj
  | .cells _ t frozen => .cells #[.iface 116 (.pointer (some ⟨b, 0, none⟩))] t frozen
  | o => o
/-- A world for the witness: the settled one, with the seven listed variables laid. -/
noncomputable def laidWorldT (os : Os) : World :=
  let w0 := World.holding Tryd.prog os ⟨#[.cells #[.string rangeS] 118, .cells #[.string syntaxS] 118], #[], []⟩
  { w0 with heap := ((((((w0.heap.modify 4 (layTab .u64 Lib.pow10Tab)).modify 6 (layTab .u8 tab32)).modify 7 (layTab .u8 tab64)).modify 3 (layTab .u8 acceptT)).modify
      2 (layTab .u8 firstT)).modify 1 (layErr lowT)).modify 0 (layErr (lowT + 1)) }
end Go.Proofs.YtgaicejcjkpekaaDoor
