/- A world for the witness: the listed tables lie in it. -/
import Derived.Test.YtfofapggmoibkaaGreatDoorOpenX
import Derived.LaidMore
set_option linter.unusedVariables false
set_option linter.unusedSimpArgs false
namespace Go.Proofs.YtfofapggmoibkaaGreatDoor
open Go Go.RowKit Go.ChangeShapes Go.WideShapes Go.ChangeAt

def setCells (cs : Array Value) : Go.Obj → Go.Obj
  | .cells _ t frozen => .cells cs t frozen
  | o => o
def accC : Array Value := #[.int .u8 128, .int .u8 191, .int .u8 160, .int .u8 191, .int .u8 128, .int .u8 159, .int .u8 144, .int .u8 191, .int .u8 128, .int .u8 143, .int .u8 0, .int .u8 0, .int .u8 0, .int .u8 0, .int .u8 0, .int .u8 0, .int .u8 0, .int .u8 0, .int .u8 0, .int .u8 0, .int .u8 0, .int .u8 0, .int .u8 0, .int .u8 0, .int .u8 0, .int .u8 0, .int .u8 0, .int .u8 0, .int .u8 0, .int .u8 0, .int .u8 0, .int .u8 0]
def firstC : Array Value := (Go.Pinned.utf8FirstZ.map fun z : Nat => Value.int .u8 (Int.ofNat z)).toArray
noncomputable def heapW (os : Os) : Array Go.Obj := ((World.holding Tryz.prog os ⟨#[], #[], []⟩).heap.modify 1 (setCells firstC)).modify 2 (setCells accC)
/-- A world for the witness: the settled one, the two tables holding what the rows list. -/
noncomputable def laidWorld (os : Os) : World := { World.holding Tryz.prog os ⟨#[], #[], []⟩ with heap := heapW os }
set_option maxRecDepth 100000 in
theorem laid_met (os : Os) (args : Array Value) : laidMet Tryz.prog Rows.objectsBytesRow.laid ((laidWorld os).forCall (fun _ _ => 0) ⟨#[], args, []⟩).memory :=
  laidMet_of_run' 8 (by kernel_rfl) (by kernel_rfl)
end Go.Proofs.YtfofapggmoibkaaGreatDoor
