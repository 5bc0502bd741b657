/-
  A world in which the listed variables hold what the text lays.
-/
import Derived.Test.YtomdjkcoodaheaaGreatDoorCards
import Derived.Test.YtomdjkcoodaheaaGreatDoorTie
import Derived.Test.YtomdjkcoodaheaaGreatDoorProg
import Derived.WalkKit
import Derived.ProofKit
import Derived.OpenShut
import Derived.Deep.DeepHandedRow
import Derived.Deep.DeepLaidRun
import Derived.Deep.DeepWitnessRowRef
set_option linter.unusedSectionVars false
set_option linter.unusedSimpArgs false
set_option linter.unusedVariables false
set_option maxRecDepth 100000
set_option maxHeartbeats 4000000
namespace Go.Proofs.YtomdjkcoodaheaaGreatDoor
open Go

def numCells : DataW Unit → List Value
  | .agg parts => parts.flatMap fun
    | .lit (.int k n) => [.int k n]
    | .agg ps => ps.flatMap fun
      | .lit (.int k n) => [.int k n]
      | _ => []
    | _ => []
  | _ => []
def strCells : DataW Unit → List Value
  | .slice es _ => es.flatMap fun
    | .lit (.string b) => [.string ⟨b.toArray⟩]
    | _ => []
  | .iface _ (.ptr (.agg es)) => es.flatMap fun
    | .lit (.string b) => [.string ⟨b.toArray⟩]
    | _ => []
  | _ => []
noncomputable def low (os : Os) : Nat := (World.settled Tryz.prog os).heap.size
noncomputable def laidWorld (os : Os) : World :=
  let N := low os
  let w0 := World.holding Tryz.prog os ⟨#[.cells (strCells Rows.laid_lineage_semiring_levels).toArray 9, .cells (strCells Rows.laid_strconv_ErrSyntax).toArray 182, .cells (strCells Rows.laid_strconv_ErrRange).toArray 182], #[], []⟩
  let put (h : Array Obj) (g : Nat) (cs : Array Value) : Array Obj := h.modify g fun
    | .cells _ t frozen => .cells cs t frozen
    | o => o
  let h0 := put w0.heap 0 #[.slice (some ⟨N, 0, none⟩) 5 5]
  let h1 := put h0 1 (numCells Rows.laid_internal_strconv_uint64pow10).toArray
  let h2 := put h1 2 #[.iface 180 (.pointer (some ⟨N + 1, 0, none⟩))]
  let h3 := put h2 3 #[.iface 180 (.pointer (some ⟨N + 2, 0, none⟩))]
  let h5 := put h3 5 (numCells Rows.laid_math_bits_deBruijn32tab).toArray
  let h6 := put h5 6 (numCells Rows.laid_math_bits_deBruijn64tab).toArray
  let h7 := put h6 7 (numCells Rows.laid_unicode_utf8_first).toArray
  let h8 := put h7 8 (numCells Rows.laid_unicode_utf8_acceptRanges).toArray
  { w0 with heap := h8 }
theorem laid_run (os : Os) (args : Array Value) : (DataW.laidRun Tryz.prog ((laidWorld os).forCall (fun _ _ => 0) ⟨#[], args, []⟩).memory 8 (Rows.semiringOperationsRow.laid.map (·.1))).map (·.1) = some Rows.semiringOperationsRow.laid := by kernel_rfl
theorem laid_met (os : Os) (args : Array Value) : laidMet Tryz.prog Rows.semiringOperationsRow.laid ((laidWorld os).forCall (fun _ _ => 0) ⟨#[], args, []⟩).memory :=
  laidMet_of_run3 8 (laid_run os args) (by kernel_rfl) (by kernel_rfl)
def El0 : Value := .agg #[.int .i64 0, .int .i64 0, .slice none 0 0]
theorem own : ownKnob Tryz.prog.godebug = none := by kernel_rfl
section
variable (os : Os) (args : Array Value)
theorem wit_vars : ((laidWorld os).forCall (fun _ _ => 0) ⟨#[], args, []⟩).variablesRefB Tryz.prog = true := by kernel_rfl
theorem wit_rest : (((laidWorld os).forCall (fun _ _ => 0) ⟨#[], args, []⟩).heap.toList.drop Tryz.prog.globals.size).take ((begin Tryz.prog (fun _ _ => 0) default).world.heap.size - Tryz.prog.globals.size) =
      (begin Tryz.prog (fun _ _ => 0) default).world.heap.toList.drop Tryz.prog.globals.size := by kernel_rfl
end
end Go.Proofs.YtomdjkcoodaheaaGreatDoor
