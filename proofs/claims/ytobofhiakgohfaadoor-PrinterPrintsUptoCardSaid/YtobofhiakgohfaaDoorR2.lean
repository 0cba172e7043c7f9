/- A start in which the listed variables hold what the rows list. -/
import Derived.Test.YtobofhiakgohfaaDoorCards
import Derived.Test.YtobofhiakgohfaaDoorTie
import Derived.WalkKit
import Derived.ProofKit
import Derived.OpenShut
import Derived.Lay
import Derived.SevenTiedAt
import Derived.Deep.DeepHandedRow
import Derived.Deep.DeepWitnessRowRef
import Derived.Lib.LaidTab
namespace Go.Proofs.YtobofhiakgohfaaDoor
open Go.ChangeShapes Go.WideShapes Go.ChangeAt Go.RowKit

/-- What the rows of chapter 05 list. -/
def laidT : List (String × DataW Unit) := Rows.tokenNamesRow.laid
noncomputable def laidW (os : Os) : World := World.laidAll Tryd.prog os laidT
theorem laidW_os (os : Os) : (laidW os).os = os := World.laidAll_os _ _ _
theorem laidW_fits (os : Os) : (World.holding Tryd.prog os ⟨#[], #[], []⟩).layFits Tryd.prog laidT [] = true := by kernel_rfl
theorem laidW_ifaces (os : Os) : (World.holding Tryd.prog os ⟨#[], #[], []⟩).layIfaces Tryd.prog laidT (World.laidAll Tryd.prog os laidT) = true := by kernel_rfl
theorem laidW_met (os : Os) (args : Array Value) : laidMet Tryd.prog laidT ((laidW os).forCall (fun _ _ => 0) ⟨#[], args, []⟩).memory := laidMet_laidAll args (laidW_fits os) (laidW_ifaces os)
theorem own : ownKnob Tryd.prog.godebug = none := by kernel_rfl
end Go.Proofs.YtobofhiakgohfaaDoor
