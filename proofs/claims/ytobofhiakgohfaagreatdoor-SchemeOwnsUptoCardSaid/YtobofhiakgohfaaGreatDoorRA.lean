/- A start in which the listed variables hold what the rows list; what they give. -/
import Derived.Test.YtobofhiakgohfaaGreatDoorCards
import Derived.Test.YtobofhiakgohfaaGreatDoorTie
import Derived.Test.YtobofhiakgohfaaGreatDoorZG
import Derived.WalkKit
import Derived.ProofKit
import Derived.OpenShut
import Derived.Lay
import Derived.SevenTiedAt
import Derived.Deep.DeepHandedRow
import Derived.Deep.DeepWitnessRowRef
import Derived.Lib.LaidTab
import Derived.ShutString
import Derived.ChangeMaps5
import Derived.ChangeOld
import Derived.Below
import Derived.SizedLaws
import Derived.Carry
import Derived.Deep.Slices
import Derived.MakeChecks
import Derived.Stop.LaidErr
set_option linter.unusedVariables false
set_option linter.unusedSimpArgs false
namespace Go.Proofs.YtobofhiakgohfaaGreatDoor
open Go.ChangeShapes Go.WideShapes Go.ChangeAt Go.RowKit

/-- What the rows list. -/
def laidT : List (String × DataW Unit) := Rows.schemeNamesRow.laid
noncomputable def laidW (os : Os) : World := World.laidAll Tryz.prog os laidT
theorem laidW_os (os : Os) : (laidW os).os = os := World.laidAll_os _ _ _
theorem laidW_fits (os : Os) : (World.holding Tryz.prog os ⟨#[], #[], []⟩).layFits Tryz.prog laidT [] = true := by kernel_rfl
theorem laidW_ifaces (os : Os) : (World.holding Tryz.prog os ⟨#[], #[], []⟩).layIfaces Tryz.prog laidT (World.laidAll Tryz.prog os laidT) = true := by kernel_rfl
theorem laidW_met (os : Os) (args : Array Value) : laidMet Tryz.prog laidT ((laidW os).forCall (fun _ _ => 0) ⟨#[], args, []⟩).memory := laidMet_laidAll args (laidW_fits os) (laidW_ifaces os)
theorem own : ownKnob Tryz.prog.godebug = none := by kernel_rfl
theorem laidOut : laidOutB Tryz.prog = true := by kernel_rfl
theorem laidT_plain {W : World} (h : laidMetH Tryz.prog laidT W) : laidMet Tryz.prog laidT W := by
  rw [MakeChecks.laidMetH_plain _ _ _ (by kernel_rfl)] at h
  exact h
theorem gPowType : (Tryz.prog.globals[0]?).map (·.type) = some 192 := by kernel_rfl
theorem pow10_of_laid {W : World} (h : laidMetH Tryz.prog laidT W) : PowV W := by
  have h2 : laidMet Tryz.prog (("internal/strconv.uint64pow10", Lib.tabData .u64 Lib.pow10Tab) :: laidT.tail.tail.tail) W := (laidT_plain h).tail.tail
  exact Lib.tabIs_of_head gPow gPowType Tryz.underlying192 Tryz.underlying177 (by kernel_rfl) (by kernel_rfl) h2
theorem bulk_pos {H : Type} (d : DataW H) : 1 ≤ Rows.uptoBulk d := by
  cases d with
  | lit l => cases l <;> simp [Rows.uptoBulk]
  | _ => simp [Rows.uptoBulk]
theorem bulk_len {H : Type} : ∀ l : List (DataW H), l.length ≤ Rows.uptoBulkAll l
  | [] => by simp [Rows.uptoBulkAll]
  | d :: r => by
    have := bulk_len r
    have := bulk_pos d
    simp only [Rows.uptoBulkAll, List.length_cons]
    omega
end Go.Proofs.YtobofhiakgohfaaGreatDoor
