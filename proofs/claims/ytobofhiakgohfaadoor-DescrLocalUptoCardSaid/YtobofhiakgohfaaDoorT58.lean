/- The walk of DescrLocal. -/
import Derived.Test.YtobofhiakgohfaaDoorT56
import Derived.Test.YtobofhiakgohfaaDoorT57
set_option linter.unusedVariables false
namespace Go.Proofs.YtobofhiakgohfaaDoor
open Go.RowKit

/-- The variable bytealg.MaxLen holds a number. -/
def MaxV (w : World) : Prop := ∃ m : Int, w.cell? ⟨0, 0, none⟩ = some (.int .i64 m)
theorem descrLocal_walk (w : World) (hM : MaxV w) (s m : ByteArray) (hs : s.size + m.size + 2 ≤ 1048576) : Calls Tryd.prog 13 #[.string s, .string m] w fun e w' => e = .returned (.bool true) ∧ Below w.heap.size w w' := by
  obtain ⟨mm, hm⟩ := hM
  cases hE : parseR s with
  | ok d => exact descrLocal_right w mm hm s m d (by omega) hE
  | error x =>
    obtain ⟨p, er⟩ := x
    exact descrLocal_wrong w s m p er hE hs
end Go.Proofs.YtobofhiakgohfaaDoor
