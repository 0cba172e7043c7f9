/- A struct of three numbers and a bool, opened. -/
import Derived.Test.YtobofhiakgohfaaDoorRR
import Derived.Test.YtobofhiakgohfaaDoorT53
import Derived.Lib.SmallJoins
set_option linter.unusedVariables false
set_option linter.unusedSimpArgs false
namespace Go.Proofs.YtobofhiakgohfaaDoor
open Go.ChangeShapes Go.WideShapes Go.ChangeAt Go.RowKit Go.Lib

set_option maxRecDepth 100000 in
theorem open_big {H : Type} {enc : TypeId × Value → H} {W : World} {base : Nat} {v : Value} {d : DataW H} {p : List MemPlace} (hv : Value.okWide Tryd.prog W .any base 80 v) (h : DataW.Trod enc Tryd.prog W 0 (fun _ => true) true 80 v d p) : ∃ a b c r, v = .agg #[.int .i64 a, .int .i64 b, .int .i64 c, .bool r] := by
  obtain ⟨v0, v1, v2, v3, y0, y1, y2, y3, n, rfl, _, _, h0, h1, h2, h3⟩ := Go.Joins.open_agg4 Tryd.underlying80 (by kernel_rfl) (by kernel_rfl) hv h
  obtain ⟨a, e0, _⟩ := DataW.trod_int Tryd.underlying3 h0
  obtain ⟨b, e1, _⟩ := DataW.trod_int Tryd.underlying3 h1
  obtain ⟨c, e2, _⟩ := DataW.trod_int Tryd.underlying3 h2
  obtain ⟨r, e3, _⟩ := DataW.trod_bool Tryd.underlying4 h3
  cases e0
  cases e1
  cases e2
  cases e3
  exact ⟨a, b, c, r, rfl⟩
end Go.Proofs.YtobofhiakgohfaaDoor
