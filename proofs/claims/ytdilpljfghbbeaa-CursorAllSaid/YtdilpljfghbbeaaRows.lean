/-
  No cell of these rows narrows 'for every input' (looked for: loops, veiled, ifaces, maps, wideKeys, modest, calm, conditions, laid).
  DERIVED. THE GIVEN ROWS OF THIS SEAT. 7 by the template 'for every input the law returns true; each argument reads behind the call as it read before'; 0 by the template 'total and deterministic' (their statements: YtdilpljfghbbeaaTotals.lean).
  GIVEN WITH THE SEED: the statements are not yours to turn. If you find one false, say at which input.
  Laid BY PROGRAM, IN A SANDBOX (cutbox-rows.mjs): the forced cells as the released guide's own fill.sh prints them over the translation 25280960aa31317f… (all of the seat's roots in one cut). By AI agents, Wed Nov 11 2026. No macro, syntax, notation, axiom, sorry.
-/
import Derived.Test.YtdilpljfghbbeaaChecked
import GoSem.Claim
import GoSem.ClaimJoined
import GoSem.ClaimMapViews
import Derived.JoinedTies
import Derived.KernelRfl
namespace Go.Proofs.Ytdilpljfghbbeaa
/- THE CELL 'sum', in the pinned program and in every row, IS THE sha256 OF THE DUMP (.gsa) THAT YtdilpljfghbbeaaProg.lean LOADS. Nothing in Lean hashes anything: it is a label: what it is worth is what the hold of that sum in a sandbox is worth. -/
noncomputable def Try.pinned : Pinned := { name := "ytdilpljfghbbeaa", sum := "25280960aa31317f1ce260110399ef955fa6760e5eeebb053cb54a5119a247b8", checked := Try.checked }
namespace Rows
def none {H : Type} : Left H := { results := [], args := [] }

/-- 'leadtraillaw01.CursorNames': WHATEVER THE INPUT: true; the input reads as it did. -/
def cursorNamesSpec : ChangeSpec := { name := "cursorNames", fn := fun _ => fun
  | [] => { results := [.lit (.bool true)], args := [] }
  | _ => none }
def cursorNamesRow : OpenClaim := { program := "ytdilpljfghbbeaa", sum := "25280960aa31317f1ce260110399ef955fa6760e5eeebb053cb54a5119a247b8", func := "leadtrail/leadtraillaw01.CursorNames", spec := "cursorNames", apart := false }
def CursorNamesSaid : Prop := cursorNamesRow.holds Try.pinned (OpenSpec.ofChange cursorNamesSpec)

/-- ITS FALSE NEIGHBOUR: 'it returns false'. Refute it at one input. -/
def cursorNamesWrong : ChangeSpec := { name := "cursorNames", fn := fun _ => fun
  | [] => { results := [.lit (.bool false)], args := [] }
  | _ => none }
def CursorNamesWrongFalsely : Prop := cursorNamesRow.holds Try.pinned (OpenSpec.ofChange cursorNamesWrong)

/-- 'leadtraillaw01.CursorAll': WHATEVER THE INPUT: true; the input reads as it did. -/
def cursorAllSpec : ChangeSpec := { name := "cursorAll", fn := fun _ => fun
  | [d1, d2, d3] => { results := [.lit (.bool true)], args := [d1, d2, d3] }
  | _ => none }
def cursorAllRow : OpenClaim := { program := "ytdilpljfghbbeaa", sum := "25280960aa31317f1ce260110399ef955fa6760e5eeebb053cb54a5119a247b8", func := "leadtrail/leadtraillaw01.CursorAll", spec := "cursorAll", unfollowed := true, recurses := true, apart := false }
def CursorAllSaid : Prop := cursorAllRow.holds Try.pinned (OpenSpec.ofChange cursorAllSpec)

/-- ITS FALSE NEIGHBOUR: 'it returns false'. Refute it at one input. -/
def cursorAllWrong : ChangeSpec := { name := "cursorAll", fn := fun _ => fun
  | [d1, d2, d3] => { results := [.lit (.bool false)], args := [d1, d2, d3] }
  | _ => none }
def CursorAllWrongFalsely : Prop := cursorAllRow.holds Try.pinned (OpenSpec.ofChange cursorAllWrong)

/-- 'leadtraillaw01.CursorPieces': WHATEVER THE INPUT: true; the input reads as it did. -/
def cursorPiecesSpec : ChangeSpec := { name := "cursorPieces", fn := fun _ => fun
  | [d1, d2] => { results := [.lit (.bool true)], args := [d1, d2] }
  | _ => none }
def cursorPiecesRow : OpenClaim := { program := "ytdilpljfghbbeaa", sum := "25280960aa31317f1ce260110399ef955fa6760e5eeebb053cb54a5119a247b8", func := "leadtrail/leadtraillaw01.CursorPieces", spec := "cursorPieces", apart := false }
def CursorPiecesSaid : Prop := cursorPiecesRow.holds Try.pinned (OpenSpec.ofChange cursorPiecesSpec)

/-- ITS FALSE NEIGHBOUR: 'it returns false'. Refute it at one input. -/
def cursorPiecesWrong : ChangeSpec := { name := "cursorPieces", fn := fun _ => fun
  | [d1, d2] => { results := [.lit (.bool false)], args := [d1, d2] }
  | _ => none }
def CursorPiecesWrongFalsely : Prop := cursorPiecesRow.holds Try.pinned (OpenSpec.ofChange cursorPiecesWrong)

/-- 'leadtraillaw01.CursorLines': WHATEVER THE INPUT: true; the input reads as it did. -/
def cursorLinesSpec : ChangeSpec := { name := "cursorLines", fn := fun _ => fun
  | [d1, d2] => { results := [.lit (.bool true)], args := [d1, d2] }
  | _ => none }
def cursorLinesRow : OpenClaim := { program := "ytdilpljfghbbeaa", sum := "25280960aa31317f1ce260110399ef955fa6760e5eeebb053cb54a5119a247b8", func := "leadtrail/leadtraillaw01.CursorLines", spec := "cursorLines", inPlace := ["internal/bytealg.IndexByte"], apart := false }
def CursorLinesSaid : Prop := cursorLinesRow.holds Try.pinned (OpenSpec.ofChange cursorLinesSpec)

/-- ITS FALSE NEIGHBOUR: 'it returns false'. Refute it at one input. -/
def cursorLinesWrong : ChangeSpec := { name := "cursorLines", fn := fun _ => fun
  | [d1, d2] => { results := [.lit (.bool false)], args := [d1, d2] }
  | _ => none }
def CursorLinesWrongFalsely : Prop := cursorLinesRow.holds Try.pinned (OpenSpec.ofChange cursorLinesWrong)

/-- 'leadtraillaw01.CursorPlays': WHATEVER THE INPUT: true; the input reads as it did. -/
def cursorPlaysSpec : ChangeSpec := { name := "cursorPlays", fn := fun _ => fun
  | [d1, d2] => { results := [.lit (.bool true)], args := [d1, d2] }
  | _ => none }
def cursorPlaysRow : OpenClaim := { program := "ytdilpljfghbbeaa", sum := "25280960aa31317f1ce260110399ef955fa6760e5eeebb053cb54a5119a247b8", func := "leadtrail/leadtraillaw01.CursorPlays", spec := "cursorPlays", inPlace := ["internal/bytealg.IndexByte"], apart := false }
def CursorPlaysSaid : Prop := cursorPlaysRow.holds Try.pinned (OpenSpec.ofChange cursorPlaysSpec)

/-- ITS FALSE NEIGHBOUR: 'it returns false'. Refute it at one input. -/
def cursorPlaysWrong : ChangeSpec := { name := "cursorPlays", fn := fun _ => fun
  | [d1, d2] => { results := [.lit (.bool false)], args := [d1, d2] }
  | _ => none }
def CursorPlaysWrongFalsely : Prop := cursorPlaysRow.holds Try.pinned (OpenSpec.ofChange cursorPlaysWrong)

/-- 'leadtraillaw01.CursorOwns': WHATEVER THE INPUT: true; the input reads as it did. -/
def cursorOwnsSpec : ChangeSpec := { name := "cursorOwns", fn := fun _ => fun
  | [d1, d2] => { results := [.lit (.bool true)], args := [d1, d2] }
  | _ => none }
def cursorOwnsRow : OpenClaim := { program := "ytdilpljfghbbeaa", sum := "25280960aa31317f1ce260110399ef955fa6760e5eeebb053cb54a5119a247b8", func := "leadtrail/leadtraillaw01.CursorOwns", spec := "cursorOwns", inPlace := ["internal/bytealg.IndexByte"], apart := false }
def CursorOwnsSaid : Prop := cursorOwnsRow.holds Try.pinned (OpenSpec.ofChange cursorOwnsSpec)

/-- ITS FALSE NEIGHBOUR: 'it returns false'. Refute it at one input. -/
def cursorOwnsWrong : ChangeSpec := { name := "cursorOwns", fn := fun _ => fun
  | [d1, d2] => { results := [.lit (.bool false)], args := [d1, d2] }
  | _ => none }
def CursorOwnsWrongFalsely : Prop := cursorOwnsRow.holds Try.pinned (OpenSpec.ofChange cursorOwnsWrong)

/-- 'leadtraillaw01.CursorNil': WHATEVER THE INPUT: true; the input reads as it did. -/
def cursorNilSpec : ChangeSpec := { name := "cursorNil", fn := fun _ => fun
  | [d] => { results := [.lit (.bool true)], args := [d] }
  | _ => none }
def cursorNilRow : OpenClaim := { program := "ytdilpljfghbbeaa", sum := "25280960aa31317f1ce260110399ef955fa6760e5eeebb053cb54a5119a247b8", func := "leadtrail/leadtraillaw01.CursorNil", spec := "cursorNil", inPlace := ["internal/bytealg.IndexByte"], apart := false }
def CursorNilSaid : Prop := cursorNilRow.holds Try.pinned (OpenSpec.ofChange cursorNilSpec)

/-- ITS FALSE NEIGHBOUR: 'it returns false'. Refute it at one input. -/
def cursorNilWrong : ChangeSpec := { name := "cursorNil", fn := fun _ => fun
  | [d] => { results := [.lit (.bool false)], args := [d] }
  | _ => none }
def CursorNilWrongFalsely : Prop := cursorNilRow.holds Try.pinned (OpenSpec.ofChange cursorNilWrong)

/- THE SECOND FORM. 'bulk': how many values and letters a reading holds, each counted each time it is reached (what is shared counts as often as it is met; a slice's spare places count too). A statement '..UptoSaid' is the law's where the arguments, and the package variables that the reading takes, are together of bulk at most 1048576: NARROWER than '..Said'. Prove '..Said' where nothing that the law and all that it calls make is longer than what came in: it says more and counts as full. Else prove '..UptoSaid'. A law counts once. -/
mutual
def uptoBulk {H : Type} : DataW H → Nat
  | .lit (.string bytes) => bytes.length + 1
  | .lit _ => 1
  | .nil => 1
  | .ptr d => uptoBulk d + 1
  | .slice elems spare => uptoBulkAll elems + uptoBulkAll spare + 1
  | .agg parts => uptoBulkAll parts + 1
  | .iface _ d => uptoBulk d + 1
  | .map entries => uptoBulkEntries entries + 1
  | .held _ => 1
def uptoBulkAll {H : Type} : List (DataW H) → Nat
  | [] => 0
  | d :: r => uptoBulk d + uptoBulkAll r
def uptoBulkEntries {H : Type} : List (Lit × DataW H) → Nat
  | [] => 0
  | x :: r => uptoBulkEntry x + uptoBulkEntries r
def uptoBulkEntry {H : Type} : Lit × DataW H → Nat
  | (.string bytes, d) => bytes.length + uptoBulk d + 1
  | (_, d) => uptoBulk d + 1
 end
def uptoSmall : (H : Type) → List (DataW H) → Bool := fun _ ds => decide (uptoBulkAll ds ≤ 1048576)
def OpenSpec.upto (s : _root_.Go.ChangeSpec) : _root_.Go.OpenSpec := { _root_.Go.OpenSpec.ofChange s with cond := some uptoSmall }

/-- 'leadtraillaw01.CursorNames', WHERE WHAT IT READS IS OF BULK AT MOST 1048576: true; the input reads as it did. -/
def cursorNamesUptoRow : OpenClaim := { program := "ytdilpljfghbbeaa", sum := "25280960aa31317f1ce260110399ef955fa6760e5eeebb053cb54a5119a247b8", func := "leadtrail/leadtraillaw01.CursorNames", spec := "cursorNames", apart := false, narrowed := true }
def CursorNamesUptoSaid : Prop := cursorNamesUptoRow.holds Try.pinned (OpenSpec.upto cursorNamesSpec)

/-- 'leadtraillaw01.CursorAll', WHERE WHAT IT READS IS OF BULK AT MOST 1048576: true; the input reads as it did. -/
def cursorAllUptoRow : OpenClaim := { program := "ytdilpljfghbbeaa", sum := "25280960aa31317f1ce260110399ef955fa6760e5eeebb053cb54a5119a247b8", func := "leadtrail/leadtraillaw01.CursorAll", spec := "cursorAll", unfollowed := true, recurses := true, apart := false, narrowed := true }
def CursorAllUptoSaid : Prop := cursorAllUptoRow.holds Try.pinned (OpenSpec.upto cursorAllSpec)

/-- 'leadtraillaw01.CursorPieces', WHERE WHAT IT READS IS OF BULK AT MOST 1048576: true; the input reads as it did. -/
def cursorPiecesUptoRow : OpenClaim := { program := "ytdilpljfghbbeaa", sum := "25280960aa31317f1ce260110399ef955fa6760e5eeebb053cb54a5119a247b8", func := "leadtrail/leadtraillaw01.CursorPieces", spec := "cursorPieces", apart := false, narrowed := true }
def CursorPiecesUptoSaid : Prop := cursorPiecesUptoRow.holds Try.pinned (OpenSpec.upto cursorPiecesSpec)

/-- 'leadtraillaw01.CursorLines', WHERE WHAT IT READS IS OF BULK AT MOST 1048576: true; the input reads as it did. -/
def cursorLinesUptoRow : OpenClaim := { program := "ytdilpljfghbbeaa", sum := "25280960aa31317f1ce260110399ef955fa6760e5eeebb053cb54a5119a247b8", func := "leadtrail/leadtraillaw01.CursorLines", spec := "cursorLines", inPlace := ["internal/bytealg.IndexByte"], apart := false, narrowed := true }
def CursorLinesUptoSaid : Prop := cursorLinesUptoRow.holds Try.pinned (OpenSpec.upto cursorLinesSpec)

/-- 'leadtraillaw01.CursorPlays', WHERE WHAT IT READS IS OF BULK AT MOST 1048576: true; the input reads as it did. -/
def cursorPlaysUptoRow : OpenClaim := { program := "ytdilpljfghbbeaa", sum := "25280960aa31317f1ce260110399ef955fa6760e5eeebb053cb54a5119a247b8", func := "leadtrail/leadtraillaw01.CursorPlays", spec := "cursorPlays", inPlace := ["internal/bytealg.IndexByte"], apart := false, narrowed := true }
def CursorPlaysUptoSaid : Prop := cursorPlaysUptoRow.holds Try.pinned (OpenSpec.upto cursorPlaysSpec)

/-- 'leadtraillaw01.CursorOwns', WHERE WHAT IT READS IS OF BULK AT MOST 1048576: true; the input reads as it did. -/
def cursorOwnsUptoRow : OpenClaim := { program := "ytdilpljfghbbeaa", sum := "25280960aa31317f1ce260110399ef955fa6760e5eeebb053cb54a5119a247b8", func := "leadtrail/leadtraillaw01.CursorOwns", spec := "cursorOwns", inPlace := ["internal/bytealg.IndexByte"], apart := false, narrowed := true }
def CursorOwnsUptoSaid : Prop := cursorOwnsUptoRow.holds Try.pinned (OpenSpec.upto cursorOwnsSpec)

/-- 'leadtraillaw01.CursorNil', WHERE WHAT IT READS IS OF BULK AT MOST 1048576: true; the input reads as it did. -/
def cursorNilUptoRow : OpenClaim := { program := "ytdilpljfghbbeaa", sum := "25280960aa31317f1ce260110399ef955fa6760e5eeebb053cb54a5119a247b8", func := "leadtrail/leadtraillaw01.CursorNil", spec := "cursorNil", inPlace := ["internal/bytealg.IndexByte"], apart := false, narrowed := true }
def CursorNilUptoSaid : Prop := cursorNilUptoRow.holds Try.pinned (OpenSpec.upto cursorNilSpec)

end Rows
end Go.Proofs.Ytdilpljfghbbeaa
