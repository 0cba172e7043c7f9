/- the law's example. -/
import Derived.Test.YtobofhiakgohfaaDoorT14
import Derived.Test.YtobofhiakgohfaaDoorTD
import Derived.Test.YtobofhiakgohfaaDoorTC
import Derived.Test.YtobofhiakgohfaaDoorTB
set_option linter.unusedVariables false
set_option linter.unusedSimpArgs false
namespace Go.Proofs.YtobofhiakgohfaaDoor
open Go.RowKit

theorem ba_ext {a b : ByteArray} (h : a.data.toList = b.data.toList) : a = b := by
  cases a; cases b
  rename_i a b
  have : a = b := Array.ext' h
  rw [this]

def ex80BF : ByteArray := ⟨#[56, 48, 45, 66, 70]⟩
theorem item_80BF (w : World) : Calls Tryd.prog 26 #[.string ⟨#[56, 48, 45, 66, 70]⟩] w fun e w' => e = .returned (.tuple #[itemVal ⟨#[]⟩ 128 191, .bool true]) ∧ K0 w w' := by
  refine (item_any ⟨#[56, 48, 45, 66, 70]⟩ w (by decide)).mono ?_
  rintro e w' ⟨rfl, hk⟩
  have h : itemR ⟨#[56, 48, 45, 66, 70]⟩ = (itemVal ⟨#[]⟩ 128 191, true) := by
    have h1 : ¬ nameB [56, 48, 45, 66, 70] = true := by decide
    have h2 : pairI [56, 48, 45, 66, 70] 0 = 128 := by decide
    have h3 : pairI [56, 48, 45, 66, 70] 3 = 191 := by decide
    unfold itemR
    show (if nameB [56, 48, 45, 66, 70] = true then _ else if (5 = 2 ∧ 0 ≤ pairI [56, 48, 45, 66, 70] 0) then _ else if (5 = 5 ∧ 0 ≤ pairI [56, 48, 45, 66, 70] 0 ∧ (45 : UInt8) = 45 ∧ pairI [56, 48, 45, 66, 70] 0 ≤ pairI [56, 48, 45, 66, 70] 3) then (itemVal ⟨#[]⟩ (pairI [56, 48, 45, 66, 70] 0) (pairI [56, 48, 45, 66, 70] 3), true) else _) = _
    rw [if_neg h1, h2, h3, if_neg (by decide), if_pos (by decide)]
  rw [h]
  exact ⟨rfl, hk⟩
theorem number_65536 (w : World) : Calls Tryd.prog 28 #[.string ⟨#[54, 53, 53, 51, 54]⟩] w fun e w' => e = .returned (.tuple #[.int .i64 65536, .bool true]) ∧ K0 w w' := by
  refine (number_any ⟨#[54, 53, 53, 51, 54]⟩ w (by decide) (by decide)).mono ?_
  rintro e w' ⟨rfl, hk⟩
  have h : numR [54, 53, 53, 51, 54] = some 65536 := by decide +kernel
  exact ⟨by show Ending.returned (.tuple #[.int .i64 (((numR [54, 53, 53, 51, 54]).getD 0 : Nat) : Int), .bool (numR [54, 53, 53, 51, 54]).isSome]) = _; rw [h]; rfl, hk⟩
theorem reads_new (w : World) (t : TypeId) (cs : Array Value) (n size : Nat) (h : cs.size = n * size) : Reads (w.alloc (.cells cs t)) (w.heap.size + 1) size (some ⟨w.heap.size, 0, none⟩) n cs.toList :=
  ⟨by simpa using h, fun _ => ⟨_, rfl, by simp, World.news_of_block (cs := cs) (t := t) (fr := (0, 0)) (heap_alloc_new _ _)⟩⟩

def exText : ByteArray := ⟨#[99, 108, 97, 115, 115, 32, 97, 32, 35, 32, 120, 10, 52, 49]⟩
def exToks : List TV := [(1, ⟨#[99, 108, 97, 115, 115]⟩, 0), (1, ⟨#[97]⟩, 6), (2, ⟨#[10]⟩, 11), (1, ⟨#[52, 49]⟩, 12), (3, ⟨#[]⟩, 14)]
theorem exText_toks : toks exText.data.toList = [⟨1, 0, 5⟩, ⟨1, 6, 1⟩, ⟨2, 11, 1⟩, ⟨1, 12, 2⟩, ⟨3, 14, 0⟩] := by decide
theorem exText_tv : (toks exText.data.toList).map (tv exText) = exToks := by
  rw [exText_toks]
  have e1 : exText.extract 0 (0 + 5) = ⟨#[99, 108, 97, 115, 115]⟩ := ba_ext (by rw [extract_list]; rfl)
  have e2 : exText.extract 6 (6 + 1) = ⟨#[97]⟩ := ba_ext (by rw [extract_list]; rfl)
  have e3 : exText.extract 12 (12 + 2) = ⟨#[52, 49]⟩ := ba_ext (by rw [extract_list]; rfl)
  show [((1 : Int), exText.extract 0 (0 + 5), (0 : Int)), (1, exText.extract 6 (6 + 1), 6), (2, ⟨#[10]⟩, 11), (1, exText.extract 12 (12 + 2), 12), (3, ⟨#[]⟩, 14)] = _
  rw [e1, e2, e3]
  rfl
theorem listed_ex (w : World) : Calls Tryd.prog 25 #[.string ⟨#[99, 108, 97, 115, 115, 32, 97, 32, 35, 32, 120, 10, 52, 49]⟩] w fun e w' => ∃ A c, e = .returned (.slice A 5 c) ∧ w'.ownsRow w.heap.size 42 3 (.slice A 5 c) 5 (tcells exToks) ∧ K0 w w' := by
  refine (listed_any exText w (by decide)).mono ?_
  rintro e w' ⟨v, rfl, hown, hk⟩
  rw [exText_tv, exText_toks] at hown
  obtain ⟨A, c, rfl, _, _⟩ := own_form hown
  exact ⟨A, c, rfl, hown, hk⟩

set_option maxRecDepth 100000 in
set_option maxHeartbeats 4000000 in
theorem fixed_any (w : World) : Calls Tryd.prog 22 #[] w fun e w' => e = .returned (.bool true) ∧ K0 w w' := by
  go_enter Tryd.func22, Tryd.ntmps22
  go_wp2_with fail
  refine (item_80BF _).mono ?_
  rintro e w1 ⟨rfl, hk1⟩
  unfold itemVal
  go_wp2_with fail
  refine (number_65536 _).mono ?_
  rintro e w2 ⟨rfl, hk2⟩
  have yb := (Blk.new w1 47 #[.string ⟨#[]⟩, .int .i64 128, .int .i64 191, .int .i64 0]).kp hk2 (fun h => h)
  have x0 := yb.cell 0
  have x1 := yb.cell 1
  have x2 := yb.cell 2
  have x3 := yb.cell 3
  simp at x0 x1 x2 x3
  have hk02 : K0 w w2 := (hk1.alloc _).trans hk2
  have DG : Calls Tryd.prog 35 #[.slice (some ⟨w2.heap.size, 0, none⟩) 2 2] (w2.alloc (.cells #[.int .u8 195, .int .u8 10] 5)) fun e w' => e = .returned (.string ⟨#[67, 51, 48, 65]⟩) ∧ K0 (w2.alloc (.cells #[.int .u8 195, .int .u8 10] 5)) w' :=
    digits_any (some ⟨w2.heap.size, 0, none⟩) 2 [195, 10] _ (by rw [World.size_alloc]; exact reads_new w2 5 #[.int .u8 195, .int .u8 10] 2 1 rfl) (by decide)
  go_wp2_with (go_at_call 35; refine DG.mono ?_; rintro e w3 ⟨rfl, hk3⟩)
  clear DG
  refine (listed_ex _).mono ?_
  rintro e w4 ⟨A4, c4, rfl, hown4, hk4⟩
  have hk04 : K0 w w4 := ((hk02.alloc _).trans hk3).trans hk4
  go_wp2_with fail
  refine (same_eq A4 (some ⟨w4.heap.size, 0, none⟩) c4 5 exToks _ (by decide) (Reads.of_own (by exact hown4.alloc _)) (by rw [World.size_alloc]; exact reads_new w4 42 (tcells exToks).toArray 5 3 rfl)).mono ?_
  rintro e w5 ⟨rfl, hk5⟩
  go_wp2
  go_ret
  exact ⟨rfl, (hk04.alloc _).trans hk5⟩
end Go.Proofs.YtobofhiakgohfaaDoor
