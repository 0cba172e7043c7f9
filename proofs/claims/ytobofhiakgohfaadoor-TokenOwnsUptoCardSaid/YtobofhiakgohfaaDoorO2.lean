/- mem.Spare, mem.Kept; a new cursor lies apart. -/
import Derived.Test.YtobofhiakgohfaaDoorO1
set_option linter.unusedVariables false
set_option linter.unusedSimpArgs false
namespace Go.Proofs.YtobofhiakgohfaaDoor
open Go.RowKit

def tail4 : List UInt8 := [91, 92, 93, 94]

set_option maxRecDepth 100000 in
set_option maxHeartbeats 1000000 in
theorem spare_any (w : World) (B : Nat) (A : Option Addr) (c : Nat) (l : List UInt8) (hB : B ≤ w.heap.size) (h1 : l.length ≤ c) (h2 : c ≤ 9223372036854775807) (h3 : l.length ≤ 140737488355328) (hr : Reads w B 1 A l.length (bvs l)) :
    Calls Tryd.prog 36 #[.slice A l.length c] w fun e w' => ∃ r, e = .returned r ∧ w'.ownsRow w.heap.size 5 1 r (l.length + 4) (bvs (l ++ tail4)) ∧ K0 w w' := by
  obtain ⟨i0, hi, hz0, hz1, hz2⟩ := info_parts u8_info
  go_enter Tryd.func36, Tryd.ntmps36
  go_wp2_with (first
    | (at_make; refine wpList_make_own _ rfl _ _ 44 rfl w.heap.size 5 i0 _ 1 Tryd.underlying44 hi hz0 hz1 .i64 .i64 ((l.length : Int) + 4) (l.length + 4) rfl rfl (by omega) (by rw [hz2]; omega) (by simp only [maxLen]; omega) (Nat.le_refl _) ?_; intro w1 ho1 hg1; have hr1 := hr.grown hg1 hB (fun g h => by cases h); have hs1 := hg1.size)
    | (at_builtin; refine wpList_append_old _ rfl (.tmp 6) (.tmp 7) _ rfl w.heap.size 5 i0 _ 1 1 Tryd.underlying44 hi hz0 hz1 hz2 rfl (by omega) (.slice (some ⟨w.heap.size, 0, none⟩) 0 (l.length + 4)) 0 [] rfl (by exact ho1) B A l.length c (bvs l) rfl (by exact hr1) (bvs_one l) (by simp only [maxLen]; omega) (by omega) (by exact hs1) ?_; intro v2 w2 ho2 hg2 hat2 hold2; rw [Nat.zero_add, List.nil_append] at ho2; have hs2 := hg2.size)
    | (at_builtin; refine wpList_append_old _ rfl (.tmp 8) (.tmp 9) _ rfl w.heap.size 5 i0 _ 1 1 Tryd.underlying44 hi hz0 hz1 hz2 rfl (by omega) v2 l.length (bvs l) rfl (by exact ho2.alloc _) (w2.heap.size + 1) (some ⟨w2.heap.size, 0, none⟩) 4 4 (bvs tail4) rfl (by exact reads_lit _ #[.int .u8 91, .int .u8 92, .int .u8 93, .int .u8 94] 4 5 rfl) (bvs_one _) (by simp only [maxLen]; omega) (by omega) (by simp; omega) ?_; intro v3 w3 ho3 hg3 hat3 hold3))
  go_ret
  rw [← bvs_append] at ho3
  refine ⟨_, rfl, ho3, ?_⟩
  have k1 : K0 w w1 := (Kp.refl _ _).grown hg1 (fun k h => by cases h)
  have k2 : K0 w w2 := k1.grown hg2 (fun k h => by cases h; exact .inl (Nat.le_refl _))
  exact (k2.alloc _).grown hg3 (fun k h => .inl (ho2.lt k h).1)

set_option maxRecDepth 100000 in
set_option maxHeartbeats 400000 in
theorem kept_any (w : World) (B B' : Nat) (A A' : Option Addr) (c c' : Nat) (l : List UInt8) (h3 : l.length ≤ 140737488355328) (hr : Reads w B 1 A (l.length + 4) (bvs (l ++ tail4))) (hr' : Reads w B' 1 A' l.length (bvs l)) :
    Calls Tryd.prog 37 #[.slice A (l.length + 4) c, .slice A' l.length c'] w fun e w' => e = .returned (.bool true) ∧ w = w' := by
  have cv1 := conv_str (P := Tryd.prog) 44 9 5 Tryd.underlying44 Tryd.underlying5 Tryd.underlying9 hr (by simp [tail4]) (c := c)
  have cv2 := conv_str (P := Tryd.prog) 44 9 5 Tryd.underlying44 Tryd.underlying5 Tryd.underlying9 hr' rfl (c := c')
  go_enter Tryd.func37, Tryd.ntmps37
  go_wp2
  go_ret
  refine ⟨?_, rfl⟩
  rw [ByteArray.mk_append_mk, ByteArray.toList_eq]
  simp [tail4]

end Go.Proofs.YtobofhiakgohfaaDoor
