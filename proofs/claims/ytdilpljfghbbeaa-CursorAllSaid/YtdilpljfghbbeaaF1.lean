/- The document's example ('fixed'), and the laws that need no more than it. -/
import Derived.Test.YtdilpljfghbbeaaC5
set_option linter.unusedVariables false
set_option linter.unusedSimpArgs false
namespace Go.Proofs.Ytdilpljfghbbeaa
open Go.RowKit

theorem new_lit (l : List UInt8) (w : World) (n : Nat) (hn : n = l.length) (hl : l.length ≤ 140737488355328) : SlV (w.alloc (.cells (bvs l).toArray 5)) (w.heap.size + 1) (.slice (some ⟨w.heap.size, 0, none⟩) n n) l := by
  subst hn
  refine SlV.of rfl (Nat.le_refl _) (by omega) hl ⟨by simp [bvs], fun h => ⟨_, rfl, by simp, fun j u hu => ?_⟩⟩
  have := (Blk.new w 5 (bvs l).toArray).cell j
  have e : (⟨w.heap.size, 0, none⟩ : Addr).add j = ⟨w.heap.size, j, none⟩ := by unfold Addr.add; split <;> simp_all
  rw [e, this]
  simpa using hu

set_option maxRecDepth 100000 in
set_option maxHeartbeats 1000000 in
theorem fixed_any (w : World) : Calls Try.prog 10 #[] w fun e w' => e = .returned (.bool true) ∧ K0 w w' := by
  have H1 := Lib.hid (new_lit [1, 2, 3, 4, 5] w 5 rfl (by decide))
  go_enter Try.func10, Try.ntmps10
  go_wp2_with (first
    | (go_at_call 11; refine (new_any (w.heap.size + 1) _ [1, 2, 3, 4, 5] _ (by simp) (by exact H1.out)).mono ?_; rintro e w1 ⟨pc, rfl, hpc, hc, hk⟩; have hk1 : K0 w w1 := ((Kp.refl _ w).alloc _).trans hk; have hcv : CurV w1 w1.heap.size (.pointer (some ⟨pc, 0, none⟩)) [1, 2, 3, 4, 5] 0 := .inr ⟨pc, rfl, hc⟩)
    | (go_at_call 14; refine (next_any w1.heap.size 0 _ [1, 2, 3, 4, 5] _ hcv).mono ?_; rintro e w2 ⟨rfl, hc2, hk2⟩)
    | (go_at_call 25; refine (uint_any w1.heap.size 1 _ [1, 2, 3, 4, 5] 2 _ (by exact hk2.size) (by exact hc2)).mono ?_; rintro e w3 ⟨rfl, hc3, hk3⟩)
    | (go_at_call 12; refine (Take_any w1.heap.size 3 _ [1, 2, 3, 4, 5] 9 _ (by exact Nat.le_trans hk2.size hk3.size) (by exact hc3)).mono ?_; rintro e w4 ⟨r, rfl, ho, hc4, hk4⟩; obtain ⟨A4, c4, rfl, _, _⟩ := own_form ho)
    | (go_at_call 15; refine (place_any w1.heap.size 3 _ [1, 2, 3, 4, 5] _ (by exact hc4)).mono ?_; rintro e w5 ⟨rfl, rfl⟩)
    | (go_at_call 16; refine (left_any w1.heap.size 3 _ [1, 2, 3, 4, 5] _ (by exact hc4)).mono ?_; rintro e w6 ⟨rfl, m, rfl⟩))
  go_ret
  refine ⟨rfl, Kp.drewN ?_ _⟩
  have hpc' : w.heap.size ≤ pc := by simp at hpc; omega
  have ht : ∀ i, i < w.heap.size → Value.pointer (some ⟨pc, 0, none⟩) = .pointer (some ⟨i, 0, none⟩) → False := by
    intro i hi e
    cases e
    omega
  exact ((hk1.trans' hk2 ht).trans' hk3 ht).trans' hk4 ht

theorem cursorNames_walk (w : World) : Calls Try.prog 3 #[] w fun e w' => e = .returned (.bool true) ∧ Below w.heap.size w w' := by
  go_enter Try.func3, Try.ntmps3
  go_wp2_with (go_at_call 10; refine (fixed_any w).mono ?_; rintro e w1 ⟨rfl, hk⟩)
  go_ret
  exact ⟨rfl, hk.below⟩
end Go.Proofs.Ytdilpljfghbbeaa
