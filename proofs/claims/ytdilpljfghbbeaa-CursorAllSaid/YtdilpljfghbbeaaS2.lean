/- One call on both cursors: Until. -/
import Derived.Test.YtdilpljfghbbeaaS1
set_option linter.unusedVariables false
set_option linter.unusedSimpArgs false
namespace Go.Proofs.Ytdilpljfghbbeaa
open Go.RowKit

set_option maxRecDepth 100000 in
set_option maxHeartbeats 2000000 in
theorem step_until (B Bm k pm : Nat) (v : Value) (bs : List UInt8) (n : Int) (b : UInt8) (w : World) (hB : B ≤ w.heap.size) (hc : CurV w B v bs k) (hm : RefB w Bm pm bs k) (hBm : ∀ b, v = .pointer (some ⟨b, 0, none⟩) → Bm ≤ b) :
    Calls Try.prog 20 #[v, .pointer (some ⟨pm, 0, none⟩), .agg #[.int .i64 5, .int .i64 n, .int .u8 (b.toNat : Int)]] w (StepPost w B Bm v pm bs) := by
  have hk1 : K0 w (w.alloc (.cells #[.int .i64 5, .int .i64 n, .int .u8 (b.toNat : Int)] 47)) := (Kp.refl _ w).alloc _
  have hbx : Blk (w.alloc (.cells #[.int .i64 5, .int .i64 n, .int .u8 (b.toNat : Int)] 47)) w.heap.size 47 #[.int .i64 5, .int .i64 n, .int .u8 (b.toNat : Int)] := Blk.new _ _ _
  have hc1 := hc.k0 hB hk1
  have hm1 := hm.kp hk1 (fun h => h) (fun _ _ h => h)
  have hB1 : B ≤ (w.alloc (.cells #[.int .i64 5, .int .i64 n, .int .u8 (b.toNat : Int)] 47)).heap.size := Nat.le_trans hB hk1.size
  have G1 := Lib.hid (fun W => until_any B k v bs b W)
  have G2 := Lib.hid (fun W => runtil_any Bm k pm bs b W)
  generalize untilOf bs k b = l at *
  have hpm : pm < w.heap.size := by obtain ⟨_, hp⟩ := hm.blk; exact hp.lt
  go_enter Try.func20, Try.ntmps20
  go_wp2_with fail
  go_region_with (first
      | (go_at_call 19; refine (G1.out _ (by exact hB1) (by exact hc1.drewN 1)).mono ?_; rintro e w1 ⟨r1, rfl, ho1, hc2, hkc⟩; have hm2 := RefB.kc (hm1.drewN 1) (hc1.drewN 1) hkc hBm; have hbx1 := box_kept (hbx.drewN 1) (hc1.drewN 1) hkc; have bx1 := hbx1.cell 2; simp at bx1; obtain ⟨A1, cc1, rfl, _, _⟩ := own_form ho1; have cv1 := conv_str (P := Try.prog) 23 9 5 Try.underlying23 Try.underlying5 Try.underlying9 (Reads.of_own ho1) rfl (c := cc1))
      | (go_at_call 35; refine (G2.out _ (by exact hm2)).mono ?_; rintro e w2 ⟨r2, rfl, ho2, hm3, hkm⟩; have hbx2 : Blk w2 w.heap.size 47 #[.int .i64 5, .int .i64 n, .int .u8 (b.toNat : Int)] := hbx1.kp hkm (fun e => by cases e; omega); have ho1' := own_kp ho1 hkm (fun g hg e => by cases e; simp at hg; omega); obtain ⟨A2, cc2, rfl, _, _⟩ := own_form ho2; have cv1' := conv_str (P := Try.prog) 23 9 5 Try.underlying23 Try.underlying5 Try.underlying9 (Reads.of_own ho1') rfl (c := cc1); have cv2 := conv_str (P := Try.prog) 23 9 5 Try.underlying23 Try.underlying5 Try.underlying9 (Reads.of_own ho2) rfl (c := cc2)))
  all_goals go_wp2
  all_goals go_ret
  all_goals refine ⟨rfl, k + l.length, ?_, hm3, ?_⟩
  all_goals first
    | exact hc2.kr (Nat.le_trans hB1 hkc.size) hm2 hkm
    | exact ((hk1.kp (S := fun b => v = .pointer (some ⟨b, 0, none⟩) ∨ b = pm)).drewN 1).trans ((KS.of_c hkc).trans (KS.of_m hkm))

end Go.Proofs.Ytdilpljfghbbeaa
