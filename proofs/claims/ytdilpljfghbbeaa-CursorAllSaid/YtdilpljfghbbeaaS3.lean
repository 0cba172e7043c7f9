/- One call on both cursors: Window. -/
import Derived.Test.YtdilpljfghbbeaaS1
set_option linter.unusedVariables false
set_option linter.unusedSimpArgs false
namespace Go.Proofs.Ytdilpljfghbbeaa
open Go.RowKit

set_option maxRecDepth 100000 in
set_option maxHeartbeats 2000000 in
theorem step_window (B Bm k pm : Nat) (v : Value) (bs : List UInt8) (n : Int) (b : Int) (w : World) (hB : B ≤ w.heap.size) (hc : CurV w B v bs k) (hm : RefB w Bm pm bs k) :
    Calls Try.prog 20 #[v, .pointer (some ⟨pm, 0, none⟩), .agg #[.int .i64 6, .int .i64 n, .int .u8 b]] w (StepPost w B Bm v pm bs) := by
  have hk1 : K0 w (w.alloc (.cells #[.int .i64 6, .int .i64 n, .int .u8 b] 47)) := (Kp.refl _ w).alloc _
  have hbx : Blk (w.alloc (.cells #[.int .i64 6, .int .i64 n, .int .u8 b] 47)) w.heap.size 47 #[.int .i64 6, .int .i64 n, .int .u8 b] := Blk.new _ _ _
  have hc1 := hc.k0 hB hk1
  have hm1 := hm.kp hk1 (fun h => h) (fun _ _ h => h)
  have hB1 : B ≤ (w.alloc (.cells #[.int .i64 6, .int .i64 n, .int .u8 b] 47)).heap.size := Nat.le_trans hB hk1.size
  have G1 := Lib.hid (fun W => window_any B k v bs n W)
  have G2 := Lib.hid (fun W => rwindow_any Bm k pm bs n W)
  generalize (bs.drop k).take n.toNat = l at *
  go_enter Try.func20, Try.ntmps20
  go_wp2_with fail
  go_region_with (first
      | (go_at_call 18; refine (G1.out _ (by exact hB1) (by exact hc1.drewN 1)).mono ?_; rintro e w1 ⟨r1, rfl, ho1, hkc⟩; have hm2 := RefB.kp (hm1.drewN 1) hkc (fun h => h) (fun _ _ h => h); have hbx1 := (hbx.drewN 1).kp hkc (fun h => h); have bx1 := hbx1.cell 1; simp at bx1; obtain ⟨A1, cc1, rfl, _, _⟩ := own_form ho1; have cv1 := conv_str (P := Try.prog) 23 9 5 Try.underlying23 Try.underlying5 Try.underlying9 (Reads.of_own ho1) rfl (c := cc1))
      | (go_at_call 36; refine (G2.out _ (by exact hm2)).mono ?_; rintro e w2 ⟨r2, rfl, ho2, hkm⟩; have hbx2 := hbx1.kp hkm (fun h => h); have ho1' := own_kp ho1 hkm (fun g hg h => h); obtain ⟨A2, cc2, rfl, _, _⟩ := own_form ho2; have cv1' := conv_str (P := Try.prog) 23 9 5 Try.underlying23 Try.underlying5 Try.underlying9 (Reads.of_own ho1') rfl (c := cc1); have cv2 := conv_str (P := Try.prog) 23 9 5 Try.underlying23 Try.underlying5 Try.underlying9 (Reads.of_own ho2) rfl (c := cc2)))
  all_goals go_wp2
  all_goals go_ret
  all_goals
    have hk2 : K0 w w2 := (hk1.drewN 1).trans (hkc.trans hkm)
    exact ⟨rfl, k, hc.k0 hB hk2, hm.kp hk2 (fun h => h) (fun _ _ h => h), hk2.kp⟩

end Go.Proofs.Ytdilpljfghbbeaa
