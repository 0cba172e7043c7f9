/- One call on both cursors, of whatever kind. -/
import Derived.Test.YtdilpljfghbbeaaS2
import Derived.Test.YtdilpljfghbbeaaS3
set_option linter.unusedVariables false
set_option linter.unusedSimpArgs false
namespace Go.Proofs.Ytdilpljfghbbeaa
open Go.RowKit

set_option maxHeartbeats 1000000 in
theorem step_else (B Bm k pm : Nat) (v : Value) (bs : List UInt8) (kind n : Int) (b : Int) (w : World) (hB : B ≤ w.heap.size) (hc : CurV w B v bs k) (hm : RefB w Bm pm bs k)
    (h1 : (kind == 1) = false) (h2 : (kind == 2) = false) (h3 : (kind == 3) = false) (h4 : (kind == 4) = false) (h5 : (kind == 5) = false) (h6 : (kind == 6) = false) (h7 : (kind == 7) = false) :
    Calls Try.prog 20 #[v, .pointer (some ⟨pm, 0, none⟩), .agg #[.int .i64 kind, .int .i64 n, .int .u8 b]] w (StepPost w B Bm v pm bs) := by
  have hk1 : K0 w (w.alloc (.cells #[.int .i64 kind, .int .i64 n, .int .u8 b] 47)) := (Kp.refl _ w).alloc _
  go_enter Try.func20, Try.ntmps20
  go_wp2
  go_ret
  exact ⟨rfl, k, hc.k0 hB hk1, hm.kp hk1 (fun h => h) (fun _ _ h => h), hk1.kp⟩

/-- One call, of whatever kind. -/
theorem step_any (B Bm k pm : Nat) (v : Value) (bs : List UInt8) (kind n : Int) (b : UInt8) (w : World) (hB : B ≤ w.heap.size) (hc : CurV w B v bs k) (hm : RefB w Bm pm bs k) (hBm : ∀ b, v = .pointer (some ⟨b, 0, none⟩) → Bm ≤ b) :
    Calls Try.prog 20 #[v, .pointer (some ⟨pm, 0, none⟩), .agg #[.int .i64 kind, .int .i64 n, .int .u8 (b.toNat : Int)]] w (StepPost w B Bm v pm bs) := by
  by_cases h1 : kind = 1
  · subst h1; exact step_peek B Bm k pm v bs n _ w hB hc hm
  by_cases h2 : kind = 2
  · subst h2; exact step_next B Bm k pm v bs n _ w hB hc hm hBm
  by_cases h3 : kind = 3
  · subst h3; exact step_take B Bm k pm v bs n _ w hB hc hm hBm
  by_cases h4 : kind = 4
  · subst h4; exact step_back B Bm k pm v bs n _ w hB hc hm hBm
  by_cases h5 : kind = 5
  · subst h5; exact step_until B Bm k pm v bs n b w hB hc hm hBm
  by_cases h6 : kind = 6
  · subst h6; exact step_window B Bm k pm v bs n _ w hB hc hm
  by_cases h7 : kind = 7
  · subst h7; exact step_uint B Bm k pm v bs n _ w hB hc hm hBm
  exact step_else B Bm k pm v bs kind n _ w hB hc hm (by simpa using h1) (by simpa using h2) (by simpa using h3) (by simpa using h4) (by simpa using h5) (by simpa using h6) (by simpa using h7)
end Go.Proofs.Ytdilpljfghbbeaa
