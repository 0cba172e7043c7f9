/- One call on both cursors: 'step'. -/
import Derived.Test.YtdilpljfghbbeaaC5
set_option linter.unusedVariables false
set_option linter.unusedSimpArgs false
namespace Go.Proofs.Ytdilpljfghbbeaa
open Go.RowKit

/-- What one step may turn: the cursor's block, the reference's. -/
abbrev KS (v : Value) (pm : Nat) (w w' : World) : Prop := Kp (fun b => v = .pointer (some ⟨b, 0, none⟩) ∨ b = pm) w w'
/-- The cursor's bytes lie apart from the reference's block. -/
def StepPost (w : World) (B Bm : Nat) (v : Value) (pm : Nat) (bs : List UInt8) (e : Ending) (w' : World) : Prop :=
  e = .returned (.bool true) ∧ ∃ k', CurV w' B v bs k' ∧ RefB w' Bm pm bs k' ∧ KS v pm w w'

theorem RefB.blk {w : World} {B pm : Nat} {bs : List UInt8} {k : Nat} (h : RefB w B pm bs k) : ∃ cs, Blk w pm 45 cs := by
  obtain ⟨A, cap, hb, _⟩ := h
  exact ⟨_, hb⟩
theorem CurV.blk {w : World} {B b : Nat} {v : Value} {bs : List UInt8} {k : Nat} (h : CurV w B v bs k) (e : v = .pointer (some ⟨b, 0, none⟩)) : ∃ cs, Blk w b 58 cs := by
  rcases h with ⟨h, _⟩ | ⟨pc, h, A, cap, hb, _⟩
  · rw [h] at e; cases e
  · rw [h] at e; cases e; exact ⟨_, hb⟩
/-- The reference over a turn of the cursor. -/
theorem RefB.kc {w w' : World} {B Bc pm : Nat} {v : Value} {bs bs' : List UInt8} {k k' : Nat} (h : RefB w B pm bs k) (hc : CurV w Bc v bs' k') (hk : KC v w w') (hB : ∀ b, v = .pointer (some ⟨b, 0, none⟩) → B ≤ b) : RefB w' B pm bs k := by
  refine h.kp hk (fun e => ?_) (fun b hb e => ?_)
  · obtain ⟨cs, h1⟩ := hc.blk e
    obtain ⟨cs', h2⟩ := h.blk
    exact absurd rfl (h1.ne_ h2 (by decide))
  · have := hB b e; omega
/-- The cursor over a turn of the reference. -/
theorem CurV.kr {w w' : World} {B Bm pm : Nat} {v : Value} {bs bs' : List UInt8} {k k' : Nat} (h : CurV w B v bs k) (hB : B ≤ w.heap.size) (hr : RefB w Bm pm bs' k') (hk : KC (.pointer (some ⟨pm, 0, none⟩)) w w') : CurV w' B v bs k := by
  obtain ⟨cs, hp⟩ := hr.blk
  rcases h with h | ⟨pc, e, h⟩
  · exact .inl h
  · refine .inr ⟨pc, e, h.kp hB hk (fun e => ?_) (fun b cs' _ hb e => ?_)⟩
    · cases e
      obtain ⟨A, cap, hb, _⟩ := h
      exact absurd rfl (hb.ne_ hp (by decide))
    · cases e
      exact absurd rfl (hb.ne_ hp (by decide))
theorem KS.of_c {v : Value} {pm : Nat} {w w' : World} (h : KC v w w') : KS v pm w w' := h.mono fun _ e => .inl e
theorem KS.of_m {v : Value} {pm : Nat} {w w' : World} (h : KC (.pointer (some ⟨pm, 0, none⟩)) w w') : KS v pm w w' := h.mono fun _ e => .inr (by cases e; rfl)

/-- The box of the op is there behind a call on the cursor. -/
theorem box_kept {w1 w2 : World} {g B k : Nat} {v : Value} {bs : List UInt8} {cs : Array Value} (h : Blk w1 g 47 cs) (hc1 : CurV w1 B v bs k) (hk : KC v w1 w2) : Blk w2 g 47 cs :=
  h.kp hk (fun e => by obtain ⟨cs', h2⟩ := hc1.blk e; exact absurd rfl (h2.ne_ h (by decide)))


section
variable (B Bm k pm : Nat) (v : Value) (bs : List UInt8) (n : Int) (b : Int) (w : World) (hB : B ≤ w.heap.size) (hc : CurV w B v bs k) (hm : RefB w Bm pm bs k) (hBm : ∀ b, v = .pointer (some ⟨b, 0, none⟩) → Bm ≤ b)
include hB hc hm

set_option maxHeartbeats 1000000 in
theorem step_peek : Calls Try.prog 20 #[v, .pointer (some ⟨pm, 0, none⟩), .agg #[.int .i64 1, .int .i64 n, .int .u8 b]] w (StepPost w B Bm v pm bs) := by
  have H1 := Lib.hid (fun W => peek_any B k v bs n W)
  have H2 := Lib.hid (fun W => rpeek_any Bm k pm bs n W)
  generalize (peekOf bs k n).1 = x at *
  generalize (peekOf bs k n).2 = ok at *
  have hc1 := hc.k0 hB (((Kp.refl _ w).alloc (.cells #[.int .i64 1, .int .i64 n, .int .u8 b] 47)))
  have hm1 := hm.kp ((Kp.refl (fun _ => False) w).alloc (.cells #[.int .i64 1, .int .i64 n, .int .u8 b] 47)) (fun h => h) (fun _ _ h => h)
  go_enter Try.func20, Try.ntmps20
  go_wp2_with (first
    | (go_at_call 30; refine (H1.out _ (by exact hc1)).mono ?_; rintro e w' ⟨rfl, m, rfl⟩)
    | (go_at_call 32; refine (H2.out _ (by exact hm1.drewN m)).mono ?_; rintro e w' ⟨rfl, m2, rfl⟩))
  go_ret
  exact ⟨rfl, k, hc1.drewN _, hm1.drewN _, ((Kp.refl _ _).alloc _).drewN _⟩

include hBm

set_option maxHeartbeats 1000000 in
theorem step_next : Calls Try.prog 20 #[v, .pointer (some ⟨pm, 0, none⟩), .agg #[.int .i64 2, .int .i64 n, .int .u8 b]] w (StepPost w B Bm v pm bs) := by
  have hk1 : K0 w (w.alloc (.cells #[.int .i64 2, .int .i64 n, .int .u8 b] 47)) := (Kp.refl _ w).alloc _
  have hc1 := hc.k0 hB hk1
  have hm1 := hm.kp hk1 (fun h => h) (fun _ _ h => h)
  have hB1 : B ≤ (w.alloc (.cells #[.int .i64 2, .int .i64 n, .int .u8 b] 47)).heap.size := Nat.le_trans hB hk1.size
  by_cases hlt : k < bs.length
  · have hn : nextOf bs k = (((bs.drop k)[0]?.getD 0).toNat, true, k + 1) := by simp [nextOf, hlt]
    have hp : peekOf bs k 0 = (((bs.drop k)[0]?.getD 0).toNat, true) := by simp [peekOf]; omega
    have H1 := fun W => next_any B k v bs W
    have H2 := fun W => rpeek_any Bm k pm bs 0 W
    rw [hn] at H1
    rw [hp] at H2
    have G1 := Lib.hid H1
    have G2 := Lib.hid H2
    clear H1 H2 hn hp
    generalize (((bs.drop k)[0]?.getD 0).toNat : Int) = x at *
    go_enter Try.func20, Try.ntmps20
    go_wp2_with (first
      | (go_at_call 14; refine (G1.out _ (by exact hc1)).mono ?_; rintro e w1 ⟨rfl, hc2, hkc⟩; have hm2 := hm1.kc hc1 hkc hBm; obtain ⟨cs, hpm⟩ := hm2.blk; have hm3 := hm2)
      | (go_at_call 32; refine (G2.out _ (by exact hm2)).mono ?_; rintro e w' ⟨rfl, m2, rfl⟩; obtain ⟨A, cap, hb, a1, a2, a3, a4, hr, hne⟩ := hm3; have c1 := hb.cell 1; have f1 := hb.frozen 1; simp at c1))
    go_ret
    refine ⟨rfl, k + 1, ?_, hm2.moved (k' := k + 1) hlt m2, ?_⟩
    · exact hc2.kr (Nat.le_trans hB1 hkc.size) hm2 (KC.set_ pm m2 _ w1)
    · exact (hk1.kp (S := fun b => v = .pointer (some ⟨b, 0, none⟩) ∨ b = pm)).trans ((KS.of_c hkc).trans (KS.of_m (KC.set_ pm m2 _ w1)))
  · have hn : nextOf bs k = (0, false, k) := by simp [nextOf, hlt]
    have hp : peekOf bs k 0 = (0, false) := by simp [peekOf]; omega
    have H1 := fun W => next_any B k v bs W
    have H2 := fun W => rpeek_any Bm k pm bs 0 W
    rw [hn] at H1
    rw [hp] at H2
    have G1 := Lib.hid H1
    have G2 := Lib.hid H2
    clear H1 H2 hn hp
    go_enter Try.func20, Try.ntmps20
    go_wp2_with (first
      | (go_at_call 14; refine (G1.out _ (by exact hc1)).mono ?_; rintro e w1 ⟨rfl, hc2, hkc⟩; have hm2 := hm1.kc hc1 hkc hBm)
      | (go_at_call 32; refine (G2.out _ (by exact hm2)).mono ?_; rintro e w' ⟨rfl, m2, rfl⟩))
    go_ret
    exact ⟨rfl, k, hc2.drewN _, hm2.drewN _, ((hk1.kp (S := fun b => v = .pointer (some ⟨b, 0, none⟩) ∨ b = pm)).trans (KS.of_c hkc)).drewN _⟩

set_option maxHeartbeats 1000000 in
theorem step_take : Calls Try.prog 20 #[v, .pointer (some ⟨pm, 0, none⟩), .agg #[.int .i64 3, .int .i64 n, .int .u8 b]] w (StepPost w B Bm v pm bs) := by
  have hk1 : K0 w (w.alloc (.cells #[.int .i64 3, .int .i64 n, .int .u8 b] 47)) := (Kp.refl _ w).alloc _
  have hbx : Blk (w.alloc (.cells #[.int .i64 3, .int .i64 n, .int .u8 b] 47)) w.heap.size 47 #[.int .i64 3, .int .i64 n, .int .u8 b] := Blk.new _ _ _
  have hc1 := hc.k0 hB hk1
  have hm1 := hm.kp hk1 (fun h => h) (fun _ _ h => h)
  have hB1 : B ≤ (w.alloc (.cells #[.int .i64 3, .int .i64 n, .int .u8 b] 47)).heap.size := Nat.le_trans hB hk1.size
  have G1 := Lib.hid (fun W => Take_any B k v bs n W)
  have G2 := Lib.hid (fun W => rtake_any Bm k pm bs n W)
  generalize (takeOf bs k n).1 = l at *
  generalize (takeOf bs k n).2.1 = er at *
  generalize (takeOf bs k n).2.2 = k' at *
  go_enter Try.func20, Try.ntmps20
  go_wp2_with (first
    | (go_at_call 12; refine (G1.out _ (by exact hB1) (by exact hc1)).mono ?_; rintro e w1 ⟨r1, rfl, ho1, hc2, hkc⟩; have hm2 := hm1.kc hc1 hkc hBm; have hbx1 := box_kept hbx hc1 hkc; have c1 := hbx1.cell 1; simp at c1)
    | (go_at_call 33; refine (G2.out _ (by exact hm2)).mono ?_; rintro e w2 ⟨r2, rfl, ho2, hm3, hkm⟩; have ho1' := own_kp ho1 hkm (fun g hg e => by cases e; obtain ⟨_, hp⟩ := hm.blk; have := hp.lt; simp at hg; omega); obtain ⟨A1, cc1, rfl, _, _⟩ := own_form ho1'; obtain ⟨A2, cc2, rfl, _, _⟩ := own_form ho2; have cv1 := conv_str (P := Try.prog) 23 9 5 Try.underlying23 Try.underlying5 Try.underlying9 (Reads.of_own ho1') rfl (c := cc1); have cv2 := conv_str (P := Try.prog) 23 9 5 Try.underlying23 Try.underlying5 Try.underlying9 (Reads.of_own ho2) rfl (c := cc2)))
  go_ret
  refine ⟨rfl, k', ?_, hm3, ?_⟩
  · exact hc2.kr (Nat.le_trans hB1 hkc.size) hm2 hkm
  · exact (hk1.kp (S := fun b => v = .pointer (some ⟨b, 0, none⟩) ∨ b = pm)).trans ((KS.of_c hkc).trans (KS.of_m hkm))

set_option maxHeartbeats 1000000 in
theorem step_uint : Calls Try.prog 20 #[v, .pointer (some ⟨pm, 0, none⟩), .agg #[.int .i64 7, .int .i64 n, .int .u8 b]] w (StepPost w B Bm v pm bs) := by
  have hk1 : K0 w (w.alloc (.cells #[.int .i64 7, .int .i64 n, .int .u8 b] 47)) := (Kp.refl _ w).alloc _
  have hbx : Blk (w.alloc (.cells #[.int .i64 7, .int .i64 n, .int .u8 b] 47)) w.heap.size 47 #[.int .i64 7, .int .i64 n, .int .u8 b] := Blk.new _ _ _
  have hc1 := hc.k0 hB hk1
  have hm1 := hm.kp hk1 (fun h => h) (fun _ _ h => h)
  have hB1 : B ≤ (w.alloc (.cells #[.int .i64 7, .int .i64 n, .int .u8 b] 47)).heap.size := Nat.le_trans hB hk1.size
  have G1 := Lib.hid (fun W => uint_any B k v bs n W)
  have G2 := Lib.hid (fun W => ruint_any Bm k pm bs n W)
  generalize (uintOf bs k n).1 = l at *
  generalize (uintOf bs k n).2.1 = er at *
  generalize (uintOf bs k n).2.2 = k' at *
  go_enter Try.func20, Try.ntmps20
  go_wp2_with (first
    | (go_at_call 25; refine (G1.out _ (by exact hB1) (by exact hc1)).mono ?_; rintro e w1 ⟨rfl, hc2, hkc⟩; have hm2 := hm1.kc hc1 hkc hBm; have hbx1 := box_kept hbx hc1 hkc; have c1 := hbx1.cell 1; simp at c1)
    | (go_at_call 37; refine (G2.out _ (by exact hm2)).mono ?_; rintro e w2 ⟨rfl, hm3, hkm⟩))
  go_ret
  refine ⟨rfl, k', ?_, hm3, ?_⟩
  · exact hc2.kr (Nat.le_trans hB1 hkc.size) hm2 hkm
  · exact (hk1.kp (S := fun b => v = .pointer (some ⟨b, 0, none⟩) ∨ b = pm)).trans ((KS.of_c hkc).trans (KS.of_m hkm))

set_option maxRecDepth 100000 in
set_option maxHeartbeats 1000000 in
theorem step_back : Calls Try.prog 20 #[v, .pointer (some ⟨pm, 0, none⟩), .agg #[.int .i64 4, .int .i64 n, .int .u8 b]] w (StepPost w B Bm v pm bs) := by
  have hk1 : K0 w (w.alloc (.cells #[.int .i64 4, .int .i64 n, .int .u8 b] 47)) := (Kp.refl _ w).alloc _
  have hbx : Blk (w.alloc (.cells #[.int .i64 4, .int .i64 n, .int .u8 b] 47)) w.heap.size 47 #[.int .i64 4, .int .i64 n, .int .u8 b] := Blk.new _ _ _
  have hc1 := hc.k0 hB hk1
  have hm1 := hm.kp hk1 (fun h => h) (fun _ _ h => h)
  have hB1 : B ≤ (w.alloc (.cells #[.int .i64 4, .int .i64 n, .int .u8 b] 47)).heap.size := Nat.le_trans hB hk1.size
  have G1 := Lib.hid (fun W => back_any B k v bs n W)
  have G2 := Lib.hid (fun W => rback_any Bm k pm bs n W)
  generalize (if n < 0 ∨ n > (k : Int) then k else k - n.toNat) = k' at *
  generalize (if n < 0 ∨ n > (k : Int) then (1 : Int) else 0) = er at *
  go_enter Try.func20, Try.ntmps20
  go_wp2_with fail
  go_region_held3 (fun w' => w'.cell? ⟨w.heap.size, 1, none⟩ = some (.int .i64 n))
    (first | go_keep | (have hz := hbx1.cell 1; simpa using hz) | (have hz := hbx2.cell 1; simpa using hz))
    (first
      | (go_at_call 17; refine (G1.out _ (by exact hc1.drewN 1)).mono ?_; rintro e w1 ⟨rfl, hc2, hkc⟩; have hm2 := RefB.kc (hm1.drewN 1) (hc1.drewN 1) hkc hBm; have hbx1 := box_kept (hbx.drewN 1) (hc1.drewN 1) hkc)
      | (go_at_call 34; refine (G2.out _ (by exact hm2)).mono ?_; rintro e w2 ⟨rfl, hm3, hkm⟩; have hbx2 : Blk w2 w.heap.size 47 #[.int .i64 4, .int .i64 n, .int .u8 b] := hbx1.kp hkm (fun e => by obtain ⟨_, hp⟩ := hm.blk; have := hp.lt; cases e; omega)))
  go_wp2
  go_ret
  refine ⟨rfl, k', ?_, hm3, ?_⟩
  · exact hc2.kr (Nat.le_trans hB1 hkc.size) hm2 hkm
  · exact ((hk1.kp (S := fun b => v = .pointer (some ⟨b, 0, none⟩) ∨ b = pm)).drewN 1).trans ((KS.of_c hkc).trans (KS.of_m hkm))

end

end Go.Proofs.Ytdilpljfghbbeaa
