/- The walk of CursorPlays. -/
import Derived.Test.YtdilpljfghbbeaaL1
import Derived.Deep.DeepMust
set_option linter.unusedVariables false
set_option linter.unusedSimpArgs false
namespace Go.Proofs.Ytdilpljfghbbeaa
open Go.RowKit

theorem refB_at {w : World} {B pm k : Nat} {bs : List UInt8} (h : RefB w B pm bs k) : w.cell? ⟨pm, 1, none⟩ = some (.int .i64 (k : Int)) := by
  obtain ⟨A, cap, hb, _⟩ := h
  exact hb.cell 1

theorem add_one (a : Addr) : a.add 1 = ⟨a.block, a.off + 1, none⟩ := rfl
theorem add_two (a : Addr) : a.add 2 = ⟨a.block, a.off + 2, none⟩ := rfl

set_option maxRecDepth 100000 in
set_option maxHeartbeats 2000000 in
theorem cursorPlays_walk (w : World) (v0 : Value) (bs : List UInt8) (h0 : SlV w w.heap.size v0 bs) (v1 : Value) (os : List (Int × Int × UInt8)) (h1 : OpsV w w.heap.size v1 os) :
    Calls Try.prog 7 #[v0, v1] w fun e w' => e = .returned (.bool true) ∧ Below w.heap.size w w' := by
  obtain ⟨i0, hi, hz0, hz1, hz2⟩ := info_parts u8_info
  obtain ⟨A0, c0, rfl, b1, b2, b3, hr0⟩ := h0
  obtain ⟨A1, c1, rfl, s1, s2, hr1⟩ := h1
  go_enter Try.func7, Try.ntmps7
  go_wp2_with (first
    | (go_at_call 10; refine (fixed_any _).mono ?_; rintro e w1 ⟨rfl, hk1⟩; have hr01 := hr0.k0 (Nat.le_refl _) hk1; have hs1 := hk1.size)
    | (at_builtin; refine wpList_append_any _ rfl (.tmp 11) (.tmp 12) _ rfl w.heap.size 5 i0 _ 1 1 Try.underlying23 hi hz0 hz1 hz2 rfl (by omega) (.slice (some ⟨w1.heap.size, 0, none⟩) 0 0) 0 [] rfl (by exact World.ownsRow_made w1 #[] 0 hs1 (by simp [maxLen]) rfl) w.heap.size A0 bs.length c0 (bvs bs) rfl (by exact hr01.alloc hs1 _) (bvs_one bs) (by simp only [maxLen]; omega) (by omega) (by simp; omega) ?_; intro v2 w2 hown2 hg2 hat2; have hk2 : K0 w w2 := (hk1.alloc _).grown hg2 (by simp [Value.ownBlock]; omega); rw [Nat.zero_add, List.nil_append] at hown2; obtain ⟨A2, c2, rfl, d1, d2⟩ := own_form hown2)
    | (go_at_call 11; refine (new_any w2.heap.size _ bs _ (Nat.le_refl _) (by exact own_sl hown2 (Nat.le_refl _) b3)).mono ?_; rintro e w3 ⟨pc, rfl, hpc, hc3, hk3⟩; have hk03 : K0 w w3 := hk2.trans hk3; have hpw : w.heap.size ≤ pc := Nat.le_trans hk2.size hpc))
  have hm3 := ref_new w3 A0 c0 w.heap.size bs b1 b2 b3 (hr0.k0 (Nat.le_refl _) hk03) hk03.size
  have hcv3 : CurV w3 w3.heap.size (.pointer (some ⟨pc, 0, none⟩)) bs 0 := .inr ⟨pc, rfl, hc3⟩
  have hcv4 := hcv3.k0 (Nat.le_refl _) ((Kp.refl _ w3).alloc (.cells #[.slice A0 bs.length c0, .int .i64 0] 45))
  have hk04 : K0 w (w3.alloc (.cells #[.slice A0 bs.length c0, .int .i64 0] 45)) := hk03.alloc _
  have hpm : w.heap.size ≤ w3.heap.size := hk03.size
  have hBB' : w3.heap.size ≤ (w3.alloc (.cells #[.slice A0 bs.length c0, .int .i64 0] 45)).heap.size := by simp
  clear hcv3 hc3 hown2 hg2 hat2 hr01 hr0
  have hnp : ∀ i, i < w.heap.size → (Value.pointer (some ⟨pc, 0, none⟩) = .pointer (some ⟨i, 0, none⟩) ∨ i = w3.heap.size) → False := by
    rintro i hi (e | e)
    · cases e; omega
    · omega
  generalize hBB : w3.heap.size = BB at *
  go_loopw [22] (fun i wr => ∃ (j k : Nat), j ≤ os.length ∧ i = .int .i64 j ∧ CurV wr BB (.pointer (some ⟨pc, 0, none⟩)) bs k ∧ RefB wr w.heap.size BB bs k ∧ K0 w wr ∧ BB ≤ wr.heap.size)
    (fun i wr => os.length - (intOf i).toNat)
  case atStart => exact ⟨0, 0, Nat.zero_le _, rfl, hcv4, hm3, hk04, hBB'⟩
  case round =>
    obtain ⟨j, k, hj, rfl, hcv, hm, hk0, hBw⟩ := hrel
    by_cases hlt : j < os.length
    · obtain ⟨ad, rfl, hbl, hx0, hx1, hx2⟩ := hr1 j os[j] (List.getElem?_eq_getElem hlt)
      have hy0 := (hk0.cell (p := ad.add (j * 3)) (by rw [block_of_add]; exact hbl) (fun h => h)).trans hx0
      have hy1 := (hk0.cell (p := (ad.add (j * 3)).add 1) (by rw [block_of_add, block_of_add]; exact hbl) (fun h => h)).trans hx1
      have hy2 := (hk0.cell (p := (ad.add (j * 3)).add 2) (by rw [block_of_add, block_of_add]; exact hbl) (fun h => h)).trans hx2
      generalize os[j] = o at hy0 hy1 hy2
      obtain ⟨kd, n, b⟩ := o
      simp only [] at hy0 hy1 hy2
      rw [add_one] at hy1
      rw [add_two] at hy2
      clear hr1 hx0 hx1 hx2
      have hkA : K0 wr (wr.alloc (.cells #[.int .i64 kd, .int .i64 n, .int .u8 (b.toNat : Int)] 47)) := (Kp.refl _ wr).alloc _
      have hcA := hcv.k0 hBw hkA
      have hmA := hm.kp hkA (fun h => h) (fun _ _ h => h)
      have hBA : BB ≤ (wr.alloc (.cells #[.int .i64 kd, .int .i64 n, .int .u8 (b.toNat : Int)] 47)).heap.size := Nat.le_trans hBw hkA.size
      have GS := Lib.hid (fun W h1 h2 h3 => step_any BB w.heap.size k BB (.pointer (some ⟨pc, 0, none⟩)) bs kd n b W h1 h2 h3 (by intro b hb; cases hb; omega))
      go_wp2
      go_region_with (first
        | (go_at_call 20; go_must (refine (GS.out _ (by exact hBA) (by exact hcA.drewN 1) (by exact hmA.drewN 1)).mono ?_); go_must (rintro e w5 ⟨rfl, k', hc5, hm5, hks⟩); obtain ⟨cs5, hb5⟩ := id hm5.blk; have hx5 := refB_at hm5)
        | (go_at_call 15; refine (place_any BB k' (.pointer (some ⟨pc, 0, none⟩)) bs _ (by exact hc5)).mono ?_; rintro e w6 ⟨rfl, rfl⟩)
        | (go_at_call 16; refine (left_any BB k' (.pointer (some ⟨pc, 0, none⟩)) bs _ (by exact hc5)).mono ?_; rintro e w6 ⟨rfl, m6, rfl⟩)
        | (go_at_call 21; refine (rleft_any w.heap.size k' BB bs _ (by exact hm5.drewN m6)).mono ?_; rintro e w6 ⟨rfl, m7, rfl⟩))
      all_goals
        have hk05 : K0 w w5 := (hk0.trans (hkA.drewN 1)).trans' hks hnp
        have hB5 := Nat.le_trans hBA hks.size
        go_wp2
        refine ⟨⟨j + 1, k', by omega, by go_num, hc5.drewN _, hm5.drewN _, hk05.drewN _, hB5⟩, by simp [intOf]; omega⟩
    · obtain rfl : j = os.length := by omega
      have GP := Lib.hid (fun W h => place_any BB k (.pointer (some ⟨pc, 0, none⟩)) bs W h)
      have GL := Lib.hid (fun W h => left_any BB k (.pointer (some ⟨pc, 0, none⟩)) bs W h)
      have GR := Lib.hid (fun W h => rleft_any w.heap.size k BB bs W h)
      obtain ⟨A, cap, hb, _⟩ := id hm
      have c1' := hb.cell 1
      simp at c1'
      clear hlt hb
      go_wp2
      go_quiet (first
        | (go_at_call 15; exact Calls.quiet_of_same ((GP.out _ (by exact hcv.drewN _)).mono fun _ _ ⟨a, b⟩ => ⟨a, b.symm⟩))
        | (go_at_call 16; exact Calls.quiet_of (GL.out _ (by exact hcv.drewN _)))
        | (go_at_call 21; exact Calls.quiet_of (GR.out _ (by exact hm.drewN _))))
      go_wp2
      go_ret
      exact ⟨rfl, (hk0.drewN _).below⟩
end Go.Proofs.Ytdilpljfghbbeaa
