/- The walk of CursorLines. -/
import Derived.Test.YtdilpljfghbbeaaL1
set_option linter.unusedVariables false
set_option linter.unusedSimpArgs false
namespace Go.Proofs.Ytdilpljfghbbeaa
open Go.RowKit

theorem until_take (bs : List UInt8) (k : Nat) (stop : UInt8) (h : k ≤ bs.length) : bs.take (k + (untilOf bs k stop).length) = bs.take k ++ untilOf bs k stop := by
  rw [List.take_add]
  congr 1
  exact List.prefix_iff_eq_take.1 (List.takeWhile_prefix _) |>.symm

set_option maxRecDepth 100000 in
set_option maxHeartbeats 2000000 in
theorem cursorLines_walk (w : World) (v0 : Value) (bs : List UInt8) (h0 : SlV w w.heap.size v0 bs) (stop : UInt8) :
    Calls Try.prog 6 #[v0, .int .u8 (stop.toNat : Int)] w fun e w' => e = .returned (.bool true) ∧ Below w.heap.size w w' := by
  obtain ⟨i0, hi, hz0, hz1, hz2⟩ := info_parts u8_info
  obtain ⟨A0, c0, rfl, b1, b2, b3, hr0⟩ := h0
  go_enter Try.func6, Try.ntmps6
  go_wp2_with (first
    | (go_at_call 10; refine (fixed_any _).mono ?_; rintro e w1 ⟨rfl, hk1⟩; have hr01 := hr0.k0 (Nat.le_refl _) hk1; have hs1 := hk1.size)
    | (at_builtin; refine wpList_append_any _ rfl (.tmp 15) (.tmp 16) _ rfl w.heap.size 5 i0 _ 1 1 Try.underlying23 hi hz0 hz1 hz2 rfl (by omega) (.slice (some ⟨w1.heap.size, 0, none⟩) 0 0) 0 [] rfl (by exact World.ownsRow_made w1 #[] 0 hs1 (by simp [maxLen]) rfl) w.heap.size A0 bs.length c0 (bvs bs) rfl (by exact hr01.alloc hs1 _) (bvs_one bs) (by simp only [maxLen]; omega) (by omega) (by simp; omega) ?_; intro v2 w2 hown2 hg2 hat2; have hk2 : K0 w w2 := (hk1.alloc _).grown hg2 (by simp [Value.ownBlock]; omega); rw [Nat.zero_add, List.nil_append] at hown2; obtain ⟨A2, c2, rfl, d1, d2⟩ := own_form hown2)
    | (go_at_call 11; refine (new_any w2.heap.size _ bs _ (Nat.le_refl _) (by exact own_sl hown2 (Nat.le_refl _) b3)).mono ?_; rintro e w3 ⟨pc, rfl, hpc, hc3, hk3⟩; have hk03 : K0 w w3 := hk2.trans hk3; have hpw : w.heap.size ≤ pc := Nat.le_trans hk2.size hpc))
  have hcv3 : CurV w3 w3.heap.size (.pointer (some ⟨pc, 0, none⟩)) bs 0 := .inr ⟨pc, rfl, hc3⟩
  generalize hBB : w3.heap.size = BB at hcv3
  have hBB' : BB ≤ w3.heap.size := by omega
  have hWB : w.heap.size ≤ BB := by have := hk03.size; omega
  clear hBB hc3 hown2 hg2 hat2 hr01
  have hnp : ∀ i, i < w.heap.size → Value.pointer (some ⟨pc, 0, none⟩) = .pointer (some ⟨i, 0, none⟩) → False := by
    intro i hi e
    cases e
    omega
  go_loopw [6, 7] (fun all i wr => ∃ (j k : Nat), j ≤ k ∧ k ≤ bs.length ∧ i = .int .i64 j ∧ wr.ownsRow BB 5 1 all k (bvs (bs.take k)) ∧ CurV wr BB (.pointer (some ⟨pc, 0, none⟩)) bs k ∧ K0 w wr ∧ BB ≤ wr.heap.size)
    (fun all i wr => bs.length + 1 - lenOf all)
  case atStart => exact ⟨0, 0, Nat.zero_le _, Nat.zero_le _, rfl, by simpa [bvs] using World.ownsRow_nil _ _ _ _, hcv3, hk03, hBB'⟩
  case round =>
    obtain ⟨j, k, hj, hkl, rfl, hown, hcv, hk0, hBw⟩ := hrel
    obtain ⟨wo, rfl⟩ : ∃ wo : World, wo = wr := ⟨_, rfl⟩
    obtain ⟨Aa, ca, rfl, _, _⟩ := own_form hown
    have hjl : (j : Int) ≤ (bs.length : Int) := by omega
    have hUl := untilOf_le bs k stop
    have hTk := until_take bs k stop hkl
    have hAt := Lib.hid (until_at bs k · stop)
    have hEnd := Lib.hid (until_end bs k stop)
    have GU := Lib.hid (fun W h1 h2 => until_any BB k (.pointer (some ⟨pc, 0, none⟩)) bs stop W h1 h2)
    generalize untilOf bs k stop = U at *
    have HTk := Lib.hid hTk
    clear hTk
    go_wp2_with fail
    refine (GU.out _ (by exact hBw) (by exact hcv)).mono ?_
    rintro e w4 ⟨r4, rfl, ho4, hc4, hk4⟩
    obtain ⟨A4, c4, rfl, _, _⟩ := own_form ho4
    have hr4 := Reads.of_own ho4
    have hown4 := kc_own hcv hown hk4
    have hk04 : K0 w w4 := hk0.trans' hk4 hnp
    have hB4 := Nat.le_trans hBw hk4.size
    go_wp2_with fail
    go_loop [32] (fun i => ∃ n : Nat, n ≤ U.length ∧ i = .int .i64 n) (fun i => U.length - (intOf i).toNat)
    case atStart => exact ⟨0, Nat.zero_le _, rfl⟩
    case round =>
      obtain ⟨n, hn, rfl⟩ := hrel
      by_cases hlt : n < U.length
      · obtain ⟨ad, rfl, hbl, hcell⟩ := hr4.byte hlt
        obtain ⟨b, hb1, hb2, hb3⟩ := hAt.out n hlt
        rw [hb2] at hcell
        simp only [Option.getD_some] at hcell
        have hne : ((b.toNat : Int) == (stop.toNat : Int)) = false := by
          rw [beq_eq_false_iff_ne]; intro e; exact hb3 (UInt8.toNat_inj.1 (by omega))
        clear hb1 hb2 hb3
        go_wp2
        go_round
        case rel => exact ⟨n + 1, hlt, by go_num⟩
        case measure => simp [intOf]; omega
      · obtain rfl : n = U.length := by omega
        have G1 := Lib.hid (fun W h => next_any BB (k + U.length) (.pointer (some ⟨pc, 0, none⟩)) bs W h)
        have hrow5 : ∀ g, (Value.slice Aa k ca).ownBlock = some g → BB ≤ g := fun g hg => (hown4.lt g hg).1
        have hl5 : (bs.take k ++ U).length = k + U.length := by simp; omega
        by_cases hmore : k + U.length < bs.length
        · have hb := hEnd.out hmore
          have hnx : nextOf bs (k + U.length) = ((stop.toNat : Int), true, k + U.length + 1) := by
            simp only [nextOf]
            rw [if_pos hmore, List.getElem?_drop, Nat.add_zero, hb]
            rfl
          rw [hnx] at G1
          have hT1 : bs.take (k + U.length + 1) = bs.take k ++ U ++ [stop] := by
            rw [← HTk.out, List.take_add_one, hb]
            rfl
          have HT1 := Lib.hid hT1
          clear hb hnx hT1 hlt hn hEnd hAt hr4
          have hr4 := Reads.of_own ho4
          simp only [] at G1
          go_wp2_with (at_builtin; refine wpList_append_any _ rfl (.tmp 40) (.tmp 41) _ rfl BB 5 i0 _ 1 1 Try.underlying23 hi hz0 hz1 hz2 rfl (by omega) (.slice Aa k ca) k (bvs (bs.take k)) rfl (by exact hown4) w4.heap.size A4 U.length c4 (bvs U) rfl (by exact hr4) (bvs_one U) (by simp only [maxLen]; omega) (by omega) (by exact hB4) ?_; intro v5 w5 hown5 hg5 hat5; have hk05 : K0 w w5 := hk04.grown hg5 (fun g hg => .inl (Nat.le_trans hWB (hrow5 g hg))); have hk45 : Kp (fun b => (Value.slice Aa k ca).ownBlock = some b) w4 w5 := (Kp.refl _ _).grown hg5 (fun g hg => .inr hg); have hc5 : CurV w5 BB (.pointer (some ⟨pc, 0, none⟩)) bs (k + U.length) := hc4.far hB4 hk45 (fun g hg e => by cases hg; obtain ⟨cs1, hb1⟩ := own_blk hown4 _ e; obtain ⟨cs2, hb2⟩ := hc4.blk rfl; exact absurd rfl (hb2.ne_ hb1 (by decide))) (fun b hb e => by have := hrow5 b e; omega); rw [← bvs_append] at hown5; have hB5 := Nat.le_trans hB4 hk45.size; obtain ⟨A5, c5, rfl, _, _⟩ := own_form hown5)
          refine (G1.out _ (by exact hc5)).mono ?_
          rintro e w6 ⟨rfl, hc6, hk6⟩
          have hown6 := kc_own hc5 hown5 hk6
          have hk06 : K0 w w6 := hk05.trans' hk6 hnp
          have hB6 := Nat.le_trans hB5 hk6.size
          go_wp2_with (at_builtin; refine wpList_append_lies _ rfl (.tmp 53) (.tmp 55) _ rfl BB 5 i0 _ 1 1 Try.underlying23 hi hz0 hz1 hz2 rfl (by omega) (.slice A5 (k + U.length) c5) (k + U.length) (bvs (bs.take k ++ U)) rfl (by exact hown6.alloc _) ⟨w6.heap.size, 0, none⟩ 1 1 [.int .u8 (stop.toNat : Int)] rfl rfl (World.news_of_block (cs := #[.int .u8 (stop.toNat : Int)]) (t := 5) (fr := (0, 0)) (heap_alloc_new _ _)) (by simp [Value.oneCell']) (by omega) (by simp only [maxLen]; omega) (by omega) (by simp; omega) (w6.heap.size + 1) (by simp) ?_; intro g7 cap7 w7 hown7 hg7 hat7 hlt7)
          have hrow7 : ∀ g, (Value.slice A5 (k + U.length) c5).ownBlock = some g → BB ≤ g := fun g hg => (hown6.lt g hg).1
          have hk07 : K0 w w7 := (hk06.alloc _).grown hg7 (fun g hg => .inl (Nat.le_trans hWB (hrow7 g hg)))
          have hk67 : Kp (fun b => (Value.slice A5 (k + U.length) c5).ownBlock = some b) w6 w7 := ((Kp.refl _ _).alloc _).grown hg7 (fun g hg => .inr hg)
          have hc7 : CurV w7 BB (.pointer (some ⟨pc, 0, none⟩)) bs (k + U.length + 1) := hc6.far hB6 hk67 (fun g hg e => by
            cases hg
            obtain ⟨cs1, hb1⟩ := own_blk hown6 _ e
            obtain ⟨cs2, hb2⟩ := hc6.blk rfl
            exact absurd rfl (hb2.ne_ hb1 (by decide))) (fun b hb e => by have := hrow7 b e; omega)
          go_wp2
          refine ⟨⟨j + 1, k + U.length + 1, by omega, by omega, by go_num, ?_, hc7, hk07, Nat.le_trans hB6 hk67.size⟩, by simp [lenOf]; omega⟩
          rw [HT1.out, bvs_append]
          exact hown7
        · have hend : k + U.length = bs.length := by omega
          have hnx : nextOf bs (k + U.length) = (0, false, k + U.length) := by
            simp only [nextOf]
            rw [if_neg hmore]
          rw [hnx] at G1
          simp only [] at G1
          have hT1 : bs.take k ++ U = bs := by rw [← HTk.out, hend, List.take_length]
          have HT1 := Lib.hid hT1
          have HE := Lib.hid hend
          have GL := Lib.hid (fun W h => left_any BB (k + U.length) (.pointer (some ⟨pc, 0, none⟩)) bs W h)
          rw [show bs.length - (k + U.length) = 0 by omega] at GL
          clear hnx hT1 hlt hn hEnd hAt hr4 hend
          have hr4 := Reads.of_own ho4
          go_wp2_with (at_builtin; refine wpList_append_any _ rfl (.tmp 40) (.tmp 41) _ rfl BB 5 i0 _ 1 1 Try.underlying23 hi hz0 hz1 hz2 rfl (by omega) (.slice Aa k ca) k (bvs (bs.take k)) rfl (by exact hown4) w4.heap.size A4 U.length c4 (bvs U) rfl (by exact hr4) (bvs_one U) (by simp only [maxLen]; omega) (by omega) (by exact hB4) ?_; intro v5 w5 hown5 hg5 hat5; have hk05 : K0 w w5 := hk04.grown hg5 (fun g hg => .inl (Nat.le_trans hWB (hrow5 g hg))); have hk45 : Kp (fun b => (Value.slice Aa k ca).ownBlock = some b) w4 w5 := (Kp.refl _ _).grown hg5 (fun g hg => .inr hg); have hc5 : CurV w5 BB (.pointer (some ⟨pc, 0, none⟩)) bs (k + U.length) := hc4.far hB4 hk45 (fun g hg e => by cases hg; obtain ⟨cs1, hb1⟩ := own_blk hown4 _ e; obtain ⟨cs2, hb2⟩ := hc4.blk rfl; exact absurd rfl (hb2.ne_ hb1 (by decide))) (fun b hb e => by have := hrow5 b e; omega); rw [← bvs_append] at hown5; have hB5 := Nat.le_trans hB4 hk45.size; obtain ⟨A5, c5, rfl, _, _⟩ := own_form hown5)
          refine (G1.out _ (by exact hc5)).mono ?_
          rintro e w6 ⟨rfl, hc6, hk6⟩
          have hown6 := kc_own hc5 hown5 hk6
          have hk06 : K0 w w6 := hk05.trans' hk6 hnp
          go_wp2_with fail
          refine (GL.out _ (by exact hc6)).mono ?_
          rintro e w7 ⟨rfl, m, rfl⟩
          have cv1 := conv_str (P := Try.prog) (w := w6.drewN m) 23 9 5 Try.underlying23 Try.underlying5 Try.underlying9 ((Reads.of_own hown6).drewN m) hl5.symm (c := c5)
          have cv3 := conv_str (P := Try.prog) (w := w6.drewN m) 23 9 5 Try.underlying23 Try.underlying5 Try.underlying9 ((hr0.k0 (Nat.le_refl _) hk06).drewN m) rfl (c := c0)
          rw [HT1.out] at cv1
          clear hl5
          go_wp2
          go_ret
          exact ⟨by simp, (hk06.drewN m).below⟩
end Go.Proofs.Ytdilpljfghbbeaa
