/- The reference's Window and Uint. -/
import Derived.Test.YtdilpljfghbbeaaC4
set_option linter.unusedVariables false
set_option linter.unusedSimpArgs false
namespace Go.Proofs.Ytdilpljfghbbeaa
open Go.RowKit

set_option maxHeartbeats 1000000 in
/-- Window of the reference. -/
theorem rwindow_any (B k pm : Nat) (bs : List UInt8) (n : Int) (w : World) (h : RefB w B pm bs k) :
    Calls Try.prog 36 #[.pointer (some ⟨pm, 0, none⟩), .int .i64 n] w fun e w' => ∃ r, e = .returned r ∧ w'.ownsRow w.heap.size 5 1 r ((bs.drop k).take n.toNat).length (bvs ((bs.drop k).take n.toNat)) ∧ K0 w w' := by
  have hpm : pm < w.heap.size := by obtain ⟨_, _, hb, _⟩ := h; exact hb.lt
  have hT : ((bs.drop k).take n.toNat).length = min n.toNat (bs.length - k) := by simp
  have hAt : ∀ j, j < ((bs.drop k).take n.toNat).length → ∃ b, bs[k + j]? = some b ∧ ((bs.drop k).take n.toNat)[j]? = some b := by
    intro j hj
    have hj2 : k + j < bs.length := by omega
    refine ⟨bs[k + j], List.getElem?_eq_getElem hj2, ?_⟩
    rw [List.getElem?_take, if_pos (by omega), List.getElem?_drop, List.getElem?_eq_getElem hj2]
  have HAt := Lib.hid hAt
  have HT := Lib.hid hT
  obtain ⟨i0, hi, hz0, hz1, hz2⟩ := info_parts u8_info
  clear hAt
  generalize (bs.drop k).take n.toNat = T at *
  clear hT
  go_enter Try.func36, Try.ntmps36
  go_wp2
  go_loopw [5, 6] (fun v i wr => ∃ j : Nat, j ≤ T.length ∧ i = .int .i64 j ∧ wr.ownsRow w.heap.size 5 1 v j (bvs (T.take j)) ∧ K0 w wr)
    (fun v i wr => T.length - lenOf v)
  case atStart => exact ⟨0, Nat.zero_le _, rfl, by simpa [bvs] using World.ownsRow_nil _ _ _ _, Kp.refl _ _⟩
  case round =>
    obtain ⟨j, hj, rfl, hown, hk0⟩ := hrel
    have href : RefB wr B pm bs k := h.kp hk0 (fun h => h) (fun _ _ h => h)
    have hL := rleft_any B k pm bs wr href
    obtain ⟨A, cap, hb, h1, h2, h3, h4, hr, hne⟩ := href
    obtain ⟨A5, c5, rfl, _, _⟩ := own_form hown
    have c0 := hb.cell 0
    have c1 := hb.cell 1
    simp at c0 c1
    by_cases hlt : j < T.length
    · obtain ⟨b, hb1, hb2⟩ := HAt.out j hlt
      have hT := HT.out
      have hlt' : k + j < bs.length := by omega
      have hlt2 : (j : Int) < ((bs.length - k : Nat) : Int) := by omega
      have hlt3 : (j : Int) < n := by omega
      obtain ⟨ad, rfl, hbl, hc⟩ := hr.byte (j := k + j) hlt'
      rw [hb1] at hc
      simp only [Option.getD_some] at hc
      have g0 : (0 : Int) ≤ (k : Int) + j := by omega
      have g1 : (k : Int) + j < (bs.length : Int) := by omega
      have hTj : T.take (j + 1) = T.take j ++ [b] := by
        rw [List.take_add_one, hb2]; rfl
      have HTj := Lib.hid hTj
      have HL := Lib.hid hL
      have hwr : IntKind.i64.wrap ((k : Int) + j) = (k : Int) + j := IntWalk.i64_in _ (by omega)
      clear hb1 hb2 hTj hL hT
      have l1 := hb.lt
      have l3 := hk0.size
      have ag1 : (Value.slice A5 j c5).ownBlock ≠ some pm := fun e => by have := (hown.lt pm e).1; omega
      have ag2 : (Value.slice A5 j c5).ownBlock ≠ some ad.block := fun e => by have := (hown.lt _ e).1; omega
      go_wp2_with (go_at_call 21; refine HL.out.mono ?_; rintro e w' ⟨rfl, m, rfl⟩)
      have hc2 : wr.cell? (ad.add ((k : Int) + j).toNat) = some (.int .u8 b.toNat) := by rw [show ((k : Int) + j).toNat = k + j by omega]; exact hc
      go_region_held3 (fun w' => w'.cell? ⟨pm, 0, none⟩ = some (.slice (some ad) bs.length cap) ∧ w'.cell? ⟨pm, 1, none⟩ = some (.int .i64 (k : Int)) ∧ w'.cell? (ad.add ((k : Int) + j).toNat) = some (.int .u8 b.toNat))
        (first
          | go_keep
          | (go_split_ands
             refine ⟨?_, ?_, ?_⟩
             · (rw [hgrow.cell_far _ (by simp; omega) (Ne.symm ag1)]; assumption)
             · (rw [hgrow.cell_far _ (by simp; omega) (Ne.symm ag1)]; assumption)
             · (rw [hgrow.cell_far _ (by simp [block_of_add]; omega) (by rw [block_of_add]; exact Ne.symm ag2)]; assumption)))
        ((refine step_append_lies _ (by rfl) _ _ _ (by rfl) w.heap.size 5 i0 _ 1 1 Try.underlying23 hi hz0 hz1 hz2 rfl (by omega) (.slice A5 j c5) j (bvs (T.take j)) (by rfl) (by exact hown.alloc _)
            ⟨wr.heap.size, 0, none⟩ 1 1 [.int .u8 b.toNat] (by rfl) (by rfl) (World.news_of_block (cs := #[.int .u8 b.toNat]) (t := 5) (fr := (0, 0)) (heap_alloc_new _ _)) (by simp [Value.oneCell'])
            (by omega) (by simp only [maxLen]; omega) (by omega) (by simp; omega) (wr.heap.size + 1) (by simp) ?_; intro g1 cap1 w1 hown1 hgrow hat hlt1))
      have hk01 : K0 w w1 := ((hk0.drewN _).alloc _).grown hgrow (fun k hk => .inl (hown.lt k hk).1)
      clear c0 c1 hc hc2
      go_wp2
      go_roundw
      case rel => exact ⟨j + 1, by omega, by go_num, by rw [HTj.out, bvs_append]; exact hown1, hk01⟩
      case measure => simp [lenOf]; omega
    · obtain rfl : j = T.length := by omega
      have HO : Hid (wr.ownsRow w.heap.size 5 1 (.slice A5 T.length c5) T.length (bvs T)) := by have := hown; rwa [List.take_length] at this
      have hT := HT.out
      have HL := Lib.hid hL
      clear hL
      by_cases hlt2 : (T.length : Int) < ((bs.length - k : Nat) : Int)
      · have hlt3 : decide ((T.length : Int) < n) = false := by simp; omega
        clear hT hlt
        go_wp2_with (go_at_call 21; refine HL.out.mono ?_; rintro e w' ⟨rfl, m, rfl⟩)
        go_ret
        exact ⟨_, rfl, own_drewN HO.out _, hk0.drewN _⟩
      · clear hT hlt
        go_wp2_with (go_at_call 21; refine HL.out.mono ?_; rintro e w' ⟨rfl, m, rfl⟩)
        go_ret
        exact ⟨_, rfl, own_drewN HO.out _, hk0.drewN _⟩

theorem leNum_drop (l : List UInt8) (j : Nat) (h : j < l.length) : leNum (l.drop j) = l[j].toNat + 256 * leNum (l.drop (j + 1)) := by
  rw [List.drop_eq_getElem_cons h]
  rfl

set_option maxHeartbeats 400000 in
theorem ruint_any (B k pm : Nat) (bs : List UInt8) (n : Int) (w : World) (h : RefB w B pm bs k) :
    Calls Try.prog 37 #[.pointer (some ⟨pm, 0, none⟩), .int .i64 n] w fun e w' => e = .returned (.tuple #[.int .i64 (uintOf bs k n).1, .int .i64 (uintOf bs k n).2.1]) ∧ RefB w' B pm bs (uintOf bs k n).2.2 ∧ KC (.pointer (some ⟨pm, 0, none⟩)) w w' := by
  by_cases h1 : n < 1
  · have ht : uintOf bs k n = (0, 1, k) := by simp [uintOf, h1]
    rw [ht]; clear ht
    go_enter Try.func37, Try.ntmps37
    go_wp2
    go_ret2
    exact ⟨rfl, h, Kp.refl _ _⟩
  · by_cases h4 : n > 4
    · have ht : uintOf bs k n = (0, 1, k) := by simp [uintOf, h4]
      rw [ht]; clear ht
      go_enter Try.func37, Try.ntmps37
      go_wp2
      go_ret2
      exact ⟨rfl, h, Kp.refl _ _⟩
    · have ht : uintOf bs k n = ((leNum (takeOf bs k n).1 : Int), (takeOf bs k n).2.1, (takeOf bs k n).2.2) := by
        simp only [uintOf]; rw [if_neg (by omega)]
      rw [ht]; clear ht
      have hlen : (takeOf bs k n).1.length ≤ 4 := by
        unfold takeOf
        split
        · simp
        · split
          · simp
          · simp only [List.length_take, List.length_drop]; omega
      have hT := rtake_any B k pm bs n w h
      have h1' : 1 ≤ n := by omega
      have h4' : n ≤ 4 := by omega
      generalize (takeOf bs k n).1 = l at *
      generalize (takeOf bs k n).2.1 = e at *
      generalize (takeOf bs k n).2.2 = k' at *
      have HT := Lib.hid hT
      clear hT h1 h4
      go_enter Try.func37, Try.ntmps37
      go_wp2_with (go_at_call 33; refine HT.out.mono ?_; rintro e w' ⟨r, rfl, ho, hc, hk⟩; obtain ⟨A, c, rfl, a1, a2⟩ := own_form ho; have hr := Reads.of_own ho)
      go_loop [8, 9] (fun v i => ∃ j : Nat, j ≤ l.length ∧ i = .int .i64 ((j : Int) - 1) ∧ v = .int .i64 (leNum (l.drop j))) (fun _ i => (intOf i + 1).toNat)
      case atStart => exact ⟨l.length, Nat.le_refl _, rfl, by simp [leNum]⟩
      case round =>
        obtain ⟨j, hj, rfl, rfl⟩ := hrel
        have hb := leNum_lt (l.drop j)
        have hb2 : (leNum (l.drop j) : Int) < 4294967296 := by
          have : 256 ^ (l.drop j).length ≤ 256 ^ 4 := Nat.pow_le_pow_right (by omega) (by rw [List.length_drop]; omega)
          omega
        have hb0 : (0 : Int) ≤ (leNum (l.drop j) : Int) := by omega
        clear hb
        by_cases hlt : 0 < j
        · obtain ⟨i, rfl⟩ : ∃ i, j = i + 1 := ⟨j - 1, by omega⟩
          have hli : i < l.length := by omega
          obtain ⟨ad, rfl, hbl, hcell⟩ := hr.byte hli
          have hn := leNum_drop l i hli
          have HN := Lib.hid hn
          have g0 : (0 : Int) ≤ ((i + 1 : Nat) : Int) - 1 := by omega
          have g1 : ((i + 1 : Nat) : Int) - 1 < (l.length : Int) := by omega
          clear hn
          go_wp2
          refine ⟨⟨i, by omega, rfl, ?_⟩, by simp [intOf]⟩
          rw [HN.out]
          have h8 := l[i].toNat_lt
          congr 1
          unfold wrap64
          omega
        · obtain rfl : j = 0 := by omega
          go_wp2
          go_ret2
          exact ⟨rfl, hc, hk⟩
end Go.Proofs.Ytdilpljfghbbeaa
