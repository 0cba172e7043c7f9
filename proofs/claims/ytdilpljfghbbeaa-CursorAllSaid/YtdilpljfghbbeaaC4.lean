/- The reference's cursor. -/
import Derived.Test.YtdilpljfghbbeaaC3
set_option linter.unusedVariables false
set_option linter.unusedSimpArgs false
namespace Go.Proofs.Ytdilpljfghbbeaa
open Go.RowKit

/-- Block pm is the reference's cursor over bs, at the place k; its bytes lie below B. -/
def RefB (w : World) (B : Nat) (pm : Nat) (bs : List UInt8) (k : Nat) : Prop :=
  ∃ A cap, Blk w pm 45 #[.slice A bs.length cap, .int .i64 (k : Int)] ∧ k ≤ bs.length ∧ bs.length ≤ cap ∧ cap ≤ 9223372036854775807 ∧ bs.length ≤ 140737488355328 ∧ Reads w B 1 A bs.length (bvs bs) ∧ B ≤ pm

theorem RefB.moved {w : World} {B pc : Nat} {bs : List UInt8} {k k' : Nat} (h : RefB w B pc bs k) (hk : k' ≤ bs.length) (m : Nat) :
    RefB ((w.drewN m).setCell ⟨pc, 1, none⟩ (.int .i64 (k' : Int))) B pc bs k' := by
  obtain ⟨A, cap, hb, h1, h2, h3, h4, hr, hne⟩ := h
  exact ⟨A, cap, (hb.drewN m).set_ 1 _, hk, h2, h3, h4, (hr.drewN m).setCell (p := ⟨pc, 1, none⟩) hne _, hne⟩
theorem RefB.drewN {w : World} {B pc : Nat} {bs : List UInt8} {k : Nat} (h : RefB w B pc bs k) (m : Nat) : RefB (w.drewN m) B pc bs k := h
theorem RefB.kp {S : Nat → Prop} {w w' : World} {B pc : Nat} {bs : List UInt8} {k : Nat} (h : RefB w B pc bs k) (hk : Kp S w w') (h1 : ¬ S pc) (h2 : ∀ b, b < B → ¬ S b) : RefB w' B pc bs k := by
  obtain ⟨A, cap, hb, a1, a2, a3, a4, hr, hB⟩ := h
  have hlt := hb.lt
  exact ⟨A, cap, hb.kp hk h1, a1, a2, a3, a4, hr.kp (by omega) hk h2, hB⟩

theorem rleft_any (B k pm : Nat) (bs : List UInt8) (w : World) (h : RefB w B pm bs k) :
    Calls Try.prog 21 #[.pointer (some ⟨pm, 0, none⟩)] w fun e w' => e = .returned (.int .i64 (bs.length - k : Nat)) ∧ ∃ m, w' = w.drewN m := by
  obtain ⟨A, cap, hb, h1, h2, h3, h4, hr, hne⟩ := h
  have c0 := hb.cell 0
  have c1 := hb.cell 1
  simp at c0 c1
  go_enter Try.func21, Try.ntmps21
  go_wp2
  go_quiet (fail)
  go_wp2
  go_ret
  exact ⟨ret_int (by omega), _, rfl⟩

set_option maxHeartbeats 400000 in
theorem rpeek_any (B k pm : Nat) (bs : List UInt8) (n : Int) (w : World) (h : RefB w B pm bs k) :
    Calls Try.prog 32 #[.pointer (some ⟨pm, 0, none⟩), .int .i64 n] w fun e w' => e = .returned (.tuple #[.int .u8 (peekOf bs k n).1, .bool (peekOf bs k n).2]) ∧ ∃ m, w' = w.drewN m := by
  have hL := rleft_any B k pm bs w h
  by_cases hn : n < 0
  · have ht : peekOf bs k n = (0, false) := by simp [peekOf, hn]
    rw [ht]
    clear ht
    go_enter Try.func32, Try.ntmps32
    go_wp2
    go_ret2
    exact ⟨rfl, 0, rfl⟩
  · by_cases hl : n ≥ ((bs.length - k : Nat) : Int)
    · have ht : peekOf bs k n = (0, false) := by simp [peekOf, hl]
      rw [ht]
      have HL := Lib.hid hL
      clear ht hL
      go_enter Try.func32, Try.ntmps32
      go_wp2_with (go_at_call 21; refine HL.out.mono ?_; rintro e w' ⟨rfl, m, rfl⟩)
      go_ret2
      exact ⟨rfl, _, rfl⟩
    · have ht : peekOf bs k n = ((((bs.drop k)[n.toNat]?.getD 0).toNat : Int), true) := by simp [peekOf, hn, hl]
      rw [ht]
      clear ht
      obtain ⟨n, rfl⟩ := Int.eq_ofNat_of_zero_le (show 0 ≤ n by omega)
      simp only [Int.toNat_natCast]
      have hlt : n < bs.length - k := by omega
      have hlt' : (n : Int) < ((bs.length - k : Nat) : Int) := by omega
      generalize hx : (((bs.drop k)[n]?.getD 0).toNat : Int) = x
      obtain ⟨A, cap, hb, h1, h2, h3, h4, hr, hne⟩ := h
      have c0 := hb.cell 0
      have c1 := hb.cell 1
      simp at c0 c1
      obtain ⟨ad, rfl, hbl, hc⟩ := hr.byte (j := k + n) (by omega)
      have hx' : ((bs[k + n]?.getD 0).toNat : Int) = x := by rw [← hx, List.getElem?_drop]
      rw [hx'] at hc
      have g0 : (0 : Int) ≤ (k : Int) + n := by omega
      have g1 : (k : Int) + n < (bs.length : Int) := by omega
      have HL := Lib.hid hL
      clear hn hl hx hx' hL
      go_enter Try.func32, Try.ntmps32
      go_wp2_with (go_at_call 21; refine HL.out.mono ?_; rintro e w' ⟨rfl, m, rfl⟩)
      go_quiet (fail)
      go_wp2
      go_ret2
      exact ⟨rfl, _, World.drewN_drewN ..⟩

theorem own_setCell {w : World} {base : Nat} {e : TypeId} {size n : Nat} {v : Value} {xs : List Value} (h : w.ownsRow base e size v n xs) {p : Addr} (hp : p.block < base) {u : Value} : (w.setCell p u).ownsRow base e size v n xs := ownsRow_setCell_below h hp u

theorem KC.set_' (pc : Nat) (u : Value) (w w1 : World) (h : K0 w w1) : KC (.pointer (some ⟨pc, 0, none⟩)) w (w1.setCell ⟨pc, 1, none⟩ u) :=
  (h.kp (S := fun b => Value.pointer (some ⟨pc, 0, none⟩) = .pointer (some ⟨b, 0, none⟩))).setCell (p := ⟨pc, 1, none⟩) (.inr rfl) u

set_option maxHeartbeats 1000000 in
theorem rtake_any (B k pm : Nat) (bs : List UInt8) (n : Int) (w : World) (h : RefB w B pm bs k) :
    Calls Try.prog 33 #[.pointer (some ⟨pm, 0, none⟩), .int .i64 n] w fun e w' => ∃ r, e = .returned (.tuple #[r, .int .i64 (takeOf bs k n).2.1]) ∧ w'.ownsRow w.heap.size 5 1 r (takeOf bs k n).1.length (bvs (takeOf bs k n).1) ∧ RefB w' B pm bs (takeOf bs k n).2.2 ∧ KC (.pointer (some ⟨pm, 0, none⟩)) w w' := by
  have hL := rleft_any B k pm bs w h
  by_cases hn : n < 0
  · have ht : takeOf bs k n = ([], 1, k) := by simp [takeOf, hn]
    rw [ht]
    clear ht
    go_enter Try.func33, Try.ntmps33
    go_wp2
    go_ret2
    exact ⟨_, rfl, World.ownsRow_nil _ _ _ _, h, Kp.refl _ _⟩
  · by_cases hl : n > ((bs.length - k : Nat) : Int)
    · have ht : takeOf bs k n = ([], 3, k) := by simp [takeOf, hn, hl]
      rw [ht]
      have HL := Lib.hid hL
      clear ht hL
      go_enter Try.func33, Try.ntmps33
      go_wp2_with (go_at_call 21; refine HL.out.mono ?_; rintro e w' ⟨rfl, m, rfl⟩)
      go_ret2
      exact ⟨_, rfl, World.ownsRow_nil _ _ _ _, h.drewN _, (Kp.refl _ _).drewN _⟩
    · have ht : takeOf bs k n = ((bs.drop k).take n.toNat, 0, k + n.toNat) := by simp [takeOf, hn, hl]
      rw [ht]
      clear ht
      obtain ⟨n, rfl⟩ := Int.eq_ofNat_of_zero_le (show 0 ≤ n by omega)
      simp only [Int.toNat_natCast]
      have hlt : n ≤ bs.length - k := by omega
      have hlt' : (n : Int) ≤ ((bs.length - k : Nat) : Int) := by omega
      have h' := h
      obtain ⟨A, cap, hb, h1, h2, h3, h4, hr, hne⟩ := h
      obtain ⟨i0, hi, hz0, hz1, hz2⟩ := info_parts u8_info
      have hlt2 := hb.lt
      have c0 := hb.cell 0
      have c1 := hb.cell 1
      have f1 := hb.frozen 1
      simp at c0 c1
      have g0 : (0 : Int) ≤ (k : Int) + n := by omega
      have g1 : (k : Int) + n ≤ (bs.length : Int) := by omega
      have g2 : (k : Int) ≤ (k : Int) + n := by omega
      have g3 : (k : Int) + n ≤ (cap : Int) := by omega
      obtain ⟨A', hA', hsl⟩ := sliceAt_lh (P := Try.prog) 23 1 A bs.length cap k (k + n) Try.underlying23 (fun _ => rfl) (by omega) (by omega) ((k : Int) + n) (by omega)
      have hrd : Reads w B 1 A' n (bvs ((bs.drop k).take n)) := by
        have := hr.piece (k := k) (m := n) (cap := cap) (by omega) h2 hA'
        simp only [Nat.mul_one] at this
        rwa [bvs_drop, bvs_take] at this
      rw [Nat.add_sub_cancel_left] at hsl
      have hwr : IntKind.i64.wrap ((k : Int) + n) = (k : Int) + n := IntWalk.i64_in _ (by omega)
      have HL := Lib.hid hL
      have HA := Lib.hid hA'
      clear hn hl hL hA'
      go_enter Try.func33, Try.ntmps33
      go_wp2_with (go_at_call 21; refine HL.out.mono ?_; rintro e w' ⟨rfl, m, rfl⟩)
      go_region_held3 (fun w' => w'.cell? ⟨pm, 0, none⟩ = some (.slice A bs.length cap) ∧ w'.cell? ⟨pm, 1, none⟩ = some (.int .i64 k))
        (first
          | go_keep
          | (go_split_ands
             refine ⟨?_, ?_⟩
             · (rw [hgrow.cell_far _ (by simp; omega) (by simp [Value.ownBlock]; omega)]; assumption)
             · (rw [hgrow.cell_far _ (by simp; omega) (by simp [Value.ownBlock]; omega)]; assumption)))
        ((refine step_append_any _ (by rfl) (.tmp 13) (.tmp 28) _ (by rfl) w.heap.size 5 i0 _ 1 1 Try.underlying23 hi hz0 hz1 hz2 rfl (by omega) (.slice (some ⟨w.heap.size, 0, none⟩) 0 0) 0 [] (by rfl)
            (by exact World.ownsRow_made w #[] 0 (Nat.le_refl _) (by simp [maxLen]) rfl) B A' n (cap - k) (bvs ((bs.drop k).take n)) (by rfl) (by exact hrd.alloc (by omega) _) (bvs_one _) (by simp only [maxLen]; omega) (by omega) (by simp) ?_
          intro v1 w1 hown hgrow hat))
      have hk1 : K0 w w1 := (((Kp.refl _ w).drewN (m + 1)).alloc _).grown hgrow (by simp [Value.ownBlock])
      have hr1 : RefB w1 B pm bs k := h'.kp hk1 (fun h => h) (fun _ _ h => h)
      have hb1 := hb.kp hk1 (fun h => h)
      have d1 := hb1.cell 1
      have e1 := hb1.frozen 1
      simp at d1
      have hm := hr1.moved (k' := k + n) (by omega) 0
      rw [Int.natCast_add] at hm
      go_wp2
      go_ret2
      refine ⟨_, rfl, ?_, hm, KC.set_' pm _ w w1 hk1⟩
      rw [show ((bs.drop k).take n).length = 0 + n by simp; omega]
      exact own_setCell hown (by simp; omega)

set_option maxHeartbeats 400000 in
theorem rback_any (B k pm : Nat) (bs : List UInt8) (n : Int) (w : World) (h : RefB w B pm bs k) :
    Calls Try.prog 34 #[.pointer (some ⟨pm, 0, none⟩), .int .i64 n] w fun e w' => e = .returned (.int .i64 (if n < 0 ∨ n > k then 1 else 0)) ∧ RefB w' B pm bs (if n < 0 ∨ n > k then k else k - n.toNat) ∧ KC (.pointer (some ⟨pm, 0, none⟩)) w w' := by
  have h' := h
  obtain ⟨A, cap, hb, h1, h2, h3, h4, hr, hne⟩ := h
  have c1 := hb.cell 1
  have f1 := hb.frozen 1
  simp at c1
  by_cases hn : n < 0 ∨ n > k
  · rw [if_pos hn, if_pos hn]
    by_cases h0 : n < 0
    · go_enter Try.func34, Try.ntmps34
      go_wp2
      go_ret
      exact ⟨rfl, h', Kp.refl _ _⟩
    · have h1 : (k : Int) < n := by omega
      clear hn
      go_enter Try.func34, Try.ntmps34
      go_wp2
      go_ret
      exact ⟨rfl, h', Kp.refl _ _⟩
  · rw [if_neg hn, if_neg hn]
    obtain ⟨n, rfl⟩ := Int.eq_ofNat_of_zero_le (show 0 ≤ n by omega)
    have hk : n ≤ k := by omega
    simp only [Int.toNat_natCast]
    clear hn
    have hm := h'.moved (k' := k - n) (by omega) 0
    have hK := KC.set_ pm 0 (.int .i64 ((k : Int) - n)) w
    rw [Int.ofNat_sub hk] at hm
    go_enter Try.func34, Try.ntmps34
    go_wp2
    go_ret
    exact ⟨rfl, hm, hK⟩

theorem tw_at (p : UInt8 → Bool) : ∀ (l : List UInt8) (j : Nat), j < (l.takeWhile p).length → ∃ b, l[j]? = some b ∧ (l.takeWhile p)[j]? = some b ∧ p b = true
  | [], j, h => by simp at h
  | a :: l, j, h => by
    rw [List.takeWhile_cons] at h ⊢
    by_cases ha : p a = true
    · rw [if_pos ha] at h ⊢
      cases j with
      | zero => exact ⟨a, rfl, rfl, ha⟩
      | succ j =>
        obtain ⟨b, h1, h2, h3⟩ := tw_at p l j (by simpa using h)
        exact ⟨b, by simpa using h1, by simpa using h2, h3⟩
    · rw [if_neg ha] at h
      simp at h
theorem tw_end (p : UInt8 → Bool) : ∀ (l : List UInt8), (l.takeWhile p).length < l.length → ∃ b, l[(l.takeWhile p).length]? = some b ∧ p b = false
  | [], h => by simp at h
  | a :: l, h => by
    rw [List.takeWhile_cons] at h ⊢
    by_cases ha : p a = true
    · rw [if_pos ha] at h ⊢
      obtain ⟨b, h1, h2⟩ := tw_end p l (by simpa using h)
      exact ⟨b, by simpa using h1, h2⟩
    · rw [if_neg ha]
      exact ⟨a, by simp, by simpa using ha⟩
theorem until_at (bs : List UInt8) (k j : Nat) (stop : UInt8) (h : j < (untilOf bs k stop).length) : ∃ b, bs[k + j]? = some b ∧ (untilOf bs k stop)[j]? = some b ∧ b ≠ stop := by
  obtain ⟨b, h1, h2, h3⟩ := tw_at _ _ _ h
  rw [List.getElem?_drop] at h1
  exact ⟨b, h1, h2, by simpa using h3⟩
theorem until_end (bs : List UInt8) (k : Nat) (stop : UInt8) (h : k + (untilOf bs k stop).length < bs.length) : bs[k + (untilOf bs k stop).length]? = some stop := by
  obtain ⟨b, h1, h2⟩ := tw_end (· != stop) (bs.drop k) (by rw [List.length_drop]; unfold untilOf at h; omega)
  rw [List.getElem?_drop] at h1
  have : b = stop := by simpa using h2
  subst this
  exact h1

def lenOf : Value → Nat | .slice _ n _ => n | _ => 0

set_option maxHeartbeats 1000000 in
/-- Until of the reference. -/
theorem runtil_any (B k pm : Nat) (bs : List UInt8) (stop : UInt8) (w : World) (h : RefB w B pm bs k) :
    Calls Try.prog 35 #[.pointer (some ⟨pm, 0, none⟩), .int .u8 (stop.toNat : Int)] w fun e w' => ∃ r, e = .returned r ∧ w'.ownsRow w.heap.size 5 1 r (untilOf bs k stop).length (bvs (untilOf bs k stop)) ∧ RefB w' B pm bs (k + (untilOf bs k stop).length) ∧ KC (.pointer (some ⟨pm, 0, none⟩)) w w' := by
  have hU : (untilOf bs k stop).length ≤ bs.length - k := untilOf_le bs k stop
  have hAt := Lib.hid (until_at bs k · stop)
  have hEnd := Lib.hid (until_end bs k stop)
  have hpm : pm < w.heap.size := by obtain ⟨_, _, hb, _⟩ := h; exact hb.lt
  obtain ⟨i0, hi, hz0, hz1, hz2⟩ := info_parts u8_info
  generalize untilOf bs k stop = U at *
  go_enter Try.func35, Try.ntmps35
  go_wp2
  go_loopw [5] (fun v wr => ∃ j : Nat, j ≤ U.length ∧ wr.ownsRow w.heap.size 5 1 v j (bvs (U.take j)) ∧ RefB wr B pm bs (k + j) ∧ KC (.pointer (some ⟨pm, 0, none⟩)) w wr)
    (fun v wr => U.length - lenOf v)
  case atStart => exact ⟨0, Nat.zero_le _, by simpa [bvs] using World.ownsRow_nil _ _ _ _, h, Kp.refl _ _⟩
  case round =>
    obtain ⟨j, hj, hown, href, hkc⟩ := hrel
    obtain ⟨A, cap, hb, h1, h2, h3, h4, hr, hne⟩ := href
    obtain ⟨A5, c5, rfl, _, _⟩ := own_form hown
    have c0 := hb.cell 0
    have c1 := hb.cell 1
    have f1 := hb.frozen 1
    simp at c0 c1
    by_cases hlt : j < U.length
    · obtain ⟨b, hb1, hb2, hb3⟩ := hAt.out j hlt
      have hlt' : k + j < bs.length := by omega
      obtain ⟨ad, rfl, hbl, hc⟩ := hr.byte (j := k + j) hlt'
      rw [hb1] at hc
      simp only [Option.getD_some] at hc
      have g0 : (0 : Int) ≤ (k : Int) + j := by omega
      have g1 : (k : Int) + j < (bs.length : Int) := by omega
      have g2 : ((b.toNat : Int) != (stop.toNat : Int)) = true := by
        rw [bne_iff_ne]; intro e; exact hb3 (UInt8.toNat_inj.1 (by omega))
      have hUj : U.take (j + 1) = U.take j ++ [b] := by
        rw [List.take_add_one, hb2]; rfl
      have HU := Lib.hid hUj
      have HB := Lib.hid hb2
      clear hb1 hb2 hb3 hUj
      go_wp2
      go_quiet (fail)
      go_wp2
      have l1 := hb.lt
      have l2 : ad.block < wr.heap.size := by omega
      have l3 := hkc.size
      have ag1 : (Value.slice A5 j c5).ownBlock ≠ some pm := fun e => by have := (hown.lt pm e).1; omega
      have ag2 : (Value.slice A5 j c5).ownBlock ≠ some ad.block := fun e => by have := (hown.lt _ e).1; omega
      have hc2 : wr.cell? (ad.add ((k : Int) + j).toNat) = some (.int .u8 b.toNat) := by rw [show ((k : Int) + j).toNat = k + j by omega]; exact hc
      go_region_held3 (fun w' => w'.cell? ⟨pm, 0, none⟩ = some (.slice (some ad) bs.length cap) ∧ w'.cell? ⟨pm, 1, none⟩ = some (.int .i64 ((k : Int) + j)) ∧ w'.cell? (ad.add ((k : Int) + j).toNat) = some (.int .u8 b.toNat))
        (first
          | go_keep
          | (go_split_ands
             refine ⟨?_, ?_, ?_⟩
             · (rw [hgrow.cell_far _ (by simp; omega) (Ne.symm ag1)]; assumption)
             · (rw [hgrow.cell_far _ (by simp; omega) (Ne.symm ag1)]; assumption)
             · (rw [hgrow.cell_far _ (by simp [block_of_add]; omega) (by rw [block_of_add]; exact Ne.symm ag2)]; assumption)))
        ((refine step_append_lies _ (by rfl) _ _ _ (by rfl) w.heap.size 5 i0 _ 1 1 Try.underlying23 hi hz0 hz1 hz2 rfl (by omega) (.slice A5 j c5) j (bvs (U.take j)) (by rfl) (by exact hown.alloc _)
            ⟨wr.heap.size, 0, none⟩ 1 1 [.int .u8 b.toNat] (by rfl) (by rfl) (World.news_of_block (cs := #[.int .u8 b.toNat]) (t := 5) (fr := (0, 0)) (heap_alloc_new _ _)) (by simp [Value.oneCell'])
            (by omega) (by simp only [maxLen]; omega) (by omega) (by simp; omega) (wr.heap.size + 1) (by simp) ?_; intro g1 cap1 w1 hown1 hgrow hat hlt1))
      have hkc1 : KC (.pointer (some ⟨pm, 0, none⟩)) w w1 := ((hkc.drewN _).alloc _).grown hgrow (fun k hk => .inl (hown.lt k hk).1)
      have hbw : Blk w1 pm 45 #[.slice (some ad) bs.length cap, .int .i64 ((k + j : Nat) : Int)] := Blk.grown ((hb.drewN _).alloc _) hgrow (Ne.symm ag1)
      have hk1 : Kp (fun b => (Value.slice A5 j c5).ownBlock = some b) wr w1 := (((Kp.refl _ wr).drewN _).alloc _).grown hgrow (fun k hk => .inr hk)
      have hrw : Reads w1 B 1 (some ad) bs.length (bvs bs) := hr.kp (by omega) hk1 (fun b hb e => by have := (hown.lt b e).1; omega)
      have href1 : RefB w1 B pm bs (k + j) := ⟨_, cap, hbw, h1, h2, h3, h4, hrw, hne⟩
      have hm := href1.moved (k' := k + (j + 1)) (by omega) 0
      have e1 := hbw.cell 1
      have e2 := hbw.frozen 1
      simp at e1
      have HM := Lib.hid hm
      clear c0 c1 f1 hc hc2 hm
      go_wp2
      go_roundw
      case rel =>
        refine ⟨j + 1, by omega, ?_, HM.out, ?_⟩
        · have := own_setCell hown1 (p := ⟨pm, 1, none⟩) (u := .int .i64 ((k : Int) + j + 1)) hpm
          rw [HU.out, bvs_append]
          exact this
        · exact hkc1.setCell (p := ⟨pm, 1, none⟩) (.inr rfl) _
      case measure => simp [lenOf]; omega
    · obtain rfl : j = U.length := by omega
      have HO : Hid (wr.ownsRow w.heap.size 5 1 (.slice A5 U.length c5) U.length (bvs U)) := by have := hown; rwa [List.take_length] at this
      by_cases hend : k + U.length < bs.length
      · obtain ⟨ad, rfl, hbl, hc⟩ := hr.byte (j := k + U.length) hend
        have hst := hEnd.out hend
        rw [hst] at hc
        simp only [Option.getD_some] at hc
        have g0 : (0 : Int) ≤ (k : Int) + U.length := by omega
        have g1 : (k : Int) + U.length < (bs.length : Int) := by omega
        clear hlt hst hend
        go_wp2
        go_quiet (fail)
        go_wp2
        go_ret
        exact ⟨_, rfl, own_drewN HO.out _, ⟨_, cap, hb, h1, h2, h3, h4, hr, hne⟩, hkc.drewN _⟩
      · have g1 : decide ((k : Int) + U.length < (bs.length : Int)) = false := by simp; omega
        clear hlt hend
        go_wp2
        go_quiet (fail)
        go_wp2
        go_ret
        exact ⟨_, rfl, own_drewN HO.out _, ⟨_, cap, hb, h1, h2, h3, h4, hr, hne⟩, hkc.drewN _⟩
end Go.Proofs.Ytdilpljfghbbeaa
