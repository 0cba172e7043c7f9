/- The cursor's further calls. -/
import Derived.Test.YtdilpljfghbbeaaC1
import Derived.Test.YtdilpljfghbbeaaShelf
import Derived.Lib.IndexLaws
set_option linter.unusedVariables false
set_option linter.unusedSimpArgs false
namespace Go.Proofs.Ytdilpljfghbbeaa
open Go.RowKit

theorem Reads.byte {w : World} {B m j : Nat} {A : Option Addr} {l : List UInt8} (h : Reads w B 1 A m (bvs l)) (hj : j < m) :
    ∃ ad, A = some ad ∧ ad.block < B ∧ w.cell? (ad.add j) = some (.int .u8 ((l[j]?.getD 0).toNat : Int)) := by
  obtain ⟨ad, u, e, hb, hu, hc⟩ := h.at_ hj
  refine ⟨ad, e, hb, hc.trans ?_⟩
  have hl : j < l.length := by have := h.1; rw [bvs_length] at this; omega
  rw [bvs_get hl] at hu
  rw [← hu, List.getElem?_eq_getElem hl]
  rfl

def peekOf (bs : List UInt8) (k : Nat) (n : Int) : Int × Bool :=
  if n < 0 ∨ n ≥ ((bs.length - k : Nat) : Int) then (0, false) else ((((bs.drop k)[n.toNat]?.getD 0).toNat : Int), true)

set_option maxHeartbeats 400000 in
theorem peek_any (B k : Nat) (v : Value) (bs : List UInt8) (n : Int) (w : World) (h : CurV w B v bs k) :
    Calls Try.prog 30 #[v, .int .i64 n] w fun e w' => e = .returned (.tuple #[.int .u8 (peekOf bs k n).1, .bool (peekOf bs k n).2]) ∧ ∃ m, w' = w.drewN m := by
  by_cases hn : n < 0
  · have ht : peekOf bs k n = (0, false) := by simp [peekOf, hn]
    rw [ht]
    clear ht
    go_enter Try.func30, Try.ntmps30
    go_wp2_with (go_at_call 28; refine (rest_any' B k v bs w h).mono ?_; rintro e w' ⟨A, c, rfl, h1, h2, h3, h4, h5, h6, m, rfl⟩)
    go_ret2
    exact ⟨rfl, _, rfl⟩
  · by_cases hl : n ≥ ((bs.length - k : Nat) : Int)
    · have ht : peekOf bs k n = (0, false) := by simp [peekOf, hl]
      rw [ht]
      clear ht
      go_enter Try.func30, Try.ntmps30
      go_wp2_with (go_at_call 28; refine (rest_any' B k v bs w h).mono ?_; rintro e w' ⟨A, c, rfl, h1, h2, h3, h4, h5, h6, m, rfl⟩)
      go_ret2
      exact ⟨rfl, _, rfl⟩
    · have ht : peekOf bs k n = ((((bs.drop k)[n.toNat]?.getD 0).toNat : Int), true) := by simp [peekOf, hn, hl]
      rw [ht]
      clear ht
      obtain ⟨n, rfl⟩ := Int.eq_ofNat_of_zero_le (show 0 ≤ n by omega)
      simp only [Int.toNat_natCast]
      have hlt : n < bs.length - k := by omega
      have hlt' : (n : Int) < ((bs.length - k : Nat) : Int) := by omega
      clear hn hl
      generalize hx : (((bs.drop k)[n]?.getD 0).toNat : Int) = x
      have HX := Lib.hid hx
      clear hx
      go_enter Try.func30, Try.ntmps30
      go_wp2_with (go_at_call 28; refine (rest_any' B k v bs w h).mono ?_; rintro e w' ⟨A, c, rfl, h1, h2, h3, h4, h5, h6, m, rfl⟩; obtain ⟨ad, rfl, hb, hc⟩ := h4.byte hlt; rw [HX.out] at hc)
      go_ret2
      exact ⟨rfl, _, rfl⟩

set_option maxHeartbeats 400000 in
theorem back_any (B k : Nat) (v : Value) (bs : List UInt8) (n : Int) (w : World) (h : CurV w B v bs k) :
    Calls Try.prog 17 #[v, .int .i64 n] w fun e w' => e = .returned (.int .i64 (if n < 0 ∨ n > k then 1 else 0)) ∧ CurV w' B v bs (if n < 0 ∨ n > k then k else k - n.toNat) ∧ KC v w w' := by
  by_cases hn : n < 0 ∨ n > k
  · rw [if_pos hn, if_pos hn]
    by_cases h0 : n < 0
    · go_enter Try.func17, Try.ntmps17
      go_wp2
      go_ret
      exact ⟨rfl, h, Kp.refl _ _⟩
    · have h1 : (k : Int) < n := by omega
      clear hn
      go_enter Try.func17, Try.ntmps17
      go_wp2_with (go_at_call 15; refine (place_any B k v bs w h).mono ?_; rintro e w' ⟨rfl, rfl⟩)
      go_ret
      exact ⟨rfl, h, Kp.refl _ _⟩
  · rw [if_neg hn, if_neg hn]
    obtain ⟨n, rfl⟩ := Int.eq_ofNat_of_zero_le (show 0 ≤ n by omega)
    have hk : n ≤ k := by omega
    simp only [Int.toNat_natCast]
    clear hn
    by_cases h0 : n = 0
    · subst h0
      go_enter Try.func17, Try.ntmps17
      go_wp2_with (go_at_call 15; refine (place_any B k v bs w h).mono ?_; rintro e w' ⟨rfl, rfl⟩)
      go_ret
      exact ⟨rfl, h, Kp.refl _ _⟩
    · have hpos : 0 < n := by omega
      clear h0
      rcases h with ⟨rfl, rfl, rfl⟩ | ⟨pc, rfl, hcur⟩
      · omega
      · have hcur' := hcur
        obtain ⟨A0, cap0, hb, a1, a2, a3, a4, ar, aty, anc⟩ := hcur
        have c1 := hb.cell 1
        have f1 := hb.frozen 1
        simp at c1
        have hm := hcur'.moved (k' := k - n) (by omega) 0
        have hK := KC.set_ pc 0 (.int .i64 ((k : Int) - n)) w
        rw [Int.ofNat_sub hk] at hm
        go_enter Try.func17, Try.ntmps17
        go_wp2_with (go_at_call 15; refine (place_any B k _ bs w (.inr ⟨pc, rfl, hcur'⟩)).mono ?_; rintro e w' ⟨rfl, rfl⟩)
        go_ret
        exact ⟨rfl, .inr ⟨pc, rfl, hm⟩, hK⟩

def nextOf (bs : List UInt8) (k : Nat) : Int × Bool × Nat :=
  if k < bs.length then (((bs.drop k)[0]?.getD 0).toNat, true, k + 1) else (0, false, k)

set_option maxHeartbeats 400000 in
theorem next_any (B k : Nat) (v : Value) (bs : List UInt8) (w : World) (h : CurV w B v bs k) :
    Calls Try.prog 14 #[v] w fun e w' => e = .returned (.tuple #[.int .u8 (nextOf bs k).1, .bool (nextOf bs k).2.1]) ∧ CurV w' B v bs (nextOf bs k).2.2 ∧ KC v w w' := by
  by_cases hk : k < bs.length
  · have ht : nextOf bs k = (((bs.drop k)[0]?.getD 0).toNat, true, k + 1) := by simp [nextOf, hk]
    have hp : peekOf bs k 0 = (((bs.drop k)[0]?.getD 0).toNat, true) := by simp [peekOf]; omega
    have hpk := peek_any B k v bs 0 w h
    rw [hp] at hpk
    have HP := Lib.hid hpk
    clear hpk hp
    rw [ht]
    clear ht
    generalize (((bs.drop k)[0]?.getD 0).toNat : Int) = x at *
    rcases h with ⟨rfl, rfl, rfl⟩ | ⟨pc, rfl, hcur⟩
    · simp at hk
    · have hcur' := hcur
      obtain ⟨A0, cap0, hb, a1, a2, a3, a4, ar, aty, anc⟩ := hcur
      have c1 := hb.cell 1
      have f1 := hb.frozen 1
      simp at c1
      go_enter Try.func14, Try.ntmps14
      go_wp2_with (go_at_call 30; refine HP.out.mono ?_; rintro e w' ⟨rfl, m, rfl⟩)
      go_ret2
      exact ⟨rfl, .inr ⟨pc, rfl, hcur'.moved (k' := k + 1) hk m⟩, KC.set_ pc m _ w⟩
  · have ht : nextOf bs k = (0, false, k) := by simp [nextOf, hk]
    have hp : peekOf bs k 0 = (0, false) := by simp [peekOf]; omega
    have hpk := peek_any B k v bs 0 w h
    rw [hp] at hpk
    have HP := Lib.hid hpk
    clear hpk hp
    rw [ht]
    clear ht
    go_enter Try.func14, Try.ntmps14
    go_wp2_with (go_at_call 30; refine HP.out.mono ?_; rintro e w' ⟨rfl, m, rfl⟩)
    go_ret2
    exact ⟨rfl, h.drewN _, (Kp.refl _ _).drewN _⟩

theorem takeOf_fst_length (bs : List UInt8) (k : Nat) (n : Int) : (takeOf bs k n).1.length ≤ bs.length := by
  unfold takeOf
  split
  · simp
  · split
    · simp
    · simp only [List.length_take, List.length_drop]; omega

theorem own_sl {w : World} {base B : Nat} {v : Value} {l : List UInt8} (h : w.ownsRow base 5 1 v l.length (bvs l)) (hB : w.heap.size ≤ B) (hl : l.length ≤ 140737488355328) : SlV w B v l := by
  rcases h.2 with ⟨rfl, h0⟩ | ⟨g, cap, cur, rfl, hg, hh, h1, h2, _⟩
  · have : l = [] := by simpa [bvs] using h0
    subst this
    exact SlV.of rfl (by simp) (by simp) (by simp) Reads.none_
  · exact SlV.of rfl h1 (by simpa [maxLen] using h2) hl ((Reads.of_own h).more hB)

/-- Window. -/
theorem window_any (B k : Nat) (v : Value) (bs : List UInt8) (n : Int) (w : World) (hB : B ≤ w.heap.size) (h : CurV w B v bs k) :
    Calls Try.prog 18 #[v, .int .i64 n] w fun e w' => ∃ r, e = .returned r ∧ w'.ownsRow w.heap.size 5 1 r ((bs.drop k).take n.toNat).length (bvs ((bs.drop k).take n.toNat)) ∧ K0 w w' := by
  have hq : (bs.drop k).take (max 0 (min n ((bs.length - k : Nat) : Int))).toNat = (bs.drop k).take n.toNat := by
    by_cases h0 : n < 0
    · rw [show (max 0 (min n ((bs.length - k : Nat) : Int))).toNat = 0 by omega, show n.toNat = 0 by omega]
    · by_cases h1 : n ≤ ((bs.length - k : Nat) : Int)
      · rw [show (max 0 (min n ((bs.length - k : Nat) : Int))).toNat = n.toNat by omega]
      · rw [show (max 0 (min n ((bs.length - k : Nat) : Int))).toNat = bs.length - k by omega, List.take_of_length_le (by simp), List.take_of_length_le (by simp; omega)]
  have HQ := Lib.hid hq
  clear hq
  go_enter Try.func18, Try.ntmps18
  go_wp2_with (first
    | (go_at_call 28; refine (rest_any' B k v bs w h).mono ?_; rintro e w' ⟨A, c, rfl, h1, h2, h3, h4, h5, h6, m, rfl⟩)
    | (go_at_call 16; refine (left_any B k v bs _ (h.drewN m)).mono ?_; rintro e w' ⟨rfl, m2, rfl⟩)
    | (go_at_call 26; refine (clone_any B _ ((bs.drop k).take n.toNat) _ (by exact hB) (by rw [← HQ.out]; exact SlV.take (h4.drewN _) (by simp) (by omega) h1 h2 h3)).mono ?_; rintro e w2 ⟨r2, rfl, ho, hk2⟩))
  go_ret
  exact ⟨_, rfl, ho, ((Kp.refl _ _).drewN _).trans hk2⟩

theorem indexByte_cases (c : UInt8) (l : List UInt8) : (Lib.indexByte l c = -1 ∧ l.takeWhile (· != c) = l) ∨ (∃ n : Nat, Lib.indexByte l c = n ∧ n < l.length ∧ l.takeWhile (· != c) = l.take n) := by
  induction l with
  | nil => left; simp [Lib.indexByte]
  | cons b l ih =>
    simp only [Lib.indexByte]
    by_cases hb : b = c
    · subst hb
      right
      exact ⟨0, by simp, by simp, by simp⟩
    · have hb' : (b == c) = false := by simpa using hb
      have hb2 : (b != c) = true := by simpa using hb
      rw [hb', List.takeWhile_cons, hb2]
      simp only [Bool.false_eq_true, if_false, if_true]
      rcases ih with ⟨h1, h2⟩ | ⟨n, h1, h2, h3⟩
      · left
        rw [h1, h2]
        simp
      · right
        refine ⟨n + 1, ?_, by simpa using h2, by rw [h3]; simp⟩
        rw [h1]
        rw [if_neg (by simp)]
        rfl

theorem bytesOf_toNat (l : List UInt8) : Lib.bytesOf (l.map fun b => (b.toNat : Int)) = l := by
  induction l with
  | nil => rfl
  | cons b l ih => simp only [Lib.bytesOf, List.map_cons, List.map_map] at *; rw [ih]; simp

theorem index_any (B c : Nat) (A : Option Addr) (l : List UInt8) (stop : UInt8) (w : World) (n : Nat) (hn : n = l.length) (hnil : A = none → c = 0) (h : Reads w B 1 A n (bvs l)) :
    Calls Try.prog 31 #[.slice A n c, .int .u8 (stop.toNat : Int)] w fun e w' => e = .returned (.int .i64 (Lib.indexByte l stop)) ∧ w = w' := by
  subst hn
  cases A with
  | none =>
    have hl : l = [] := by
      cases l with
      | nil => rfl
      | cons a t => obtain ⟨ad, e, _⟩ := h.2 (by simp); cases e
    subst hl
    rw [hnil rfl]
    exact (Try.bytes_IndexByte_nil _ w).mono fun e w' ⟨he, hw⟩ => ⟨he, hw.symm⟩
  | some ad =>
    refine (Try.bytes_IndexByte_at ad l.length c (l.map fun b => (b.toNat : Int)) (stop.toNat : Int) w (by simp) ?_).mono fun e w' ⟨he, hw⟩ => ⟨by rw [he, bytesOf_toNat]; simp, hw.symm⟩
    intro i hi
    obtain ⟨ad', e, hb, hc⟩ := h.byte hi
    cases e
    rw [hc]
    simp [List.getD_eq_getElem?_getD, List.getElem?_eq_getElem hi]


/-- The state behind Until. -/
def untilOf (bs : List UInt8) (k : Nat) (stop : UInt8) : List UInt8 := (bs.drop k).takeWhile (· != stop)
theorem untilOf_le (bs : List UInt8) (k : Nat) (stop : UInt8) : (untilOf bs k stop).length ≤ bs.length - k := by
  have h := (List.takeWhile_prefix (l := bs.drop k) (p := (· != stop))).length_le
  rw [List.length_drop] at h
  exact h

set_option maxHeartbeats 400000 in
theorem until_any (B k : Nat) (v : Value) (bs : List UInt8) (stop : UInt8) (w : World) (hB : B ≤ w.heap.size) (h : CurV w B v bs k) :
    Calls Try.prog 19 #[v, .int .u8 (stop.toNat : Int)] w fun e w' => ∃ r, e = .returned r ∧ w'.ownsRow w.heap.size 5 1 r (untilOf bs k stop).length (bvs (untilOf bs k stop)) ∧ CurV w' B v bs (k + (untilOf bs k stop).length) ∧ KC v w w' := by
  have HC : ∀ q : Nat, untilOf bs k stop = (bs.drop k).take q → q ≤ bs.length - k → takeOf bs k (q : Int) = (untilOf bs k stop, 0, k + (untilOf bs k stop).length) := by
    intro q hq hl
    rw [hq]
    simp only [takeOf]
    rw [if_neg (by omega), if_neg (by omega)]
    simp only [Int.toNat_natCast, List.length_take, List.length_drop]
    rw [Nat.min_eq_left hl]
  have HT := fun q : Nat => take_any B k v bs (q : Int)
  rcases indexByte_cases stop (bs.drop k) with ⟨h1, h2⟩ | ⟨q, h1, h2, h3⟩
  · have H1 := Lib.hid h1
    have H2 := Lib.hid (HC (bs.length - k) (by rw [untilOf, h2, List.take_of_length_le (by simp)]) (Nat.le_refl _))
    have HT2 := Lib.hid HT
    clear h1 HC HT h2
    go_enter Try.func19, Try.ntmps19
    go_wp2_with (first
      | (go_at_call 28; refine (rest_any' B k v bs w h).mono ?_; rintro e w' ⟨A, c, rfl, a1, a2, a3, a4, a5, a6, m, rfl⟩)
      | (go_at_call 31; refine (index_any B _ A (bs.drop k) stop _ _ (by simp) (by exact a6) (a4.drewN _)).mono ?_; rintro e w' ⟨rfl, rfl⟩; rw [H1.out])
      | (go_at_call 27; refine (HT2.out (bs.length - k) _ (by exact hB) (by exact h.drewN _)).mono ?_; rw [H2.out]; rintro e w1 ⟨r, rfl, hs, hc, hk⟩)
      | (go_at_call 26; refine (clone_any B r _ w1 (Nat.le_trans hB hk.size) hs).mono ?_; rintro e w2 ⟨r2, rfl, ho, hk2⟩))
    go_ret
    exact ⟨_, rfl, own_mono ho hk.size, hc.k0 (Nat.le_trans hB hk.size) hk2, Kp.trans' ((Kp.refl _ _).drewN _) (hk.trans' hk2 (fun _ _ h => h.elim)) (fun _ _ h => h)⟩
  · have H1 := Lib.hid h1
    have H2 := Lib.hid (HC q h3 (by rw [List.length_drop] at h2; omega))
    have HT2 := Lib.hid HT
    clear h1 HC HT h2 h3
    go_enter Try.func19, Try.ntmps19
    go_wp2_with (first
      | (go_at_call 28; refine (rest_any' B k v bs w h).mono ?_; rintro e w' ⟨A, c, rfl, a1, a2, a3, a4, a5, a6, m, rfl⟩)
      | (go_at_call 31; refine (index_any B _ A (bs.drop k) stop _ _ (by simp) (by exact a6) (a4.drewN _)).mono ?_; rintro e w' ⟨rfl, rfl⟩; rw [H1.out])
      | (go_at_call 27; refine (HT2.out (q) _ (by exact hB) (by exact h.drewN _)).mono ?_; rw [H2.out]; rintro e w1 ⟨r, rfl, hs, hc, hk⟩)
      | (go_at_call 26; refine (clone_any B r _ w1 (Nat.le_trans hB hk.size) hs).mono ?_; rintro e w2 ⟨r2, rfl, ho, hk2⟩))
    go_ret
    exact ⟨_, rfl, own_mono ho hk.size, hc.k0 (Nat.le_trans hB hk.size) hk2, Kp.trans' ((Kp.refl _ _).drewN _) (hk.trans' hk2 (fun _ _ h => h.elim)) (fun _ _ h => h)⟩

end Go.Proofs.Ytdilpljfghbbeaa
