/- The cursor's calls: contracts over the translation. -/
import Derived.Test.YtdilpljfghbbeaaProg
import Derived.Test.YtdilpljfghbbeaaM
set_option linter.unusedVariables false
set_option linter.unusedSimpArgs false
namespace Go.Proofs.Ytdilpljfghbbeaa
open Go.RowKit

/-- The value reads as the bytes l; it lies below B. -/
def SlV (w : World) (B : Nat) (v : Value) (l : List UInt8) : Prop :=
  ∃ A c, v = .slice A l.length c ∧ l.length ≤ c ∧ c ≤ 9223372036854775807 ∧ l.length ≤ 140737488355328 ∧ Reads w B 1 A l.length (bvs l)

theorem own_type {w : World} {b : Nat} {e : TypeId} {size n c : Nat} {A : Option Addr} {xs : List Value} (h : w.ownsRow b e size (.slice A n c) n xs) : (∀ ad, A = some ad → ∃ cs, Blk w ad.block e cs) ∧ (A = none → c = 0) ∧ (∀ ad, A = some ad → b ≤ ad.block ∧ ad.spot = none) := by
  rcases h.2 with ⟨h1, _⟩ | ⟨g, cap, cur, hv, hg, hh, _⟩
  · cases h1
    exact ⟨fun _ e => (by cases e), fun _ => rfl, fun _ e => (by cases e)⟩
  · cases hv
    exact ⟨fun _ e => (by cases e; exact ⟨cur, hh⟩), fun e => (by cases e), fun _ e => (by cases e; exact ⟨hg, rfl⟩)⟩
theorem own_form {w : World} {b : Nat} {e : TypeId} {size n : Nat} {v : Value} {xs : List Value} (h : w.ownsRow b e size v n xs) : ∃ A c, v = .slice A n c ∧ n ≤ c ∧ c ≤ 9223372036854775807 := by
  rcases h.2 with ⟨h1, h0⟩ | ⟨g, cap, cur, hv, hg, hh, h1, h2, _⟩
  · subst h0
    exact ⟨none, 0, h1, by omega, by omega⟩
  · exact ⟨_, cap, hv, h1, by simpa [maxLen] using h2⟩
theorem SlV.of {w : World} {B : Nat} {A : Option Addr} {n c : Nat} {l : List UInt8} (hn : n = l.length) (h1 : n ≤ c) (h2 : c ≤ 9223372036854775807) (h3 : n ≤ 140737488355328) (h4 : Reads w B 1 A n (bvs l)) : SlV w B (.slice A n c) l := by
  subst hn
  exact ⟨A, c, rfl, h1, h2, h3, h4⟩
theorem own_mono {w : World} {b b' : Nat} {e : TypeId} {size n : Nat} {v : Value} {xs : List Value} (h : w.ownsRow b e size v n xs) (hb : b' ≤ b) : w.ownsRow b' e size v n xs := by
  refine ⟨h.1, ?_⟩
  rcases h.2 with h2 | ⟨g, cap, cur, hv, hg, r⟩
  · exact .inl h2
  · exact .inr ⟨g, cap, cur, hv, by omega, r⟩
theorem SlV.k0 {w w' : World} {B : Nat} {v : Value} {l : List UInt8} (h : SlV w B v l) (hB : B ≤ w.heap.size) (k : K0 w w') : SlV w' B v l := by
  obtain ⟨A, c, e, h1, h2, h3, h4⟩ := h
  exact ⟨A, c, e, h1, h2, h3, h4.k0 hB k⟩
theorem SlV.drewN {w : World} {B : Nat} {v : Value} {l : List UInt8} (h : SlV w B v l) (n : Nat) : SlV (w.drewN n) B v l := h

/-- Block pc is a cursor over bs, at the place k. -/
def CurB (w : World) (B : Nat) (pc : Nat) (bs : List UInt8) (k : Nat) : Prop :=
  ∃ A cap, Blk w pc 58 #[.slice A bs.length cap, .int .i64 (k : Int)] ∧ k ≤ bs.length ∧ bs.length ≤ cap ∧ cap ≤ 9223372036854775807 ∧ bs.length ≤ 140737488355328 ∧
    Reads w B 1 A bs.length (bvs bs) ∧ (∀ ad, A = some ad → ad.block < B ∧ ∃ cs, Blk w ad.block 5 cs) ∧ (A = none → cap = 0)

/-- A cursor's value: nil, or a block. -/
def CurV (w : World) (B : Nat) (v : Value) (bs : List UInt8) (k : Nat) : Prop :=
  (v = .pointer none ∧ bs = [] ∧ k = 0) ∨ ∃ pc, v = .pointer (some ⟨pc, 0, none⟩) ∧ CurB w B pc bs k

set_option maxHeartbeats 400000 in
theorem rest_some (pc k cap n : Nat) (A : Option Addr) (w : World) (h0 : w.cell? ⟨pc, 0, none⟩ = some (.slice A n cap)) (h1 : w.cell? ⟨pc, 1, none⟩ = some (.int .i64 k)) (hk : k ≤ n) (hn : n ≤ cap) (hcap : cap ≤ 9223372036854775807) :
    Calls Try.prog 28 #[.pointer (some ⟨pc, 0, none⟩)] w fun e w' => e = .returned (.slice (if cap = k then A else A.map (·.add k)) (n - k) (cap - k)) ∧ ∃ m, w' = w.drewN m := by
  go_enter Try.func28, Try.ntmps28
  go_wp2
  go_quiet (fail)
  go_wp2
  all_goals
    go_ret
    exact ⟨by simp [*], _, rfl⟩

theorem rest_nil (w : World) : Calls Try.prog 28 #[.pointer none] w fun e w' => e = .returned (.slice none 0 0) ∧ w = w' := by
  go_enter Try.func28, Try.ntmps28
  go_wp2
  go_ret
  exact ⟨rfl, rfl⟩

theorem u8_info : (Try.prog.info? 5).map (fun i => (i.zero, i.size, i.bytes)) = some (some (.int .u8 0), 1, 1) := by kernel_rfl

set_option maxHeartbeats 400000 in
theorem clone_some (ad : Addr) (n c B : Nat) (l : List UInt8) (w : World) (hl : l.length = n) (hn : n ≤ 140737488355328) (hB : B ≤ w.heap.size) (hr : Reads w B 1 (some ad) n (bvs l)) :
    Calls Try.prog 26 #[.slice (some ad) n c] w fun e w' => ∃ v, e = .returned v ∧ w'.ownsRow w.heap.size 5 1 v n (bvs l) ∧ K0 w w' := by
  obtain ⟨i0, hi, hz0, hz1, hz2⟩ := info_parts u8_info
  have q22 : ∀ (w : World) (a : Option Addr) (n c n' c' : Nat), (binOp .eql 23 (.slice a n c) (.slice none n' c')).run Try.prog w = .ok (.bool a.isNone) w := fun w a n c n' c' => Lib.run_eql_slice_nil w _ _ a n c n' c' Try.underlying23
  go_enter Try.func26, Try.ntmps26
  go_wp2_with (at_builtin; refine wpList_append_any _ rfl (.tmp 5) (.tmp 6) _ rfl w.heap.size 5 i0 _ 1 1 Try.underlying23 hi hz0 hz1 hz2 rfl (by omega) (.slice (some ⟨w.heap.size, 0, none⟩) 0 0) 0 [] rfl ?h1 B (some ad) n c (bvs l) rfl ?h2 (bvs_one l) ?h3 ?h4 ?h5 ?h6)
  case h1 => exact World.ownsRow_made w #[] 0 (Nat.le_refl _) (by simp [maxLen]) rfl
  case h2 => exact hr.alloc hB _
  case h3 => simp only [maxLen]; omega
  case h4 => omega
  case h5 => simp
  case h6 =>
    intro v1 w1 hown hg hat
    go_wp2
    go_ret
    exact ⟨v1, rfl, by simpa using hown, ((Kp.refl _ _).alloc _).grown hg (by simp [Value.ownBlock])⟩

/-- bytes.Clone, of whatever slice. -/
theorem clone_any (B : Nat) (v : Value) (l : List UInt8) (w : World) (hB : B ≤ w.heap.size) (h : SlV w B v l) :
    Calls Try.prog 26 #[v] w fun e w' => ∃ v', e = .returned v' ∧ w'.ownsRow w.heap.size 5 1 v' l.length (bvs l) ∧ K0 w w' := by
  obtain ⟨A, c, rfl, h1, h2, h3, hr⟩ := h
  cases A with
  | some ad => exact clone_some ad l.length c B l w rfl h3 hB hr
  | none =>
    have hl : l = [] := by
      cases l with
      | nil => rfl
      | cons a t => obtain ⟨ad, e, _⟩ := hr.2 (by simp); cases e
    subst hl
    have q22 : ∀ (w : World) (a : Option Addr) (n c n' c' : Nat), (binOp .eql 23 (.slice a n c) (.slice none n' c')).run Try.prog w = .ok (.bool a.isNone) w := fun w a n c n' c' => Lib.run_eql_slice_nil w _ _ a n c n' c' Try.underlying23
    go_enter Try.func26, Try.ntmps26
    go_wp2
    go_ret
    exact ⟨_, rfl, World.ownsRow_nil _ _ _ _, Kp.refl _ _⟩

/-- rest, of whatever cursor. -/
theorem rest_any' (B k : Nat) (v : Value) (bs : List UInt8) (w : World) (h : CurV w B v bs k) :
    Calls Try.prog 28 #[v] w fun e w' => ∃ A c, e = .returned (.slice A (bs.length - k) c) ∧ bs.length - k ≤ c ∧ c ≤ 9223372036854775807 ∧ bs.length - k ≤ 140737488355328 ∧ Reads w B 1 A (bs.length - k) (bvs (bs.drop k)) ∧
      (∀ ad, A = some ad → v ≠ .pointer (some ⟨ad.block, 0, none⟩)) ∧ (A = none → c = 0) ∧ ∃ m, w' = w.drewN m := by
  rcases h with ⟨rfl, rfl, rfl⟩ | ⟨pc, rfl, A, cap, hb, h1, h2, h3, h4, hr, hty, hnc⟩
  · exact (rest_nil w).mono fun e w' ⟨he, hw⟩ => ⟨none, 0, he, by simp, by simp, by simp, Reads.none_, by simp, by simp, 0, hw ▸ rfl⟩
  · refine (rest_some pc k cap bs.length A w (hb.cell 0) (hb.cell 1) h1 h2 h3).mono fun e w' ⟨he, m, hw⟩ => ⟨_, _, he, by omega, by omega, by omega, ?_, ?_, ?_, m, hw⟩
    · have := hr.cut (k := k) (cap := cap) h1 h2
      simp only [Nat.mul_one] at this
      rw [← bvs_drop]
      exact this
    · have hne : ∀ ad, A = some ad → ad.block ≠ pc := fun ad e => by obtain ⟨_, cs, hc⟩ := hty ad e; exact hc.ne_ hb (by decide)
      intro ad had hv
      simp only [Value.pointer.injEq, Option.some.injEq, Addr.mk.injEq, and_true] at hv
      split at had
      · exact hne ad had hv.symm
      · cases A with
        | none => simp at had
        | some a0 =>
          simp only [Option.map_some, Option.some.injEq] at had
          exact hne a0 rfl (by rw [hv, ← had, block_of_add])
    · intro hA
      have : A = none := by
        split at hA
        · exact hA
        · cases A with
          | none => rfl
          | some a0 => simp at hA
      have := hnc this
      omega

theorem place_any (B k : Nat) (v : Value) (bs : List UInt8) (w : World) (h : CurV w B v bs k) :
    Calls Try.prog 15 #[v] w fun e w' => e = .returned (.int .i64 k) ∧ w = w' := by
  rcases h with ⟨rfl, rfl, rfl⟩ | ⟨pc, rfl, A, cap, hb, h1, h2, h3, h4, hr, hty, hnc⟩
  · go_enter Try.func15, Try.ntmps15
    go_wp2
    go_ret
    exact ⟨rfl, rfl⟩
  · have c1 := hb.cell 1
    go_enter Try.func15, Try.ntmps15
    go_wp2
    go_ret
    exact ⟨rfl, rfl⟩

theorem left_any (B k : Nat) (v : Value) (bs : List UInt8) (w : World) (h : CurV w B v bs k) :
    Calls Try.prog 16 #[v] w fun e w' => e = .returned (.int .i64 (bs.length - k : Nat)) ∧ ∃ m, w' = w.drewN m := by
  go_enter Try.func16, Try.ntmps16
  go_wp2_with (go_at_call 28; refine (rest_any' B k v bs w h).mono ?_; rintro e w' ⟨A, c, rfl, h1, h2, h3, h4, h5, h6, m, rfl⟩)
  go_ret
  exact ⟨by simp, _, rfl⟩

/-- What 'take' answers: the bytes, the error, the place behind. -/
def takeOf (bs : List UInt8) (k : Nat) (n : Int) : List UInt8 × Int × Nat :=
  if n < 0 then ([], 1, k) else if n > ((bs.length - k : Nat) : Int) then ([], 3, k) else ((bs.drop k).take n.toNat, 0, k + n.toNat)

/-- What a call on the cursor v may turn. -/
abbrev KC (v : Value) (w w' : World) : Prop := Kp (fun b => v = .pointer (some ⟨b, 0, none⟩)) w w'

theorem SlV.take {w : World} {B : Nat} {A : Option Addr} {n c m : Nat} {l : List UInt8} (h : Reads w B 1 A n (bvs l)) (hl : n = l.length) (hm : m ≤ n) (h1 : n ≤ c) (h2 : c ≤ 9223372036854775807) (h3 : n ≤ 140737488355328) : SlV w B (.slice A m c) (l.take m) := by
  subst hl
  refine SlV.of ?_ (by omega) h2 (by omega) ?_
  · rw [List.length_take]; omega
  · have := h.take hm
    simp only [Nat.mul_one] at this
    rw [← bvs_take]
    exact this

/-- The cursor's block behind a move to another place. -/
theorem CurB.moved {w : World} {B pc : Nat} {bs : List UInt8} {k k' : Nat} (h : CurB w B pc bs k) (hk : k' ≤ bs.length) (m : Nat) :
    CurB ((w.drewN m).setCell ⟨pc, 1, none⟩ (.int .i64 (k' : Int))) B pc bs k' := by
  obtain ⟨A, cap, hb, h1, h2, h3, h4, hr, hty, hnc⟩ := h
  have hne : ∀ ad, A = some ad → ad.block ≠ pc := fun ad e => by obtain ⟨_, cs, hc⟩ := hty ad e; exact hc.ne_ hb (by decide)
  refine ⟨A, cap, (hb.drewN m).set_ 1 _, hk, h2, h3, h4, ?_, fun ad e => ?_, hnc⟩
  · exact (hr.drewN m).keepAt fun ad e p hp => World.cell?_setCell_other _ _ _ _ (fun e' => by subst e'; exact hne ad e hp.symm)
  · obtain ⟨hlt, cs, hc⟩ := hty ad e
    exact ⟨hlt, cs, (hc.drewN m).far (p := ⟨pc, 1, none⟩) (hne ad e) _⟩
theorem CurB.drewN {w : World} {B pc : Nat} {bs : List UInt8} {k : Nat} (h : CurB w B pc bs k) (m : Nat) : CurB (w.drewN m) B pc bs k := h
theorem CurV.drewN {w : World} {B : Nat} {v : Value} {bs : List UInt8} {k : Nat} (h : CurV w B v bs k) (m : Nat) : CurV (w.drewN m) B v bs k := h
theorem CurB.kp {S : Nat → Prop} {w w' : World} {B pc : Nat} {bs : List UInt8} {k : Nat} (h : CurB w B pc bs k) (hB : B ≤ w.heap.size) (hk : Kp S w w') (h1 : ¬ S pc) (h2 : ∀ b cs, b < B → Blk w b 5 cs → ¬ S b) : CurB w' B pc bs k := by
  obtain ⟨A, cap, hb, a1, a2, a3, a4, hr, hty, hnc⟩ := h
  refine ⟨A, cap, hb.kp hk h1, a1, a2, a3, a4, ⟨hr.1, fun hn => ?_⟩, fun ad e => ?_, hnc⟩
  · obtain ⟨ad, e, hbl, hc⟩ := hr.2 hn
    obtain ⟨hlt, cs, hcs⟩ := hty ad e
    exact ⟨ad, e, hbl, fun j u hu => (hk.cell (by rw [block_of_add]; omega) (by rw [block_of_add]; exact h2 _ cs hlt hcs)).trans (hc j u hu)⟩
  · obtain ⟨hlt, cs, hcs⟩ := hty ad e
    exact ⟨hlt, cs, hcs.kp hk (h2 _ cs hlt hcs)⟩
theorem CurV.k0 {w w' : World} {B : Nat} {v : Value} {bs : List UInt8} {k : Nat} (h : CurV w B v bs k) (hB : B ≤ w.heap.size) (hk : K0 w w') : CurV w' B v bs k := by
  rcases h with h | ⟨pc, e, h⟩
  · exact .inl h
  · exact .inr ⟨pc, e, h.kp hB hk (fun h => h) (fun _ _ _ _ h => h)⟩

theorem KC.set_ (pc m : Nat) (u : Value) (w : World) : KC (.pointer (some ⟨pc, 0, none⟩)) w ((w.drewN m).setCell ⟨pc, 1, none⟩ u) :=
  ((Kp.refl (fun b => Value.pointer (some ⟨pc, 0, none⟩) = .pointer (some ⟨b, 0, none⟩)) w).drewN m).setCell (p := ⟨pc, 1, none⟩) (.inr rfl) u

set_option maxHeartbeats 400000 in
theorem take_any (B k : Nat) (v : Value) (bs : List UInt8) (n : Int) (w : World) (hB : B ≤ w.heap.size) (h : CurV w B v bs k) :
    Calls Try.prog 27 #[v, .int .i64 n] w fun e w' => ∃ r, e = .returned (.tuple #[r, .int .i64 (takeOf bs k n).2.1]) ∧ SlV w' B r (takeOf bs k n).1 ∧ CurV w' B v bs (takeOf bs k n).2.2 ∧ KC v w w' := by
  by_cases hn : n < 0
  · have ht : takeOf bs k n = ([], 1, k) := by simp [takeOf, hn]
    rw [ht]
    clear ht
    go_enter Try.func27, Try.ntmps27
    go_wp2_with (go_at_call 28; refine (rest_any' B k v bs w h).mono ?_; rintro e w' ⟨A, c, rfl, h1, h2, h3, h4, h5, h6, m, rfl⟩)
    go_ret2
    exact ⟨_, rfl, ⟨none, 0, rfl, by simp, by simp, by simp, Reads.none_⟩, h.drewN _, (Kp.refl _ _).drewN _⟩
  · by_cases hl : n > ((bs.length - k : Nat) : Int)
    · have ht : takeOf bs k n = ([], 3, k) := by simp [takeOf, hn, hl]
      rw [ht]
      clear ht
      go_enter Try.func27, Try.ntmps27
      go_wp2_with (go_at_call 28; refine (rest_any' B k v bs w h).mono ?_; rintro e w' ⟨A, c, rfl, h1, h2, h3, h4, h5, h6, m, rfl⟩)
      go_ret2
      exact ⟨_, rfl, ⟨none, 0, rfl, by simp, by simp, by simp, Reads.none_⟩, h.drewN _, (Kp.refl _ _).drewN _⟩
    · have ht : takeOf bs k n = ((bs.drop k).take n.toNat, 0, k + n.toNat) := by simp [takeOf, hn, hl]
      rw [ht]
      clear ht
      obtain ⟨n, rfl⟩ := Int.eq_ofNat_of_zero_le (show 0 ≤ n by omega)
      simp only [Int.toNat_natCast]
      rcases h with ⟨rfl, rfl, rfl⟩ | ⟨pc, rfl, hcur⟩
      · have hn0 : n = 0 := by simp at hl; omega
        subst hn0
        go_enter Try.func27, Try.ntmps27
        go_wp2_with (go_at_call 28; refine (rest_nil w).mono ?_; rintro e w' ⟨rfl, rfl⟩)
        go_ret2
        exact ⟨_, rfl, ⟨none, 0, rfl, by simp, by simp, by simp, Reads.none_⟩, .inl ⟨rfl, rfl, rfl⟩, Kp.refl _ _⟩
      · have hcur' := hcur
        obtain ⟨A0, cap0, hb, a1, a2, a3, a4, ar, aty, anc⟩ := hcur
        have c1 := hb.cell 1
        have f1 := hb.frozen 1
        simp at c1
        have hbound : (k : Int) + n ≤ 140737488355328 := by omega
        by_cases h0 : n = 0
        · subst h0
          go_enter Try.func27, Try.ntmps27
          go_wp2_with (go_at_call 28; refine (rest_any' B k _ bs w (.inr ⟨pc, rfl, hcur'⟩)).mono ?_; rintro e w' ⟨A, c, rfl, h1, h2, h3, h4, h5, h6, m, rfl⟩)
          go_ret2
          exact ⟨_, rfl, SlV.take (h4.drewN _) (by simp) (by omega) h1 h2 h3, .inr ⟨pc, rfl, hcur'⟩, (Kp.refl _ _).drewN _⟩
        · have hpos : 0 < n := by omega
          clear h0
          go_enter Try.func27, Try.ntmps27
          go_wp2_with (go_at_call 28; refine (rest_any' B k _ bs w (.inr ⟨pc, rfl, hcur'⟩)).mono ?_; rintro e w' ⟨A, c, rfl, h1, h2, h3, h4, h5, h6, m, rfl⟩)
          go_ret2
          refine ⟨_, rfl, SlV.take ?_ (by simp) (by omega) h1 h2 h3, .inr ⟨pc, rfl, by simpa using hcur'.moved (k' := k + n) (by omega) m⟩, KC.set_ pc m _ w⟩
          exact (h4.drewN m).keepAt fun ad e p hp => World.cell?_setCell_other _ _ _ _ (fun e' => by subst e'; exact h5 ad e (by simpa using hp))

set_option maxHeartbeats 400000 in
theorem Take_any (B k : Nat) (v : Value) (bs : List UInt8) (n : Int) (w : World) (hB : B ≤ w.heap.size) (h : CurV w B v bs k) :
    Calls Try.prog 12 #[v, .int .i64 n] w fun e w' => ∃ r, e = .returned (.tuple #[r, .int .i64 (takeOf bs k n).2.1]) ∧ w'.ownsRow w.heap.size 5 1 r (takeOf bs k n).1.length (bvs (takeOf bs k n).1) ∧ CurV w' B v bs (takeOf bs k n).2.2 ∧ KC v w w' := by
  go_enter Try.func12, Try.ntmps12
  go_wp2_with (first
    | (go_at_call 27; refine (take_any B k v bs n w hB h).mono ?_; rintro e w1 ⟨r, rfl, hs, hc, hk⟩)
    | (go_at_call 26; refine (clone_any B r _ w1 (Nat.le_trans hB hk.size) hs).mono ?_; rintro e w2 ⟨r2, rfl, ho, hk2⟩))
  go_ret2
  exact ⟨_, rfl, own_mono ho hk.size, hc.k0 (Nat.le_trans hB hk.size) hk2, hk.trans' hk2 (fun _ _ h => h.elim)⟩

end Go.Proofs.Ytdilpljfghbbeaa
