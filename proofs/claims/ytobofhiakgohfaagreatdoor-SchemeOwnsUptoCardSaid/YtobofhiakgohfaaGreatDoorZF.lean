/- the reference's List. -/
import Derived.Test.YtobofhiakgohfaaGreatDoorZE
set_option linter.unusedVariables false
set_option linter.unusedSimpArgs false
namespace Go.Proofs.YtobofhiakgohfaaGreatDoor
open Go.RowKit

set_option maxRecDepth 100000 in
set_option maxHeartbeats 400000 in
theorem rinWord_any (c : UInt8) (w : World) : Calls Tryz.prog 83 #[.int .u8 (c.toNat : Int)] w fun e w' => e = .returned (.bool (inWordB c)) ∧ w = w' := by
  have hI : inWordB c = (decide (33 ≤ c.toNat) && decide (c.toNat ≤ 126) && ((c.toNat : Int) != 35)) := by
    simp only [inWordB, bne]
    have h1 : decide (32 < c.toNat) = decide (33 ≤ c.toNat) := by rw [Bool.eq_iff_iff, decide_eq_true_iff, decide_eq_true_iff]; omega
    have h2 : decide (c.toNat < 127) = decide (c.toNat ≤ 126) := by rw [Bool.eq_iff_iff, decide_eq_true_iff, decide_eq_true_iff]; omega
    have h3 : (c.toNat == 35) = ((c.toNat : Int) == 35) := by rw [Bool.eq_iff_iff, beq_iff_eq, beq_iff_eq]; omega
    rw [h1, h2, h3]
  rw [hI]
  clear hI
  by_cases h1 : 33 ≤ c.toNat
  · by_cases h2 : c.toNat ≤ 126
    · rw [decide_eq_true h1, decide_eq_true h2]
      go_enter Tryz.func83, Tryz.ntmps83
      go_wp2
      go_ret
      exact ⟨rfl, rfl⟩
    · rw [decide_eq_false h2]
      simp only [Bool.and_false, Bool.false_and]
      go_enter Tryz.func83, Tryz.ntmps83
      go_wp2
      go_ret
      exact ⟨rfl, rfl⟩
  · rw [decide_eq_false h1]
    simp only [Bool.and_false, Bool.false_and]
    go_enter Tryz.func83, Tryz.ntmps83
    go_wp2
    go_ret
    exact ⟨rfl, rfl⟩

theorem snoc_word (s : ByteArray) (E : List Tok) (f k : Nat) (h : f ≤ k) : tcells ((E ++ [(⟨1, f, k - f⟩ : Tok)]).map (tv s)) = tcells (E.map (tv s)) ++ [Value.int .i64 1, .string (s.extract f k), .int .i64 (f : Int)] := by
  rw [List.map_append, tcells_append]
  show _ ++ [Value.int .i64 1, .string (s.extract f (f + (k - f))), .int .i64 (f : Int)] = _
  rw [show f + (k - f) = k by omega]
theorem snoc_line (s : ByteArray) (E : List Tok) (k : Nat) : tcells ((E ++ [(⟨2, k, 1⟩ : Tok)]).map (tv s)) = tcells (E.map (tv s)) ++ [Value.int .i64 2, .string ⟨#[10]⟩, .int .i64 (k : Int)] := by
  rw [List.map_append, tcells_append]; rfl
theorem snoc_stop (s : ByteArray) (E : List Tok) (k : Nat) : tcells ((E ++ [(⟨3, k, 0⟩ : Tok)]).map (tv s)) = tcells (E.map (tv s)) ++ [Value.int .i64 3, .string ⟨#[]⟩, .int .i64 (k : Int)] := by
  rw [List.map_append, tcells_append]; rfl
theorem snoc_bad (s : ByteArray) (E : List Tok) (k : Nat) : tcells ((E ++ [(⟨4, k, 1⟩ : Tok)]).map (tv s)) = tcells (E.map (tv s)) ++ [Value.int .i64 4, .string (s.extract k (k + 1)), .int .i64 (k : Int)] := by
  rw [List.map_append, tcells_append]; rfl
theorem snoc_len (E : List Tok) (x : Tok) : (E ++ [x]).length = E.length + 1 := by simp

/-- Where the loop stands. -/
def LState (s : ByteArray) (T : List Tok) (w : World) (v cm wd i : Value) (wr : World) : Prop :=
  ∃ (E : List Tok) (k : Nat), k ≤ s.size ∧ i = .int .i64 (k : Int) ∧ wr.ownsRow w.heap.size 73 3 v E.length (tcells (E.map (tv s))) ∧ K0 w wr ∧
    ((∃ b, cm = .bool b ∧ wd = .int .i64 (-1) ∧ Hid (T = E ++ toksR b none k (s.data.toList.drop k))) ∨
     (∃ f : Nat, f ≤ k ∧ cm = .bool false ∧ wd = .int .i64 (f : Int) ∧ Hid (T = E ++ toksR false (some f) k (s.data.toList.drop k))))

theorem LState.free {s : ByteArray} {T : List Tok} {w : World} {v : Value} {wr : World} {E : List Tok} {k : Nat} {n : Nat} {i : Value} {xs : List Value} (b : Bool) (hk : k ≤ s.size) (hi : i = .int .i64 (k : Int)) (ho : wr.ownsRow w.heap.size 73 3 v n xs) (hn : n = E.length) (hx : tcells (E.map (tv s)) = xs) (hK : K0 w wr) (hT : T = E ++ toksR b none k (s.data.toList.drop k)) :
    LState s T w v (.bool b) (.int .i64 (-1)) i wr := by
  subst hn; subst hx
  exact ⟨E, k, hk, hi, ho, hK, .inl ⟨b, rfl, rfl, Lib.hid hT⟩⟩
theorem LState.word {s : ByteArray} {T : List Tok} {w : World} {v : Value} {wr : World} {E : List Tok} {k f : Nat} {n : Nat} {i : Value} {xs : List Value} (hf : f ≤ k) (hk : k ≤ s.size) (hi : i = .int .i64 (k : Int)) (ho : wr.ownsRow w.heap.size 73 3 v n xs) (hn : n = E.length) (hx : tcells (E.map (tv s)) = xs) (hK : K0 w wr) (hT : T = E ++ toksR false (some f) k (s.data.toList.drop k)) :
    LState s T w v (.bool false) (.int .i64 (f : Int)) i wr := by
  subst hn; subst hx
  exact ⟨E, k, hk, hi, ho, hK, .inr ⟨f, hf, rfl, rfl, Lib.hid hT⟩⟩
theorem list_done {s : ByteArray} {T : List Tok} {w : World} {v : Value} {wr : World} {E : List Tok} {n : Nat} {xs : List Value} (ho : wr.ownsRow w.heap.size 73 3 v n xs) (hn : n = E.length) (hx : tcells (E.map (tv s)) = xs) (hK : K0 w wr) (hT : T = E) :
    ∃ v', Ending.returned v = .returned v' ∧ wr.ownsRow w.heap.size 73 3 v' T.length (tcells (T.map (tv s))) ∧ K0 w wr := by
  subst hn; subst hx; subst hT
  exact ⟨v, rfl, ho, hK⟩

set_option maxRecDepth 100000 in
set_option maxHeartbeats 8000000 in
theorem list_any (s : ByteArray) (w : World) (hs : s.size ≤ 1073741824) : Calls Tryz.prog 56 #[.string s] w (ListPost s w) := by
  obtain ⟨i0, hi, hz0, hz1, hz2⟩ := info42'
  obtain ⟨T, hT⟩ : ∃ T, T = toks s.data.toList := ⟨_, rfl⟩
  have hTl : T.length ≤ s.size + 1 := by rw [hT]; have := toks_len s.data.toList; simp at this; omega
  have hz : s.data.toList.length = s.size := by simp
  have HZ := Lib.hid hz
  unfold ListPost
  rw [← hT]
  have HT := Lib.hid hT
  clear hT hz
  go_enter Tryz.func56, Tryz.ntmps56
  go_wp2
  go_loopw [3, 4, 5, 6] (fun v cm wd i wr => LState s T w v cm wd i wr) (fun v cm wd i wr => s.size + 1 - (intOf i).toNat)
  case atStart => exact LState.free (E := []) (k := 0) false (by omega) rfl (World.ownsRow_nil _ _ _ _) rfl rfl (Kp.refl _ _) (by rw [HT.out]; rfl)
  case round =>
    obtain ⟨E, k, hkl, rfl, hown, hk, hst⟩ := hrel
    have hEl : E.length ≤ s.size + 1 := by
      rcases hst with ⟨b, _, _, h⟩ | ⟨f, _, _, _, h⟩
      · have := congrArg List.length h.out; rw [List.length_append] at this; omega
      · have := congrArg List.length h.out; rw [List.length_append] at this; omega
    obtain ⟨N, hN⟩ : ∃ N, N = E.length := ⟨_, rfl⟩
    rw [← hN] at hown hEl
    have HN := Lib.hid hN
    clear hN
    obtain ⟨A0, c0, rfl, _, _⟩ := own_form hown
    have hsz := hk.size
    by_cases hlt : k < s.size
    · have hd := drop_here (l := s.data.toList) (k := k) (by rw [HZ.out]; exact hlt)
      rw [str_get hlt] at hd
      obtain ⟨c, hcv⟩ : ∃ c, s[k] = c := ⟨_, rfl⟩
      rw [hcv] at hd
      have hcl := c.toNat_lt
      have HD := Lib.hid hd
      clear hd
      have IW := Lib.hid (fun W => rinWord_any c W)
      have nb : ∀ m : Nat, m < 256 → c ≠ UInt8.ofNat m → ((c.toNat : Int) == (m : Int)) = false := fun m hm h => by
        rw [beq_eq_false_iff_ne]; intro e; exact h (UInt8.toNat_inj.1 (by simp; omega))
      have NB := Lib.hid nb
      clear nb
      rcases hst with ⟨b, rfl, rfl, hTq⟩ | ⟨f, hf, rfl, rfl, hTq⟩
      · have H1 := Lib.hid (by have := hTq.out; rw [HD.out] at this; exact this : T = E ++ toksR b none k (c :: s.data.toList.drop (k + 1)))
        clear hTq
        by_cases c10 : c = 10
        · subst c10
          have hn2 : T = (E ++ [⟨2, k, 1⟩]) ++ toksR false none (k + 1) (s.data.toList.drop (k + 1)) := by
            have := H1.out; rw [toksR_line] at this; rw [List.append_assoc]; exact this
          have HN2 := Lib.hid hn2
          clear hn2 H1 HD NB
          go_wp2_with (first
            | (go_at_call 83; refine (IW.out _).mono ?_; rintro e w' ⟨rfl, rfl⟩)
            | (at_builtin; refine wpList_append_lies _ rfl (.tmp 52) (.tmp 55) _ rfl w.heap.size 73 i0 _ 3 32 Tryz.underlying70 hi hz0 hz1 hz2 rfl (by omega) (.slice A0 N c0) N (tcells (E.map (tv s))) rfl (by exact hown.alloc _) ⟨wr.heap.size, 0, none⟩ 1 1 [.int .i64 2, .string ⟨#[10]⟩, .int .i64 (k : Int)] rfl rfl (World.news_of_block (cs := #[.int .i64 2, .string ⟨#[10]⟩, .int .i64 (k : Int)]) (t := 73) (fr := (0, 0)) (heap_alloc_new _ _)) (by simp [Value.oneCell']) (by omega) (by simp only [maxLen]; omega) (by omega) (by simp; omega) (wr.heap.size + 1) (by simp) ?_; intro g8 cap8 w8 hown8 hg8 hat8 hlt8; have hk8 : K0 w w8 := (hk.alloc _).grown hg8 (fun g hg => .inl ((hown.lt g hg).1)); have hs8 := hk8.size))
          exact ⟨LState.free (E := (E ++ [⟨2, k, 1⟩])) (k := k + 1) false (by omega) (by go_num) hown8 (by rw [snoc_len, ← HN.out]) (snoc_line s E k) hk8 HN2.out, by simp [intOf]; omega⟩
        cases b with
        | true =>
          have e10 : ((c.toNat : Int) == 10) = false := NB.out 10 (by decide) c10
          have HN2 := Lib.hid (H1.out.trans (by rw [toksR_cm _ _ _ c10]) : T = E ++ toksR true none (k + 1) (s.data.toList.drop (k + 1)))
          clear H1 HD NB c10
          go_wp2_with (first
            | (go_at_call 83; refine (IW.out _).mono ?_; rintro e w' ⟨rfl, rfl⟩))
          exact ⟨LState.free (E := E) (k := k + 1) true (by omega) (by go_num) hown HN.out rfl hk HN2.out, by simp [intOf]; omega⟩
        | false =>
          by_cases c32 : c = 32
          · subst c32
            have HN2 := Lib.hid (H1.out.trans (by rw [toksR_blank _ _ _ _ (by decide)]) : T = E ++ toksR false none (k + 1) (s.data.toList.drop (k + 1)))
            clear H1 HD NB c10
            go_wp2_with (first
              | (go_at_call 83; refine (IW.out _).mono ?_; rintro e w' ⟨rfl, rfl⟩))
            exact ⟨LState.free (E := E) (k := k + 1) false (by omega) (by go_num) hown HN.out rfl hk HN2.out, by simp [intOf]; omega⟩
          by_cases c9 : c = 9
          · subst c9
            have HN2 := Lib.hid (H1.out.trans (by rw [toksR_blank _ _ _ _ (by decide)]) : T = E ++ toksR false none (k + 1) (s.data.toList.drop (k + 1)))
            clear H1 HD NB c10 c32
            go_wp2_with (first
              | (go_at_call 83; refine (IW.out _).mono ?_; rintro e w' ⟨rfl, rfl⟩))
            exact ⟨LState.free (E := E) (k := k + 1) false (by omega) (by go_num) hown HN.out rfl hk HN2.out, by simp [intOf]; omega⟩
          by_cases c13 : c = 13
          · subst c13
            have HN2 := Lib.hid (H1.out.trans (by rw [toksR_blank _ _ _ _ (by decide)]) : T = E ++ toksR false none (k + 1) (s.data.toList.drop (k + 1)))
            clear H1 HD NB c10 c32 c9
            go_wp2_with (first
              | (go_at_call 83; refine (IW.out _).mono ?_; rintro e w' ⟨rfl, rfl⟩))
            exact ⟨LState.free (E := E) (k := k + 1) false (by omega) (by go_num) hown HN.out rfl hk HN2.out, by simp [intOf]; omega⟩
          by_cases c35 : c = 35
          · subst c35
            have HN2 := Lib.hid (H1.out.trans (by rw [toksR_hash]) : T = E ++ toksR true none (k + 1) (s.data.toList.drop (k + 1)))
            clear H1 HD NB c10 c32 c9 c13
            go_wp2_with (first
              | (go_at_call 83; refine (IW.out _).mono ?_; rintro e w' ⟨rfl, rfl⟩))
            exact ⟨LState.free (E := E) (k := k + 1) true (by omega) (by go_num) hown HN.out rfl hk HN2.out, by simp [intOf]; omega⟩
          have e10 : ((c.toNat : Int) == 10) = false := NB.out 10 (by decide) c10
          have e32 : ((c.toNat : Int) == 32) = false := NB.out 32 (by decide) c32
          have e9 : ((c.toNat : Int) == 9) = false := NB.out 9 (by decide) c9
          have e13 : ((c.toNat : Int) == 13) = false := NB.out 13 (by decide) c13
          have e35 : ((c.toNat : Int) == 35) = false := NB.out 35 (by decide) c35
          have hbl : blankB c = false := by simp [blankB, c32, c9, c13]
          by_cases hw : inWordB c = true
          · rw [hw] at IW
            have HN2 := Lib.hid (H1.out.trans (by rw [toksR_word _ _ _ hw]) : T = E ++ toksR false (some k) (k + 1) (s.data.toList.drop (k + 1)))
            clear H1 HD NB c10 c32 c9 c13 c35 hbl hw
            go_wp2_with (first
              | (go_at_call 83; refine (IW.out _).mono ?_; rintro e w' ⟨rfl, rfl⟩))
            exact ⟨LState.word (E := E) (f := k) (k := k + 1) (by omega) (by omega) (by go_num) hown HN.out rfl hk HN2.out, by simp [intOf]; omega⟩
          have hw' : inWordB c = false := by simpa using hw
          clear hw
          rw [hw'] at IW
          have HN2 := Lib.hid (H1.out.trans (by rw [toksR_bad _ _ _ hw' c10 hbl c35]) : T = E ++ [⟨4, k, 1⟩])
          clear H1 HD NB c10 c32 c9 c13 c35 hbl hw'
          go_wp2_with (first
            | (go_at_call 83; refine (IW.out _).mono ?_; rintro e w' ⟨rfl, rfl⟩)
            | (at_builtin; refine wpList_append_lies _ rfl (.tmp 79) (.tmp 87) _ rfl w.heap.size 73 i0 _ 3 32 Tryz.underlying70 hi hz0 hz1 hz2 rfl (by omega) (.slice A0 N c0) N (tcells (E.map (tv s))) rfl (by exact hown.alloc _) ⟨wr.heap.size, 0, none⟩ 1 1 [.int .i64 4, .string (s.extract k (k + 1)), .int .i64 (k : Int)] rfl rfl (World.news_of_block (cs := #[.int .i64 4, .string (s.extract k (k + 1)), .int .i64 (k : Int)]) (t := 73) (fr := (0, 0)) (heap_alloc_new _ _)) (by simp [Value.oneCell']) (by omega) (by simp only [maxLen]; omega) (by omega) (by simp; omega) (wr.heap.size + 1) (by simp) ?_; intro g8 cap8 w8 hown8 hg8 hat8 hlt8; have hk8 : K0 w w8 := (hk.alloc _).grown hg8 (fun g hg => .inl ((hown.lt g hg).1)); have hs8 := hk8.size))
          go_ret
          exact list_done (E := E ++ [⟨4, k, 1⟩]) hown8 (by rw [snoc_len, ← HN.out]) (snoc_bad s E k) hk8 HN2.out
      · by_cases hw : inWordB c = true
        · rw [hw] at IW
          have HN2 := Lib.hid (by have := hTq.out; rw [HD.out, toksR_more _ _ _ _ _ hw] at this; exact this : T = E ++ toksR false (some f) (k + 1) (s.data.toList.drop (k + 1)))
          have e10 : ((c.toNat : Int) == 10) = false := NB.out 10 (by decide) (inWord_not hw).1
          clear hTq HD NB hw
          go_wp2_with (go_at_call 83; refine (IW.out _).mono ?_; rintro e w' ⟨rfl, rfl⟩)
          exact ⟨LState.word (E := E) (f := f) (k := k + 1) (by omega) (by omega) (by go_num) hown HN.out rfl hk HN2.out, by simp [intOf]; omega⟩
        have hw' : inWordB c = false := by simpa using hw
        have H1 := Lib.hid (by have := hTq.out; rw [HD.out, toksR_stop _ _ _ _ _ hw'] at this; rw [List.append_assoc]; exact this : T = (E ++ [⟨1, f, k - f⟩]) ++ toksR false none k (c :: s.data.toList.drop (k + 1)))
        clear hTq hw
        by_cases c10 : c = 10
        · subst c10
          have hn2 : T = ((E ++ [⟨1, f, k - f⟩]) ++ [⟨2, k, 1⟩]) ++ toksR false none (k + 1) (s.data.toList.drop (k + 1)) := by
            have := H1.out; rw [toksR_line] at this; rw [List.append_assoc]; exact this
          have HN2 := Lib.hid hn2
          clear hn2 H1 HD NB
          rw [show inWordB 10 = false by decide] at IW
          go_wp2_with (first
            | (go_at_call 83; refine (IW.out _).mono ?_; rintro e w' ⟨rfl, rfl⟩)
            | (at_builtin; refine wpList_append_lies _ rfl (.tmp 29) (.tmp 36) _ rfl w.heap.size 73 i0 _ 3 32 Tryz.underlying70 hi hz0 hz1 hz2 rfl (by omega) (.slice A0 N c0) N (tcells (E.map (tv s))) rfl (by exact hown.alloc _) ⟨wr.heap.size, 0, none⟩ 1 1 [.int .i64 1, .string (s.extract f k), .int .i64 (f : Int)] rfl rfl (World.news_of_block (cs := #[.int .i64 1, .string (s.extract f k), .int .i64 (f : Int)]) (t := 73) (fr := (0, 0)) (heap_alloc_new _ _)) (by simp [Value.oneCell']) (by omega) (by simp only [maxLen]; omega) (by omega) (by simp; omega) (wr.heap.size + 1) (by simp) ?_; intro g7 cap7 w7 hown7 hg7 hat7 hlt7; have hk7 : K0 w w7 := (hk.alloc _).grown hg7 (fun g hg => .inl ((hown.lt g hg).1)); have hs7 := hk7.size)
            | (at_builtin; refine wpList_append_lies _ rfl (.tmp 52) (.tmp 55) _ rfl w.heap.size 73 i0 _ 3 32 Tryz.underlying70 hi hz0 hz1 hz2 rfl (by omega) (.slice (some ⟨g7, 0, none⟩) (N + 1) cap7) (N + 1) (tcells (E.map (tv s)) ++ [.int .i64 1, .string (s.extract f k), .int .i64 (f : Int)]) rfl (by exact hown7.alloc _) ⟨w7.heap.size, 0, none⟩ 1 1 [.int .i64 2, .string ⟨#[10]⟩, .int .i64 (k : Int)] rfl rfl (World.news_of_block (cs := #[.int .i64 2, .string ⟨#[10]⟩, .int .i64 (k : Int)]) (t := 73) (fr := (0, 0)) (heap_alloc_new _ _)) (by simp [Value.oneCell']) (by omega) (by simp only [maxLen]; omega) (by omega) (by simp; omega) (w7.heap.size + 1) (by simp) ?_; intro g8 cap8 w8 hown8 hg8 hat8 hlt8; have hk8 : K0 w w8 := (hk7.alloc _).grown hg8 (fun g hg => .inl ((hown7.lt g hg).1)); have hs8 := hk8.size))
          exact ⟨LState.free (E := ((E ++ [⟨1, f, k - f⟩]) ++ [⟨2, k, 1⟩])) (k := k + 1) false (by omega) (by go_num) hown8 (by rw [snoc_len, snoc_len, ← HN.out]) (by rw [snoc_line, snoc_word s E f k hf]) hk8 HN2.out, by simp [intOf]; omega⟩
        by_cases c32 : c = 32
        · subst c32
          have HN2 := Lib.hid (H1.out.trans (by rw [toksR_blank _ _ _ _ (by decide)]) : T = (E ++ [⟨1, f, k - f⟩]) ++ toksR false none (k + 1) (s.data.toList.drop (k + 1)))
          clear H1 HD NB c10
          rw [show inWordB 32 = false by decide] at IW
          go_wp2_with (first
            | (go_at_call 83; refine (IW.out _).mono ?_; rintro e w' ⟨rfl, rfl⟩)
            | (at_builtin; refine wpList_append_lies _ rfl (.tmp 29) (.tmp 36) _ rfl w.heap.size 73 i0 _ 3 32 Tryz.underlying70 hi hz0 hz1 hz2 rfl (by omega) (.slice A0 N c0) N (tcells (E.map (tv s))) rfl (by exact hown.alloc _) ⟨wr.heap.size, 0, none⟩ 1 1 [.int .i64 1, .string (s.extract f k), .int .i64 (f : Int)] rfl rfl (World.news_of_block (cs := #[.int .i64 1, .string (s.extract f k), .int .i64 (f : Int)]) (t := 73) (fr := (0, 0)) (heap_alloc_new _ _)) (by simp [Value.oneCell']) (by omega) (by simp only [maxLen]; omega) (by omega) (by simp; omega) (wr.heap.size + 1) (by simp) ?_; intro g7 cap7 w7 hown7 hg7 hat7 hlt7; have hk7 : K0 w w7 := (hk.alloc _).grown hg7 (fun g hg => .inl ((hown.lt g hg).1)); have hs7 := hk7.size))
          exact ⟨LState.free (E := (E ++ [⟨1, f, k - f⟩])) (k := k + 1) false (by omega) (by go_num) hown7 (by rw [snoc_len, ← HN.out]) (snoc_word s E f k hf) hk7 HN2.out, by simp [intOf]; omega⟩
        by_cases c9 : c = 9
        · subst c9
          have HN2 := Lib.hid (H1.out.trans (by rw [toksR_blank _ _ _ _ (by decide)]) : T = (E ++ [⟨1, f, k - f⟩]) ++ toksR false none (k + 1) (s.data.toList.drop (k + 1)))
          clear H1 HD NB c10 c32
          rw [show inWordB 9 = false by decide] at IW
          go_wp2_with (first
            | (go_at_call 83; refine (IW.out _).mono ?_; rintro e w' ⟨rfl, rfl⟩)
            | (at_builtin; refine wpList_append_lies _ rfl (.tmp 29) (.tmp 36) _ rfl w.heap.size 73 i0 _ 3 32 Tryz.underlying70 hi hz0 hz1 hz2 rfl (by omega) (.slice A0 N c0) N (tcells (E.map (tv s))) rfl (by exact hown.alloc _) ⟨wr.heap.size, 0, none⟩ 1 1 [.int .i64 1, .string (s.extract f k), .int .i64 (f : Int)] rfl rfl (World.news_of_block (cs := #[.int .i64 1, .string (s.extract f k), .int .i64 (f : Int)]) (t := 73) (fr := (0, 0)) (heap_alloc_new _ _)) (by simp [Value.oneCell']) (by omega) (by simp only [maxLen]; omega) (by omega) (by simp; omega) (wr.heap.size + 1) (by simp) ?_; intro g7 cap7 w7 hown7 hg7 hat7 hlt7; have hk7 : K0 w w7 := (hk.alloc _).grown hg7 (fun g hg => .inl ((hown.lt g hg).1)); have hs7 := hk7.size))
          exact ⟨LState.free (E := (E ++ [⟨1, f, k - f⟩])) (k := k + 1) false (by omega) (by go_num) hown7 (by rw [snoc_len, ← HN.out]) (snoc_word s E f k hf) hk7 HN2.out, by simp [intOf]; omega⟩
        by_cases c13 : c = 13
        · subst c13
          have HN2 := Lib.hid (H1.out.trans (by rw [toksR_blank _ _ _ _ (by decide)]) : T = (E ++ [⟨1, f, k - f⟩]) ++ toksR false none (k + 1) (s.data.toList.drop (k + 1)))
          clear H1 HD NB c10 c32 c9
          rw [show inWordB 13 = false by decide] at IW
          go_wp2_with (first
            | (go_at_call 83; refine (IW.out _).mono ?_; rintro e w' ⟨rfl, rfl⟩)
            | (at_builtin; refine wpList_append_lies _ rfl (.tmp 29) (.tmp 36) _ rfl w.heap.size 73 i0 _ 3 32 Tryz.underlying70 hi hz0 hz1 hz2 rfl (by omega) (.slice A0 N c0) N (tcells (E.map (tv s))) rfl (by exact hown.alloc _) ⟨wr.heap.size, 0, none⟩ 1 1 [.int .i64 1, .string (s.extract f k), .int .i64 (f : Int)] rfl rfl (World.news_of_block (cs := #[.int .i64 1, .string (s.extract f k), .int .i64 (f : Int)]) (t := 73) (fr := (0, 0)) (heap_alloc_new _ _)) (by simp [Value.oneCell']) (by omega) (by simp only [maxLen]; omega) (by omega) (by simp; omega) (wr.heap.size + 1) (by simp) ?_; intro g7 cap7 w7 hown7 hg7 hat7 hlt7; have hk7 : K0 w w7 := (hk.alloc _).grown hg7 (fun g hg => .inl ((hown.lt g hg).1)); have hs7 := hk7.size))
          exact ⟨LState.free (E := (E ++ [⟨1, f, k - f⟩])) (k := k + 1) false (by omega) (by go_num) hown7 (by rw [snoc_len, ← HN.out]) (snoc_word s E f k hf) hk7 HN2.out, by simp [intOf]; omega⟩
        by_cases c35 : c = 35
        · subst c35
          have HN2 := Lib.hid (H1.out.trans (by rw [toksR_hash]) : T = (E ++ [⟨1, f, k - f⟩]) ++ toksR true none (k + 1) (s.data.toList.drop (k + 1)))
          clear H1 HD NB c10 c32 c9 c13
          rw [show inWordB 35 = false by decide] at IW
          go_wp2_with (first
            | (go_at_call 83; refine (IW.out _).mono ?_; rintro e w' ⟨rfl, rfl⟩)
            | (at_builtin; refine wpList_append_lies _ rfl (.tmp 29) (.tmp 36) _ rfl w.heap.size 73 i0 _ 3 32 Tryz.underlying70 hi hz0 hz1 hz2 rfl (by omega) (.slice A0 N c0) N (tcells (E.map (tv s))) rfl (by exact hown.alloc _) ⟨wr.heap.size, 0, none⟩ 1 1 [.int .i64 1, .string (s.extract f k), .int .i64 (f : Int)] rfl rfl (World.news_of_block (cs := #[.int .i64 1, .string (s.extract f k), .int .i64 (f : Int)]) (t := 73) (fr := (0, 0)) (heap_alloc_new _ _)) (by simp [Value.oneCell']) (by omega) (by simp only [maxLen]; omega) (by omega) (by simp; omega) (wr.heap.size + 1) (by simp) ?_; intro g7 cap7 w7 hown7 hg7 hat7 hlt7; have hk7 : K0 w w7 := (hk.alloc _).grown hg7 (fun g hg => .inl ((hown.lt g hg).1)); have hs7 := hk7.size))
          exact ⟨LState.free (E := (E ++ [⟨1, f, k - f⟩])) (k := k + 1) true (by omega) (by go_num) hown7 (by rw [snoc_len, ← HN.out]) (snoc_word s E f k hf) hk7 HN2.out, by simp [intOf]; omega⟩
        have e10 : ((c.toNat : Int) == 10) = false := NB.out 10 (by decide) c10
        have e32 : ((c.toNat : Int) == 32) = false := NB.out 32 (by decide) c32
        have e9 : ((c.toNat : Int) == 9) = false := NB.out 9 (by decide) c9
        have e13 : ((c.toNat : Int) == 13) = false := NB.out 13 (by decide) c13
        have e35 : ((c.toNat : Int) == 35) = false := NB.out 35 (by decide) c35
        have hbl : blankB c = false := by simp [blankB, c32, c9, c13]
        rw [hw'] at IW
        have HN2 := Lib.hid (H1.out.trans (by rw [toksR_bad _ _ _ hw' c10 hbl c35]) : T = (E ++ [⟨1, f, k - f⟩]) ++ [⟨4, k, 1⟩])
        clear H1 HD NB c10 c32 c9 c13 c35 hbl hw'
        go_wp2_with (first
          | (go_at_call 83; refine (IW.out _).mono ?_; rintro e w' ⟨rfl, rfl⟩)
          | (at_builtin; refine wpList_append_lies _ rfl (.tmp 29) (.tmp 36) _ rfl w.heap.size 73 i0 _ 3 32 Tryz.underlying70 hi hz0 hz1 hz2 rfl (by omega) (.slice A0 N c0) N (tcells (E.map (tv s))) rfl (by exact hown.alloc _) ⟨wr.heap.size, 0, none⟩ 1 1 [.int .i64 1, .string (s.extract f k), .int .i64 (f : Int)] rfl rfl (World.news_of_block (cs := #[.int .i64 1, .string (s.extract f k), .int .i64 (f : Int)]) (t := 73) (fr := (0, 0)) (heap_alloc_new _ _)) (by simp [Value.oneCell']) (by omega) (by simp only [maxLen]; omega) (by omega) (by simp; omega) (wr.heap.size + 1) (by simp) ?_; intro g7 cap7 w7 hown7 hg7 hat7 hlt7; have hk7 : K0 w w7 := (hk.alloc _).grown hg7 (fun g hg => .inl ((hown.lt g hg).1)); have hs7 := hk7.size)
          | (at_builtin; refine wpList_append_lies _ rfl (.tmp 79) (.tmp 87) _ rfl w.heap.size 73 i0 _ 3 32 Tryz.underlying70 hi hz0 hz1 hz2 rfl (by omega) (.slice (some ⟨g7, 0, none⟩) (N + 1) cap7) (N + 1) (tcells (E.map (tv s)) ++ [.int .i64 1, .string (s.extract f k), .int .i64 (f : Int)]) rfl (by exact hown7.alloc _) ⟨w7.heap.size, 0, none⟩ 1 1 [.int .i64 4, .string (s.extract k (k + 1)), .int .i64 (k : Int)] rfl rfl (World.news_of_block (cs := #[.int .i64 4, .string (s.extract k (k + 1)), .int .i64 (k : Int)]) (t := 73) (fr := (0, 0)) (heap_alloc_new _ _)) (by simp [Value.oneCell']) (by omega) (by simp only [maxLen]; omega) (by omega) (by simp; omega) (w7.heap.size + 1) (by simp) ?_; intro g8 cap8 w8 hown8 hg8 hat8 hlt8; have hk8 : K0 w w8 := (hk7.alloc _).grown hg8 (fun g hg => .inl ((hown7.lt g hg).1)); have hs8 := hk8.size))
        go_ret
        exact list_done (E := (E ++ [⟨1, f, k - f⟩]) ++ [⟨4, k, 1⟩]) hown8 (by rw [snoc_len, snoc_len, ← HN.out]) (by rw [snoc_bad, snoc_word s E f k hf]) hk8 HN2.out
    · obtain rfl : k = s.size := by omega
      have hd : s.data.toList.drop s.size = [] := List.drop_eq_nil_of_le (by rw [HZ.out]; omega)
      rcases hst with ⟨b, rfl, rfl, hTq⟩ | ⟨f, hf, rfl, rfl, hTq⟩
      · have HN2 := Lib.hid (by have := hTq.out; rw [hd, toksR_end] at this; exact this : T = E ++ [⟨3, s.size, 0⟩])
        clear hTq hd
        go_wp2_with (at_builtin; refine wpList_append_lies _ rfl (.tmp 42) (.tmp 45) _ rfl w.heap.size 73 i0 _ 3 32 Tryz.underlying70 hi hz0 hz1 hz2 rfl (by omega) (.slice A0 N c0) N (tcells (E.map (tv s))) rfl (by exact hown.alloc _) ⟨wr.heap.size, 0, none⟩ 1 1 [.int .i64 3, .string ⟨#[]⟩, .int .i64 (s.size : Int)] rfl rfl (World.news_of_block (cs := #[.int .i64 3, .string ⟨#[]⟩, .int .i64 (s.size : Int)]) (t := 73) (fr := (0, 0)) (heap_alloc_new _ _)) (by simp [Value.oneCell']) (by omega) (by simp only [maxLen]; omega) (by omega) (by simp; omega) (wr.heap.size + 1) (by simp) ?_; intro g8 cap8 w8 hown8 hg8 hat8 hlt8; have hk8 : K0 w w8 := (hk.alloc _).grown hg8 (fun g hg => .inl ((hown.lt g hg).1)); have hs8 := hk8.size)
        go_ret
        exact list_done (E := E ++ [⟨3, s.size, 0⟩]) hown8 (by rw [snoc_len, ← HN.out]) (snoc_stop s E s.size) hk8 HN2.out
      · have HN2 := Lib.hid (by have := hTq.out; rw [hd, toksR_wend, toksR_end] at this; rw [List.append_assoc]; exact this : T = (E ++ [⟨1, f, s.size - f⟩]) ++ [⟨3, s.size, 0⟩])
        clear hTq hd
        go_wp2_with (first
          | (at_builtin; refine wpList_append_lies _ rfl (.tmp 29) (.tmp 36) _ rfl w.heap.size 73 i0 _ 3 32 Tryz.underlying70 hi hz0 hz1 hz2 rfl (by omega) (.slice A0 N c0) N (tcells (E.map (tv s))) rfl (by exact hown.alloc _) ⟨wr.heap.size, 0, none⟩ 1 1 [.int .i64 1, .string (s.extract f s.size), .int .i64 (f : Int)] rfl rfl (World.news_of_block (cs := #[.int .i64 1, .string (s.extract f s.size), .int .i64 (f : Int)]) (t := 73) (fr := (0, 0)) (heap_alloc_new _ _)) (by simp [Value.oneCell']) (by omega) (by simp only [maxLen]; omega) (by omega) (by simp; omega) (wr.heap.size + 1) (by simp) ?_; intro g7 cap7 w7 hown7 hg7 hat7 hlt7; have hk7 : K0 w w7 := (hk.alloc _).grown hg7 (fun g hg => .inl ((hown.lt g hg).1)); have hs7 := hk7.size)
          | (at_builtin; refine wpList_append_lies _ rfl (.tmp 42) (.tmp 45) _ rfl w.heap.size 73 i0 _ 3 32 Tryz.underlying70 hi hz0 hz1 hz2 rfl (by omega) (.slice (some ⟨g7, 0, none⟩) (N + 1) cap7) (N + 1) (tcells (E.map (tv s)) ++ [.int .i64 1, .string (s.extract f s.size), .int .i64 (f : Int)]) rfl (by exact hown7.alloc _) ⟨w7.heap.size, 0, none⟩ 1 1 [.int .i64 3, .string ⟨#[]⟩, .int .i64 (s.size : Int)] rfl rfl (World.news_of_block (cs := #[.int .i64 3, .string ⟨#[]⟩, .int .i64 (s.size : Int)]) (t := 73) (fr := (0, 0)) (heap_alloc_new _ _)) (by simp [Value.oneCell']) (by omega) (by simp only [maxLen]; omega) (by omega) (by simp; omega) (w7.heap.size + 1) (by simp) ?_; intro g8 cap8 w8 hown8 hg8 hat8 hlt8; have hk8 : K0 w w8 := (hk7.alloc _).grown hg8 (fun g hg => .inl ((hown7.lt g hg).1)); have hs8 := hk8.size))
        go_ret
        exact list_done (E := (E ++ [⟨1, f, s.size - f⟩]) ++ [⟨3, s.size, 0⟩]) hown8 (by rw [snoc_len, snoc_len, ← HN.out]) (by rw [snoc_stop, snoc_word s E f s.size hf]) hk8 HN2.out
end Go.Proofs.YtobofhiakgohfaaGreatDoor
