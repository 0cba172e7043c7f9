/- token.All; the law's listed: all tokens of a text in a list. -/
import Derived.Test.YtobofhiakgohfaaDoorT13
import Derived.Maps.OwnIn
set_option linter.unusedVariables false
set_option linter.unusedSimpArgs false
namespace Go.Proofs.YtobofhiakgohfaaDoor
open Go.RowKit Go.Shelf
attribute [local go_sem] Oper.semAt_some

theorem all1_stops (n : Nat) (hn : 1 ≤ n) (b1 : Nat) (s : ByteArray) (hs : s.size ≤ 140737488355328) (S : Nat → Prop) (hSb : ¬ S b1) (w : World) (hb1 : b1 < w.heap.size) (h1 : w.cell? ⟨b1, 0, none⟩ = some (.string s)) (T : List Tok) (hT : T = toks s.data.toList) :
    SeqStopsK Fence.wide n Tryd.prog 55 #[.pointer (some ⟨b1, 0, none⟩)] (tokEnc s) (Kp S) (fun ys => ys = T) (fun pre => ∃ q, q ≤ T.length ∧ pre = T.take q) T.length w :=
  fun l J Jx W hW _ _ hY h0 => all1_in n hn l b1 s hs S hSb T hT J Jx hY W (Nat.lt_of_lt_of_le hb1 hW.size) ((hW.cell (p := ⟨b1, 0, none⟩) hb1).trans h1) h0

set_option maxRecDepth 100000 in
/-- All. -/
theorem all_any (s : ByteArray) (w : World) :
    Calls Tryd.prog 24 #[.string s] w fun e w' => e = .returned (.func (.func 55) #[] #[.pointer (some ⟨w.heap.size, 0, none⟩)]) ∧ Blk w' w.heap.size 9 #[.string s] ∧ w'.heap.size = w.heap.size + 1 ∧ K0 w w' := by
  go_enter Tryd.func24, Tryd.ntmps24
  go_wp2
  go_ret
  exact ⟨rfl, Blk.new _ _ _, by simp, (Kp.refl _ _).alloc _⟩

theorem own_kept {w w' : World} {base : Nat} {e : TypeId} {size n : Nat} {v : Value} {xs : List Value} {row : Option Nat} (h : w.ownsRow base e size v n xs) (hg : w.grownBy w' row) (hr : ∀ r, row = some r → ∃ o : Obj, w.heap[r]? = some o ∧ o.isCells = false) : w'.ownsRow base e size v n xs := by
  refine ⟨h.1, ?_⟩
  rcases h.2 with h2 | ⟨g, cap, cur, hv, hb, hh, r⟩
  · exact .inl h2
  · exact .inr ⟨g, cap, cur, hv, hb, (grownBy_keeps_cells hg hr hh rfl).trans hh, r⟩
theorem Blk.kept {w w' : World} {g : Nat} {t : TypeId} {cs : Array Value} {row : Option Nat} (h : Blk w g t cs) (hg : w.grownBy w' row) (hr : ∀ r, row = some r → ∃ o : Obj, w.heap[r]? = some o ∧ o.isCells = false) : Blk w' g t cs := (grownBy_keeps_cells hg hr h rfl).trans h

theorem info42 : (Tryd.prog.info? 42).map (fun i => (i.zero, i.size, i.bytes)) = some (some (.agg #[.int .i64 0, .string ⟨#[]⟩, .int .i64 0]), 3, 32) := by kernel_rfl
theorem info42' : ∃ i0, Tryd.prog.info? 42 = some i0 ∧ i0.zero = some (.agg #[.int .i64 0, .string ⟨#[]⟩, .int .i64 0]) ∧ i0.size = 3 ∧ i0.bytes = 32 := by
  obtain ⟨i0, hi, hz0, hz1, hz2⟩ := info_parts info42
  exact ⟨i0, hi, hz0, hz1, hz2⟩
theorem item_new42 (w : World) : Blk (w.alloc (.cells #[.int .i64 0, .string ⟨#[]⟩, .int .i64 0] 42)) w.heap.size 42 #[.int .i64 0, .string ⟨#[]⟩, .int .i64 0] := Blk.new _ _ _
theorem toks_len (l : List UInt8) : (toks l).length ≤ l.length + 1 := toksR_length l false none 0

/-- What listed answers. -/
def ListPost (s : ByteArray) (w : World) (e : Ending) (w' : World) : Prop :=
  ∃ v, e = .returned v ∧ w'.ownsRow w.heap.size 42 3 v (toks s.data.toList).length (tcells ((toks s.data.toList).map (tv s))) ∧ K0 w w'

set_option maxRecDepth 100000 in
set_option maxHeartbeats 4000000 in
theorem listed_any (s : ByteArray) (w : World) (hs : s.size ≤ 1073741824) : Calls Tryd.prog 25 #[.string s] w (ListPost s w) := by
  obtain ⟨i0, hi, hz0, hz1, hz2⟩ := info42'
  obtain ⟨T, hT⟩ : ∃ T, T = toks s.data.toList := ⟨_, rfl⟩
  have hTl : T.length ≤ s.size + 1 := by rw [hT]; have := toks_len s.data.toList; simp at this; omega
  unfold ListPost
  rw [← hT]
  have HT := Lib.hid hT
  clear hT
  refine (callsIn_wide (n := 7)).1 (callsIn_of_wp_marks Tryd.func25 rfl trivial ?_)
  simp only [Tryd.ntmps25, List.size_toArray, List.length_cons, List.length_nil, Nat.reduceAdd, Nat.reduceSub, Array.replicate_succ, Array.replicate_zero, List.push_toArray, List.append_toArray, List.nil_append, List.cons_append]
  refine wpIn_wide.2 ?_
  have hkA := (Kp.refl (fun _ => False) w).alloc (.cells #[.slice none 0 0] 35)
  have y3 := Blk.new w 35 #[.slice none 0 0]
  go_wp2_with fail
  refine (all_any s _).mono ?_
  rintro e w1 ⟨rfl, hb1, hw1, hk1⟩
  have hk01 : K0 w w1 := hkA.trans hk1
  have z3 := y3.kp hk1 (fun h => h)
  have hlt3 := z3.lt
  have hltb := hb1.lt
  rw [World.size_alloc] at hb1 hltb hw1
  have hw1' : w.heap.size + 1 < w1.heap.size := by omega
  clear hw1
  go_wp2_with fail
  refine (wpIn_wide (n := 7)).1 ?_
  have hS : ¬ (fun b => b = w.heap.size ∨ w1.heap.size ≤ b) (w.heap.size + 1) := by rintro (h | h); omega; omega
  refine wpIn_rangeFunc_ownH rfl (by omega) (gf := 55) (lb := #[.pointer (some ⟨w.heap.size + 1, 0, none⟩)]) rfl trivial (enters_of Tryd.func55 (by kernel_rfl) rfl)
    (all1_stops 6 (by omega) (w.heap.size + 1) s (by omega) (fun b => b = w.heap.size ∨ w1.heap.size ≤ b) hS w1 hltb (hb1.cell 0) T HT.out) (fun h k => h.trans k)
    (fun W l o o' hl ho hc hw => (Kp.refl _ _).grown (grownBy_putObj' W l o') (fun g hg => by cases hg; exact .inr (.inr hl))) (Below.refl _ _) (fun _ => rfl)
    (fun pre W' => ∃ v, Blk W' w.heap.size 35 #[v] ∧ W'.ownsRow w1.heap.size 42 3 v pre.length (tcells (pre.map (tv s))) ∧ Kp (fun b => b = w.heap.size ∨ w1.heap.size ≤ b) w1 W')
    (fun _ _ _ => False)
    (fun pre A B row hs hg hr => by
      obtain ⟨v, h1, h2, h3⟩ := hs
      exact ⟨v, h1.kept hg (fun r e => (hr r e).2), own_kept h2 hg (fun r e => (hr r e).2), h3.grown hg (fun g hg' => .inr (.inr (hr g hg').1))⟩)
    (fun c s A B row hs hg hr => hs)
    ⟨.slice none 0 0, z3, World.ownsRow_nil _ _ _ _, Kp.refl _ _⟩
    (fun x a' W' => ∃ b4, a' = { tmps := #[.string s, undef, .slice none 0 0, .pointer (some ⟨w.heap.size, 0, none⟩), .pointer (some ⟨b4, 0, none⟩), .string s, .func (.func 55) #[] #[.pointer (some ⟨w.heap.size + 1, 0, none⟩)], tagg (tv s x), undef, undef, undef, undef, undef], defers := [] } ∧ Blk W' b4 42 (tcell (tv s x)).toArray)
    (fun x a' s A B row hs hg hr => by
      obtain ⟨b4, h1, h2⟩ := hs
      exact ⟨b4, h1, h2.kept hg (fun r e => (hr r e).2)⟩) ?assign ?body ?done ?stop
  case assign =>
    intro l pre x W K hI hK
    obtain ⟨v, h3, hown, hkp⟩ := hI
    obtain ⟨⟨k, tx, p⟩, hx⟩ : ∃ t, t = tv s x := ⟨_, rfl⟩
    simp only [tokEnc, tagg, tcell] at hK ⊢
    rw [← hx] at hK ⊢
    simp only [] at hK ⊢
    have yb := ((((item_new42 W).set_ 0 (.int .i64 k)).set_ 1 (.string tx)).set_ 2 (.int .i64 p))
    gi_wp2
    exact hK _ _ ((KeepsOthers.alloc _ _).from _) ((Kp.refl _ _).alloc _) ⟨v, h3.alloc _, hown.alloc _, hkp.alloc _⟩ ⟨_, rfl, Blk.new _ _ _⟩
  case body =>
    rintro l pre x a' W hl hlr ⟨v, h3, hown, hkp⟩ ⟨b4, rfl, hb4⟩ hlen
    obtain ⟨⟨k, tx, p⟩, hx⟩ : ∃ t, t = tv s x := ⟨_, rfl⟩
    have hxl : tcells ((pre ++ [x]).map (tv s)) = tcells (pre.map (tv s)) ++ [.int .i64 k, .string tx, .int .i64 p] := by
      rw [List.map_append, tcells_append, List.map_cons, ← hx]; rfl
    have HX := Lib.hid hxl
    clear hxl
    simp only [tagg, tcell] at hb4 ⊢
    rw [← hx] at hb4 ⊢
    simp only [] at hb4 ⊢
    clear hx
    have c3 := h3.cell 0
    have f3 := h3.frozen 0
    have hl3 := h3.lt
    have x0 := hb4.cell 0
    have x1 := hb4.cell 1
    have x2 := hb4.cell 2
    simp at c3 x0 x1 x2
    have hsz := hkp.size
    have hl4 := hb4.lt
    obtain ⟨N, hN⟩ : ∃ N, N = pre.length := ⟨_, rfl⟩
    rw [← hN] at hown hlen
    have HN := Lib.hid hN
    clear hN
    gi_wp2_with (gi_at_builtin; refine wpListIn_append_own _ rfl (.tmp 8) (.tmp 10) _ rfl w1.heap.size 42 i0 _ 3 32 Tryd.underlying35 hi hz0 hz1 hz2 rfl (by omega) v N (tcells (pre.map (tv s))) rfl (by exact hown.alloc _) ⟨W.heap.size, 0, none⟩ 1 1 [.int .i64 k, .string tx, .int .i64 p] rfl rfl (World.news_of_block (cs := #[.int .i64 k, .string tx, .int .i64 p]) (t := 42) (fr := (0, 0)) (heap_alloc_new _ _)) (by simp [Value.oneCell']) (by simp only [maxLen]; omega) (by omega) (by simp; omega) ?_; intro v2 w2 hown2 hg2 hnil2; obtain ⟨A2, cc2, rfl, _, _⟩ := own_form hown2; have hne := own_blk_ne hown h3 (by decide); have h32 := (h3.alloc (.cells #[.int .i64 k, .string tx, .int .i64 p] 42)).grown hg2 (Ne.symm hne); have c32 := h32.cell 0; have f32 := h32.frozen 0; have l32 := h32.lt; simp at c32)
    have hne2 := own_blk_ne hown2 h32 (by decide)
    have hrow : ∀ j, v.ownBlock = some j → w1.heap.size ≤ j ∧ ∃ cs, Blk W j 42 cs := fun j hj => ⟨(hown.lt j hj).1, own_blk hown j hj⟩
    have k1 := ((KeepsOthers.alloc W (.cells #[.int .i64 k, .string tx, .int .i64 p] 42)).trans (KeepsOthers.of_grownBy hg2 (fun j o hj ho => by
      obtain ⟨_, cs, hcs⟩ := hrow j hj
      have := hcs.alloc (.cells #[.int .i64 k, .string tx, .int .i64 p] 42)
      unfold Blk at this
      rw [this] at ho; cases ho; rfl))).trans (KeepsOthers.setCell w2 ⟨w.heap.size, 0, none⟩ (.slice A2 (N + 1) cc2))
    have k2 : Kp (fun b => b = w.heap.size ∨ w1.heap.size ≤ b) W (w2.setCell ⟨w.heap.size, 0, none⟩ (.slice A2 (N + 1) cc2)) :=
      (((Kp.refl _ W).alloc _).grown hg2 (fun j hj => .inr (.inr (hrow j hj).1))).setCell (p := ⟨w.heap.size, 0, none⟩) (.inr (.inl rfl)) _
    have h33 := h32.set_ 0 (.slice A2 (N + 1) cc2)
    simp at h33
    exact ⟨k1.from _, k2, _, h33, by rw [HX.out, List.length_append, List.length_singleton, ← HN.out]; exact own_setCell (p := ⟨w.heap.size, 0, none⟩) hown2 hne2, hkp.trans k2⟩
  case done =>
    rintro D xs W hD rfl ⟨v, h3, hown, hkp⟩ hK
    have c3 := h3.cell 0
    have hl3 := h3.lt
    simp at c3
    go_wp2
    refine leaves_marks [D] _ ⟨by simp, fun E hE => by simp at hE; subst hE; exact hK⟩ fun w8 hk8 => ?_
    have hD3 : ¬ w.heap.size ∈ [D] := by simp; omega
    have hown8 := own_kt hown hk8 (fun g cs hg h => by
      simp at h; subst h
      unfold Blk at hg; rw [hK] at hg; cases hg)
    refine ⟨v, ?_, v, rfl, own_mono hown8 (by omega), ?_⟩
    · simp [results, Tryd.f25, go_sem]
    · exact (hk01.trans' hkp (fun i hi h => by omega)).trans' hk8 (fun i hi h => by simp at h; omega)
  case stop => exact fun _ _ _ _ _ _ h => h.elim
end Go.Proofs.YtobofhiakgohfaaDoor
