/- descr.Parse. -/
import Derived.Test.YtobofhiakgohfaaGreatDoorZO
import Derived.Test.YtobofhiakgohfaaGreatDoorZN
import Derived.Test.YtobofhiakgohfaaGreatDoorZE
set_option linter.unusedVariables false
set_option linter.unusedSimpArgs false
namespace Go.Proofs.YtobofhiakgohfaaGreatDoor
open Go.RowKit Go.Shelf
attribute [local go_sem] Oper.semAt_some

/-- Where the world stands. -/
def Ph5 (W1 W2 : World) (Mid : Value → World → Prop) (Fin : World → Prop) (u20 : Value) (listed : Array Bool) (w : World) : Prop :=
  (¬ lst listed 6 ∧ w = W1) ∨ (lst listed 6 ∧ ¬ lst listed 7 ∧ w = W2) ∨ (lst listed 7 ∧ ¬ lst listed 10 ∧ Mid u20 w) ∨ (lst listed 10 ∧ Fin w)
/-- 'p.row = append(p.row, t)' under way. -/
def R5 (fr : Value → Value → Value → Value → Value → Value → Value → Value → Value → Value → Array Value) (Pg v agg l19 : Value) (W1 W2 : World) (Mid : Value → World → Prop) (Fin : World → Prop) (listed : Array Bool) (a : Act) (w : World) : Prop :=
  ∃ u13 u14 u15 u16 u17 u18 u19 u20 u21 u22, a = { tmps := fr u13 u14 u15 u16 u17 u18 u19 u20 u21 u22, defers := [] } ∧
    ((lst listed 0 → u13 = Pg) ∧ (lst listed 1 → u14 = Pg) ∧ (lst listed 2 → u15 = Pg) ∧ (lst listed 3 → u16 = Pg) ∧ (lst listed 4 → u17 = v) ∧ (lst listed 5 → u18 = agg) ∧ (lst listed 6 → u19 = l19) ∧ (lst listed 8 → u21 = Pg) ∧ (lst listed 9 → u22 = Pg)) ∧
    Ph5 W1 W2 Mid Fin u20 listed w
theorem Ph5.same {W1 W2 : World} {Mid : Value → World → Prop} {Fin : World → Prop} {u20 : Value} {listed : Array Bool} {w : World} {i : Nat} (h : Ph5 W1 W2 Mid Fin u20 listed w) (hi : i < listed.size) (h6 : i ≠ 6) (h7 : i ≠ 7) (h10 : i ≠ 10) : Ph5 W1 W2 Mid Fin u20 (listed.setIfInBounds i true) w := by
  have up : ∀ j, i ≠ j → lst (listed.setIfInBounds i true) j → lst listed j := fun j hj h => ((lst_set hi).1 h).resolve_left (fun e => hj e.symm)
  have dn : ∀ j, lst listed j → lst (listed.setIfInBounds i true) j := fun j h => (lst_set hi).2 (.inr h)
  rcases h with ⟨a, b⟩ | ⟨a, b, c⟩ | ⟨a, b, c⟩ | ⟨a, b⟩
  · exact .inl ⟨fun h => a (up _ h6 h), b⟩
  · exact .inr (.inl ⟨dn _ a, fun h => b (up _ h7 h), c⟩)
  · exact .inr (.inr (.inl ⟨dn _ a, fun h => b (up _ h10 h), c⟩))
  · exact .inr (.inr (.inr ⟨dn _ a, b⟩))

theorem RowT.of_own {w : World} {base n c : Nat} {A : Option Addr} {r : TVl} (h : w.ownsRow base 73 3 (.slice A n c) n (tcells r)) : RowT w A r := by
  rcases h.2 with ⟨_, h0⟩ | ⟨g, cap, cur, hv, hg, hh, _, _, _, ht⟩
  · subst h0
    have := h.1
    rw [tcells_length] at this
    exact .inl (List.eq_nil_of_length_eq_zero (by omega))
  · cases hv
    refine .inr ⟨g, 0, cur, rfl, hh, fun j u hj => ?_⟩
    rw [← ht] at hj
    rw [Nat.zero_add, ← Array.getElem?_toList]
    rw [List.getElem?_take] at hj
    split at hj
    · exact hj
    · cases hj
theorem PD.nil (w : World) (base : Nat) : PD w base (.slice none 0 0) (.slice none 0 0) [] [] :=
  ⟨World.ownsRow_nil _ _ _ _, World.ownsRow_nil _ _ _ _, fun x hx => (by cases hx), fun x hx => (by cases hx), List.Pairwise.nil⟩
theorem tokOk_toks (s : ByteArray) (hs : s.size ≤ 1048576) : TokOk ((toks s.data.toList).map (tv s)) := ⟨wft_toks s, fun t ht => by
  obtain ⟨x, _, rfl⟩ := List.mem_map.1 ht
  show (tokTxt s x).size ≤ _
  unfold tokTxt
  split
  · show 1 ≤ _; omega
  · split
    · show 0 ≤ _; omega
    · simp; omega⟩
/-- How many tokens stand behind. -/
def rowLen (W : World) (bg : Nat) : Nat := match W.cell? ⟨bg, 0, none⟩ with | some v => slen v | none => 0

/-- What the parser's loop leaves alone. -/
structure PKeep (w : World) (b3 b4 b5 bg D : Nat) (W : World) : Prop where
  z2 : Blk W w.heap.size 42 #[.slice none 0 0, .slice none 0 0]
  z3 : Blk W b3 3 #[.int .i64 0]
  z4 : Blk W b4 26 #[.int .i64 0]
  z5 : Blk W b5 69 #[.pointer (some ⟨bg, 0, none⟩)]
  mkD : W.heap[D]? = some (.deferred (some []))
  k0 : K0 w W
theorem PKeep.kp {w : World} {b3 b4 b5 bg D : Nat} {W W' : World} {S : Nat → Prop} (h : PKeep w b3 b4 b5 bg D W) (hk : Kp S W W') (hb : ∀ k, S k → w.heap.size ≤ k) (hs : ∀ t cs k, t ≠ 75 → t ≠ 51 → t ≠ 90 → Blk W k t cs → ¬ S k) (hd : ¬ S D) : PKeep w b3 b4 b5 bg D W' :=
  ⟨h.z2.kp hk (hs _ _ _ (by decide) (by decide) (by decide) h.z2), h.z3.kp hk (hs _ _ _ (by decide) (by decide) (by decide) h.z3), h.z4.kp hk (hs _ _ _ (by decide) (by decide) (by decide) h.z4), h.z5.kp hk (hs _ _ _ (by decide) (by decide) (by decide) h.z5),
    (hk.block D (Array.getElem?_eq_some_iff.1 h.mkD).1 hd).trans h.mkD, h.k0.trans' hk (fun i hi hS => by have := hb i hS; omega)⟩

/-- What Parse answers. -/
def ParsePost (s : ByteArray) (w : World) (e : Ending) (w' : World) : Prop :=
  (∃ p er, parseR s = .error (p, er) ∧ e = .returned (.tuple #[.agg #[.slice none 0 0, .slice none 0 0], .int .i64 p, .int .i64 er]) ∧ K0 w w') ∨
  (∃ d vc vs pc ps, parseR s = .ok d ∧ e = .returned (.tuple #[.agg #[vc, vs], .int .i64 0, .int .i64 0]) ∧ PD w' w.heap.size vc vs pc ps ∧ pc.map Prod.fst = d.cls ∧ ps.map Prod.fst = d.shs ∧ K0 w w')

/-- The deferred calls at the loop: the mark, the closure. -/
def pdefers (w : World) (b3 b4 D : Nat) : List Deferred := [{ target := .collected D, args := #[] }, { target := .fn (.func 28) #[.pointer (some ⟨w.heap.size, 0, none⟩), .pointer (some ⟨b3, 0, none⟩), .pointer (some ⟨b4, 0, none⟩)], args := #[] }]
/-- The parser's loop. -/
def PInv (s : ByteArray) (w : World) (b3 b4 b5 bg bt D : Nat) (a : Act) (W : World) : Prop :=
  ∃ T d, PS W w.heap.size bg T d ∧ fitD d = true ∧ Hid (parseR s = runT d 0 T) ∧ PKeep w b3 b4 b5 bg D W ∧
    ∃ us : Nat → Value, a = { tmps := #[.string s, undef, .pointer (some ⟨w.heap.size, 0, none⟩), .pointer (some ⟨b3, 0, none⟩), .pointer (some ⟨b4, 0, none⟩), .pointer (some ⟨b5, 0, none⟩), undef, .func (.func 28) #[] #[.pointer (some ⟨w.heap.size, 0, none⟩), .pointer (some ⟨b3, 0, none⟩), .pointer (some ⟨b4, 0, none⟩)], .agg #[.slice none 0 0, .int .i64 0, .string ⟨#[]⟩, .int .i64 0, .slice none 0 0, .slice none 0 0], .pointer (some ⟨bg, 0, none⟩), .string s, .func (.func 60) #[] #[.pointer (some ⟨bt, 0, none⟩)], undef, undef, undef, undef, undef, undef, undef, undef, undef, undef, undef, us 23, us 24, us 25, us 26, us 27, us 28, us 29, us 30, us 31, us 32, us 33, us 34, us 35, us 36, us 37, us 38, us 39, us 40, us 41, us 42, us 43, us 44], defers := [{ target := .collected D, args := #[] }, { target := .fn (.func 28) #[.pointer (some ⟨w.heap.size, 0, none⟩), .pointer (some ⟨b3, 0, none⟩), .pointer (some ⟨b4, 0, none⟩)], args := #[] }] }
theorem run_line {d : DescD} {t : TV} {r : TVl} (hT : wft (t :: r)) (h2 : t.1 ≠ 2) (h3 : t.1 ≠ 3) : runT d 0 (t :: r) = goOn (lineR d (t :: r)) := by
  by_cases h1 : t.1 = 1
  · exact lineR_run hT rfl h1
  · have h4 : t.1 = 4 := by
      rcases wft_cons hT with ⟨_, h⟩ | ⟨h | h, _⟩ <;> omega
    rw [lineR, if_neg h1]
    obtain ⟨k, s, p⟩ := t
    simp only [] at h4
    subst h4
    exact runT_four

/-- The closure's door, the call returning. -/
theorem door_ret {w W : World} {tmps : Array Value} {b3 b4 D : Nat} {R : Ending → World → Prop} (hD : W.heap[D]? = some (.deferred (some []))) (h : ∀ W', Kp (fun k => k = D) W W' → LeavesIn Fence.wide 7 Tryz.prog Tryz.f15 tmps R [] .returning W') :
    LeavesInM Fence.wide 7 Tryz.prog Tryz.f15 tmps R (pdefers w b3 b4 D) .returning W := by
  refine ⟨by simp, .inl ⟨D, _, rfl, run_takeDeferred hD, ?_⟩⟩
  refine ⟨by simp, .inr ⟨by simp, _, _, 28, #[.pointer (some ⟨w.heap.size, 0, none⟩), .pointer (some ⟨b3, 0, none⟩), .pointer (some ⟨b4, 0, none⟩)], rfl, by simp [go_sem], fun _ _ => trivial, ?_⟩⟩
  refine CallsDIn.mono (closure_idle 6 ⟨w.heap.size, 0, none⟩ ⟨b3, 0, none⟩ ⟨b4, 0, none⟩ _) ?_
  rintro e u' w' ⟨rfl, rfl, rfl⟩
  exact h _ ((Kp.refl _ _).grown (grownBy_putObj' W D (.deferred none)) (fun k hk => .inr (by cases hk; rfl)))
/-- The closure's door, a fault on its way. -/
theorem door_fault {w W : World} {tmps : Array Value} {b3 b4 D : Nat} {R : Ending → World → Prop} {p er : Int} {x y z q : Value} (hD : W.heap[D]? = some (.deferred (some []))) (h2 : Blk W w.heap.size 42 #[x, y]) (h3 : Blk W b3 3 #[z]) (h4 : Blk W b4 26 #[q])
    (h : ∀ W', Kp (fun k => k = D ∨ k = w.heap.size ∨ k = b3 ∨ k = b4) W W' → Blk W' w.heap.size 42 #[.slice none 0 0, .slice none 0 0] → Blk W' b3 3 #[.int .i64 p] → Blk W' b4 26 #[.int .i64 er] → LeavesIn Fence.wide 7 Tryz.prog Tryz.f15 tmps R [] .returning W') :
    LeavesInM Fence.wide 7 Tryz.prog Tryz.f15 tmps R (pdefers w b3 b4 D) (.panicking [{ v := .iface 68 (.agg #[.int .i64 p, .int .i64 er]), recovered := false }]) W := by
  refine ⟨by simp, .inl ⟨D, _, rfl, run_takeDeferred hD, ?_⟩⟩
  have hk : Kp (fun k => k = D) W (W.putObj D (.deferred none)) := (Kp.refl _ _).grown (grownBy_putObj' W D (.deferred none)) (fun k hk => .inr (by cases hk; rfl))
  have nd : ∀ {g t cs}, Blk W g t cs → ¬ g = D := fun hb e => by subst e; unfold Blk at hb; rw [hD] at hb; cases hb
  refine ⟨by simp, .inr ⟨by simp, _, _, 28, #[.pointer (some ⟨w.heap.size, 0, none⟩), .pointer (some ⟨b3, 0, none⟩), .pointer (some ⟨b4, 0, none⟩)], rfl, by simp [go_sem], fun _ _ => trivial, ?_⟩⟩
  refine CallsDIn.mono (closure_caught 6 w.heap.size b3 b4 x y z q p er [] _ (h2.kp hk (nd h2)) (h3.kp hk (nd h3)) (h4.kp hk (nd h4))) ?_
  rintro e u' w' ⟨rfl, rfl, g2, g3, g4, gk⟩
  exact h _ ((hk.mono (fun _ h => .inl h)).trans (gk.mono (fun _ h => .inr h))) g2 g3 g4

set_option maxRecDepth 100000 in
set_option maxHeartbeats 4000000 in
theorem parse_any (s : ByteArray) (w : World) (hs : s.size ≤ 1048576) : Calls Tryz.prog 15 #[.string s] w (ParsePost s w) := by
  obtain ⟨i0, hi, hz0, hz1, hz2⟩ := info42'
  obtain ⟨T, hT⟩ : ∃ T, T = toks s.data.toList := ⟨_, rfl⟩
  have hTl : T.length ≤ s.size + 1 := by rw [hT]; have := toks_len s.data.toList; simp at this; omega
  have HT := Lib.hid hT
  clear hT
  have hmf : ∀ (fn : Fn) (first cap : Array Value) (w : World), (Instr.makeFunc fn first cap).run Tryz.prog w = .ok (.func fn first cap) w := fun _ _ _ _ => rfl
  refine (callsIn_wide (n := 7)).1 (callsIn_of_wp_marks Tryz.func15 rfl trivial ?_)
  simp only [Tryz.ntmps15, List.size_toArray, List.length_cons, List.length_nil, Nat.reduceAdd, Nat.reduceSub, Array.replicate_succ, Array.replicate_zero, List.push_toArray, List.append_toArray, List.nil_append, List.cons_append]
  refine wpIn_wide.2 ?_
  go_wp2_with fail
  have y2 := (((((Blk.new w 42 #[.slice none 0 0, .slice none 0 0]).alloc (.cells #[.int .i64 0] 3)).alloc (.cells #[.int .i64 0] 26)).alloc (.cells #[.slice none 0 0, .int .i64 0, .string ⟨#[]⟩, .int .i64 0, .slice none 0 0, .slice none 0 0] 75)).alloc (.cells #[.pointer (some ⟨w.heap.size + 1 + 1 + 1, 0, none⟩)] 69))
  generalize hwa : w.alloc (.cells #[.slice none 0 0, .slice none 0 0] 42) = wa at *
  have sa : wa.heap.size = w.heap.size + 1 := by rw [← hwa]; simp
  have y3 := (((Blk.new wa 3 #[.int .i64 0]).alloc (.cells #[.int .i64 0] 26)).alloc (.cells #[.slice none 0 0, .int .i64 0, .string ⟨#[]⟩, .int .i64 0, .slice none 0 0, .slice none 0 0] 75)).alloc (.cells #[.pointer (some ⟨w.heap.size + 1 + 1 + 1, 0, none⟩)] 69)
  generalize hwb : wa.alloc (.cells #[.int .i64 0] 3) = wb at *
  have sb : wb.heap.size = w.heap.size + 1 + 1 := by rw [← hwb]; simp [sa]
  have y4 := ((Blk.new wb 26 #[.int .i64 0]).alloc (.cells #[.slice none 0 0, .int .i64 0, .string ⟨#[]⟩, .int .i64 0, .slice none 0 0, .slice none 0 0] 75)).alloc (.cells #[.pointer (some ⟨w.heap.size + 1 + 1 + 1, 0, none⟩)] 69)
  generalize hwc : wb.alloc (.cells #[.int .i64 0] 26) = wc at *
  have sc : wc.heap.size = w.heap.size + 1 + 1 + 1 := by rw [← hwc]; simp [sb]
  have yg := (Blk.new wc 75 #[.slice none 0 0, .int .i64 0, .string ⟨#[]⟩, .int .i64 0, .slice none 0 0, .slice none 0 0]).alloc (.cells #[.pointer (some ⟨w.heap.size + 1 + 1 + 1, 0, none⟩)] 69)
  generalize hwd : wc.alloc (.cells #[.slice none 0 0, .int .i64 0, .string ⟨#[]⟩, .int .i64 0, .slice none 0 0, .slice none 0 0] 75) = wd at *
  have sd : wd.heap.size = w.heap.size + 1 + 1 + 1 + 1 := by rw [← hwd]; simp [sc]
  have y5 := Blk.new wd 69 #[.pointer (some ⟨w.heap.size + 1 + 1 + 1, 0, none⟩)]
  generalize hwe : wd.alloc (.cells #[.pointer (some ⟨w.heap.size + 1 + 1 + 1, 0, none⟩)] 69) = we at *
  have se : we.heap.size = w.heap.size + 1 + 1 + 1 + 1 + 1 := by rw [← hwe]; simp [sd]
  have hk0e : K0 w we := by rw [← hwe, ← hwd, ← hwc, ← hwb, ← hwa]; exact (((((Kp.refl _ w).alloc _).alloc _).alloc _).alloc _).alloc _
  rw [sa] at y3
  rw [sb] at y4
  rw [sc] at yg
  rw [sd] at y5
  clear hwa hwb hwc hwd hwe
  generalize hb3 : w.heap.size + 1 = b3 at *
  generalize hb4 : b3 + 1 = b4 at *
  generalize hbg : b4 + 1 = bg at *
  generalize hb5 : bg + 1 = b5 at *
  have l3 : w.heap.size < b3 := by omega
  have l4 : b3 < b4 := by omega
  have lg : b4 < bg := by omega
  have l5 : bg < b5 := by omega
  have le : b5 < we.heap.size := by omega
  have HB3 := Lib.hid (show b3 < we.heap.size ∧ b4 < we.heap.size ∧ bg < we.heap.size by omega)
  clear sa sb sc sd se hb3 hb4 hbg hb5
  refine (all_any s _).mono ?_
  rintro e w1 ⟨rfl, hb1, hw1, hk1⟩
  have hk01 : K0 w w1 := hk0e.trans hk1
  have z2 := y2.kp hk1 (fun h => h)
  have z3 := y3.kp hk1 (fun h => h)
  have z4 := y4.kp hk1 (fun h => h)
  have zg := yg.kp hk1 (fun h => h)
  have z5 := y5.kp hk1 (fun h => h)
  have l1 : we.heap.size < w1.heap.size := hb1.lt
  clear hw1 y2 y3 y4 yg y5 hk1 hk0e
  generalize hbt : we.heap.size = bt at *
  have hbt' := HB3.out
  clear hbt HB3
  go_wp2_with fail
  refine (wpIn_wide (n := 7)).1 ?_
  have hS : ¬ (fun b => b = bg ∨ w1.heap.size ≤ b) bt := by rintro (h | h); omega; omega
  refine wpIn_rangeFunc_ownH rfl (by omega) (gf := 60) (lb := #[.pointer (some ⟨bt, 0, none⟩)]) rfl trivial (enters_of Tryz.func60 (by kernel_rfl) rfl)
    (all1_stops 6 (by omega) bt s (by omega) (fun b => b = bg ∨ w1.heap.size ≤ b) hS w1 l1 (hb1.cell 0) T HT.out) (fun h k => h.trans k)
    (fun W l o o' hl ho hc hw => (Kp.refl _ _).grown (grownBy_putObj' W l o') (fun g hg => by cases hg; exact .inr (.inr hl))) (Below.refl _ _) (fun _ => rfl)
    (fun pre W' => ∃ v, Blk W' bg 75 #[v, .int .i64 0, .string ⟨#[]⟩, .int .i64 0, .slice none 0 0, .slice none 0 0] ∧ W'.ownsRow w1.heap.size 73 3 v pre.length (tcells (pre.map (tv s))) ∧ Kp (fun b => b = bg ∨ w1.heap.size ≤ b) w1 W')
    (fun _ _ _ => False)
    (fun pre A B row hs hg hr => by
      obtain ⟨v, h1, h2, h3⟩ := hs
      exact ⟨v, h1.kept hg (fun r e => (hr r e).2), own_kept h2 hg (fun r e => (hr r e).2), h3.grown hg (fun g hg' => .inr (.inr (hr g hg').1))⟩)
    (fun c s A B row hs hg hr => hs)
    ⟨.slice none 0 0, zg, World.ownsRow_nil _ _ _ _, Kp.refl _ _⟩
    (fun x a' W' => ∃ b6, a' = { tmps := #[.string s, undef, .pointer (some ⟨w.heap.size, 0, none⟩), .pointer (some ⟨b3, 0, none⟩), .pointer (some ⟨b4, 0, none⟩), .pointer (some ⟨b5, 0, none⟩), .pointer (some ⟨b6, 0, none⟩), .func (.func 28) #[] #[.pointer (some ⟨w.heap.size, 0, none⟩), .pointer (some ⟨b3, 0, none⟩), .pointer (some ⟨b4, 0, none⟩)], .agg #[.slice none 0 0, .int .i64 0, .string ⟨#[]⟩, .int .i64 0, .slice none 0 0, .slice none 0 0], .pointer (some ⟨bg, 0, none⟩), .string s, .func (.func 60) #[] #[.pointer (some ⟨bt, 0, none⟩)], tagg (tv s x), undef, undef, undef, undef, undef, undef, undef, undef, undef, undef, undef, undef, undef, undef, undef, undef, undef, undef, undef, undef, undef, undef, undef, undef, undef, undef, undef, undef, undef, undef, undef, undef], defers := [] } ∧ Blk W' b6 73 (tcell (tv s x)).toArray)
    (fun x a' s A B row hs hg hr => by
      obtain ⟨b6, h1, h2⟩ := hs
      exact ⟨b6, h1, h2.kept hg (fun r e => (hr r e).2)⟩) ?assign ?body ?done ?stop
  case assign =>
    intro l pre x W K hI hK
    obtain ⟨v, h3, hown, hkp⟩ := hI
    obtain ⟨⟨k, tx, p⟩, hx⟩ : ∃ t, t = tv s x := ⟨_, rfl⟩
    simp only [tokEnc, tagg, tcell] at hK ⊢
    rw [← hx] at hK ⊢
    simp only [] at hK ⊢
    gi_wp2
    exact hK _ _ ((KeepsOthers.alloc _ _).from _) ((Kp.refl _ _).alloc _) ⟨v, h3.alloc _, hown.alloc _, hkp.alloc _⟩ ⟨_, rfl, Blk.new _ _ _⟩
  case body =>
    rintro l pre x a' W hl hlr ⟨v, h3, hown, hkp⟩ ⟨b6, rfl, hb6⟩ hlen
    obtain ⟨⟨k, tx, p⟩, hx⟩ : ∃ t, t = tv s x := ⟨_, rfl⟩
    have hxl : tcells ((pre ++ [x]).map (tv s)) = tcells (pre.map (tv s)) ++ [.int .i64 k, .string tx, .int .i64 p] := by
      rw [List.map_append, tcells_append, List.map_cons, ← hx]; rfl
    have HX := Lib.hid hxl
    clear hxl
    simp only [tagg, tcell] at hb6 ⊢
    rw [← hx] at hb6 ⊢
    simp only [] at hb6 ⊢
    clear hx
    have x0 := hb6.cell 0
    have x1 := hb6.cell 1
    have x2 := hb6.cell 2
    simp at x0 x1 x2
    have hsz := hkp.size
    have l6 := hb6.lt
    have y5 := (z5.kp hkp (fun h => by omega)).cell 0
    simp at y5
    have yl5 := (z5.kp hkp (fun h => by omega)).lt
    obtain ⟨N, hN⟩ : ∃ N, N = pre.length := ⟨_, rfl⟩
    rw [← hN] at hown hlen
    have HN := Lib.hid hN
    clear hN
    obtain ⟨Av, cv, rfl, hv1, hv2⟩ := own_form hown
    have hg := h3.cell 0
    have hgl := h3.lt
    simp at hg
    obtain ⟨W2, hW2⟩ : ∃ W2, W2 = W.drew.alloc (.cells #[.int .i64 k, .string tx, .int .i64 p] 73) := ⟨_, rfl⟩
    obtain ⟨Fin, hFin⟩ : ∃ Fin : World → Prop, ∀ W9, Fin W9 ↔ (KeepsFrom w1.heap.size W W9 ∧ Kp (fun b => b = bg ∨ w1.heap.size ≤ b) W W9 ∧ ∃ v, Blk W9 bg 75 #[v, .int .i64 0, .string ⟨#[]⟩, .int .i64 0, .slice none 0 0, .slice none 0 0] ∧ W9.ownsRow w1.heap.size 73 3 v (pre ++ [x]).length (tcells ((pre ++ [x]).map (tv s))) ∧ Kp (fun b => b = bg ∨ w1.heap.size ≤ b) w1 W9) := ⟨fun W9 => (KeepsFrom w1.heap.size W W9 ∧ Kp (fun b => b = bg ∨ w1.heap.size ≤ b) W W9 ∧ ∃ v, Blk W9 bg 75 #[v, .int .i64 0, .string ⟨#[]⟩, .int .i64 0, .slice none 0 0, .slice none 0 0] ∧ W9.ownsRow w1.heap.size 73 3 v (pre ++ [x]).length (tcells ((pre ++ [x]).map (tv s))) ∧ Kp (fun b => b = bg ∨ w1.heap.size ≤ b) w1 W9), fun _ => Iff.rfl⟩
    obtain ⟨Mid, hMid⟩ : ∃ Mid : Value → World → Prop, ∀ u w8, Mid u w8 ↔ ∃ g8 cap8, u = .slice (some ⟨g8, 0, none⟩) (N + 1) cap8 ∧ Blk w8 bg 75 #[.slice Av N cv, .int .i64 0, .string ⟨#[]⟩, .int .i64 0, .slice none 0 0, .slice none 0 0] ∧ Fin (w8.setCell ⟨bg, 0, none⟩ (.slice (some ⟨g8, 0, none⟩) (N + 1) cap8)) ∧ w8.cell? ⟨b5, 0, none⟩ = some (.pointer (some ⟨bg, 0, none⟩)) := ⟨fun u w8 => ∃ g8 cap8, u = .slice (some ⟨g8, 0, none⟩) (N + 1) cap8 ∧ Blk w8 bg 75 #[.slice Av N cv, .int .i64 0, .string ⟨#[]⟩, .int .i64 0, .slice none 0 0, .slice none 0 0] ∧ Fin (w8.setCell ⟨bg, 0, none⟩ (.slice (some ⟨g8, 0, none⟩) (N + 1) cap8)) ∧ w8.cell? ⟨b5, 0, none⟩ = some (.pointer (some ⟨bg, 0, none⟩)), fun _ _ => Iff.rfl⟩
    have hg1 : W.drew.cell? ⟨bg, 0, none⟩ = some (.slice Av N cv) := hg
    have hg2 : W2.cell? ⟨bg, 0, none⟩ = some (.slice Av N cv) := by rw [hW2]; exact (World.cell?_alloc_lt W.drew _ ⟨bg, 0, none⟩ hgl).trans hg
    have y52 : W2.cell? ⟨b5, 0, none⟩ = some (.pointer (some ⟨bg, 0, none⟩)) := by rw [hW2]; exact (World.cell?_alloc_lt W.drew _ ⟨b5, 0, none⟩ yl5).trans y5
    have hp5 : ∀ listed u w', ¬ lst listed 10 → Ph5 W.drew W2 Mid Fin u listed w' → w'.cell? ⟨b5, 0, none⟩ = some (.pointer (some ⟨bg, 0, none⟩)) := by
      rintro listed u w' h10 (⟨_, rfl⟩ | ⟨_, _, rfl⟩ | ⟨_, _, h⟩ | ⟨h, _⟩)
      · exact y5
      · exact y52
      · obtain ⟨_, _, _, _, _, h⟩ := (hMid _ _).1 h
        exact h
      · exact absurd h h10
    have hap : ∃ g8 cap8 w8, (Builtin.append_ #[70, 70] 70 #[.slice Av N cv, .slice (some ⟨W.heap.size, 0, none⟩) 1 1]).run Tryz.prog W2 = .ok (.slice (some ⟨g8, 0, none⟩) (N + 1) cap8) w8 ∧ Mid (.slice (some ⟨g8, 0, none⟩) (N + 1) cap8) w8 := by
      obtain ⟨g8, cap8, w8, hr, r1, r2, r3, r4⟩ := run_append_lies (P := Tryz.prog) W2 70 70 w1.heap.size 73 i0 _ 3 32 Tryz.underlying70 hi hz0 hz1 hz2 rfl (by omega) (.slice Av N cv) N (tcells (pre.map (tv s))) (by rw [hW2]; exact hown.alloc _) ⟨W.heap.size, 0, none⟩ 1 1 [.int .i64 k, .string tx, .int .i64 p] rfl (by rw [hW2]; exact World.news_of_block (cs := #[.int .i64 k, .string tx, .int .i64 p]) (t := 73) (fr := (0, 0)) (heap_alloc_new _ _)) (by simp [Value.oneCell']) (by omega) (by simp only [maxLen]; omega) (by omega) (by rw [hW2]; simp; omega) W2.heap.size rfl
      have hown2 : W2.ownsRow w1.heap.size 73 3 (.slice Av N cv) N (tcells (pre.map (tv s))) := by rw [hW2]; exact hown.alloc _
      have h32 : Blk W2 bg 75 #[.slice Av N cv, .int .i64 0, .string ⟨#[]⟩, .int .i64 0, .slice none 0 0, .slice none 0 0] := by rw [hW2]; exact h3.drew.alloc _
      have h52 : Blk W2 b5 69 #[.pointer (some ⟨bg, 0, none⟩)] := by rw [hW2]; exact (z5.kp hkp (fun h => by omega)).drew.alloc _
      have h8 := h32.grown r2 (Ne.symm (own_blk_ne hown2 h32 (by decide)))
      have h58 := h52.grown r2 (Ne.symm (own_blk_ne hown2 h52 (by decide)))
      have hrow : ∀ j, (Value.slice Av N cv).ownBlock = some j → w1.heap.size ≤ j ∧ ∃ cs, Blk W j 73 cs := fun j hj => ⟨(hown.lt j hj).1, own_blk hown j hj⟩
      have k2 : Kp (fun b => b = bg ∨ w1.heap.size ≤ b) W W2 := by rw [hW2]; exact (Kp.refl _ _).drew.alloc _
      have k3 : Kp (fun b => b = bg ∨ w1.heap.size ≤ b) W (w8.setCell ⟨bg, 0, none⟩ (.slice (some ⟨g8, 0, none⟩) (N + 1) cap8)) :=
        (k2.grown r2 (fun j hj => .inr (.inr (hrow j hj).1))).setCell (p := ⟨bg, 0, none⟩) (.inr (.inl rfl)) _
      have k1 : KeepsOthers W W2 := by rw [hW2]; exact (show KeepsOthers W W.drew from ⟨Nat.le_refl _, fun _ _ h _ => h⟩).trans (KeepsOthers.alloc W.drew _)
      have k4 := (k1.trans (KeepsOthers.of_grownBy r2 (fun j o hj ho => by
        obtain ⟨_, cs, hcs⟩ := hrow j hj
        have : Blk W2 j 73 cs := by rw [hW2]; exact hcs.drew.alloc _
        unfold Blk at this
        rw [this] at ho; cases ho; rfl))).trans (KeepsOthers.setCell w8 ⟨bg, 0, none⟩ (.slice (some ⟨g8, 0, none⟩) (N + 1) cap8))
      refine ⟨g8, cap8, w8, hr, (hMid _ _).2 ⟨g8, cap8, rfl, h8, (hFin _).2 ⟨k4.from _, k3, .slice (some ⟨g8, 0, none⟩) (N + 1) cap8, ?_, ?_, hkp.trans k3⟩, ?_⟩⟩
      · have := h8.set_ 0 (.slice (some ⟨g8, 0, none⟩) (N + 1) cap8)
        simpa using this
      · rw [HX.out, List.length_append, List.length_singleton, ← HN.out]
        exact own_setCell (p := ⟨bg, 0, none⟩) r1 (own_blk_ne r1 h8 (by decide))
      · have := h58.cell 0
        simpa using this
    refine wpIn_block ?_
    refine region_inv (R5 (fun u13 u14 u15 u16 u17 u18 u19 u20 u21 u22 => #[.string s, undef, .pointer (some ⟨w.heap.size, 0, none⟩), .pointer (some ⟨b3, 0, none⟩), .pointer (some ⟨b4, 0, none⟩), .pointer (some ⟨b5, 0, none⟩), .pointer (some ⟨b6, 0, none⟩), .func (.func 28) #[] #[.pointer (some ⟨w.heap.size, 0, none⟩), .pointer (some ⟨b3, 0, none⟩), .pointer (some ⟨b4, 0, none⟩)], .agg #[.slice none 0 0, .int .i64 0, .string ⟨#[]⟩, .int .i64 0, .slice none 0 0, .slice none 0 0], .pointer (some ⟨bg, 0, none⟩), .string s, .func (.func 60) #[] #[.pointer (some ⟨bt, 0, none⟩)], .agg #[.int .i64 k, .string tx, .int .i64 p], u13, u14, u15, u16, u17, u18, u19, u20, u21, u22, undef, undef, undef, undef, undef, undef, undef, undef, undef, undef, undef, undef, undef, undef, undef, undef, undef, undef, undef, undef, undef, undef]) (.pointer (some ⟨bg, 0, none⟩)) (.slice Av N cv) (.agg #[.int .i64 k, .string tx, .int .i64 p]) (.slice (some ⟨W.heap.size, 0, none⟩) 1 1) W.drew W2 Mid Fin) (by kernel_rfl) ?start ?step ?fin
    case start => exact ⟨undef, undef, undef, undef, undef, undef, undef, undef, undef, undef, rfl, ⟨fun h => absurd h (lst_none _ _), fun h => absurd h (lst_none _ _), fun h => absurd h (lst_none _ _), fun h => absurd h (lst_none _ _), fun h => absurd h (lst_none _ _), fun h => absurd h (lst_none _ _), fun h => absurd h (lst_none _ _), fun h => absurd h (lst_none _ _), fun h => absurd h (lst_none _ _)⟩, .inl ⟨lst_none _ _, rfl⟩⟩
    case fin =>
      intro listed a w' hs hc hI h0
      have rd : ∀ i o, (show Array Oper from _)[i]? = some o → (∀ e ∈ o.after, lst listed e.on) → lst listed i := fun i o ho ha => lst_of_done hs h0 ho ha
      have r0 := rd 0 _ rfl (by simp)
      have r1 := rd 1 _ rfl (by simp)
      have r2 := rd 2 _ rfl (by simp [r1])
      have r3 := rd 3 _ rfl (by simp [r2])
      have r4 := rd 4 _ rfl (by simp [r3])
      have r5 := rd 5 _ rfl (by simp)
      have r6 := rd 6 _ rfl (by simp [r5])
      have r7 := rd 7 _ rfl (by simp [r4, r6])
      have r8 := rd 8 _ rfl (by simp [r0, r1, r2, r3, r4, r5, r6, r7])
      have r9 := rd 9 _ rfl (by simp [r0, r1, r2, r3, r4, r5, r6, r7, r8])
      have r10 := rd 10 _ rfl (by simp [r0, r1, r2, r3, r4, r5, r6, r7, r9])
      obtain ⟨_, _, _, _, _, _, _, _, _, _, _, _, hph⟩ := hI
      rcases hph with ⟨h, _⟩ | ⟨_, h, _⟩ | ⟨_, h, _⟩ | ⟨_, h⟩
      · exact absurd r6 h
      · exact absurd r7 h
      · exact absurd r10 h
      · exact (hFin _).1 h
    case step =>
      intro listed a w' i hs hc hI hr
      obtain ⟨hi, hn, o, ho, e2⟩ := ready_facts hs hr
      obtain ⟨u13, u14, u15, u16, u17, u18, u19, u20, u21, u22, rfl, ⟨q0, q1, q2, q3, q4, q5, q6, q8, q9⟩, hph⟩ := hI
      have hsz : listed.size = 11 := hs
      have up : ∀ j, i ≠ j → lst (listed.setIfInBounds i true) j → lst listed j := fun j hj h => ((lst_set (by omega)).1 h).resolve_left (fun e => hj e.symm)
      have me : lst (listed.setIfInBounds i true) i := (lst_set (by omega)).2 (.inl rfl)
      have c7 : lst listed 7 → lst listed 4 ∧ lst listed 6 := fun h => ⟨hc 7 _ rfl h ⟨4, .data⟩ (by simp) rfl, hc 7 _ rfl h ⟨6, .data⟩ (by simp) rfl⟩
      have c6 : lst listed 6 → lst listed 5 := fun h => hc 6 _ rfl h ⟨5, .data⟩ (by simp) rfl
      have c10 : lst listed 10 → ∀ j, j < 8 → lst listed j := fun h j hj => by
        have : j = 0 ∨ j = 1 ∨ j = 2 ∨ j = 3 ∨ j = 4 ∨ j = 5 ∨ j = 6 ∨ j = 7 := by omega
        rcases this with rfl | rfl | rfl | rfl | rfl | rfl | rfl | rfl
        · exact hc 10 _ rfl h ⟨0, .phase⟩ (by simp) rfl
        · exact hc 10 _ rfl h ⟨1, .phase⟩ (by simp) rfl
        · exact hc 10 _ rfl h ⟨2, .phase⟩ (by simp) rfl
        · exact hc 10 _ rfl h ⟨3, .phase⟩ (by simp) rfl
        · exact hc 10 _ rfl h ⟨4, .phase⟩ (by simp) rfl
        · exact hc 10 _ rfl h ⟨5, .phase⟩ (by simp) rfl
        · exact hc 10 _ rfl h ⟨6, .phase⟩ (by simp) rfl
        · exact hc 10 _ rfl h ⟨7, .phase⟩ (by simp) rfl
      have hi11 : i < 11 := hi
      have hall : i = 0 ∨ i = 1 ∨ i = 2 ∨ i = 3 ∨ i = 4 ∨ i = 5 ∨ i = 6 ∨ i = 7 ∨ i = 8 ∨ i = 9 ∨ i = 10 := by omega
      clear hr hi hs
      rcases hall with rfl | rfl | rfl | rfl | rfl | rfl | rfl | rfl | rfl | rfl | rfl
      all_goals (obtain rfl := Option.some.inj ho; clear ho)
      · have hx := hp5 listed u20 w' (fun h => hn (c10 h 0 (by decide))) hph
        refine op_val (w' := w') (v := .pointer (some ⟨bg, 0, none⟩)) (fun _ => trivial) rfl rfl rfl (by simp [execOp, go_sem, hx]) ?_
        refine ⟨(.pointer (some ⟨bg, 0, none⟩)), u14, u15, u16, u17, u18, u19, u20, u21, u22, rfl, ⟨fun _ => rfl, fun h => q1 (up 1 (by decide) h), fun h => q2 (up 2 (by decide) h), fun h => q3 (up 3 (by decide) h), fun h => q4 (up 4 (by decide) h), fun h => q5 (up 5 (by decide) h), fun h => q6 (up 6 (by decide) h), fun h => q8 (up 8 (by decide) h), fun h => q9 (up 9 (by decide) h)⟩, hph.same (by omega) (by decide) (by decide) (by decide)⟩
      · have hx := hp5 listed u20 w' (fun h => hn (c10 h 1 (by decide))) hph
        refine op_val (w' := w') (v := .pointer (some ⟨bg, 0, none⟩)) (fun _ => trivial) rfl rfl rfl (by simp [execOp, go_sem, hx]) ?_
        refine ⟨u13, (.pointer (some ⟨bg, 0, none⟩)), u15, u16, u17, u18, u19, u20, u21, u22, rfl, ⟨fun h => q0 (up 0 (by decide) h), fun _ => rfl, fun h => q2 (up 2 (by decide) h), fun h => q3 (up 3 (by decide) h), fun h => q4 (up 4 (by decide) h), fun h => q5 (up 5 (by decide) h), fun h => q6 (up 6 (by decide) h), fun h => q8 (up 8 (by decide) h), fun h => q9 (up 9 (by decide) h)⟩, hph.same (by omega) (by decide) (by decide) (by decide)⟩
      · have hu := q1 (e2 ⟨1, .data⟩ (by simp) rfl)
        refine op_val (w' := w') (v := .pointer (some ⟨bg, 0, none⟩)) (fun _ => trivial) rfl rfl rfl (by simp [execOp, go_sem, hu]) ?_
        refine ⟨u13, u14, (.pointer (some ⟨bg, 0, none⟩)), u16, u17, u18, u19, u20, u21, u22, rfl, ⟨fun h => q0 (up 0 (by decide) h), fun h => q1 (up 1 (by decide) h), fun _ => rfl, fun h => q3 (up 3 (by decide) h), fun h => q4 (up 4 (by decide) h), fun h => q5 (up 5 (by decide) h), fun h => q6 (up 6 (by decide) h), fun h => q8 (up 8 (by decide) h), fun h => q9 (up 9 (by decide) h)⟩, hph.same (by omega) (by decide) (by decide) (by decide)⟩
      · have hu := q2 (e2 ⟨2, .data⟩ (by simp) rfl)
        refine op_val (w' := w') (v := .pointer (some ⟨bg, 0, none⟩)) (fun _ => trivial) rfl rfl rfl (by simp [execOp, go_sem, hu]) ?_
        refine ⟨u13, u14, u15, (.pointer (some ⟨bg, 0, none⟩)), u17, u18, u19, u20, u21, u22, rfl, ⟨fun h => q0 (up 0 (by decide) h), fun h => q1 (up 1 (by decide) h), fun h => q2 (up 2 (by decide) h), fun _ => rfl, fun h => q4 (up 4 (by decide) h), fun h => q5 (up 5 (by decide) h), fun h => q6 (up 6 (by decide) h), fun h => q8 (up 8 (by decide) h), fun h => q9 (up 9 (by decide) h)⟩, hph.same (by omega) (by decide) (by decide) (by decide)⟩
      · have hu := q3 (e2 ⟨3, .data⟩ (by simp) rfl)
        have hx : w'.cell? ⟨bg, 0, none⟩ = some (.slice Av N cv) := by
          rcases hph with ⟨_, rfl⟩ | ⟨_, _, rfl⟩ | ⟨h7, _, _⟩ | ⟨h, _⟩
          · exact hg1
          · exact hg2
          · exact absurd (c7 h7).1 hn
          · exact absurd (c10 h 4 (by decide)) hn
        refine op_val (w' := w') (v := .slice Av N cv) (fun _ => trivial) rfl rfl rfl (by simp [execOp, go_sem, hu, hx]) ?_
        refine ⟨u13, u14, u15, u16, (.slice Av N cv), u18, u19, u20, u21, u22, rfl, ⟨fun h => q0 (up 0 (by decide) h), fun h => q1 (up 1 (by decide) h), fun h => q2 (up 2 (by decide) h), fun h => q3 (up 3 (by decide) h), fun _ => rfl, fun h => q5 (up 5 (by decide) h), fun h => q6 (up 6 (by decide) h), fun h => q8 (up 8 (by decide) h), fun h => q9 (up 9 (by decide) h)⟩, hph.same (by omega) (by decide) (by decide) (by decide)⟩
      · obtain rfl : W.drew = w' := by
          rcases hph with ⟨_, rfl⟩ | ⟨h6, _, _⟩ | ⟨h7, _, _⟩ | ⟨h, _⟩
          · rfl
          · exact absurd (c6 h6) hn
          · exact absurd (c6 (c7 h7).2) hn
          · exact absurd (c10 h 5 (by decide)) hn
        refine op_val (w' := W.drew) (v := .agg #[.int .i64 k, .string tx, .int .i64 p]) (fun _ => trivial) rfl rfl rfl (by simp [execOp, go_sem, x0, x1, x2]) ?_
        refine ⟨u13, u14, u15, u16, u17, (.agg #[.int .i64 k, .string tx, .int .i64 p]), u19, u20, u21, u22, rfl, ⟨fun h => q0 (up 0 (by decide) h), fun h => q1 (up 1 (by decide) h), fun h => q2 (up 2 (by decide) h), fun h => q3 (up 3 (by decide) h), fun h => q4 (up 4 (by decide) h), fun _ => rfl, fun h => q6 (up 6 (by decide) h), fun h => q8 (up 8 (by decide) h), fun h => q9 (up 9 (by decide) h)⟩, hph.same (by omega) (by decide) (by decide) (by decide)⟩
      · have hu := q5 (e2 ⟨5, .data⟩ (by simp) rfl)
        obtain rfl : W.drew = w' := by
          rcases hph with ⟨_, rfl⟩ | ⟨h6, _, _⟩ | ⟨h7, _, _⟩ | ⟨h, _⟩
          · rfl
          · exact absurd h6 hn
          · exact absurd (c7 h7).2 hn
          · exact absurd (c10 h 6 (by decide)) hn
        have n7 : ¬ lst listed 7 := fun h => hn (c7 h).2
        refine op_val (w' := W2) (v := .slice (some ⟨W.heap.size, 0, none⟩) 1 1) (fun _ => trivial) rfl rfl rfl (by simp [execOp, go_sem, hu, hW2]) ?_
        refine ⟨u13, u14, u15, u16, u17, u18, (.slice (some ⟨W.heap.size, 0, none⟩) 1 1), u20, u21, u22, rfl, ⟨fun h => q0 (up 0 (by decide) h), fun h => q1 (up 1 (by decide) h), fun h => q2 (up 2 (by decide) h), fun h => q3 (up 3 (by decide) h), fun h => q4 (up 4 (by decide) h), fun h => q5 (up 5 (by decide) h), fun _ => rfl, fun h => q8 (up 8 (by decide) h), fun h => q9 (up 9 (by decide) h)⟩, .inr (.inl ⟨me, fun h => n7 (up 7 (by decide) h), rfl⟩)⟩
      · have hu := q4 (e2 ⟨4, .data⟩ (by simp) rfl)
        have h6 := e2 ⟨6, .data⟩ (by simp) rfl
        have hu6 := q6 h6
        obtain rfl : W2 = w' := by
          rcases hph with ⟨h, _⟩ | ⟨_, _, rfl⟩ | ⟨h7, _, _⟩ | ⟨h, _⟩
          · exact absurd h6 h
          · rfl
          · exact absurd h7 hn
          · exact absurd (c10 h 7 (by decide)) hn
        have n10 : ¬ lst listed 10 := fun h => hn (c10 h 7 (by decide))
        obtain ⟨g8, cap8, w8, hrun, hmid⟩ := hap
        refine op_val (w' := w8) (v := .slice (some ⟨g8, 0, none⟩) (N + 1) cap8) (fun _ => trivial) rfl rfl rfl (exec_append rfl (by simp [Act.eval, hu]) (by simp [Act.eval, hu6]) hrun) ?_
        refine ⟨u13, u14, u15, u16, u17, u18, u19, (.slice (some ⟨g8, 0, none⟩) (N + 1) cap8), u21, u22, rfl, ⟨fun h => q0 (up 0 (by decide) h), fun h => q1 (up 1 (by decide) h), fun h => q2 (up 2 (by decide) h), fun h => q3 (up 3 (by decide) h), fun h => q4 (up 4 (by decide) h), fun h => q5 (up 5 (by decide) h), fun h => q6 (up 6 (by decide) h), fun h => q8 (up 8 (by decide) h), fun h => q9 (up 9 (by decide) h)⟩, .inr (.inr (.inl ⟨me, fun h => n10 (up 10 (by decide) h), hmid⟩))⟩
      · have hu := q0 (e2 ⟨0, .data⟩ (by simp) rfl)
        refine op_val (w' := w') (v := .pointer (some ⟨bg, 0, none⟩)) (fun _ => trivial) rfl rfl rfl (by simp [execOp, go_sem, hu]) ?_
        refine ⟨u13, u14, u15, u16, u17, u18, u19, u20, (.pointer (some ⟨bg, 0, none⟩)), u22, rfl, ⟨fun h => q0 (up 0 (by decide) h), fun h => q1 (up 1 (by decide) h), fun h => q2 (up 2 (by decide) h), fun h => q3 (up 3 (by decide) h), fun h => q4 (up 4 (by decide) h), fun h => q5 (up 5 (by decide) h), fun h => q6 (up 6 (by decide) h), fun _ => rfl, fun h => q9 (up 9 (by decide) h)⟩, hph.same (by omega) (by decide) (by decide) (by decide)⟩
      · have hu := q8 (e2 ⟨8, .data⟩ (by simp) rfl)
        refine op_val (w' := w') (v := .pointer (some ⟨bg, 0, none⟩)) (fun _ => trivial) rfl rfl rfl (by simp [execOp, go_sem, hu]) ?_
        refine ⟨u13, u14, u15, u16, u17, u18, u19, u20, u21, (.pointer (some ⟨bg, 0, none⟩)), rfl, ⟨fun h => q0 (up 0 (by decide) h), fun h => q1 (up 1 (by decide) h), fun h => q2 (up 2 (by decide) h), fun h => q3 (up 3 (by decide) h), fun h => q4 (up 4 (by decide) h), fun h => q5 (up 5 (by decide) h), fun h => q6 (up 6 (by decide) h), fun h => q8 (up 8 (by decide) h), fun _ => rfl⟩, hph.same (by omega) (by decide) (by decide) (by decide)⟩
      · have hu := q9 (e2 ⟨9, .data⟩ (by simp) rfl)
        have h7 := e2 ⟨7, .data⟩ (by simp) rfl
        have hm : Mid u20 w' := by
          rcases hph with ⟨h, _⟩ | ⟨_, h, _⟩ | ⟨_, _, h⟩ | ⟨h, _⟩
          · exact absurd (c7 h7).2 h
          · exact absurd h7 h
          · exact h
          · exact absurd h hn
        obtain ⟨g8, cap8, hu20, d8, hmf, _⟩ := (hMid _ _).1 hm
        have d80 := d8.cell 0
        have d8f := d8.frozen 0
        simp at d80
        refine op_skip (w' := w'.setCell ⟨bg, 0, none⟩ (.slice (some ⟨g8, 0, none⟩) (N + 1) cap8)) (fun _ => trivial) rfl rfl rfl (by simp [execOp, go_sem, hu, hu20, d80, d8f]) ?_
        refine ⟨u13, u14, u15, u16, u17, u18, u19, u20, u21, u22, rfl, ⟨fun h => q0 (up 0 (by decide) h), fun h => q1 (up 1 (by decide) h), fun h => q2 (up 2 (by decide) h), fun h => q3 (up 3 (by decide) h), fun h => q4 (up 4 (by decide) h), fun h => q5 (up 5 (by decide) h), fun h => q6 (up 6 (by decide) h), fun h => q8 (up 8 (by decide) h), fun h => q9 (up 9 (by decide) h)⟩, .inr (.inr (.inr ⟨me, hmf⟩))⟩
  case done =>
    rintro D xs W hD rfl ⟨v, h3, hown, hkp⟩ hK
    have z2' := z2.kp hkp (fun h => by omega)
    have z3' := z3.kp hkp (fun h => by omega)
    have z4' := z4.kp hkp (fun h => by omega)
    have z5' := z5.kp hkp (fun h => by omega)
    have hk0W : K0 w W := hk01.trans' hkp (fun i hi h => by omega)
    have hKp : PKeep w b3 b4 b5 bg D W := ⟨z2', z3', z4', z5', hK, hk0W⟩
    obtain ⟨Av, cv, rfl, hv1, hv2⟩ := own_form hown
    obtain ⟨TT, hTT⟩ : ∃ TT, TT = xs.map (tv s) := ⟨_, rfl⟩
    have htok : TokOk TT := by rw [hTT, HT.out]; exact tokOk_toks s (by omega)
    rw [← hTT] at hown
    have hlen : xs.length = TT.length := by rw [hTT]; simp
    rw [hlen] at hown h3 hv1
    obtain ⟨t0, r0, rfl⟩ : ∃ t0 r0, TT = t0 :: r0 := by
      cases TT with
      | nil => exact htok.1.elim
      | cons t0 r0 => exact ⟨t0, r0, rfl⟩
    have hpb : PB W bg Av cv ((0 : Int), (⟨#[]⟩ : ByteArray), (0 : Int)) (t0 :: r0) (.slice none 0 0) (.slice none 0 0) := ⟨h3, RowT.of_own hown, hv1, hv2⟩
    have hR : parseR s = runT d0 0 (t0 :: r0) := by unfold parseR; rw [hTT, HT.out]
    have HR := Lib.hid hR
    have y5 := z5'.cell 0
    have l5' := z5'.lt
    simp at y5
    clear hTT hlen hR hown z2 z3 z4 zg z5 h3 z2' z3' z4' z5' hkp
    go_wp2_with (go_at_call 30; refine (step_any W bg Av cv _ t0 r0 _ _ hpb).mono ?_; rintro e w3 ⟨rfl, ⟨A3, c3, hpb3⟩, hk3⟩)
    have hwg : w.heap.size < bg := by omega
    have nD : ∀ {W t g cs}, W.heap[D]? = some (Obj.deferred (some [])) → Blk W g t cs → ¬ g = D := fun hD hb e => by subst e; unfold Blk at hb; rw [hD] at hb; cases hb
    have hKp3 : PKeep w b3 b4 b5 bg D w3 := hKp.kp hk3 (fun k h => by omega) (fun t cs k h1 _ _ hb h => by subst h; exact hb.ne_ hpb.1 h1 rfl) (fun (h : D = bg) => nD hKp.mkD hpb.1 h.symm)
    refine (wpIn_wide (n := 7)).1 ?_
    refine wpIn_loop (fun a W => PInv s w b3 b4 b5 bg bt D a W) (fun a W => rowLen W bg) ⟨t0 :: r0, d0, ⟨t0, r0, A3, c3, _, _, [], [], rfl, htok, hpb3, PD.nil _ _, rfl, rfl, by omega⟩, fitD_zero, HR, hKp3, ex_us rfl⟩ ?_
    clear hKp3 hKp hpb hpb3 htok y5 l5' hK
    rintro a W4 ⟨T, d, ⟨⟨k, tx, p⟩, r, A, c, vc, vs, pc, ps, rfl, htok, hpb, hd, hpc, hps, hbg⟩, hf, hres, hkp4, us, rfl⟩
    have hb := hpb.1
    simp only [] at hb
    have y5 := hkp4.z5.cell 0
    have l5' := hkp4.z5.lt
    have c1 := hb.cell 1
    have lg' := hb.lt
    simp at y5 c1
    have hlt := htok.1
    by_cases k3 : k = 3
    · -- the stop
      subst k3
      have hr0 := stop_last hlt rfl
      subst hr0
      have hR : parseR s = .ok d := by
        rw [hres.out, runT_end (by omega) (by omega) (.inl rfl), runT]
      have HR2 := Lib.hid hR
      obtain ⟨Ac, cc, rfl, hc1, hc2⟩ := own_form hd.oc
      obtain ⟨As, cs, rfl, hs1, hs2⟩ := own_form hd.os
      have x4 := hb.cell 4
      have x5 := hb.cell 5
      have q20 := hkp4.z2.cell 0
      have q21 := hkp4.z2.cell 1
      have q3 := hkp4.z3.cell 0
      have q4 := hkp4.z4.cell 0
      have f20 := hkp4.z2.frozen 0
      have f21 := hkp4.z2.frozen 1
      have f3 := hkp4.z3.frozen 0
      have f4 := hkp4.z4.frozen 0
      have m2 := hkp4.z2.lt
      have m3 := hkp4.z3.lt
      have m4 := hkp4.z4.lt
      simp at x4 x5 q20 q21 q3 q4
      have KW := (((((Kp.refl (fun k => k = w.heap.size ∨ k = b3 ∨ k = b4) W4).setCell (p := ⟨w.heap.size, 0, none⟩) (.inr (.inl rfl)) (.slice Ac pc.length cc)).setCell (p := ⟨w.heap.size, 1, none⟩) (.inr (.inl rfl)) (.slice As ps.length cs)).setCell (p := ⟨b3, 0, none⟩) (.inr (.inr (.inl rfl))) (.int .i64 0)).setCell (p := ⟨b4, 0, none⟩) (.inr (.inr (.inr rfl))) (.int .i64 0))
      have n23 : w.heap.size ≠ b3 := by omega
      have n24 : w.heap.size ≠ b4 := by omega
      have n34 : b3 ≠ b4 := by omega
      have G2 := ((((hkp4.z2.set_ 0 (.slice Ac pc.length cc)).set_ 1 (.slice As ps.length cs)).far (p := ⟨b3, 0, none⟩) n23 (.int .i64 0)).far (p := ⟨b4, 0, none⟩) n24 (.int .i64 0))
      have G3 := ((((hkp4.z3.far (p := ⟨w.heap.size, 0, none⟩) (Ne.symm n23) (.slice Ac pc.length cc)).far (p := ⟨w.heap.size, 1, none⟩) (Ne.symm n23) (.slice As ps.length cs)).set_ 0 (.int .i64 0)).far (p := ⟨b4, 0, none⟩) n34 (.int .i64 0))
      have G4 := ((((hkp4.z4.far (p := ⟨w.heap.size, 0, none⟩) (Ne.symm n24) (.slice Ac pc.length cc)).far (p := ⟨w.heap.size, 1, none⟩) (Ne.symm n24) (.slice As ps.length cs)).far (p := ⟨b3, 0, none⟩) (Ne.symm n34) (.int .i64 0)).set_ 0 (.int .i64 0))
      have ndk : ∀ {g t cs}, Blk W4 g t cs → ¬ g = D := fun hb => nD hkp4.mkD hb
      have av : ∀ t, (t = 53 ∨ t = 51 ∨ t = 90) → ∀ g cs, Blk W4 g t cs → ¬ (g = w.heap.size ∨ g = b3 ∨ g = b4) := by
        rintro t ht g cs h (e | e | e)
        · subst e; exact h.ne_ hkp4.z2 (by rcases ht with rfl | rfl | rfl <;> decide) rfl
        · subst e; exact h.ne_ hkp4.z3 (by rcases ht with rfl | rfl | rfl <;> decide) rfl
        · subst e; exact h.ne_ hkp4.z4 (by rcases ht with rfl | rfl | rfl <;> decide) rfl
      have HD5 := Lib.hid (hd.kt KW (av 53 (.inl rfl)) (av 51 (.inr (.inl rfl))) (av 90 (.inr (.inr rfl))))
      have HM5 := Lib.hid ((KW.block D (Array.getElem?_eq_some_iff.1 hkp4.mkD).1 (by rintro (e | e | e); exact ndk hkp4.z2 e.symm; exact ndk hkp4.z3 e.symm; exact ndk hkp4.z4 e.symm)).trans hkp4.mkD)
      have HK5 := Lib.hid (hkp4.k0.trans' KW (fun i hi h => by rcases h with h | h | h <;> omega))
      have HG2 := Lib.hid G2
      have HG3 := Lib.hid G3
      have HG4 := Lib.hid G4
      clear KW G2 G3 G4 hR
      gi_wp2
      go_wp2
      refine door_ret HM5.out fun W6 hk6 => ?_
      have nD5 : ∀ {g t cs}, Blk _ g t cs → ¬ g = D := fun hb => nD HM5.out hb
      have E2 := HG2.out.kp hk6 (nD5 HG2.out)
      have E3 := HG3.out.kp hk6 (nD5 HG3.out)
      have E4 := HG4.out.kp hk6 (nD5 HG4.out)
      have r20 := E2.cell 0
      have r21 := E2.cell 1
      have r3 := E3.cell 0
      have r4 := E4.cell 0
      simp at r20 r21 r3 r4
      refine ⟨.tuple #[.agg #[.slice Ac pc.length cc, .slice As ps.length cs], .int .i64 0, .int .i64 0], ?_, .inr ⟨d, _, _, pc, ps, HR2.out, rfl, HD5.out.kt hk6 (fun g cs h => nD5 h) (fun g cs h => nD5 h) (fun g cs h => nD5 h), hpc, hps, HK5.out.trans' hk6 (fun i hi h => by subst h; have := (Array.getElem?_eq_some_iff.1 hkp4.mkD).1; omega)⟩⟩
      simp [results, Tryz.f15, go_sem, r20, r21, r3, r4]
    · have n3 : (k != 3) = true := bne_iff_ne.2 k3
      have e3 : (k == 3) = false := beq_eq_false_iff_ne.2 k3
      by_cases k2 : k = 2
      · subst k2
        have hr := line_more hlt rfl
        obtain ⟨t', r', rfl⟩ : ∃ t' r', r = t' :: r' := by
          cases r with
          | nil => exact hr.elim
          | cons t' r' => exact ⟨t', r', rfl⟩
        have hres2 := Lib.hid (hres.out.trans (runT_end (by omega) (by omega) (.inl rfl)))
        have htr : TokOk (t' :: r') := ⟨hr, fun x hx => htok.2 x (by simp only [List.mem_cons] at hx ⊢; exact .inr hx)⟩
        have c0 := hb.cell 0
        simp at c0
        have hm4 : rowLen W4 bg = (t' :: r').length := by unfold rowLen; rw [c0]; rfl
        have HM4 := Lib.hid hm4
        have ST := Lib.hid (step_any W4 bg A c (2, tx, p) t' r' vc vs hpb)
        clear hm4 hres k3 hr c0
        gi_wp2_with (refine ⟨trivial, ?_⟩; gi_at_call 30; refine (callsIn_wide.2 ST.out).mono ?_; rintro e w5 ⟨rfl, ⟨A5, c5, hpb5⟩, hk5⟩)
        have b5' := hpb5.1
        have hkp5 := hkp4.kp hk5 (fun k h => by omega) (fun t cs k h1 _ _ hb' h => by subst h; exact hb'.ne_ hb h1 rfl) (fun (h : D = bg) => nD hkp4.mkD hb h.symm)
        have hd5 := hd.kt hk5 (fun g' cs h e => by subst e; exact h.ne_ hb (by decide) rfl) (fun g' cs h e => by subst e; exact h.ne_ hb (by decide) rfl) (fun g' cs h e => by subst e; exact h.ne_ hb (by decide) rfl)
        refine ⟨⟨t' :: r', d, ⟨t', r', A5, c5, vc, vs, pc, ps, rfl, htr, hpb5, hd5, hpc, hps, hbg⟩, hf, hres2, hkp5, ex_us rfl⟩, ?_⟩
        rw [HM4.out]
        have := b5'.cell 0
        unfold rowLen
        rw [this]
        show r'.length < _
        simp
      · have n2 : (k == 2) = false := beq_eq_false_iff_ne.2 k2
        have hrun := run_line (d := d) hlt k2 k3
        have HRL := Lib.hid (hres.out.trans hrun)
        have LP := Lib.hid (pline_any W4 w.heap.size bg ((k, tx, p) :: r) d ⟨_, r, A, c, vc, vs, pc, ps, rfl, htok, hpb, hd, hpc, hps, hbg⟩ hkp4.k0.size hf)
        have c0 := hb.cell 0
        simp at c0
        have hm4 : rowLen W4 bg = r.length := by unfold rowLen; rw [c0]; rfl
        have HM4 := Lib.hid hm4
        clear hm4 hres hrun k2 k3 c0
        gi_wp2_with fail
        refine ⟨trivial, ?_⟩
        refine (callsIn_wide.2 LP.out).mono ?_
        have HK := Lib.hid (fun (w5 : World) (hk5 : Kp (LS w.heap.size bg W4) W4 w5) => hkp4.kp hk5 (fun k h => h.1) (fun t cs k h1 h2 h3 hb' h => by
          rcases h.2 with h | ⟨t', cs', ht', hb2⟩
          · subst h; exact hb'.ne_ hb h1 rfl
          · rcases ht' with rfl | rfl
            · exact hb'.ne_ hb2 h2 rfl
            · exact hb'.ne_ hb2 h3 rfl) (fun h => by
          rcases h.2 with h | ⟨t', cs', ht', hb2⟩
          · exact nD hkp4.mkD hb h.symm
          · exact nD hkp4.mkD hb2 rfl))
        rintro e w5 (⟨p', er, hE, he, hk5⟩ | ⟨d', T', hE, he, hps5, hk5⟩)
        · unfold faultE at he
          subst he
          have hR := HRL.out
          rw [hE] at hR
          have HR2 := Lib.hid (show parseR s = .error (p', er) from hR)
          have hkp5 := HK.out _ hk5
          have HP5 := Lib.hid hkp5
          clear hR hE
          gi_wp2
          refine door_fault HP5.out.mkD HP5.out.z2 HP5.out.z3 HP5.out.z4 fun W6 hk6 E2 E3 E4 => ?_
          have r20 := E2.cell 0
          have r21 := E2.cell 1
          have r3 := E3.cell 0
          have r4 := E4.cell 0
          simp at r20 r21 r3 r4
          refine ⟨.tuple #[.agg #[.slice none 0 0, .slice none 0 0], .int .i64 p', .int .i64 er], ?_, .inl ⟨p', er, HR2.out, rfl, HP5.out.k0.trans' hk6 (fun i hi h => by omega)⟩⟩
          simp [results, Tryz.f15, go_sem, r20, r21, r3, r4]
        · subst he
          have hR := HRL.out
          rw [hE] at hR
          obtain ⟨⟨_, _, hlen'⟩, hf'⟩ := lineR_ok hlt hf hE
          have HR2 := Lib.hid (show parseR s = runT d' 0 T' from hR)
          have HP5 := Lib.hid (HK.out _ hk5)
          have HLEN := Lib.hid hlen'
          have HPS := Lib.hid hps5
          clear hR hE hlen' hps5
          gi_wp2
          refine ⟨⟨T', d', HPS.out, hf', HR2, HP5.out, ex_us rfl⟩, ?_⟩
          rw [HM4.out]
          obtain ⟨t5, r5, A5, c5, vc5, vs5, pc5, ps5, rfl, _, hpb5, _⟩ := HPS.out
          have h0 := hpb5.1.cell 0
          unfold rowLen
          rw [h0]
          show r5.length < _
          have := HLEN.out
          simp only [List.length_cons] at this
          omega
  case stop => exact fun _ _ _ _ _ _ h => h.elim
end Go.Proofs.YtobofhiakgohfaaGreatDoor
