/- SchemeValid. -/
import Derived.Test.YtobofhiakgohfaaGreatDoorSI
import Derived.Test.YtobofhiakgohfaaGreatDoorSH
import Derived.Test.YtobofhiakgohfaaGreatDoorQ2
set_option linter.unusedVariables false
set_option linter.unusedSimpArgs false
namespace Go.Proofs.YtobofhiakgohfaaGreatDoor
open Go.RowKit

/-- A copy of a scheme, as a value. -/
def VX (base : Nat) (w : World) (u : Value) (s : List ShpX) : Prop := ∃ v o, u = .agg #[v] ∧ o.map ShpX.d = s.map ShpX.d ∧ OSL w base v o
theorem VX.k0 {base : Nat} {w w' : World} {u : Value} {s : List ShpX} (h : VX base w u s) (hk : K0 w w') : VX base w' u s := by
  obtain ⟨v, o, e, h1, h2⟩ := h
  exact ⟨v, o, e, h1, h2.k0 hk⟩
theorem VX.st {base : Nat} {w w' : World} {u : Value} {s : List ShpX} {b : Nat} {cs : Array Value} (h : VX base w u s) (hb : Blk w b 25 cs) (hk : K1 b w w') : VX base w' u s := by
  obtain ⟨v, o, e, h1, h2⟩ := h
  refine ⟨v, o, e, h1, h2.kt hk (fun g cs hg h => ?_) (fun g cs hg h => ?_) (fun g cs hg h => ?_)⟩
  · subst h; exact hg.ne_ hb (by decide) rfl
  · subst h; exact hg.ne_ hb (by decide) rfl
  · have h := h.2; subst h; exact hg.ne_ hb (by decide) rfl
/-- A variable of the region, and what it holds, once that is stored. -/
def CX (base : Nat) (w : World) (p u : Value) (d : Prop) : Prop := ∃ b v, p = .pointer (some ⟨b, 0, none⟩) ∧ base ≤ b ∧ Blk w b 25 #[v] ∧ (d → u = .agg #[v])
theorem CX.k0 {base : Nat} {w w' : World} {p u : Value} {d : Prop} (h : CX base w p u d) (hk : K0 w w') : CX base w' p u d := by
  obtain ⟨b, v, e, h1, h2, h3⟩ := h
  exact ⟨b, v, e, h1, h2.kp hk (fun h => h), h3⟩
theorem CX.imp {base : Nat} {w : World} {p u : Value} {d d' : Prop} (h : CX base w p u d) (hd : d' → d) : CX base w p u d' := by
  obtain ⟨b, v, e, h1, h2, h3⟩ := h
  exact ⟨b, v, e, h1, h2, fun h => h3 (hd h)⟩
theorem CX.drop {base : Nat} {w : World} {p u u' : Value} {d d' : Prop} (h : CX base w p u d) (hd : ¬ d') : CX base w p u' d' := by
  obtain ⟨b, v, e, h1, h2, h3⟩ := h
  exact ⟨b, v, e, h1, h2, fun h => absurd h hd⟩
theorem CX.far {base : Nat} {w w' : World} {p u : Value} {d : Prop} {b : Nat} (h : CX base w p u d) (hne : p ≠ .pointer (some ⟨b, 0, none⟩)) (hk : K1 b w w') : CX base w' p u d := by
  obtain ⟨b', v, e, h1, h2, h3⟩ := h
  exact ⟨b', v, e, h1, h2.kp hk (fun h => hne (by rw [e, h])), h3⟩

/-- The state between the copies: what each operation has left. -/
def CpI (w1 : World) (sa sb : List ShpX) (vA vB : Value) (mk : Value → Value → Value → Value → Value → Value → Array Value) (listed : Array Bool) (a : Act) (w : World) : Prop :=
  ∃ p5 p6 u10 u11 u12 u13, a = { tmps := mk p5 p6 u10 u11 u12 u13, defers := [] } ∧ K0 w1 w ∧ (lst listed 0 → u10 = vA) ∧ (lst listed 2 → u12 = vB) ∧ (lst listed 1 → VX w1.heap.size w u11 sa) ∧ (lst listed 3 → VX w1.heap.size w u13 sb) ∧
    (lst listed 4 → CX w1.heap.size w p5 u11 (lst listed 6)) ∧ (lst listed 5 → CX w1.heap.size w p6 u13 (lst listed 7)) ∧ (lst listed 4 → lst listed 5 → p5 ≠ p6)

set_option maxRecDepth 100000 in
set_option maxHeartbeats 16000000 in
theorem schemeValid_any (w : World) (va vb : Value) (sa sb : List ShpX) (hA : ShpsV w w.heap.size va sa) (hB : ShpsV w w.heap.size vb sb) (hP : PowV w) :
    Calls Tryz.prog 8 #[.agg #[va], .agg #[vb]] w fun e w' => e = .returned (.bool true) ∧ K0 w w' := by
  obtain ⟨Aa, ca, rfl, hA'⟩ := id hA
  obtain ⟨Ab, cb, rfl, hB'⟩ := id hB
  clear hA' hB'
  obtain ⟨wa, hwa⟩ : ∃ wa, wa = (w.alloc (.cells #[.slice Aa sa.length ca] 25)).alloc (.cells #[.slice Ab sb.length cb] 25) := ⟨_, rfl⟩
  have ka : K0 w wa := by rw [hwa]; exact ((Kp.refl _ _).alloc _).alloc _
  have y0 : Blk wa w.heap.size 25 #[.slice Aa sa.length ca] := by rw [hwa]; exact (Blk.new _ _ _).alloc _
  have y1 : Blk wa (w.heap.size + 1) 25 #[.slice Ab sb.length cb] := by rw [hwa]; have := Blk.new (w.alloc (.cells #[.slice Aa sa.length ca] 25)) 25 #[.slice Ab sb.length cb]; rw [World.size_alloc] at this; exact this
  have FX := Lib.hid (fixed_any wa (hP.k0 ka))
  have HA := Lib.hid hA
  have HB := Lib.hid hB
  clear hA hB hP
  go_enter Tryz.func8, Tryz.ntmps8
  go_wp2_with fail
  rw [← hwa]
  clear hwa
  refine FX.out.mono ?_
  rintro e w1 ⟨rfl, hk1⟩
  have k1 : K0 w w1 := ka.trans hk1
  have z0 := y0.kp hk1 (fun h => h)
  have z1 := y1.kp hk1 (fun h => h)
  clear y0 y1 FX ka
  go_wp2
  have hm0 := z0.lt
  have hm1 := z1.lt
  refine region_invW (CpI w1 sa sb (.agg #[.slice Aa sa.length ca]) (.agg #[.slice Ab sb.length cb]) (fun p5 p6 u10 u11 u12 u13 => #[.agg #[.slice Aa sa.length ca], .agg #[.slice Ab sb.length cb], .pointer (some ⟨w.heap.size, 0, none⟩), .pointer (some ⟨w.heap.size + 1, 0, none⟩), .bool false, p5, p6, undef, .bool true, .bool false, u10, u11, u12, u13, undef, undef, undef, undef, undef, undef, undef, undef, undef, undef, undef, undef, undef, undef, undef, undef, undef, undef, undef, undef, undef, undef, undef, undef, undef, undef, undef, undef, undef, undef, undef])) (by kernel_rfl) ?start ?step ?fin
  case start => exact ⟨undef, undef, undef, undef, undef, undef, rfl, (Kp.refl _ _).drew, fun h => absurd h (lst_none _ _), fun h => absurd h (lst_none _ _), fun h => absurd h (lst_none _ _), fun h => absurd h (lst_none _ _), fun h => absurd h (lst_none _ _), fun h => absurd h (lst_none _ _), fun h => absurd h (lst_none _ _)⟩
  case step =>
    intro listed a w' i hs hc hI hr
    obtain ⟨hi, hn, o, ho, e2⟩ := ready_facts hs hr
    obtain ⟨p5, p6, u10, u11, u12, u13, rfl, hk, q0, q2, q1, q3, q4, q5, q45⟩ := hI
    have hsz : listed.size = 8 := hs
    have up : ∀ j, i ≠ j → lst (listed.setIfInBounds i true) j → lst listed j := fun j hj h => ((lst_set (by omega)).1 h).resolve_left (fun e => hj e.symm)
    have c6 : lst listed 6 → lst listed 1 ∧ lst listed 4 := fun h => ⟨hc 6 _ rfl h ⟨1, .data⟩ (by simp) rfl, hc 6 _ rfl h ⟨4, .data⟩ (by simp) rfl⟩
    have c7 : lst listed 7 → lst listed 3 ∧ lst listed 5 := fun h => ⟨hc 7 _ rfl h ⟨3, .data⟩ (by simp) rfl, hc 7 _ rfl h ⟨5, .data⟩ (by simp) rfl⟩
    have hi8 : i < 8 := hi
    have hall : i = 0 ∨ i = 1 ∨ i = 2 ∨ i = 3 ∨ i = 4 ∨ i = 5 ∨ i = 6 ∨ i = 7 := by omega
    have x0 := (z0.kp hk (fun h => h)).cell 0
    have x1 := (z1.kp hk (fun h => h)).cell 0
    simp at x0 x1
    have hsk := hk.size
    clear hr hi hs
    rcases hall with rfl | rfl | rfl | rfl | rfl | rfl | rfl | rfl
    all_goals (obtain rfl := Option.some.inj ho; clear ho)
    · refine opW_val (w' := w') (v := .agg #[.slice Aa sa.length ca]) rfl rfl (by simp [execOp, go_sem, x0]) ?_
      exact ⟨p5, p6, _, u11, u12, u13, rfl, hk, fun _ => rfl, fun h => q2 (up 2 (by decide) h), fun h => q1 (up 1 (by decide) h), fun h => q3 (up 3 (by decide) h), fun h => (q4 (up 4 (by decide) h)).imp (up 6 (by decide)), fun h => (q5 (up 5 (by decide) h)).imp (up 7 (by decide)), fun h h' => q45 (up 4 (by decide) h) (up 5 (by decide) h')⟩
    · have hu := q0 (e2 ⟨0, .data⟩ (by simp) rfl)
      refine opW_call (w' := w') (f := 23) (args := #[u10]) (post := CScheme sa w') rfl rfl (by simp [execOp, go_sem]) (by rw [hu]; exact copy23_any w' _ sa (HA.out.k0 (Nat.le_refl _) (k1.trans hk))) ?_
      rintro e w2 ⟨v, o, rfl, h1, h2, hk2⟩
      have n6 : ¬ lst listed 6 := fun h => hn (c6 h).1
      exact ⟨_, rfl, p5, p6, u10, _, u12, u13, rfl, hk.trans hk2, fun h => q0 (up 0 (by decide) h), fun h => q2 (up 2 (by decide) h), fun _ => ⟨v, o, rfl, h1, h2.mono hsk⟩, fun h => (q3 (up 3 (by decide) h)).k0 hk2, fun h => ((q4 (up 4 (by decide) h)).k0 hk2).drop (fun h => n6 (up 6 (by decide) h)), fun h => ((q5 (up 5 (by decide) h)).k0 hk2).imp (up 7 (by decide)), fun h h' => q45 (up 4 (by decide) h) (up 5 (by decide) h')⟩
    · refine opW_val (w' := w') (v := .agg #[.slice Ab sb.length cb]) rfl rfl (by simp [execOp, go_sem, x1]) ?_
      exact ⟨p5, p6, u10, u11, _, u13, rfl, hk, fun h => q0 (up 0 (by decide) h), fun _ => rfl, fun h => q1 (up 1 (by decide) h), fun h => q3 (up 3 (by decide) h), fun h => (q4 (up 4 (by decide) h)).imp (up 6 (by decide)), fun h => (q5 (up 5 (by decide) h)).imp (up 7 (by decide)), fun h h' => q45 (up 4 (by decide) h) (up 5 (by decide) h')⟩
    · have hu := q2 (e2 ⟨2, .data⟩ (by simp) rfl)
      refine opW_call (w' := w') (f := 23) (args := #[u12]) (post := CScheme sb w') rfl rfl (by simp [execOp, go_sem]) (by rw [hu]; exact copy23_any w' _ sb (HB.out.k0 (Nat.le_refl _) (k1.trans hk))) ?_
      rintro e w2 ⟨v, o, rfl, h1, h2, hk2⟩
      have n7 : ¬ lst listed 7 := fun h => hn (c7 h).1
      exact ⟨_, rfl, p5, p6, u10, u11, u12, _, rfl, hk.trans hk2, fun h => q0 (up 0 (by decide) h), fun h => q2 (up 2 (by decide) h), fun h => (q1 (up 1 (by decide) h)).k0 hk2, fun _ => ⟨v, o, rfl, h1, h2.mono hsk⟩, fun h => ((q4 (up 4 (by decide) h)).k0 hk2).imp (up 6 (by decide)), fun h => ((q5 (up 5 (by decide) h)).k0 hk2).drop (fun h => n7 (up 7 (by decide) h)), fun h h' => q45 (up 4 (by decide) h) (up 5 (by decide) h')⟩
    · have kn : K0 w' (w'.alloc (.cells #[.slice none 0 0] 25)) := (Kp.refl _ _).alloc _
      have n6 : ¬ lst listed 6 := fun h => hn (c6 h).2
      refine opW_val (w' := w'.alloc (.cells #[.slice none 0 0] 25)) (v := .pointer (some ⟨w'.heap.size, 0, none⟩)) rfl rfl (by simp [execOp, go_sem]) ?_
      refine ⟨_, p6, u10, u11, u12, u13, rfl, hk.trans kn, fun h => q0 (up 0 (by decide) h), fun h => q2 (up 2 (by decide) h), fun h => (q1 (up 1 (by decide) h)).k0 kn, fun h => (q3 (up 3 (by decide) h)).k0 kn, fun _ => ⟨w'.heap.size, _, rfl, hsk, Blk.new _ _ _, fun h => absurd (up 6 (by decide) h) n6⟩, fun h => ((q5 (up 5 (by decide) h)).k0 kn).imp (up 7 (by decide)), fun h h' e => ?_⟩
      obtain ⟨b, v, e', _, hb, _⟩ := q5 (up 5 (by decide) h')
      have := hb.lt
      rw [e'] at e
      injection e with e; injection e with e; injection e with e
      omega
    · have kn : K0 w' (w'.alloc (.cells #[.slice none 0 0] 25)) := (Kp.refl _ _).alloc _
      have n7 : ¬ lst listed 7 := fun h => hn (c7 h).2
      refine opW_val (w' := w'.alloc (.cells #[.slice none 0 0] 25)) (v := .pointer (some ⟨w'.heap.size, 0, none⟩)) rfl rfl (by simp [execOp, go_sem]) ?_
      refine ⟨p5, _, u10, u11, u12, u13, rfl, hk.trans kn, fun h => q0 (up 0 (by decide) h), fun h => q2 (up 2 (by decide) h), fun h => (q1 (up 1 (by decide) h)).k0 kn, fun h => (q3 (up 3 (by decide) h)).k0 kn, fun h => ((q4 (up 4 (by decide) h)).k0 kn).imp (up 6 (by decide)), fun _ => ⟨w'.heap.size, _, rfl, hsk, Blk.new _ _ _, fun h => absurd (up 7 (by decide) h) n7⟩, fun h h' e => ?_⟩
      obtain ⟨b, v, e', _, hb, _⟩ := q4 (up 4 (by decide) h)
      have := hb.lt
      rw [e'] at e
      injection e with e; injection e with e; injection e with e
      omega
    · have l4 := e2 ⟨4, .data⟩ (by simp) rfl
      have l1 := e2 ⟨1, .data⟩ (by simp) rfl
      obtain ⟨b, v0, rfl, hbb, hb, _⟩ := q4 l4
      obtain ⟨v, o, rfl, h1, h2⟩ := q1 l1
      obtain ⟨A5, c5, rfl, _, _⟩ := own_form h2.row
      have bc := hb.cell 0
      have bf := hb.frozen 0
      simp at bc
      have k9 : K1 b w' (w'.setCell ⟨b, 0, none⟩ (.slice A5 o.length c5)) := (Kp.refl (fun k => k = b) w').setCell (p := ⟨b, 0, none⟩) (.inr rfl) _
      have hb9 := hb.set_ 0 (.slice A5 o.length c5)
      simp at hb9
      refine opW_skip (w' := w'.setCell ⟨b, 0, none⟩ (.slice A5 o.length c5)) rfl rfl (by simp [execOp, go_sem, bc, bf]) ?_
      exact ⟨_, p6, u10, _, u12, u13, rfl, hk.trans' k9 (fun i hi h => by omega), fun h => q0 (up 0 (by decide) h), fun h => q2 (up 2 (by decide) h), fun h => (q1 l1).st hb k9, fun h => (q3 (up 3 (by decide) h)).st hb k9, fun _ => ⟨b, _, rfl, hbb, hb9, fun _ => rfl⟩, fun h => ((q5 (up 5 (by decide) h)).far (fun e => q45 l4 (up 5 (by decide) h) e.symm) k9).imp (up 7 (by decide)), fun h h' => q45 (up 4 (by decide) h) (up 5 (by decide) h')⟩
    · have l5 := e2 ⟨5, .data⟩ (by simp) rfl
      have l3 := e2 ⟨3, .data⟩ (by simp) rfl
      obtain ⟨b, v0, rfl, hbb, hb, _⟩ := q5 l5
      obtain ⟨v, o, rfl, h1, h2⟩ := q3 l3
      obtain ⟨A5, c5, rfl, _, _⟩ := own_form h2.row
      have bc := hb.cell 0
      have bf := hb.frozen 0
      simp at bc
      have k9 : K1 b w' (w'.setCell ⟨b, 0, none⟩ (.slice A5 o.length c5)) := (Kp.refl (fun k => k = b) w').setCell (p := ⟨b, 0, none⟩) (.inr rfl) _
      have hb9 := hb.set_ 0 (.slice A5 o.length c5)
      simp at hb9
      refine opW_skip (w' := w'.setCell ⟨b, 0, none⟩ (.slice A5 o.length c5)) rfl rfl (by simp [execOp, go_sem, bc, bf]) ?_
      exact ⟨p5, _, u10, u11, u12, _, rfl, hk.trans' k9 (fun i hi h => by omega), fun h => q0 (up 0 (by decide) h), fun h => q2 (up 2 (by decide) h), fun h => (q1 (up 1 (by decide) h)).st hb k9, fun h => (q3 l3).st hb k9, fun h => ((q4 (up 4 (by decide) h)).far (fun e => q45 (up 4 (by decide) h) l5 e) k9).imp (up 6 (by decide)), fun _ => ⟨b, _, rfl, hbb, hb9, fun _ => rfl⟩, fun h h' => q45 (up 4 (by decide) h) (up 5 (by decide) h')⟩
  case fin =>
    intro listed a w2 hs hc hI h0
    have rd : ∀ i o, (show Array Oper from _)[i]? = some o → (∀ e ∈ o.after, lst listed e.on) → lst listed i := fun i o ho ha => lst_of_done hs h0 ho ha
    have r0 := rd 0 _ rfl (by simp)
    have r1 := rd 1 _ rfl (by simp [r0])
    have r2 := rd 2 _ rfl (by simp)
    have r3 := rd 3 _ rfl (by simp [r2, r1])
    have r4 := rd 4 _ rfl (by simp)
    have r5 := rd 5 _ rfl (by simp)
    have r6 := rd 6 _ rfl (by simp [r0, r1, r2, r3, r4, r5])
    have r7 := rd 7 _ rfl (by simp [r0, r1, r2, r3, r4, r5, r6])
    obtain ⟨p5, p6, u10, u11, u12, u13, rfl, hk, q0, q2, q1, q3, q4, q5, q45⟩ := hI
    obtain ⟨b5, vx', rfl, hb5, x5, e5⟩ := q4 r4
    obtain ⟨b6, vy', rfl, hb6, x6, e6⟩ := q5 r5
    obtain ⟨vx, ox, rfl, hx1, hx2⟩ := q1 r1
    obtain ⟨vy, oy, rfl, hy1, hy2⟩ := q3 r3
    obtain rfl : vx = vx' := by have := e5 r6; injection this with this; simpa using this
    obtain rfl : vy = vy' := by have := e6 r7; injection this with this; simpa using this
    clear e5 e6 q0 q1 q2 q3 q4 q5 q45 r0 r1 r2 r3 r4 r5 r6 r7 rd h0 hc hs
    dsimp only
    have k2 : K0 w w2 := k1.trans hk
    have w0 := z0.kp hk (fun h => h)
    have w1' := z1.kp hk (fun h => h)
    have lenx : ox.length = sa.length := by have := congrArg List.length hx1; simpa using this
    have leny : oy.length = sb.length := by have := congrArg List.length hy1; simpa using this
    have hla : sa.length ≤ 1048576 := by obtain ⟨_, _, _, _, _, h, _⟩ := HA.out; exact h
    have hlb : sb.length ≤ 1048576 := by obtain ⟨_, _, _, _, _, h, _⟩ := HB.out; exact h
    have HLA := Lib.hid hla
    have hXV := hx2.shpsV (by omega)
    have hYV := hy2.shpsV (by omega)
    have CC := Lib.hid (copy13_any w2 vx ox hXV)
    unfold CScheme at CC
    obtain ⟨Ax, cx, rfl, _, _⟩ := own_form hx2.row
    obtain ⟨Ay, cy, rfl, _, _⟩ := own_form hy2.row
    have c5 := x5.cell 0
    have lc5 := x5.lt
    simp at c5
    have HXV := Lib.hid hXV
    have HYV := Lib.hid hYV
    have HX1 := Lib.hid hx1
    have HY1 := Lib.hid hy1
    clear hXV hYV hx2 hy2 hx1 hy1 lenx leny hla hlb
    go_wp2_with fail
    refine CC.out.mono ?_
    rintro e w3 ⟨vc, oc, rfl, hc1, hc2, hk3⟩
    have hCV := hc2.shpsV (by have := congrArg List.length (hc1.trans HX1.out); simp at this; have := HLA.out; omega)
    obtain ⟨Ac, cc, rfl, _, _⟩ := own_form hc2.row
    obtain ⟨w4, hw4⟩ : ∃ w4, w4 = w3.alloc (.cells #[.slice Ac oc.length cc] 25) := ⟨_, rfl⟩
    have k34 : K0 w3 w4 := by rw [hw4]; exact (Kp.refl _ _).alloc _
    have x7 : Blk w4 w3.heap.size 25 #[.slice Ac oc.length cc] := by rw [hw4]; exact Blk.new _ _ _
    have k24 : K0 w2 w4 := hk3.trans k34
    have k04 : K0 w w4 := k2.trans k24
    have a0 := w0.kp k24 (fun h => h)
    have a1 := w1'.kp k24 (fun h => h)
    have a5 := x5.kp k24 (fun h => h)
    have a6 := x6.kp k24 (fun h => h)
    have RD := Lib.hid (fun W (h : K0 w4 W) => show W.cell? ⟨w.heap.size, 0, none⟩ = some (.slice Aa sa.length ca) ∧ W.cell? ⟨w.heap.size + 1, 0, none⟩ = some (.slice Ab sb.length cb) ∧ W.cell? ⟨b5, 0, none⟩ = some (.slice Ax ox.length cx) ∧ W.cell? ⟨b6, 0, none⟩ = some (.slice Ay oy.length cy) ∧ W.cell? ⟨w3.heap.size, 0, none⟩ = some (.slice Ac oc.length cc) from
      ⟨(a0.kp h (fun h => h)).cell 0, (a1.kp h (fun h => h)).cell 0, (a5.kp h (fun h => h)).cell 0, (a6.kp h (fun h => h)).cell 0, (x7.kp h (fun h => h)).cell 0⟩)
    have HA4 := Lib.hid (fun W (h : K0 w4 W) => HA.out.k0 (Nat.le_refl _) (k04.trans h))
    have HB4 := Lib.hid (fun W (h : K0 w4 W) => HB.out.k0 (Nat.le_refl _) (k04.trans h))
    have HX4 := Lib.hid (fun W (h : K0 w4 W) => HXV.out.k0 (Nat.le_refl _) (k24.trans h))
    have HY4 := Lib.hid (fun W (h : K0 w4 W) => HYV.out.k0 (Nat.le_refl _) (k24.trans h))
    have HC4 := Lib.hid (fun W (h : K0 w4 W) => hCV.k0 (Nat.le_refl _) (k34.trans h))
    have dcx : decide (oc.map ShpX.d = ox.map ShpX.d) = true := decide_eq_true hc1
    have dca : decide (oc.map ShpX.d = sa.map ShpX.d) = true := decide_eq_true (hc1.trans HX1.out)
    have dxa : decide (ox.map ShpX.d = sa.map ShpX.d) = true := decide_eq_true HX1.out
    obtain ⟨R1, hR1⟩ : ∃ R, R = validR (sa.map ShpX.d) := ⟨_, rfl⟩
    obtain ⟨R2, hR2⟩ : ∃ R, R = decide (sa.map ShpX.d = sb.map ShpX.d) := ⟨_, rfl⟩
    have hR1x : validR (ox.map ShpX.d) = R1 := by rw [hR1, HX1.out]
    have hR2x : decide (ox.map ShpX.d = oy.map ShpX.d) = R2 := by rw [hR2, HX1.out, HY1.out]
    have C20 := Lib.hid (fun W h => valid20_any W _ ox (HX4.out W h))
    have C24 := Lib.hid (fun W h => valid24_any W _ sa (HA4.out W h))
    have C19a := Lib.hid (fun W h => same19_any W _ _ ox oy (HX4.out W h) (HY4.out W h))
    have C12a := Lib.hid (fun W h => same12_any W _ _ sa sb (HA4.out W h) (HB4.out W h))
    have C12b := Lib.hid (fun W h => same12_any W _ _ oc sa (HC4.out W h) (HA4.out W h))
    have C19b := Lib.hid (fun W h => same19_any W _ _ oc ox (HC4.out W h) (HX4.out W h))
    have C12c := Lib.hid (fun W h => same12_any W _ _ ox sa (HX4.out W h) (HA4.out W h))
    rw [hR1x] at C20
    rw [← hR1] at C24
    rw [hR2x] at C19a
    rw [← hR2] at C12a
    rw [dca] at C12b
    rw [dcx] at C19b
    rw [dxa] at C12c
    clear hR1 hR2 hR1x hR2x dcx dca dxa hCV hc2 HXV HYV HX1 HY1 c5 lc5 CC HA HB HA4 HB4 HX4 HY4 HC4
    obtain ⟨b0, b1, b2, b3, b4⟩ := RD.out _ (Kp.refl _ _)
    have kk0 : K0 w4 w4 := Kp.refl _ _
    have R1e : (R1 == R1) = true := by simp
    have R2e : (R2 == R2) = true := by simp
    go_wp2
    rw [← hw4]
    clear hw4
    go_region_held3 (fun w' => w'.cell? ⟨w.heap.size, 0, none⟩ = some (.slice Aa sa.length ca) ∧ w'.cell? ⟨w.heap.size + 1, 0, none⟩ = some (.slice Ab sb.length cb) ∧ w'.cell? ⟨b5, 0, none⟩ = some (.slice Ax ox.length cx) ∧ w'.cell? ⟨b6, 0, none⟩ = some (.slice Ay oy.length cy) ∧ w'.cell? ⟨w3.heap.size, 0, none⟩ = some (.slice Ac oc.length cc)) (first | exact RD.out _ kk0.drew | exact RD.out _ kkG | exact RD.out _ kkF | exact RD.out _ kkE | exact RD.out _ kkD | exact RD.out _ kkC | exact RD.out _ kkB | exact RD.out _ kkA)
      (first
        | (go_at_call 20; refine (C20.out _ (by exact kk0.drew)).mono ?_; rintro e wA ⟨rfl, hkA⟩; have kkA : K0 w4 wA := kk0.drew.trans hkA)
        | (go_at_call 24; refine (C24.out _ (by exact kkA)).mono ?_; rintro e wB ⟨rfl, hkB⟩; have kkB : K0 w4 wB := kkA.trans hkB)
        | (go_at_call_of 19 (Value.slice Ay oy.length cy); refine (C19a.out _ (by exact kkB)).mono ?_; rintro e wC ⟨rfl, hkC⟩; have kkC : K0 w4 wC := kkB.trans hkC)
        | (go_at_call_of 12 (Value.slice Ab sb.length cb); refine (C12a.out _ (by exact kkC)).mono ?_; rintro e wD ⟨rfl, hkD⟩; have kkD : K0 w4 wD := kkC.trans hkD)
        | (go_at_call_of 12 (Value.slice Ac oc.length cc); refine (C12b.out _ (by exact kkD)).mono ?_; rintro e wE ⟨rfl, hkE⟩; have kkE : K0 w4 wE := kkD.trans hkE)
        | (go_at_call_of 19 (Value.slice Ac oc.length cc); refine (C19b.out _ (by exact kkE)).mono ?_; rintro e wF ⟨rfl, hkF⟩; have kkF : K0 w4 wF := kkE.trans hkF)
        | (go_at_call_of 12 (Value.slice Ax ox.length cx); refine (C12c.out _ (by exact kkF)).mono ?_; rintro e wG ⟨rfl, hkG⟩; have kkG : K0 w4 wG := kkF.trans hkG))
    go_wp2
    go_ret
    exact ⟨rfl, k04.trans kkG⟩
theorem schemeValid_walk (W : World) (hP : PowV W) (va : Value) (sa : List ShpX) (hA : ShpsV W W.heap.size va sa) (vb : Value) (sb : List ShpX) (hB : ShpsV W W.heap.size vb sb) : Calls Tryz.prog 8 #[.agg #[va], .agg #[vb]] W fun e W' => e = .returned (.bool true) ∧ Below W.heap.size W W' :=
  (schemeValid_any W va vb sa sb hA hB hP).mono fun e W' h => ⟨h.1, h.2.below⟩
end Go.Proofs.YtobofhiakgohfaaGreatDoor
