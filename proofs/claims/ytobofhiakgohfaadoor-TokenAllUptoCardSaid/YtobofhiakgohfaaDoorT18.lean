/- The walk of TokenAll. -/
import Derived.Test.YtobofhiakgohfaaDoorT15
import Derived.Test.YtobofhiakgohfaaDoorT17
import Derived.Test.YtobofhiakgohfaaDoorQ0
set_option linter.unusedVariables false
set_option linter.unusedSimpArgs false
namespace Go.Proofs.YtobofhiakgohfaaDoor
open Go.RowKit Go.Shelf
attribute [local go_sem] Oper.semAt_some

def AllInv (s : ByteArray) (early : Int) (n0 n2 tl : Nat) (AL : Option Addr) (cL : Nat) (w3 : World) (a : Act) (W : World) : Prop :=
  ∃ (R b7 : Nat) (Ds : List Nat), R ≤ 3 ∧ Blk W b7 3 #[.int .i64 (R : Int)] ∧ w3.heap.size ≤ b7 ∧ Below w3.heap.size w3 W ∧ Open W Ds ∧ Ds.length = R ∧ (∀ D, D ∈ Ds → w3.heap.size ≤ D) ∧
    ∃ us : Nat → Value, a = { tmps := #[.string s, .int .i64 early, undef, .pointer (some ⟨n0, 0, none⟩), .pointer (some ⟨n0 + 1, 0, none⟩), .pointer (some ⟨n2, 0, none⟩), .func (.func 55) #[] #[.pointer (some ⟨n2 + 1, 0, none⟩)], .pointer (some ⟨b7, 0, none⟩), (us 8), undef, .bool true, .bool false, .string s, .slice AL tl cL, .string s, .func (.func 55) #[] #[.pointer (some ⟨n2 + 1, 0, none⟩)], (us 16), (us 17), (us 18), (us 19), (us 20), (us 21), (us 22), (us 23), (us 24), (us 25), (us 26), (us 27), (us 28), (us 29), (us 30), (us 31), (us 32), (us 33), (us 34), (us 35), (us 36), (us 37), (us 38), (us 39), (us 40), (us 41), (us 42), (us 43), (us 44), (us 45), (us 46), (us 47), (us 48), (us 49), (us 50), (us 51)], defers := marksOf Ds }

set_option maxRecDepth 100000 in
set_option maxHeartbeats 8000000 in
theorem tokenAll_walk (w : World) (s : ByteArray) (hs : s.size ≤ 1048576) (early : Int) (hearly : (Lit.int .i64 early).wf = true) :
    Calls Tryd.prog 5 #[.string s, .int .i64 early] w fun e w' => e = .returned (.bool true) ∧ Below w.heap.size w w' := by
  obtain ⟨T, hT⟩ : ∃ T, T = toks s.data.toList := ⟨_, rfl⟩
  have hTl : T.length ≤ s.size + 1 := by rw [hT]; have := toks_len s.data.toList; simp at this; omega
  have LA := list_any s
  unfold ListPost at LA
  rw [← hT] at LA
  have HL := Lib.hid LA
  have HT := Lib.hid hT
  clear hT LA
  refine (callsIn_wide (n := 7)).1 (callsIn_of_wp_marks Tryd.func5 rfl trivial ?_)
  simp only [Tryd.ntmps5, List.size_toArray, List.length_cons, List.length_nil, Nat.reduceAdd, Nat.reduceSub, Array.replicate_succ, Array.replicate_zero, List.push_toArray, List.append_toArray, List.nil_append, List.cons_append]
  refine wpIn_wide.2 ?_
  have y3 := (Blk.new w 3 #[.int .i64 early]).alloc (.cells #[.bool false] 4)
  have y4 := Blk.new (w.alloc (.cells #[.int .i64 early] 3)) 4 #[.bool false]
  simp only [World.size_alloc] at y4
  have hkA := ((Kp.refl (fun _ => False) w).alloc (.cells #[.int .i64 early] 3)).alloc (.cells #[.bool false] 4)
  go_wp2_with fail
  refine (fixed_any _).mono ?_
  rintro e w1 ⟨rfl, hk1⟩
  have hk01 : K0 w w1 := hkA.trans hk1
  go_wp2_with fail
  refine (HL.out w1 (by omega)).mono ?_
  rintro e w2 ⟨vL, rfl, hownL, hk2⟩
  obtain ⟨AL, cL, rfl, _, _⟩ := own_form hownL
  have hk02 := hk01.trans hk2
  go_wp2_with fail
  refine (all_any s _).mono ?_
  rintro e w3 ⟨rfl, hb1, hw3, hk3⟩
  -- LOOP
  have hb1l := hb1.lt
  have hw3' : w3.heap.size = w2.heap.size + 2 := by rw [hw3]; simp
  have hk03 : K0 w w3 := (hk02.alloc _).trans hk3
  have z3 := (((y3.kp hk1 (fun h => h)).kp hk2 (fun h => h)).alloc (.cells #[.slice AL T.length cL] 35)).kp hk3 (fun h => h)
  have z4 := (((y4.kp hk1 (fun h => h)).kp hk2 (fun h => h)).alloc (.cells #[.slice AL T.length cL] 35)).kp hk3 (fun h => h)
  have z5 := (Blk.new w2 35 #[.slice AL T.length cL]).kp hk3 (fun h => h)
  rw [World.size_alloc] at hb1 hb1l
  have rd3 : Reads w3 w2.heap.size 3 AL T.length (tcells (T.map (tv s))) := ((Reads.of_own hownL).alloc (Nat.le_refl _) _).k0 (by simp) hk3
  have hw2s : w.heap.size + 1 < w2.heap.size := by have := z4.lt; have := (y4.kp hk1 (fun h => h)).lt; have := hk2.size; omega
  have HW3 := Lib.hid hw3'
  have hw23 : w2.heap.size + 2 ≤ w3.heap.size := by omega
  have hw32 : w3.heap.size ≤ w2.heap.size + 2 := by omega
  clear hw3 hw3' y3 y4 hownL
  go_wp2_with fail
  refine (wpIn_wide (n := 7)).1 ?_
  refine wpIn_loop (fun a W => AllInv s early w.heap.size w2.heap.size T.length AL cL w3 a W) (fun a _ => 4 - a.defers.length) ?start ?round
  case start =>
    unfold AllInv
    refine ⟨0, w3.heap.size, [], by omega, Blk.new _ _ _, Nat.le_refl _, (Below.refl _ _).alloc (Nat.le_refl _) _, ⟨List.nodup_nil, fun D h => (by cases h)⟩, rfl, fun D h => (by cases h), ?_⟩
    rw [HW3.out]
    exact ex_us rfl
  case round =>
    rintro a W ⟨R, b7, Ds, hR3, hb7, hl7, hBW, hOp, hlen, hDs, us, rfl⟩
    have hsW := hBW.size
    have q3 := z3.below hBW z3.lt
    have q4 := z4.below hBW z4.lt
    have q5 := z5.below hBW z5.lt
    have qb := hb1.below hBW (by omega)
    have rdW := rd3.below (hBW.mono (by omega))
    have c7 := hb7.cell 0
    have f7 := hb7.frozen 0
    have c3 := q3.cell 0
    have c5 := q5.cell 0
    have c4 := q4.cell 0
    have f4 := q4.frozen 0
    have cb := qb.cell 0
    simp at c7 c3 c5 cb c4
    have l7 := hb7.lt
    have l3 := q3.lt
    have l4 := q4.lt
    have l5 := q5.lt
    have lb := qb.lt
    by_cases hlt : R < 3
    · gi_wp2
      have hkn : Below W.heap.size W (W.alloc (.cells #[.int .i64 0] 3)) := (Below.refl _ _).alloc (Nat.le_refl _) _
      have b14 := Blk.new W 3 #[.int .i64 0]
      have hSb : ¬ (fun b => W.heap.size ≤ b) (w2.heap.size + 1) := by show ¬ W.heap.size ≤ w2.heap.size + 1; omega
      refine wpIn_rangeFunc_ownH rfl (by omega) (gf := 55) (lb := #[.pointer (some ⟨w2.heap.size + 1, 0, none⟩)]) rfl trivial (enters_of Tryd.func55 (by kernel_rfl) rfl)
        (all1_stops 6 (by omega) (w2.heap.size + 1) s (by omega) (fun b => W.heap.size ≤ b) hSb (W.alloc (.cells #[.int .i64 0] 3)) (by rw [World.size_alloc]; omega) ((qb.alloc _).cell 0) T HT.out) (fun h k => h.trans k)
        (fun W' l o o' hl ho hc hw => (Kp.refl _ _).grown (grownBy_putObj' W' l o') (fun g hg => by cases hg; exact .inr (by rw [World.size_alloc] at hl; show W.heap.size ≤ l; omega))) (Below.refl _ _) (fun _ => rfl)
        (fun pre W' => W'.cell? ⟨W.heap.size, 0, none⟩ = some (.int .i64 (pre.length : Int)) ∧ W'.frozen? ⟨W.heap.size, 0, none⟩ = false ∧ pre.map (tv s) = (T.take pre.length).map (tv s) ∧ Below W.heap.size W W')
        (fun c pre W' => (c = .ret ∧ pre.map (tv s) ≠ (T.take pre.length).map (tv s)) ∨ (c = .exit 2 ∧ R = 0 ∧ (∃ q : Int, W'.cell? ⟨W.heap.size, 0, none⟩ = some (.int .i64 q)) ∧ Below W.heap.size W W'))
        (fun pre A B row hs hg hr => by
          obtain ⟨h1, h2, h3, h4⟩ := hs
          exact ⟨cell_kept h1 hg (fun r e => (hr r e).2), (frozen_kept h1 hg (fun r e => (hr r e).2)).trans h2, h3, h4.trans ((Kp.refl (fun b => W.heap.size ≤ b) A |>.grown hg (fun g e => .inr (by have := (hr g e).1; rw [World.size_alloc] at this; show W.heap.size ≤ g; omega))).below_of h4.size (fun k hk h => by omega))⟩)
        (fun c pre A B row hs hg hr => by
          rcases hs with hs | ⟨h1, h2, ⟨q, h3⟩, h4⟩
          · exact .inl hs
          · exact .inr ⟨h1, h2, ⟨q, cell_kept h3 hg (fun r e => (hr r e).2)⟩, h4.trans ((Kp.refl (fun b => W.heap.size ≤ b) A |>.grown hg (fun g e => .inr (by have := (hr g e).1; rw [World.size_alloc] at this; show W.heap.size ≤ g; omega))).below_of h4.size (fun k hk h => by omega))⟩)
        ⟨by simp, b14.frozen 0, rfl, hkn⟩
        (fun x a' W' => ∃ b9, Blk W' b9 42 (tcell (tv s x)).toArray ∧ ∃ us : Nat → Value, a' = { tmps := #[.string s, .int .i64 early, undef, .pointer (some ⟨w.heap.size, 0, none⟩), .pointer (some ⟨w.heap.size + 1, 0, none⟩), .pointer (some ⟨w2.heap.size, 0, none⟩), .func (.func 55) #[] #[.pointer (some ⟨w2.heap.size + 1, 0, none⟩)], .pointer (some ⟨b7, 0, none⟩), .pointer (some ⟨W.heap.size, 0, none⟩), .pointer (some ⟨b9, 0, none⟩), .bool true, .bool false, .string s, .slice AL T.length cL, .string s, .func (.func 55) #[] #[.pointer (some ⟨w2.heap.size + 1, 0, none⟩)], (us 16), (us 17), (us 18), (us 19), (us 20), tagg (tv s x), (us 22), (us 23), (us 24), (us 25), (us 26), (us 27), (us 28), (us 29), (us 30), (us 31), (us 32), (us 33), (us 34), (us 35), (us 36), (us 37), (us 38), (us 39), (us 40), (us 41), (us 42), (us 43), (us 44), (us 45), (us 46), (us 47), (us 48), (us 49), (us 50), (us 51)], defers := [] })
        (fun x a' s' A B row hs hg hr => by
          obtain ⟨b9, h1, h2⟩ := hs
          exact ⟨b9, h1.kept hg (fun r e => (hr r e).2), h2⟩) ?assign ?body ?done ?stop
      case assign =>
        rintro l pre x W' K ⟨h1, h2, h3, h4⟩ hK
        obtain ⟨⟨k, tx, p⟩, hx⟩ : ∃ t, t = tv s x := ⟨_, rfl⟩
        simp only [tokEnc, tagg, tcell] at hK ⊢
        rw [← hx] at hK ⊢
        simp only [] at hK ⊢
        gi_wp2
        exact hK _ _ ((KeepsOthers.alloc _ _).from _) ((Kp.refl _ _).alloc _) ⟨cell_kept h1 (World.grownBy_alloc W' _ none) (fun r e => by cases e), (frozen_kept h1 (World.grownBy_alloc W' (.cells #[.int .i64 k, .string tx, .int .i64 p] 42) none) (fun r e => by cases e)).trans h2, h3, h4.alloc h4.size _⟩ ⟨_, Blk.new _ _ _, ex_us rfl⟩
      case body =>
        rintro l pre x a' Wb hll hlr ⟨hcn, hfn, hpre, hB'⟩ ⟨b9, hb9, us', rfl⟩ hlen'
        obtain ⟨⟨k, tx, p⟩, hx⟩ : ∃ t, t = tv s x := ⟨_, rfl⟩
        simp only [tagg, tcell] at hb9 ⊢
        rw [← hx] at hb9 ⊢
        simp only [] at hb9 ⊢
        have e7 := (hB'.cell (p := ⟨b7, 0, none⟩) l7).trans c7
        have e3 := (hB'.cell (p := ⟨w.heap.size, 0, none⟩) l3).trans c3
        have e5 := (hB'.cell (p := ⟨w2.heap.size, 0, none⟩) l5).trans c5
        have x0 := hb9.cell 0
        have x1 := hb9.cell 1
        have x2 := hb9.cell 2
        simp at x0 x1 x2
        obtain ⟨j, hj⟩ : ∃ j, j = pre.length := ⟨_, rfl⟩
        rw [← hj] at hcn hlen' hpre
        have hVl : (T.map (tv s)).length = T.length := by simp
        obtain ⟨ad, rfl, hbl, r0, r1, r2⟩ := (show Reads Wb w2.heap.size 3 AL (T.map (tv s)).length (tcells (T.map (tv s))) by rw [hVl]; exact rdW.below (hB'.mono (by omega))).tok (j := j) (by omega)
        have hVj : (T.map (tv s))[j]'(by omega) = tv s (T[j]'hlen') := by simp
        rw [hVj] at r0 r1 r2
        obtain ⟨⟨k2, tx2, p2⟩, hy⟩ : ∃ t, t = tv s (T[j]'hlen') := ⟨_, rfl⟩
        rw [← hy] at r0 r1 r2
        simp only [] at r0 r1 r2
        have hlW : W.heap.size < Wb.heap.size := World.block_lt_of_cell? Wb _ hcn
        have hT1 : (T.take (j + 1)).map (tv s) = (T.take j).map (tv s) ++ [(k2, tx2, p2)] := by
          rw [List.take_add_one, List.getElem?_eq_getElem hlen', hy, List.map_append]; rfl
        have hP1 : (pre ++ [x]).map (tv s) = pre.map (tv s) ++ [(k, tx, p)] := by rw [hx]; simp
        have hPl : (pre ++ [x]).length = j + 1 := by rw [hj]; simp
        have HEQ := Lib.hid (fun h : (k, tx, p) = (k2, tx2, p2) => show (pre ++ [x]).map (tv s) = (T.take (pre ++ [x]).length).map (tv s) by rw [hPl, hT1, hP1, hpre, h])
        have HNE := Lib.hid (fun h : (k, tx, p) ≠ (k2, tx2, p2) => show (pre ++ [x]).map (tv s) ≠ (T.take (pre ++ [x]).length).map (tv s) by
          rw [hPl, hT1, hP1]
          intro e
          have := List.append_inj_right' e rfl
          exact h (by simpa using this))
        have HPL := Lib.hid hPl
        have d0 : decide (T.length ≤ j) = false := decide_eq_false (by omega)
        clear hT1 hP1 hPl hVj hVl hpre hj hx hy
        have HST := Lib.hid (fun (m : Nat) (u : Value) => show ((Wb.drewN m).setCell ⟨W.heap.size, 0, none⟩ u).cell? ⟨W.heap.size, 0, none⟩ = some u from World.cell?_setCell_same' _ _ _ (by show (Wb.cell? ⟨W.heap.size, 0, none⟩).isSome = true; rw [hcn]; rfl))
        have HFZ := Lib.hid (fun (m : Nat) (u : Value) => show ((Wb.drewN m).setCell ⟨W.heap.size, 0, none⟩ u).frozen? ⟨W.heap.size, 0, none⟩ = false from (World.frozen?_setCell _ _ _ _).trans hfn)
        have HBD := Lib.hid (fun (m : Nat) => hB'.trans ((((Kp.refl (fun _ => False) Wb).drewN m).below).mono (show W.heap.size ≤ Wb.heap.size by omega)))
        have HKD := Lib.hid (fun (m : Nat) => show KeepsOthers Wb (Wb.drewN m) from ⟨Nat.le_refl _, fun _ _ h _ => h⟩)
        by_cases hkk : k = k2
        · subst hkk
          by_cases htt : tx = tx2
          · subst htt
            by_cases hpp : p = p2
            · subst hpp
              have HE := Lib.hid (HEQ.out rfl)
              clear HEQ HNE
              gi_wp2
              refine region_round (by kernel_rfl) (by kernel_rfl) (by kernel_rfl) ?_
              repeat (gi_big_quiet_step (fail))
              refine wpQuietIn_nil ?_
              intro _ hw'
              obtain ⟨nq, hw''⟩ := hw'
              subst hw''
              gi_wp2
              all_goals first
                | exact ⟨((HKD.out _).trans (KeepsOthers.setCell _ _ _)).from _, ((Kp.refl _ _).drewN _).setCell (p := ⟨W.heap.size, 0, none⟩) (.inr (Nat.le_refl _)) _, by rw [HPL.out, Int.natCast_add]; exact HST.out _ _, HFZ.out _ _, HE.out, (HBD.out _).setCell (p := ⟨W.heap.size, 0, none⟩) (Nat.le_refl _) _⟩
                | exact ⟨((HKD.out _).trans (KeepsOthers.setCell _ _ _)).from _, .inr ⟨rfl, by omega, ⟨_, HST.out _ _⟩, (HBD.out _).setCell (p := ⟨W.heap.size, 0, none⟩) (Nat.le_refl _) _⟩⟩
            · have HN := Lib.hid (HNE.out (fun e => hpp (by injection e with _ e; injection e)))
              have hd : (p == p2) = false := beq_eq_false_iff_ne.2 hpp
              have e4 := (hB'.cell (p := ⟨w.heap.size + 1, 0, none⟩) l4).trans c4
              have hf4 : Wb.frozen? ⟨w.heap.size + 1, 0, none⟩ = false := (World.frozen?_of_block (hB'.block (w.heap.size + 1) l4)).trans f4
              clear HEQ HNE
              gi_wp2
              refine region_round (by kernel_rfl) (by kernel_rfl) (by kernel_rfl) ?_
              repeat (gi_big_quiet_step (fail))
              refine wpQuietIn_nil ?_
              intro _ hw'
              obtain ⟨nq, hw''⟩ := hw'
              subst hw''
              gi_wp2
              exact ⟨((HKD.out _).trans (KeepsOthers.setCell _ _ _)).from _, .inl ⟨rfl, HN.out⟩⟩
          · have HN := Lib.hid (HNE.out (fun e => htt (by injection e with _ e; injection e)))
            have hd : (tx.toList == tx2.toList) = false := by
              rw [beq_eq_false_iff_ne, ByteArray.toList_eq, ByteArray.toList_eq]
              exact fun e => htt (ba_ext e)
            have e4 := (hB'.cell (p := ⟨w.heap.size + 1, 0, none⟩) l4).trans c4
            have hf4 : Wb.frozen? ⟨w.heap.size + 1, 0, none⟩ = false := (World.frozen?_of_block (hB'.block (w.heap.size + 1) l4)).trans f4
            clear HEQ HNE
            gi_wp2
            refine region_round (by kernel_rfl) (by kernel_rfl) (by kernel_rfl) ?_
            repeat (gi_big_quiet_step (fail))
            refine wpQuietIn_nil ?_
            intro _ hw'
            obtain ⟨nq, hw''⟩ := hw'
            subst hw''
            gi_wp2
            exact ⟨((HKD.out _).trans (KeepsOthers.setCell _ _ _)).from _, .inl ⟨rfl, HN.out⟩⟩
        · have HN := Lib.hid (HNE.out (fun e => hkk (by injection e)))
          have hd : (k == k2) = false := beq_eq_false_iff_ne.2 hkk
          have e4 := (hB'.cell (p := ⟨w.heap.size + 1, 0, none⟩) l4).trans c4
          have hf4 : Wb.frozen? ⟨w.heap.size + 1, 0, none⟩ = false := (World.frozen?_of_block (hB'.block (w.heap.size + 1) l4)).trans f4
          clear HEQ HNE
          gi_wp2
          refine region_round (by kernel_rfl) (by kernel_rfl) (by kernel_rfl) ?_
          repeat (gi_big_quiet_step (fail))
          refine wpQuietIn_nil ?_
          intro _ hw'
          obtain ⟨nq, hw''⟩ := hw'
          subst hw''
          gi_wp2
          exact ⟨((HKD.out _).trans (KeepsOthers.setCell _ _ _)).from _, .inl ⟨rfl, HN.out⟩⟩
      case done =>
        intro D xs W' hD hS hI hK
        rw [hS] at hI
        obtain ⟨hcn, hfn, _, hB'⟩ := hI
        have e7 := (hB'.cell (p := ⟨b7, 0, none⟩) l7).trans c7
        have e5 := (hB'.cell (p := ⟨w2.heap.size, 0, none⟩) l5).trans c5
        have hlW : W.heap.size < W'.heap.size := World.block_lt_of_cell? W' _ hcn
        have hB6 : Below w3.heap.size w3 W' := hBW.trans (hB'.mono (by omega))
        have hl7' : b7 < W'.heap.size := by omega
        gi_wp2
        all_goals
          have hOp' : Open W' Ds := hOp.kp (below_kp hB') (fun E hE h => by have := (Array.getElem?_eq_some_iff.1 (hOp.2 E hE)).1; omega)
          rw [World.size_alloc] at hD
          have hOpD : Open W' (D :: Ds) := ⟨List.nodup_cons.2 ⟨fun h => by have := (Array.getElem?_eq_some_iff.1 (hOp.2 D h)).1; omega, hOp'.1⟩, fun E hE => by rcases List.mem_cons.1 hE with rfl | h; exact hK; exact hOp'.2 E h⟩
          have hDD : ∀ E, E ∈ D :: Ds → w3.heap.size ≤ E := fun E hE => by rcases List.mem_cons.1 hE with rfl | h; omega; exact hDs E h
          refine ⟨?_, by simp [marksOf]; omega⟩
          unfold AllInv
          exact ⟨R + 1, W'.heap.size, D :: Ds, by omega, Blk.new _ _ _, by have := hB6.size; omega, hB6.alloc (by have := hB6.size; omega) _, hOpD.kp ((Kp.refl (fun _ => False) _).alloc _) (fun _ _ h => h), by simp [hlen], hDD, ex_us rfl⟩
      case stop =>
        rintro D c pre W' hD ⟨q, hq, rfl⟩ hor hK
        rcases hor with ⟨_, h⟩ | ⟨rfl, rfl, ⟨nn, hcn⟩, hB'⟩
        · exact absurd (by rw [List.length_take, Nat.min_eq_left hq]) h
        have e7 := (hB'.cell (p := ⟨b7, 0, none⟩) l7).trans c7
        have e5 := (hB'.cell (p := ⟨w2.heap.size, 0, none⟩) l5).trans c5
        have hlW : W.heap.size < W'.heap.size := World.block_lt_of_cell? W' _ hcn
        have hB6 : Below w3.heap.size w3 W' := hBW.trans (hB'.mono (by omega))
        have hl7' : b7 < W'.heap.size := by omega
        gi_wp2
        all_goals
          have hOp' : Open W' Ds := hOp.kp (below_kp hB') (fun E hE h => by have := (Array.getElem?_eq_some_iff.1 (hOp.2 E hE)).1; omega)
          rw [World.size_alloc] at hD
          have hOpD : Open W' (D :: Ds) := ⟨List.nodup_cons.2 ⟨fun h => by have := (Array.getElem?_eq_some_iff.1 (hOp.2 D h)).1; omega, hOp'.1⟩, fun E hE => by rcases List.mem_cons.1 hE with rfl | h; exact hK; exact hOp'.2 E h⟩
          have hDD : ∀ E, E ∈ D :: Ds → w3.heap.size ≤ E := fun E hE => by rcases List.mem_cons.1 hE with rfl | h; omega; exact hDs E h
          refine ⟨?_, by simp [marksOf]; omega⟩
          unfold AllInv
          exact ⟨1, W'.heap.size, D :: Ds, by omega, Blk.new _ _ _, by have := hB6.size; omega, hB6.alloc (by have := hB6.size; omega) _, hOpD.kp ((Kp.refl (fun _ => False) _).alloc _) (fun _ _ h => h), by simp [hlen], hDD, ex_us rfl⟩
    · obtain rfl : R = 3 := by omega
      gi_wp2
      go_wp2
      refine leaves_marks Ds _ (hOp.kp ((Kp.refl (fun b => b = w.heap.size + 1) W).setCell (p := ⟨w.heap.size + 1, 0, none⟩) (.inr rfl) (.bool true)) (fun D hD h => by have := hDs D hD; omega)) fun w8 hk8 => ?_
      have hb2 := (q4.set_ 0 (.bool true)).kp hk8 (fun h => by have := hDs _ h; omega)
      have hc2 := hb2.cell 0
      simp at hc2
      refine ⟨.bool true, ?_, rfl, ?_⟩
      · simp [results, Tryd.f5, go_sem, hc2]
      · have hbl3 : Below w.heap.size w W := (hk03.below).trans (hBW.mono (by omega))
        exact (hbl3.setCell (p := ⟨w.heap.size + 1, 0, none⟩) (by simp) _).trans (hk8.below_of (by simp [World.setCell]; omega) (fun b hb h => by have := hDs b h; omega))
end Go.Proofs.YtobofhiakgohfaaDoor
