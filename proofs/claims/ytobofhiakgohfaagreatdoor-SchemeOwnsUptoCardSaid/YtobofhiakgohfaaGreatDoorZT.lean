/- descr: the document's word: items. -/
import Derived.Test.YtobofhiakgohfaaGreatDoorZR
set_option linter.unusedVariables false
set_option linter.unusedSimpArgs false
namespace Go.Proofs.YtobofhiakgohfaaGreatDoor
open Go.RowKit

set_option maxRecDepth 100000 in
set_option maxHeartbeats 8000000 in
theorem rword_4 (w : World) (base gd : Nat) (d : DescD) (s : ByteArray) (p : Int) (hs : s.size ≤ 1048576) (h : RS w base gd d) (hbase : base ≤ w.heap.size) (hne : d.shs ≠ []) (hlc : d.shs.length ≤ 32) (hlim : ∀ q ∈ d.shs, q.its.length ≤ 8) :
    Calls Tryz.prog 57 #[.pointer (some ⟨gd, 0, none⟩), .int .i64 4, .agg #[.int .i64 1, .string s, .int .i64 p]] w (RWPost base gd (stepW d 4 s p) w) := by
  have HI := Lib.hid (fun W => ritem_any s W (by omega))
  unfold ItemPost at HI
  rw [itemR_eq] at HI
  have HN := Lib.hid (fun W => rnumber_any s W (by omega))
  unfold NumPost at HN
  have y := Blk.new w 73 #[.int .i64 1, .string s, .int .i64 p]
  have ky : K0 w (w.alloc (.cells #[.int .i64 1, .string s, .int .i64 p] 73)) := (Kp.refl _ _).alloc _
  cases hi2 : itemD s with
  | none =>
    rw [hi2] at HI
    simp only [itemVal] at HI
    have HS := Lib.hid (show stepW d 4 s p = .error 60 by
      unfold stepW
      rw [if_neg (by omega), if_neg (by omega), if_neg (by omega), if_neg (by rintro ⟨h, _⟩; omega), if_pos (by omega)]
      simp only [hi2])
    clear hi2
    go_enter Tryz.func57, Tryz.ntmps57
    go_wp2_with (first
    | (go_at_call 84; refine (HI.out _).mono ?_; rintro e w2 ⟨rfl, hk2⟩; have y2 := y.kp hk2 (fun h => h); have y21 := y2.cell 1; have y22 := y2.cell 2; have yl2 := y2.lt; have k02 := ky.trans hk2; have z2 := Blk.new w2 53 #[.string ⟨#[]⟩, .int .i64 0, .int .i64 0, .int .i64 p]; have kz : K0 w2 (w2.alloc (.cells #[.string ⟨#[]⟩, .int .i64 0, .int .i64 0, .int .i64 p] 53)) := (Kp.refl _ _).alloc _; simp at y21 y22)
    | (go_at_call 85; refine (HN.out _).mono ?_; rintro e w3 ⟨rfl, hk3⟩; have y3 := (y2.kp kz (fun h => h)).kp hk3 (fun h => h); have y31 := y3.cell 1; have y32 := y3.cell 2; have yl3 := y3.lt; have z3 := z2.kp hk3 (fun h => h); have z30 := z3.cell 0; have z31 := z3.cell 1; have z32 := z3.cell 2; have z33 := z3.cell 3; have zl3 := z3.lt; have k03 : K0 w w3 := (k02.trans kz).trans hk3; simp at y31 y32 z30 z31 z32 z33)
    )
    obtain ⟨vc, vs, pc', ps', hb, hd, hpc', hps', hbg⟩ := h.k0 k03
    obtain ⟨ps, x0, rfl, hcls⟩ := snoc_map hps' hne
    obtain ⟨⟨its0, f0, p0⟩, v0⟩ := x0
    obtain ⟨pc, rfl⟩ : ∃ q, q = pc' := ⟨_, rfl⟩
    have hcl : d.shs.length = ps.length + 1 := by rw [hcls]; simp
    have hoc := hd.os
    rw [List.length_append, List.length_singleton] at hoc
    obtain ⟨g, cap, hvc, hgb, hgl⟩ := hoc.form (by omega)
    obtain ⟨_, _, hvc2, hcp1, hcp2⟩ := own_form hoc
    rw [hvc] at hvc2
    cases hvc2
    subst hvc
    have hcell := hoc.cells (g := g) rfl
    have x4 := hb.cell 1
    have hl := hb.lt
    simp at x4
    obtain ⟨q0, q1, q2⟩ := tris_get stri (ps ++ [(⟨its0, f0, p0⟩, v0)]) ps.length _ (by rw [List.getElem?_append_right (Nat.le_refl _), Nat.sub_self]; rfl)
    have r0 := hcell _ _ q0
    have r1 := hcell _ _ q1
    have r2 := hcell _ _ q2
    have ha : ∀ j, (⟨g, 0, none⟩ : Addr).add j = ⟨g, j, none⟩ := fun j => by unfold Addr.add; split <;> simp_all
    rw [ha] at r0 r1 r2
    simp only [stri] at r0 r1 r2
    clear hcell hd hoc hcls ha q0 q1 q2 hcl hpc' hps'
    go_quiet (fail)
    go_wp2
    go_ret2
    exact RWPost.bad HS.out (K0.kp (k03.drewN _))
  | some x =>
    rw [hi2] at HI
    simp only [itemVal] at HI
    have hxn := (itemD_nm hi2).1
    go_enter Tryz.func57, Tryz.ntmps57
    go_wp2_with (first
    | (go_at_call 84; refine (HI.out _).mono ?_; rintro e w2 ⟨rfl, hk2⟩; have y2 := y.kp hk2 (fun h => h); have y21 := y2.cell 1; have y22 := y2.cell 2; have yl2 := y2.lt; have k02 := ky.trans hk2; have z2 := Blk.new w2 53 #[.string x.nm, .int .i64 x.lo, .int .i64 x.hi, .int .i64 p]; have kz : K0 w2 (w2.alloc (.cells #[.string x.nm, .int .i64 x.lo, .int .i64 x.hi, .int .i64 p] 53)) := (Kp.refl _ _).alloc _; simp at y21 y22)
    | (go_at_call 85; refine (HN.out _).mono ?_; rintro e w3 ⟨rfl, hk3⟩; have y3 := (y2.kp kz (fun h => h)).kp hk3 (fun h => h); have y31 := y3.cell 1; have y32 := y3.cell 2; have yl3 := y3.lt; have z3 := z2.kp hk3 (fun h => h); have z30 := z3.cell 0; have z31 := z3.cell 1; have z32 := z3.cell 2; have z33 := z3.cell 3; have zl3 := z3.lt; have k03 : K0 w w3 := (k02.trans kz).trans hk3; simp at y31 y32 z30 z31 z32 z33)
    )
    obtain ⟨vc, vs, pc', ps', hb, hd, hpc', hps', hbg⟩ := h.k0 k03
    obtain ⟨ps, x0, rfl, hcls⟩ := snoc_map hps' hne
    obtain ⟨⟨its0, f0, p0⟩, v0⟩ := x0
    obtain ⟨pc, rfl⟩ : ∃ q, q = pc' := ⟨_, rfl⟩
    have hcl : d.shs.length = ps.length + 1 := by rw [hcls]; simp
    have hoc := hd.os
    rw [List.length_append, List.length_singleton] at hoc
    obtain ⟨g, cap, hvc, hgb, hgl⟩ := hoc.form (by omega)
    obtain ⟨_, _, hvc2, hcp1, hcp2⟩ := own_form hoc
    rw [hvc] at hvc2
    cases hvc2
    subst hvc
    have hcell := hoc.cells (g := g) rfl
    have x4 := hb.cell 1
    have hl := hb.lt
    simp at x4
    obtain ⟨q0, q1, q2⟩ := tris_get stri (ps ++ [(⟨its0, f0, p0⟩, v0)]) ps.length _ (by rw [List.getElem?_append_right (Nat.le_refl _), Nat.sub_self]; rfl)
    have r0 := hcell _ _ q0
    have r1 := hcell _ _ q1
    have r2 := hcell _ _ q2
    have ha : ∀ j, (⟨g, 0, none⟩ : Addr).add j = ⟨g, j, none⟩ := fun j => by unfold Addr.add; split <;> simp_all
    rw [ha] at r0 r1 r2
    simp only [stri] at r0 r1 r2
    have hit0 := hd.si (⟨its0, f0, p0⟩, v0) (by simp)
    obtain ⟨hown0, hil, hin⟩ := hit0.1
    simp only [] at hown0 hil hin
    obtain ⟨N, hN⟩ : ∃ N, N = its0.length := ⟨_, rfl⟩
    rw [← hN] at hown0 hil
    have hN32 : N ≤ 8 := by
      have e := hlim ⟨its0, f0, p0⟩ (by rw [hcls]; simp)
      rw [hN]
      exact e
    obtain ⟨A0, c0, rfl, hv1, hv2⟩ := own_form hown0
    have HSTEP := Lib.hid (show stepW d 4 s p = (if its0.length = 8 then .error 4 else .ok (⟨d.cls, ps.map Prod.fst ++ [⟨its0 ++ [⟨x.nm, x.lo, x.hi, p⟩], f0, p0⟩]⟩, 5)) by
      unfold stepW
      rw [if_neg (by omega), if_neg (by omega), if_neg (by omega), if_neg (by rintro ⟨h, _⟩; omega), if_pos (by omega)]
      simp only [hi2]
      rw [hcls, its0_snoc]
      split
      · rfl
      · rw [modLast_snoc])
    have HN2 := Lib.hid hN
    have HIT2 := Lib.hid hit0.2
    by_cases h32 : N = 8
    · have HS := Lib.hid (HSTEP.out.trans (if_pos (hN.symm.trans h32)))
      clear hcell hd hoc hcls ha q0 q1 q2 hcl hpc' hps' hit0 hown0 hi2 hN hN32
      subst h32
      go_quiet (fail)
      go_wp2
      go_ret2
      exact RWPost.bad HS.out (K0.kp (k03.drewN _))
    · have HS := Lib.hid (HSTEP.out.trans (if_neg (fun e => h32 (hN.trans e))))
      have d1 : ((N : Int) == 8) = false := beq_eq_false_iff_ne.2 (by omega)
      have hgB : ∃ cs, Blk w3 g 90 cs := own_blk hoc g rfl
      have nty : ∀ t, t ≠ 90 → ∀ g' cs, Blk w3 g' t cs → ¬ g' = g := by
        rintro t ht g' cs hb' rfl
        obtain ⟨cs', hcs'⟩ := hgB
        exact hb'.ne_ hcs' ht rfl
      have hap := List.pairwise_append.1 hd.ap
      have HD := Lib.hid hd
      have HOC := Lib.hid hoc
      have HAP := Lib.hid hap
      have HQ := Lib.hid q0
      have HCLS := Lib.hid hcls
      have HPO := Lib.hid hpc'
      have hs3 := k03.size
      obtain ⟨i0, hi, hz0, hz1, hz2⟩ := info47'
      clear hcell hd hoc hcls ha q0 q1 q2 hcl hpc' hps' hit0 hi2 hN h32 hap
      go_quiet (fail)
      have kq : K0 w3 (w3.drewN nq) := (Kp.refl _ _).drewN _
      generalize w3.drewN nq = W at *
      have hownW := own_kp hown0 kq (fun _ _ h => h)
      have hocW := own_kp HOC.out kq (fun _ _ h => h)
      have zW := z3.kp kq (fun h => h)
      have w0c := zW.cell 0
      have w1c := zW.cell 1
      have w2c := zW.cell 2
      have w3c := zW.cell 3
      have wlt := zW.lt
      have yW := y3.kp kq (fun h => h)
      have y1c := yW.cell 1
      have ylt := yW.lt
      simp at w0c w1c w2c w3c y1c
      have rW := (kq.cell (p := ⟨g, ps.length * 3, none⟩) hgl (fun h => h)).trans r0
      have hsW := kq.size
      have hgW : g < W.heap.size := by omega
      have hbW := hb.kp kq (fun h => h)
      have HBW := Lib.hid hbW
      clear hbW zW x4 r0 r1 r2 z30 z31 z32 z33 y31 y32 hb z3 y3 y2 z2 y
      go_wp2
      go_region_law (refine step_append_lies _ rfl (.tmp 137) (.tmp 139) 49 rfl base 53 i0 _ 4 40 Tryz.underlying49 hi hz0 hz1 hz2 rfl (by omega) (.slice A0 N c0) N (icells its0) (by simp [Act.eval, Act.put]) (by exact hownW.alloc _) ⟨W.heap.size, 0, none⟩ 1 1 [.string x.nm, .int .i64 x.lo, .int .i64 x.hi, .int .i64 p] (by simp [Act.eval, Act.put]) rfl (by exact World.news_of_block (cs := #[.string x.nm, .int .i64 x.lo, .int .i64 x.hi, .int .i64 p]) (t := 53) (fr := (0, 0)) (heap_alloc_new W _)) (by simp [Value.oneCell']) (by omega) (by simp only [maxLen]; omega) (by omega) (by simp; omega) (W.heap.size + 1) (by simp) ?_; intro g8 cap8 w8 hown8 hg8 hat8 hlt8; have hoc8 := own_kt hocW (((Kp.refl (fun k => (Value.slice A0 N c0).ownBlock = some k) W).alloc (.cells #[.string x.nm, .int .i64 x.lo, .int .i64 x.hi, .int .i64 p] 53)).drew.grown hg8 (fun k hk => .inr hk)) (fun g' cs' hb' hk => own_blk_ne hownW hb' (by decide) hk); have u8 := (hoc8.cellAt (ps.length * 3) (by omega)).trans HQ.out; simp only [stri] at u8; have f8 := hoc8.frozenAt (ps.length * 3))
      all_goals
        have K8 : Kp (fun k => (Value.slice A0 N c0).ownBlock = some k) W w8 := ((Kp.refl _ W).alloc _).drew.grown hg8 (fun k hk => .inr hk)
        have KF : Kp (fun k => k = g ∨ (Value.slice A0 N c0).ownBlock = some k) W (w8.setCell ⟨g, ps.length * 3, none⟩ (.slice (some ⟨g8, 0, none⟩) (N + 1) cap8)) := (K8.mono (fun _ h => .inr h)).setCell (p := ⟨g, ps.length * 3, none⟩) (.inr (.inl rfl)) _
        have hdW := HD.out.k0 kq
        have ntyW : ∀ t, t ≠ 90 → ∀ g' cs, Blk W g' t cs → ¬ g' = g := by
          rintro t ht g' cs hb' rfl
          obtain ⟨cs', hcs'⟩ := own_blk hocW g' rfl
          exact hb'.ne_ hcs' ht rfl
        obtain ⟨cs8, hcs8⟩ := own_blk hoc8 g rfl
        have st := (hoc8.stored (ps.length * 3) (.slice (some ⟨g8, 0, none⟩) (N + 1) cap8)).1
        have hrow := tris_set stri ps (⟨its0, f0, p0⟩, .slice A0 N c0) 0 (.slice (some ⟨g8, 0, none⟩) (N + 1) cap8)
        rw [Nat.add_zero] at hrow
        rw [hrow] at st
        have hit9 : OItemsV (w8.setCell ⟨g, ps.length * 3, none⟩ (.slice (some ⟨g8, 0, none⟩) (N + 1) cap8)) base (.slice (some ⟨g8, 0, none⟩) (N + 1) cap8) (its0 ++ [⟨x.nm, x.lo, x.hi, p⟩]) := by
          refine ⟨?_, by rw [List.length_append, List.length_singleton, ← HN2.out]; omega, fun y hy => ?_⟩
          · rw [icells_snoc, List.length_append, List.length_singleton, ← HN2.out]
            exact own_setCell (p := ⟨g, ps.length * 3, none⟩) hown8 (own_blk_ne hown8 hcs8 (by decide))
          · rcases List.mem_append.1 hy with hy | hy
            · exact hin y hy
            · simp only [List.mem_singleton] at hy
              subst hy
              show x.nm.size ≤ _
              omega
        have hd9 : PD (w8.setCell ⟨g, ps.length * 3, none⟩ (.slice (some ⟨g8, 0, none⟩) (N + 1) cap8)) base vc (.slice (some ⟨g, 0, none⟩) (ps.length + 1) cap) pc (ps ++ [(⟨its0 ++ [⟨x.nm, x.lo, x.hi, p⟩], f0, p0⟩, .slice (some ⟨g8, 0, none⟩) (N + 1) cap8)]) := by
          refine hdW.sets KF (fun y hy k hk => ?_) (fun y hy k hk => ?_) (fun g' cs' hb' hk => ?_) ?_ hit9 HIT2.out ?_
          · rintro (e | e)
            · obtain ⟨cs', hcs'⟩ := own_blk (hdW.ci y (by simp [hy])).1.1 k hk
              exact ntyW 53 (by decide) k cs' hcs' e
            · exact (HAP.out.2.2 _ (List.mem_map.2 ⟨y, hy, rfl⟩) _ (List.mem_map.2 ⟨(⟨its0, f0, p0⟩, .slice A0 N c0), by simp, rfl⟩) k hk e)
          · rintro (e | e)
            · obtain ⟨cs', hcs'⟩ := own_blk (hdW.si y (by simp [hy])).1.1 k hk
              exact ntyW 53 (by decide) k cs' hcs' e
            · exact (by
              have a1 := HAP.out.2.1
              rw [List.map_append, List.pairwise_append] at a1
              exact a1.2.2 _ (List.mem_map.2 ⟨y, hy, rfl⟩) _ (List.mem_singleton.2 rfl) k hk e)
          · rcases hk with e | e
            · exact ntyW 51 (by decide) g' cs' hb' e
            · exact own_blk_ne hownW hb' (by decide) e
          · rw [tris_append]
            exact st
          · rcases hat8 with e | e
            · exact .inl e.symm
            · exact .inr (fun k hk => by cases hk; show W.heap.size ≤ g8; omega)
        have hb9 := HBW.out.kp KF (by
          rintro (e | e)
          · exact ntyW 42 (by decide) _ _ HBW.out e
          · exact own_blk_ne hownW HBW.out (by decide) e)
        have k0W := k03.trans kq
        have KL : Kp (LW base gd w) w (w8.setCell ⟨g, ps.length * 3, none⟩ (.slice (some ⟨g8, 0, none⟩) (N + 1) cap8)) := (K0.kp k0W).trans' KF (fun i hi h => by
          rcases h with h | h
          · subst h
            obtain ⟨cs', hcs'⟩ := own_blk hocW i rfl
            exact ⟨hgb, .inr ⟨90, cs', .inr (.inr rfl), (k0W.block i hi (fun h => h)).symm.trans hcs'⟩⟩
          · obtain ⟨cs', hcs'⟩ := own_blk hownW i h
            exact ⟨(hownW.lt i h).1, .inr ⟨53, cs', .inl rfl, (k0W.block i hi (fun h => h)).symm.trans hcs'⟩⟩)
        have HD9 := Lib.hid hd9
        have HB9 := Lib.hid hb9
        have HKL := Lib.hid KL
        clear hd9 hb9 KL hit9 st hrow hcs8 ntyW hdW KF K8 k0W
        go_wp2
        go_ret2
        exact .inr ⟨_, 5, HS.out, rfl, ⟨_, _, _, _, HB9.out, HD9.out, HPO.out, by simp, hbg⟩, HKL.out⟩

set_option maxRecDepth 100000 in
set_option maxHeartbeats 8000000 in
theorem rword_5 (w : World) (base gd : Nat) (d : DescD) (s : ByteArray) (p : Int) (hs : s.size ≤ 1048576) (h : RS w base gd d) (hbase : base ≤ w.heap.size) (hne : d.shs ≠ []) (hlc : d.shs.length ≤ 32) (hlim : ∀ q ∈ d.shs, q.its.length ≤ 8) (hat : s.data.toList ≠ bAt) :
    Calls Tryz.prog 57 #[.pointer (some ⟨gd, 0, none⟩), .int .i64 5, .agg #[.int .i64 1, .string s, .int .i64 p]] w (RWPost base gd (stepW d 5 s p) w) := by
  have HI := Lib.hid (fun W => ritem_any s W (by omega))
  unfold ItemPost at HI
  rw [itemR_eq] at HI
  have HN := Lib.hid (fun W => rnumber_any s W (by omega))
  unfold NumPost at HN
  have y := Blk.new w 73 #[.int .i64 1, .string s, .int .i64 p]
  have ky : K0 w (w.alloc (.cells #[.int .i64 1, .string s, .int .i64 p] 73)) := (Kp.refl _ _).alloc _
  have e2 : (s.toList == [97, 116]) = false := by
    rw [beq_eq_false_iff_ne, ByteArray.toList_eq]
    exact hat
  cases hi2 : itemD s with
  | none =>
    rw [hi2] at HI
    simp only [itemVal] at HI
    have HS := Lib.hid (show stepW d 5 s p = .error 60 by
      unfold stepW
      rw [if_neg (by omega), if_neg (by omega), if_neg (by omega), if_neg (by rintro ⟨_, h⟩; exact hat h), if_pos (by omega)]
      simp only [hi2])
    clear hi2
    go_enter Tryz.func57, Tryz.ntmps57
    go_wp2_with (first
    | (go_at_call 84; refine (HI.out _).mono ?_; rintro e w2 ⟨rfl, hk2⟩; have y2 := y.kp hk2 (fun h => h); have y21 := y2.cell 1; have y22 := y2.cell 2; have yl2 := y2.lt; have k02 := ky.trans hk2; have z2 := Blk.new w2 53 #[.string ⟨#[]⟩, .int .i64 0, .int .i64 0, .int .i64 p]; have kz : K0 w2 (w2.alloc (.cells #[.string ⟨#[]⟩, .int .i64 0, .int .i64 0, .int .i64 p] 53)) := (Kp.refl _ _).alloc _; simp at y21 y22)
    | (go_at_call 85; refine (HN.out _).mono ?_; rintro e w3 ⟨rfl, hk3⟩; have y3 := (y2.kp kz (fun h => h)).kp hk3 (fun h => h); have y31 := y3.cell 1; have y32 := y3.cell 2; have yl3 := y3.lt; have z3 := z2.kp hk3 (fun h => h); have z30 := z3.cell 0; have z31 := z3.cell 1; have z32 := z3.cell 2; have z33 := z3.cell 3; have zl3 := z3.lt; have k03 : K0 w w3 := (k02.trans kz).trans hk3; simp at y31 y32 z30 z31 z32 z33)
    )
    obtain ⟨vc, vs, pc', ps', hb, hd, hpc', hps', hbg⟩ := h.k0 k03
    obtain ⟨ps, x0, rfl, hcls⟩ := snoc_map hps' hne
    obtain ⟨⟨its0, f0, p0⟩, v0⟩ := x0
    obtain ⟨pc, rfl⟩ : ∃ q, q = pc' := ⟨_, rfl⟩
    have hcl : d.shs.length = ps.length + 1 := by rw [hcls]; simp
    have hoc := hd.os
    rw [List.length_append, List.length_singleton] at hoc
    obtain ⟨g, cap, hvc, hgb, hgl⟩ := hoc.form (by omega)
    obtain ⟨_, _, hvc2, hcp1, hcp2⟩ := own_form hoc
    rw [hvc] at hvc2
    cases hvc2
    subst hvc
    have hcell := hoc.cells (g := g) rfl
    have x4 := hb.cell 1
    have hl := hb.lt
    simp at x4
    obtain ⟨q0, q1, q2⟩ := tris_get stri (ps ++ [(⟨its0, f0, p0⟩, v0)]) ps.length _ (by rw [List.getElem?_append_right (Nat.le_refl _), Nat.sub_self]; rfl)
    have r0 := hcell _ _ q0
    have r1 := hcell _ _ q1
    have r2 := hcell _ _ q2
    have ha : ∀ j, (⟨g, 0, none⟩ : Addr).add j = ⟨g, j, none⟩ := fun j => by unfold Addr.add; split <;> simp_all
    rw [ha] at r0 r1 r2
    simp only [stri] at r0 r1 r2
    clear hcell hd hoc hcls ha q0 q1 q2 hcl hpc' hps'
    go_quiet (fail)
    go_wp2
    go_ret2
    exact RWPost.bad HS.out (K0.kp (k03.drewN _))
  | some x =>
    rw [hi2] at HI
    simp only [itemVal] at HI
    have hxn := (itemD_nm hi2).1
    go_enter Tryz.func57, Tryz.ntmps57
    go_wp2_with (first
    | (go_at_call 84; refine (HI.out _).mono ?_; rintro e w2 ⟨rfl, hk2⟩; have y2 := y.kp hk2 (fun h => h); have y21 := y2.cell 1; have y22 := y2.cell 2; have yl2 := y2.lt; have k02 := ky.trans hk2; have z2 := Blk.new w2 53 #[.string x.nm, .int .i64 x.lo, .int .i64 x.hi, .int .i64 p]; have kz : K0 w2 (w2.alloc (.cells #[.string x.nm, .int .i64 x.lo, .int .i64 x.hi, .int .i64 p] 53)) := (Kp.refl _ _).alloc _; simp at y21 y22)
    | (go_at_call 85; refine (HN.out _).mono ?_; rintro e w3 ⟨rfl, hk3⟩; have y3 := (y2.kp kz (fun h => h)).kp hk3 (fun h => h); have y31 := y3.cell 1; have y32 := y3.cell 2; have yl3 := y3.lt; have z3 := z2.kp hk3 (fun h => h); have z30 := z3.cell 0; have z31 := z3.cell 1; have z32 := z3.cell 2; have z33 := z3.cell 3; have zl3 := z3.lt; have k03 : K0 w w3 := (k02.trans kz).trans hk3; simp at y31 y32 z30 z31 z32 z33)
    )
    obtain ⟨vc, vs, pc', ps', hb, hd, hpc', hps', hbg⟩ := h.k0 k03
    obtain ⟨ps, x0, rfl, hcls⟩ := snoc_map hps' hne
    obtain ⟨⟨its0, f0, p0⟩, v0⟩ := x0
    obtain ⟨pc, rfl⟩ : ∃ q, q = pc' := ⟨_, rfl⟩
    have hcl : d.shs.length = ps.length + 1 := by rw [hcls]; simp
    have hoc := hd.os
    rw [List.length_append, List.length_singleton] at hoc
    obtain ⟨g, cap, hvc, hgb, hgl⟩ := hoc.form (by omega)
    obtain ⟨_, _, hvc2, hcp1, hcp2⟩ := own_form hoc
    rw [hvc] at hvc2
    cases hvc2
    subst hvc
    have hcell := hoc.cells (g := g) rfl
    have x4 := hb.cell 1
    have hl := hb.lt
    simp at x4
    obtain ⟨q0, q1, q2⟩ := tris_get stri (ps ++ [(⟨its0, f0, p0⟩, v0)]) ps.length _ (by rw [List.getElem?_append_right (Nat.le_refl _), Nat.sub_self]; rfl)
    have r0 := hcell _ _ q0
    have r1 := hcell _ _ q1
    have r2 := hcell _ _ q2
    have ha : ∀ j, (⟨g, 0, none⟩ : Addr).add j = ⟨g, j, none⟩ := fun j => by unfold Addr.add; split <;> simp_all
    rw [ha] at r0 r1 r2
    simp only [stri] at r0 r1 r2
    have hit0 := hd.si (⟨its0, f0, p0⟩, v0) (by simp)
    obtain ⟨hown0, hil, hin⟩ := hit0.1
    simp only [] at hown0 hil hin
    obtain ⟨N, hN⟩ : ∃ N, N = its0.length := ⟨_, rfl⟩
    rw [← hN] at hown0 hil
    have hN32 : N ≤ 8 := by
      have e := hlim ⟨its0, f0, p0⟩ (by rw [hcls]; simp)
      rw [hN]
      exact e
    obtain ⟨A0, c0, rfl, hv1, hv2⟩ := own_form hown0
    have HSTEP := Lib.hid (show stepW d 5 s p = (if its0.length = 8 then .error 4 else .ok (⟨d.cls, ps.map Prod.fst ++ [⟨its0 ++ [⟨x.nm, x.lo, x.hi, p⟩], f0, p0⟩]⟩, 5)) by
      unfold stepW
      rw [if_neg (by omega), if_neg (by omega), if_neg (by omega), if_neg (by rintro ⟨_, h⟩; exact hat h), if_pos (by omega)]
      simp only [hi2]
      rw [hcls, its0_snoc]
      split
      · rfl
      · rw [modLast_snoc])
    have HN2 := Lib.hid hN
    have HIT2 := Lib.hid hit0.2
    by_cases h32 : N = 8
    · have HS := Lib.hid (HSTEP.out.trans (if_pos (hN.symm.trans h32)))
      clear hcell hd hoc hcls ha q0 q1 q2 hcl hpc' hps' hit0 hown0 hi2 hN hN32
      subst h32
      go_quiet (fail)
      go_wp2
      go_ret2
      exact RWPost.bad HS.out (K0.kp (k03.drewN _))
    · have HS := Lib.hid (HSTEP.out.trans (if_neg (fun e => h32 (hN.trans e))))
      have d1 : ((N : Int) == 8) = false := beq_eq_false_iff_ne.2 (by omega)
      have hgB : ∃ cs, Blk w3 g 90 cs := own_blk hoc g rfl
      have nty : ∀ t, t ≠ 90 → ∀ g' cs, Blk w3 g' t cs → ¬ g' = g := by
        rintro t ht g' cs hb' rfl
        obtain ⟨cs', hcs'⟩ := hgB
        exact hb'.ne_ hcs' ht rfl
      have hap := List.pairwise_append.1 hd.ap
      have HD := Lib.hid hd
      have HOC := Lib.hid hoc
      have HAP := Lib.hid hap
      have HQ := Lib.hid q0
      have HCLS := Lib.hid hcls
      have HPO := Lib.hid hpc'
      have hs3 := k03.size
      obtain ⟨i0, hi, hz0, hz1, hz2⟩ := info47'
      clear hcell hd hoc hcls ha q0 q1 q2 hcl hpc' hps' hit0 hi2 hN h32 hap
      go_quiet (fail)
      have kq : K0 w3 (w3.drewN nq) := (Kp.refl _ _).drewN _
      generalize w3.drewN nq = W at *
      have hownW := own_kp hown0 kq (fun _ _ h => h)
      have hocW := own_kp HOC.out kq (fun _ _ h => h)
      have zW := z3.kp kq (fun h => h)
      have w0c := zW.cell 0
      have w1c := zW.cell 1
      have w2c := zW.cell 2
      have w3c := zW.cell 3
      have wlt := zW.lt
      have yW := y3.kp kq (fun h => h)
      have y1c := yW.cell 1
      have ylt := yW.lt
      simp at w0c w1c w2c w3c y1c
      have rW := (kq.cell (p := ⟨g, ps.length * 3, none⟩) hgl (fun h => h)).trans r0
      have hsW := kq.size
      have hgW : g < W.heap.size := by omega
      have hbW := hb.kp kq (fun h => h)
      have HBW := Lib.hid hbW
      clear hbW zW x4 r0 r1 r2 z30 z31 z32 z33 y31 y32 hb z3 y3 y2 z2 y
      go_wp2
      go_region_law (refine step_append_lies _ rfl (.tmp 137) (.tmp 139) 49 rfl base 53 i0 _ 4 40 Tryz.underlying49 hi hz0 hz1 hz2 rfl (by omega) (.slice A0 N c0) N (icells its0) (by simp [Act.eval, Act.put]) (by exact hownW.alloc _) ⟨W.heap.size, 0, none⟩ 1 1 [.string x.nm, .int .i64 x.lo, .int .i64 x.hi, .int .i64 p] (by simp [Act.eval, Act.put]) rfl (by exact World.news_of_block (cs := #[.string x.nm, .int .i64 x.lo, .int .i64 x.hi, .int .i64 p]) (t := 53) (fr := (0, 0)) (heap_alloc_new W _)) (by simp [Value.oneCell']) (by omega) (by simp only [maxLen]; omega) (by omega) (by simp; omega) (W.heap.size + 1) (by simp) ?_; intro g8 cap8 w8 hown8 hg8 hat8 hlt8; have hoc8 := own_kt hocW (((Kp.refl (fun k => (Value.slice A0 N c0).ownBlock = some k) W).alloc (.cells #[.string x.nm, .int .i64 x.lo, .int .i64 x.hi, .int .i64 p] 53)).drew.grown hg8 (fun k hk => .inr hk)) (fun g' cs' hb' hk => own_blk_ne hownW hb' (by decide) hk); have u8 := (hoc8.cellAt (ps.length * 3) (by omega)).trans HQ.out; simp only [stri] at u8; have f8 := hoc8.frozenAt (ps.length * 3))
      all_goals
        have K8 : Kp (fun k => (Value.slice A0 N c0).ownBlock = some k) W w8 := ((Kp.refl _ W).alloc _).drew.grown hg8 (fun k hk => .inr hk)
        have KF : Kp (fun k => k = g ∨ (Value.slice A0 N c0).ownBlock = some k) W (w8.setCell ⟨g, ps.length * 3, none⟩ (.slice (some ⟨g8, 0, none⟩) (N + 1) cap8)) := (K8.mono (fun _ h => .inr h)).setCell (p := ⟨g, ps.length * 3, none⟩) (.inr (.inl rfl)) _
        have hdW := HD.out.k0 kq
        have ntyW : ∀ t, t ≠ 90 → ∀ g' cs, Blk W g' t cs → ¬ g' = g := by
          rintro t ht g' cs hb' rfl
          obtain ⟨cs', hcs'⟩ := own_blk hocW g' rfl
          exact hb'.ne_ hcs' ht rfl
        obtain ⟨cs8, hcs8⟩ := own_blk hoc8 g rfl
        have st := (hoc8.stored (ps.length * 3) (.slice (some ⟨g8, 0, none⟩) (N + 1) cap8)).1
        have hrow := tris_set stri ps (⟨its0, f0, p0⟩, .slice A0 N c0) 0 (.slice (some ⟨g8, 0, none⟩) (N + 1) cap8)
        rw [Nat.add_zero] at hrow
        rw [hrow] at st
        have hit9 : OItemsV (w8.setCell ⟨g, ps.length * 3, none⟩ (.slice (some ⟨g8, 0, none⟩) (N + 1) cap8)) base (.slice (some ⟨g8, 0, none⟩) (N + 1) cap8) (its0 ++ [⟨x.nm, x.lo, x.hi, p⟩]) := by
          refine ⟨?_, by rw [List.length_append, List.length_singleton, ← HN2.out]; omega, fun y hy => ?_⟩
          · rw [icells_snoc, List.length_append, List.length_singleton, ← HN2.out]
            exact own_setCell (p := ⟨g, ps.length * 3, none⟩) hown8 (own_blk_ne hown8 hcs8 (by decide))
          · rcases List.mem_append.1 hy with hy | hy
            · exact hin y hy
            · simp only [List.mem_singleton] at hy
              subst hy
              show x.nm.size ≤ _
              omega
        have hd9 : PD (w8.setCell ⟨g, ps.length * 3, none⟩ (.slice (some ⟨g8, 0, none⟩) (N + 1) cap8)) base vc (.slice (some ⟨g, 0, none⟩) (ps.length + 1) cap) pc (ps ++ [(⟨its0 ++ [⟨x.nm, x.lo, x.hi, p⟩], f0, p0⟩, .slice (some ⟨g8, 0, none⟩) (N + 1) cap8)]) := by
          refine hdW.sets KF (fun y hy k hk => ?_) (fun y hy k hk => ?_) (fun g' cs' hb' hk => ?_) ?_ hit9 HIT2.out ?_
          · rintro (e | e)
            · obtain ⟨cs', hcs'⟩ := own_blk (hdW.ci y (by simp [hy])).1.1 k hk
              exact ntyW 53 (by decide) k cs' hcs' e
            · exact (HAP.out.2.2 _ (List.mem_map.2 ⟨y, hy, rfl⟩) _ (List.mem_map.2 ⟨(⟨its0, f0, p0⟩, .slice A0 N c0), by simp, rfl⟩) k hk e)
          · rintro (e | e)
            · obtain ⟨cs', hcs'⟩ := own_blk (hdW.si y (by simp [hy])).1.1 k hk
              exact ntyW 53 (by decide) k cs' hcs' e
            · exact (by
              have a1 := HAP.out.2.1
              rw [List.map_append, List.pairwise_append] at a1
              exact a1.2.2 _ (List.mem_map.2 ⟨y, hy, rfl⟩) _ (List.mem_singleton.2 rfl) k hk e)
          · rcases hk with e | e
            · exact ntyW 51 (by decide) g' cs' hb' e
            · exact own_blk_ne hownW hb' (by decide) e
          · rw [tris_append]
            exact st
          · rcases hat8 with e | e
            · exact .inl e.symm
            · exact .inr (fun k hk => by cases hk; show W.heap.size ≤ g8; omega)
        have hb9 := HBW.out.kp KF (by
          rintro (e | e)
          · exact ntyW 42 (by decide) _ _ HBW.out e
          · exact own_blk_ne hownW HBW.out (by decide) e)
        have k0W := k03.trans kq
        have KL : Kp (LW base gd w) w (w8.setCell ⟨g, ps.length * 3, none⟩ (.slice (some ⟨g8, 0, none⟩) (N + 1) cap8)) := (K0.kp k0W).trans' KF (fun i hi h => by
          rcases h with h | h
          · subst h
            obtain ⟨cs', hcs'⟩ := own_blk hocW i rfl
            exact ⟨hgb, .inr ⟨90, cs', .inr (.inr rfl), (k0W.block i hi (fun h => h)).symm.trans hcs'⟩⟩
          · obtain ⟨cs', hcs'⟩ := own_blk hownW i h
            exact ⟨(hownW.lt i h).1, .inr ⟨53, cs', .inl rfl, (k0W.block i hi (fun h => h)).symm.trans hcs'⟩⟩)
        have HD9 := Lib.hid hd9
        have HB9 := Lib.hid hb9
        have HKL := Lib.hid KL
        clear hd9 hb9 KL hit9 st hrow hcs8 ntyW hdW KF K8 k0W
        go_wp2
        go_ret2
        exact .inr ⟨_, 5, HS.out, rfl, ⟨_, _, _, _, HB9.out, HD9.out, HPO.out, by simp, hbg⟩, HKL.out⟩
end Go.Proofs.YtobofhiakgohfaaGreatDoor
