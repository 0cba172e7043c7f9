/- descr: the document's word: the number, and the word at. descr: the document's word, any state. -/
import Derived.Test.YtobofhiakgohfaaGreatDoorZR
import Derived.Test.YtobofhiakgohfaaGreatDoorZS
import Derived.Test.YtobofhiakgohfaaGreatDoorZT
set_option linter.unusedVariables false
set_option linter.unusedSimpArgs false
namespace Go.Proofs.YtobofhiakgohfaaGreatDoor
open Go.RowKit

set_option maxRecDepth 100000 in
set_option maxHeartbeats 4000000 in
theorem rword_5at (w : World) (base gd : Nat) (d : DescD) (s : ByteArray) (p : Int) (hs : s.size ≤ 1048576) (h : RS w base gd d) (hbase : base ≤ w.heap.size) (hne : d.shs ≠ []) (hls : d.shs.length ≤ 32) (hat : s.data.toList = bAt) :
    Calls Tryz.prog 57 #[.pointer (some ⟨gd, 0, none⟩), .int .i64 5, .agg #[.int .i64 1, .string s, .int .i64 p]] w (RWPost base gd (stepW d 5 s p) w) := by
  obtain ⟨nm, lo, hi', isI, hI⟩ := itemR_form s
  have HI := Lib.hid (fun W => ritem_any s W (by omega))
  unfold ItemPost at HI
  rw [hI] at HI
  simp only [itemVal] at HI
  have HN := Lib.hid (fun W => rnumber_any s W (by omega))
  unfold NumPost at HN
  have y := Blk.new w 73 #[.int .i64 1, .string s, .int .i64 p]
  have ky : K0 w (w.alloc (.cells #[.int .i64 1, .string s, .int .i64 p] 73)) := (Kp.refl _ _).alloc _
  have HS := Lib.hid (show stepW d 5 s p = .ok (d, 6) by
    unfold stepW
    rw [if_neg (by omega), if_neg (by omega), if_neg (by omega), if_pos ⟨rfl, hat⟩])
  have e2 : (s.toList == [97, 116]) = true := by
    rw [beq_iff_eq, ByteArray.toList_eq]
    exact hat
  clear hat
  go_enter Tryz.func57, Tryz.ntmps57
  go_wp2_with (first
    | (go_at_call 84; refine (HI.out _).mono ?_; rintro e w2 ⟨rfl, hk2⟩; have y2 := y.kp hk2 (fun h => h); have y21 := y2.cell 1; have y22 := y2.cell 2; have yl2 := y2.lt; have k02 := ky.trans hk2; have z2 := Blk.new w2 53 #[.string nm, .int .i64 lo, .int .i64 hi', .int .i64 p]; have kz : K0 w2 (w2.alloc (.cells #[.string nm, .int .i64 lo, .int .i64 hi', .int .i64 p] 53)) := (Kp.refl _ _).alloc _; simp at y21 y22)
    | (go_at_call 85; refine (HN.out _).mono ?_; rintro e w3 ⟨rfl, hk3⟩; have y3 := (y2.kp kz (fun h => h)).kp hk3 (fun h => h); have y31 := y3.cell 1; have y32 := y3.cell 2; have yl3 := y3.lt; have z3 := z2.kp hk3 (fun h => h); have z30 := z3.cell 0; have z31 := z3.cell 1; have z32 := z3.cell 2; have z33 := z3.cell 3; have zl3 := z3.lt; have k03 : K0 w w3 := (k02.trans kz).trans hk3; simp at y31 y32 z30 z31 z32 z33)
    )
  have HR := Lib.hid (h.k0 k03)
  obtain ⟨vc, vs, pc', ps', hb, hd, hpc', hps', hbg⟩ := h.k0 k03
  obtain ⟨ps, x0, rfl, hcls⟩ := snoc_map hps' hne
  obtain ⟨⟨its0, f0, p0⟩, v0⟩ := x0
  have hcl : d.shs.length = ps.length + 1 := by rw [hcls]; simp
  have hoc := hd.os
  rw [List.length_append, List.length_singleton] at hoc
  obtain ⟨g, cap, hvc, hgb, hgl⟩ := hoc.form (by omega)
  obtain ⟨_, _, hvc2, hcp1, hcp2⟩ := own_form hoc
  rw [hvc] at hvc2
  cases hvc2
  subst hvc
  have x4 := hb.cell 1
  have hl := hb.lt
  simp at x4
  clear hd hoc hcls hcl hpc' hps'
  go_quiet (fail)
  go_wp2
  go_ret2
  exact .inr ⟨_, 6, HS.out, rfl, HR.out.k0 ((Kp.refl _ _).drewN _), K0.kp (k03.drewN _)⟩

set_option maxRecDepth 100000 in
set_option maxHeartbeats 4000000 in
theorem rword_6 (w : World) (base gd : Nat) (d : DescD) (s : ByteArray) (p : Int) (hs : s.size ≤ 1048576) (h : RS w base gd d) (hbase : base ≤ w.heap.size) (hne : d.shs ≠ []) (hls : d.shs.length ≤ 32) :
    Calls Tryz.prog 57 #[.pointer (some ⟨gd, 0, none⟩), .int .i64 6, .agg #[.int .i64 1, .string s, .int .i64 p]] w (RWPost base gd (stepW d 6 s p) w) := by
  obtain ⟨nm, lo, hi', isI, hI⟩ := itemR_form s
  have HI := Lib.hid (fun W => ritem_any s W (by omega))
  unfold ItemPost at HI
  rw [hI] at HI
  simp only [itemVal] at HI
  have HN := Lib.hid (fun W => rnumber_any s W (by omega))
  unfold NumPost at HN
  have y := Blk.new w 73 #[.int .i64 1, .string s, .int .i64 p]
  have ky : K0 w (w.alloc (.cells #[.int .i64 1, .string s, .int .i64 p] 73)) := (Kp.refl _ _).alloc _
  obtain ⟨v, hv⟩ : ∃ v : Nat, v = (numR s.data.toList).getD 0 := ⟨_, rfl⟩
  obtain ⟨b, hb0⟩ : ∃ b : Bool, b = (numR s.data.toList).isSome := ⟨_, rfl⟩
  rw [← hv, ← hb0] at HN
  have hv9 : (v : Int) ≤ 999999999 := by
    rw [hv]
    cases hn : numR s.data.toList with
    | none => simp
    | some n => have := numR_lt hn; simp; omega
  have HVB := Lib.hid (And.intro hv hb0)
  clear hv hb0
  go_enter Tryz.func57, Tryz.ntmps57
  go_wp2_with (first
    | (go_at_call 84; refine (HI.out _).mono ?_; rintro e w2 ⟨rfl, hk2⟩; have y2 := y.kp hk2 (fun h => h); have y21 := y2.cell 1; have y22 := y2.cell 2; have yl2 := y2.lt; have k02 := ky.trans hk2; have z2 := Blk.new w2 53 #[.string nm, .int .i64 lo, .int .i64 hi', .int .i64 p]; have kz : K0 w2 (w2.alloc (.cells #[.string nm, .int .i64 lo, .int .i64 hi', .int .i64 p] 53)) := (Kp.refl _ _).alloc _; simp at y21 y22)
    | (go_at_call 85; refine (HN.out _).mono ?_; rintro e w3 ⟨rfl, hk3⟩; have y3 := (y2.kp kz (fun h => h)).kp hk3 (fun h => h); have y31 := y3.cell 1; have y32 := y3.cell 2; have yl3 := y3.lt; have z3 := z2.kp hk3 (fun h => h); have z30 := z3.cell 0; have z31 := z3.cell 1; have z32 := z3.cell 2; have z33 := z3.cell 3; have zl3 := z3.lt; have k03 : K0 w w3 := (k02.trans kz).trans hk3; simp at y31 y32 z30 z31 z32 z33)
    )
  obtain ⟨vc, vs, pc', ps', hb, hd, hpc', hps', hbg⟩ := h.k0 k03
  obtain ⟨ps, x0, rfl, hcls⟩ := snoc_map hps' hne
  obtain ⟨⟨its0, f0, p0⟩, v0⟩ := x0
  obtain ⟨pc, rfl⟩ : ∃ q, q = pc' := ⟨_, rfl⟩
  have hcl : d.shs.length = ps.length + 1 := by rw [hcls]; simp
  have hoc := hd.os
  rw [List.length_append, List.length_singleton] at hoc
  obtain ⟨g, cap, hvc, hgb, hgl⟩ := hoc.form (by omega)
  obtain ⟨_, _, hvc2, hcp1, hcp2⟩ := own_form hoc
  rw [hvc] at hvc2
  cases hvc2
  subst hvc
  have hcell := hoc.cells (g := g) rfl
  have x4 := hb.cell 1
  have hl := hb.lt
  simp at x4
  obtain ⟨m0, hm0⟩ : ∃ m0, m0 = tris stri (ps ++ [(⟨its0, f0, p0⟩, v0)]) := ⟨_, rfl⟩
  obtain ⟨q0, q1, q2⟩ := tris_get stri (ps ++ [(⟨its0, f0, p0⟩, v0)]) ps.length _ (by rw [List.getElem?_append_right (Nat.le_refl _), Nat.sub_self]; rfl)
  rw [← hm0] at q0 q1 q2 hcell
  have r0 := hcell _ _ q0
  have r1 := hcell _ _ q1
  have r2 := hcell _ _ q2
  have ha : ∀ j, (⟨g, 0, none⟩ : Addr).add j = ⟨g, j, none⟩ := fun j => by unfold Addr.add; split <;> simp_all
  rw [ha] at r0 r1 r2
  have fz0 := hoc.frozenAt (ps.length * 3 + 1)
  have fz2 := hoc.frozenAt (ps.length * 3 + 2)
  simp only [stri] at r0 r1 r2
  have st := (hoc.stored (ps.length * 3 + 1) (.int .i64 v)).1.stored (ps.length * 3 + 2) (.int .i64 p)
  have hrow : ((tris stri (ps ++ [(⟨its0, f0, p0⟩, v0)])).set (ps.length * 3 + 1) (.int .i64 v)).set (ps.length * 3 + 2) (.int .i64 p) = tris stri (ps ++ [(⟨its0, (v : Int), p⟩, v0)]) := by
    rw [tris_set stri ps (⟨its0, f0, p0⟩, v0) 1 (.int .i64 v), ← tris_length stri ps, set_two, tris_append]
    rfl
  have KS : Kp (fun k => k = g) w3 ((w3.setCell ⟨g, ps.length * 3 + 1, none⟩ (.int .i64 v)).setCell ⟨g, ps.length * 3 + 2, none⟩ (.int .i64 p)) := ((Kp.refl (fun k => k = g) _).setCell (p := ⟨g, ps.length * 3 + 1, none⟩) (.inr rfl) _).setCell (p := ⟨g, ps.length * 3 + 2, none⟩) (.inr rfl) _
  have hgB : ∃ cs, Blk w3 g 90 cs := own_blk hoc g rfl
  have nty : ∀ t, t ≠ 90 → ∀ g' cs, Blk w3 g' t cs → ¬ g' = g := by
    rintro t ht g' cs hb' rfl
    obtain ⟨cs', hcs'⟩ := hgB
    exact hb'.ne_ hcs' ht rfl
  have hit0 := (hd.si (⟨its0, f0, p0⟩, v0) (by simp)).1
  have hd5 : PD ((w3.setCell ⟨g, ps.length * 3 + 1, none⟩ (.int .i64 v)).setCell ⟨g, ps.length * 3 + 2, none⟩ (.int .i64 p)) base vc (.slice (some ⟨g, 0, none⟩) (ps.length + 1) cap) pc (ps ++ [(⟨its0, (v : Int), p⟩, v0)]) :=
    hd.sets KS (fun y hy k hk => by obtain ⟨cs, hcs⟩ := own_blk (hd.ci y hy).1.1 k hk; exact nty 53 (by decide) k cs hcs) (fun y hy k hk => by obtain ⟨cs, hcs⟩ := own_blk (hd.si y (by simp [hy])).1.1 k hk; exact nty 53 (by decide) k cs hcs) (nty 51 (by decide))
      (by rw [← hrow]; exact st.1) (hit0.kt KS (nty 53 (by decide))) ⟨by show (-9223372036854775808 : Int) ≤ (v : Int); omega, by show (v : Int) ≤ 9223372036854775807; omega⟩ (.inl rfl)
  have b5 := hb.kp KS (fun h => nty 42 (by decide) _ _ hb h)
  have KL : Kp (LW base gd w) w ((w3.setCell ⟨g, ps.length * 3 + 1, none⟩ (.int .i64 v)).setCell ⟨g, ps.length * 3 + 2, none⟩ (.int .i64 p)) := (K0.kp k03).trans' KS (fun i hi h => by
    obtain ⟨cs, hcs⟩ := hgB
    subst h
    exact ⟨hgb, .inr ⟨90, cs, .inr (.inr rfl), (k03.block i hi (fun h => h)).symm.trans hcs⟩⟩)
  have yg : w.heap.size ≠ g := fun e => nty 73 (by decide) _ _ y3 e
  have HD5 := Lib.hid hd5
  have HB5 := Lib.hid b5
  have HKL := Lib.hid KL
  have HPO := Lib.hid hpc'
  have HSTEP := Lib.hid (show stepW d 6 s p = (if b = true then .ok (⟨d.cls, ps.map Prod.fst ++ [⟨its0, (v : Int), p⟩]⟩, 7) else .error 60) by
    obtain ⟨hv, hb0⟩ := HVB.out
    unfold stepW
    rw [if_neg (by omega), if_neg (by omega), if_neg (by omega), if_neg (by rintro ⟨h, _⟩; omega), if_neg (by omega), if_pos rfl]
    cases hn : numR s.data.toList with
    | none =>
      rw [hn] at hb0
      subst hb0
      rfl
    | some n =>
      rw [hn] at hv hb0
      simp only [Option.getD_some, Option.isSome_some] at hv hb0
      subst hb0
      subst hv
      simp only []
      rw [hcls, modLast_snoc]
      rfl)
  clear hd5 b5 KL hcell st hrow KS nty hit0 hoc hd hm0 q0 q1 q2 hcls ha hcl hpc' hps' hv9
  go_quiet (fail)
  go_wp2_with fail
  go_region
  all_goals
    have h56 : ∀ m, K0 ((w3.setCell ⟨g, ps.length * 3 + 1, none⟩ (.int .i64 v)).setCell ⟨g, ps.length * 3 + 2, none⟩ (.int .i64 p)) (((w3.drewN m).setCell ⟨g, ps.length * 3 + 1, none⟩ (.int .i64 v)).setCell ⟨g, ps.length * 3 + 2, none⟩ (.int .i64 p)) := fun m => ⟨rfl, rfl, rfl, Nat.le_refl _, fun _ _ _ => rfl⟩
    have H56 := Lib.hid h56
    clear h56
    cases b with
    | true =>
      have HS := Lib.hid (HSTEP.out.trans (if_pos rfl))
      go_wp2
      go_ret2
      exact .inr ⟨_, 7, HS.out, rfl, ⟨vc, _, pc, ps ++ [(⟨its0, (v : Int), p⟩, v0)], HB5.out.kp (H56.out _) (fun h => h), HD5.out.k0 (H56.out _), HPO.out, by simp, hbg⟩, HKL.out.trans (K0.kp (H56.out _))⟩
    | false =>
      have HS := Lib.hid (HSTEP.out.trans (if_neg (by decide)))
      go_wp2
      go_ret2
      exact RWPost.bad HS.out (HKL.out.trans (K0.kp (H56.out _)))
end Go.Proofs.YtobofhiakgohfaaGreatDoor

namespace Go.Proofs.YtobofhiakgohfaaGreatDoor
open Go.RowKit

/-- What the machine's counts bound. -/
def okM (d : DescD) : Prop := d.cls.length ≤ 32 ∧ d.shs.length ≤ 32 ∧ (∀ q ∈ d.cls, q.its.length ≤ 32) ∧ ∀ q ∈ d.shs, q.its.length ≤ 8
theorem modLast_ok {α : Type} (f : α → α) {l : List α} (h : l ≠ []) : ∃ l0 x, l = l0 ++ [x] ∧ modLast f l = l0 ++ [f x] := by
  obtain ⟨l0, x, rfl⟩ := snoc_of h
  exact ⟨l0, x, rfl, modLast_snoc f l0 x⟩
theorem snoc_ne {α : Type} {l : List α} {x : α} : l ++ [x] ≠ [] := by simp
theorem stepW_ok {d d' : DescD} {st st' : Nat} {s : ByteArray} {p : Int} (ho : okSt d st) (hn : okM d) (h : stepW d st s p = .ok (d', st')) : okSt d' st' ∧ okM d' := by
  obtain ⟨o1, o2, o3⟩ := ho
  obtain ⟨n1, n2, n3, n4⟩ := hn
  unfold stepW at h
  split at h
  · split at h
    · split at h
      · cases h
      · cases h
        refine ⟨⟨fun _ => snoc_ne, fun h => by omega, by omega⟩, by simp; omega, n2, fun q hq => ?_, n4⟩
        rcases List.mem_append.1 hq with hq | hq
        · exact n3 q hq
        · simp only [List.mem_singleton] at hq
          subst hq
          exact Nat.zero_le _
    · split at h
      · split at h
        · cases h
        · cases h
          refine ⟨⟨fun h => by omega, fun _ => snoc_ne, by omega⟩, n1, by simp; omega, n3, fun q hq => ?_⟩
          rcases List.mem_append.1 hq with hq | hq
          · exact n4 q hq
          · simp only [List.mem_singleton] at hq
            subst hq
            exact Nat.zero_le _
      · cases h
  · split at h
    · rename_i h1
      split at h
      · cases h
        obtain ⟨l0, x, e1, e2⟩ := modLast_ok (fun c : ClassD => ⟨s, c.its, p⟩) (o1 (.inl h1))
        rw [e2]
        rw [e1] at n1 n3
        simp at n1
        refine ⟨⟨fun _ => snoc_ne, fun h => by omega, by omega⟩, by simp; omega, n2, fun q hq => ?_, n4⟩
        rcases List.mem_append.1 hq with hq | hq
        · exact n3 q (by simp [hq])
        · simp only [List.mem_singleton] at hq
          subst hq
          exact n3 x (by simp)
      · cases h
    · split at h
      · rename_i h1
        split at h
        · cases h
        · rename_i x hx
          obtain ⟨l0, y, e1, e2⟩ := modLast_ok (fun c : ClassD => ⟨c.nm, c.its ++ [⟨x.nm, x.lo, x.hi, p⟩], c.pl⟩) (o1 (by omega))
          split at h
          · cases h
          · rename_i hl
            cases h
            rw [e2]
            rw [e1] at n1 n3 hl
            rw [its0_snoc] at hl
            simp at n1
            refine ⟨⟨fun _ => snoc_ne, fun h => by omega, by omega⟩, by simp; omega, n2, fun q hq => ?_, n4⟩
            rcases List.mem_append.1 hq with hq | hq
            · exact n3 q (by simp [hq])
            · simp only [List.mem_singleton] at hq
              subst hq
              have := n3 y (by simp)
              show (y.its ++ _).length ≤ 32
              simp
              omega
      · split at h
        · rename_i h1
          cases h
          exact ⟨⟨fun h => by omega, fun _ => o2 (by omega), by omega⟩, n1, n2, n3, n4⟩
        · split at h
          · rename_i h1
            split at h
            · cases h
            · rename_i x hx
              obtain ⟨l0, y, e1, e2⟩ := modLast_ok (fun c : ShapeD => ⟨c.its ++ [⟨x.nm, x.lo, x.hi, p⟩], c.first, c.pl⟩) (o2 (by omega))
              split at h
              · cases h
              · rename_i hl
                cases h
                rw [e2]
                rw [e1] at n2 n4 hl
                rw [its0_snoc] at hl
                simp at n2
                refine ⟨⟨fun h => by omega, fun _ => snoc_ne, by omega⟩, n1, by simp; omega, n3, fun q hq => ?_⟩
                rcases List.mem_append.1 hq with hq | hq
                · exact n4 q (by simp [hq])
                · simp only [List.mem_singleton] at hq
                  subst hq
                  have := n4 y (by simp)
                  show (y.its ++ _).length ≤ 8
                  simp
                  omega
          · split at h
            · rename_i h1
              split at h
              · cases h
              · rename_i n hx
                cases h
                obtain ⟨l0, x, e1, e2⟩ := modLast_ok (fun c : ShapeD => ⟨c.its, (n : Int), p⟩) (o2 (by omega))
                rw [e2]
                rw [e1] at n2 n4
                simp at n2
                refine ⟨⟨fun h => by omega, fun h => by omega, by omega⟩, n1, by simp; omega, n3, fun q hq => ?_⟩
                rcases List.mem_append.1 hq with hq | hq
                · exact n4 q (by simp [hq])
                · simp only [List.mem_singleton] at hq
                  subst hq
                  exact n4 x (by simp)
            · cases h

theorem rword_any (w : World) (base gd : Nat) (d : DescD) (st : Nat) (s : ByteArray) (p : Int) (hs : s.size ≤ 1048576) (h : RS w base gd d) (hbase : base ≤ w.heap.size) (ho : okSt d st) (hn : okM d) :
    Calls Tryz.prog 57 #[.pointer (some ⟨gd, 0, none⟩), .int .i64 (st : Int), .agg #[.int .i64 1, .string s, .int .i64 p]] w (RWPost base gd (stepW d st s p) w) := by
  obtain ⟨o1, o2, o3⟩ := ho
  obtain ⟨n1, n2, n3, n4⟩ := hn
  have : st = 0 ∨ st = 1 ∨ st = 2 ∨ st = 3 ∨ st = 4 ∨ st = 5 ∨ st = 6 ∨ st = 7 := by omega
  rcases this with rfl | rfl | rfl | rfl | rfl | rfl | rfl | rfl
  · exact rword_0 w base gd d s p hs h hbase n1 n2
  · exact rword_1 w base gd d s p hs h hbase (o1 (by omega)) n1
  · exact rword_2 w base gd d s p hs h hbase (o1 (by omega)) n1 n3
  · exact rword_3 w base gd d s p hs h hbase (o1 (by omega)) n1 n3
  · exact rword_4 w base gd d s p hs h hbase (o2 (by omega)) n2 n4
  · by_cases hat : s.data.toList = bAt
    · exact rword_5at w base gd d s p hs h hbase (o2 (by omega)) n2 hat
    · exact rword_5 w base gd d s p hs h hbase (o2 (by omega)) n2 n4 hat
  · exact rword_6 w base gd d s p hs h hbase (o2 (by omega)) n2
  · exact rword_7 w base gd d s p hs h hbase
theorem stepW_err {d : DescD} {st : Nat} {s : ByteArray} {p e : Int} (hs : stepW d st s p = .error e) : e ≠ 0 := by
  unfold stepW at hs
  repeat' split at hs
  all_goals first
    | (cases hs; omega)
    | cases hs
end Go.Proofs.YtobofhiakgohfaaGreatDoor
