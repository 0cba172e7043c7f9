/- descr: the document's word: a class's name. -/
import Derived.Test.YtobofhiakgohfaaDoorT44
set_option linter.unusedVariables false
set_option linter.unusedSimpArgs false
namespace Go.Proofs.YtobofhiakgohfaaDoor
open Go.RowKit

theorem OItemsV.far {S : Nat → Prop} {w w' : World} {base : Nat} {v : Value} {l : List ItemD} (h : OItemsV w base v l) (hk : Kp S w w') (hs : ∀ g, v.ownBlock = some g → ¬ S g) : OItemsV w' base v l := ⟨own_far h.1 hk hs, h.2⟩
theorem apart_last {α β : Type} {f : α → Option Nat} {g : β → Option Nat} {l : List α} {x0 x1 : α} {r : List β} {n : Nat} (h : ((l ++ [x0]).map f ++ r.map g).Pairwise Apart)
    (hl : ∀ y ∈ l, ∀ k, f y = some k → k < n) (hr : ∀ y ∈ r, ∀ k, g y = some k → k < n) (hb : f x1 = f x0 ∨ ∀ k, f x1 = some k → n ≤ k) : ((l ++ [x1]).map f ++ r.map g).Pairwise Apart := by
  rw [List.map_append, List.pairwise_append, List.pairwise_append] at h ⊢
  obtain ⟨⟨a1, a2, a3⟩, a4, a5⟩ := h
  rcases hb with hb | hb
  · have e : List.map f [x1] = List.map f [x0] := by rw [List.map_cons, List.map_cons, hb]
    rw [e]
    exact ⟨⟨a1, a2, a3⟩, a4, a5⟩
  · refine ⟨⟨a1, List.pairwise_singleton _ _, fun a ha b hb2 => ?_⟩, a4, fun a ha b hb2 => ?_⟩
    · simp only [List.map_cons, List.map_nil, List.mem_singleton] at hb2
      subst hb2
      obtain ⟨y, hy, rfl⟩ := List.mem_map.1 ha
      intro k hk e
      have := hl y hy k hk
      have := hb k e
      omega
    · rcases List.mem_append.1 ha with ha | ha
      · exact a5 a (List.mem_append.2 (.inl ha)) b hb2
      · simp only [List.map_cons, List.map_nil, List.mem_singleton] at ha
        subst ha
        obtain ⟨y, hy, rfl⟩ := List.mem_map.1 hb2
        intro k hk e
        have := hr y hy k e
        have := hb k hk
        omega
theorem apart_first {α β : Type} {f : α → Option Nat} {g : β → Option Nat} {l : List α} {r : List β} {x0 x1 : β} {n : Nat} (h : (l.map f ++ (r ++ [x0]).map g).Pairwise Apart)
    (hl : ∀ y ∈ l, ∀ k, f y = some k → k < n) (hr : ∀ y ∈ r, ∀ k, g y = some k → k < n) (hb : g x1 = g x0 ∨ ∀ k, g x1 = some k → n ≤ k) : (l.map f ++ (r ++ [x1]).map g).Pairwise Apart := by
  rw [List.map_append, ← List.append_assoc, List.pairwise_append] at h ⊢
  obtain ⟨a1, a2, a3⟩ := h
  rcases hb with hb | hb
  · have e : List.map g [x1] = List.map g [x0] := by rw [List.map_cons, List.map_cons, hb]
    rw [e]
    exact ⟨a1, a2, a3⟩
  · refine ⟨a1, List.pairwise_singleton _ _, fun a ha b hb2 => ?_⟩
    simp only [List.map_cons, List.map_nil, List.mem_singleton] at hb2
    subst hb2
    intro k hk e
    have := hb k e
    rcases List.mem_append.1 ha with ha | ha
    · obtain ⟨y, hy, rfl⟩ := List.mem_map.1 ha
      have := hl y hy k hk
      omega
    · obtain ⟨y, hy, rfl⟩ := List.mem_map.1 ha
      have := hr y hy k hk
      omega
theorem PD.ltc {w : World} {base : Nat} {vc vs : Value} {pc : List (ClassD × Value)} {ps : List (ShapeD × Value)} (h : PD w base vc vs pc ps) : (∀ y ∈ pc, ∀ k, y.2.ownBlock = some k → k < w.heap.size) ∧ (∀ y ∈ ps, ∀ k, y.2.ownBlock = some k → k < w.heap.size) :=
  ⟨fun y hy k hk => ((h.ci y hy).1.1.lt k hk).2, fun y hy k hk => ((h.si y hy).1.1.lt k hk).2⟩
/-- The last class turns. -/
theorem PD.setc {S : Nat → Prop} {w w' : World} {base : Nat} {vc vs : Value} {pc : List (ClassD × Value)} {ps : List (ShapeD × Value)} {x0 x1 : ClassD × Value} (h : PD w base vc vs (pc ++ [x0]) ps) (hk : Kp S w w')
    (h1 : ∀ y ∈ pc, ∀ g, y.2.ownBlock = some g → ¬ S g) (h2 : ∀ y ∈ ps, ∀ g, y.2.ownBlock = some g → ¬ S g) (h3 : ∀ g cs, Blk w g 73 cs → ¬ S g)
    (hoc : w'.ownsRow base 71 3 vc (pc.length + 1) (tris ctri (pc ++ [x1]))) (hit : OItemsV w' base x1.2 x1.1.its) (hnm : x1.1.nm.size ≤ 1048576) (hb : x1.2.ownBlock = x0.2.ownBlock ∨ ∀ g, x1.2.ownBlock = some g → w.heap.size ≤ g) : PD w' base vc vs (pc ++ [x1]) ps := by
  obtain ⟨l1, l2⟩ := h.ltc
  refine ⟨by rw [List.length_append, List.length_singleton]; exact hoc, own_kt h.os hk h3, fun y hy => ?_, fun y hy => ⟨(h.si y hy).1.far hk (h2 y hy), (h.si y hy).2⟩, apart_last h.ap (fun y hy => l1 y (by simp [hy])) l2 hb⟩
  rcases List.mem_append.1 hy with hy | hy
  · have hy' := h.ci y (by simp [hy])
    exact ⟨hy'.1.far hk (h1 y hy), hy'.2⟩
  · simp only [List.mem_singleton] at hy
    subst hy
    exact ⟨hit, hnm⟩
/-- The last shape turns. -/
theorem PD.sets {S : Nat → Prop} {w w' : World} {base : Nat} {vc vs : Value} {pc : List (ClassD × Value)} {ps : List (ShapeD × Value)} {x0 x1 : ShapeD × Value} (h : PD w base vc vs pc (ps ++ [x0])) (hk : Kp S w w')
    (h1 : ∀ y ∈ pc, ∀ g, y.2.ownBlock = some g → ¬ S g) (h2 : ∀ y ∈ ps, ∀ g, y.2.ownBlock = some g → ¬ S g) (h3 : ∀ g cs, Blk w g 71 cs → ¬ S g)
    (hos : w'.ownsRow base 73 3 vs (ps.length + 1) (tris stri (ps ++ [x1]))) (hit : OItemsV w' base x1.2 x1.1.its) (hnm : -9223372036854775808 ≤ x1.1.first ∧ x1.1.first ≤ 9223372036854775807) (hb : x1.2.ownBlock = x0.2.ownBlock ∨ ∀ g, x1.2.ownBlock = some g → w.heap.size ≤ g) : PD w' base vc vs pc (ps ++ [x1]) := by
  obtain ⟨l1, l2⟩ := h.ltc
  refine ⟨own_kt h.oc hk h3, by rw [List.length_append, List.length_singleton]; exact hos, fun y hy => ⟨(h.ci y hy).1.far hk (h1 y hy), (h.ci y hy).2⟩, fun y hy => ?_, apart_first h.ap l1 (fun y hy => l2 y (by simp [hy])) hb⟩
  rcases List.mem_append.1 hy with hy | hy
  · have hy' := h.si y (by simp [hy])
    exact ⟨hy'.1.far hk (h2 y hy), hy'.2⟩
  · simp only [List.mem_singleton] at hy
    subst hy
    exact ⟨hit, hnm⟩
theorem tris_set {α : Type} (f : α → Value × Value × Value) (l : List α) (x : α) (i : Nat) (u : Value) : (tris f (l ++ [x])).set (l.length * 3 + i) u = tris f l ++ [(f x).1, (f x).2.1, (f x).2.2].set i u := by
  rw [tris_append, ← tris_length f l, List.set_append_right _ _ (by omega), Nat.add_sub_cancel_left]
  rfl
theorem set_two (A B : List Value) (i : Nat) (u : Value) : (A ++ B).set (A.length + i) u = A ++ B.set i u := by
  rw [List.set_append_right _ _ (by omega), Nat.add_sub_cancel_left]
theorem snoc_map {α β : Type} {f : α → β} {p : List α} {l : List β} (h : p.map f = l) (hl : l ≠ []) : ∃ p0 x0, p = p0 ++ [x0] ∧ l = p0.map f ++ [f x0] := by
  have hp : p ≠ [] := by rintro rfl; exact hl (by rw [← h]; rfl)
  obtain ⟨p0, x0, rfl⟩ := snoc_of hp
  exact ⟨p0, x0, rfl, by rw [← h]; simp⟩

set_option maxRecDepth 100000 in
set_option maxHeartbeats 4000000 in
theorem rword_1 (w : World) (base gd : Nat) (d : DescD) (s : ByteArray) (p : Int) (hs : s.size ≤ 1048576) (h : RS w base gd d) (hbase : base ≤ w.heap.size) (hne : d.cls ≠ []) (hlc : d.cls.length ≤ 32) :
    Calls Tryd.prog 68 #[.pointer (some ⟨gd, 0, none⟩), .int .i64 1, .agg #[.int .i64 1, .string s, .int .i64 p]] w (RWPost base gd (stepW d 1 s p) w) := by
  obtain ⟨nm, lo, hi', isI, hI⟩ := itemR_form s
  have HI := Lib.hid (fun W => ritem_any s W (by omega))
  unfold ItemPost at HI
  rw [hI] at HI
  simp only [itemVal] at HI
  have HN := Lib.hid (fun W => rnumber_any s W (by omega))
  unfold NumPost at HN
  have y := Blk.new w 42 #[.int .i64 1, .string s, .int .i64 p]
  have ky : K0 w (w.alloc (.cells #[.int .i64 1, .string s, .int .i64 p] 42)) := (Kp.refl _ _).alloc _
  have NA := Lib.hid (fun W => rname_any s W (by omega))
  go_enter Tryd.func68, Tryd.ntmps68
  go_wp2_with (first
    | (go_at_call 27; refine (HI.out _).mono ?_; rintro e w2 ⟨rfl, hk2⟩; have y2 := y.kp hk2 (fun h => h); have y21 := y2.cell 1; have y22 := y2.cell 2; have yl2 := y2.lt; have k02 := ky.trans hk2; have z2 := Blk.new w2 47 #[.string nm, .int .i64 lo, .int .i64 hi', .int .i64 p]; have kz : K0 w2 (w2.alloc (.cells #[.string nm, .int .i64 lo, .int .i64 hi', .int .i64 p] 47)) := (Kp.refl _ _).alloc _; simp at y21 y22)
    | (go_at_call 29; refine (HN.out _).mono ?_; rintro e w3 ⟨rfl, hk3⟩; have y3 := (y2.kp kz (fun h => h)).kp hk3 (fun h => h); have y31 := y3.cell 1; have y32 := y3.cell 2; have yl3 := y3.lt; have z3 := z2.kp hk3 (fun h => h); have z30 := z3.cell 0; have z31 := z3.cell 1; have z32 := z3.cell 2; have z33 := z3.cell 3; have zl3 := z3.lt; have k03 : K0 w w3 := (k02.trans kz).trans hk3; simp at y31 y32 z30 z31 z32 z33)
    )
  obtain ⟨vc, vs, pc', ps, hb, hd, hpc', hps, hbg⟩ := h.k0 k03
  obtain ⟨pc, x0, rfl, hcls⟩ := snoc_map hpc' hne
  obtain ⟨⟨n0, its0, p0⟩, v0⟩ := x0
  have hcl : d.cls.length = pc.length + 1 := by rw [hcls]; simp
  have hoc := hd.oc
  rw [List.length_append, List.length_singleton] at hoc
  obtain ⟨g, cap, hvc, hgb, hgl⟩ := hoc.form (by omega)
  obtain ⟨_, _, hvc2, hcp1, hcp2⟩ := own_form hoc
  rw [hvc] at hvc2
  cases hvc2
  subst hvc
  have hcell := hoc.cells (g := g) rfl
  have x4 := hb.cell 0
  have hl := hb.lt
  simp at x4
  obtain ⟨m0, hm0⟩ : ∃ m0, m0 = tris ctri (pc ++ [(⟨n0, its0, p0⟩, v0)]) := ⟨_, rfl⟩
  obtain ⟨q0, q1, q2⟩ := tris_get ctri (pc ++ [(⟨n0, its0, p0⟩, v0)]) pc.length _ (by rw [List.getElem?_append_right (Nat.le_refl _), Nat.sub_self]; rfl)
  rw [← hm0] at q0 q1 q2 hcell
  have r0 := hcell _ _ q0
  have r1 := hcell _ _ q1
  have r2 := hcell _ _ q2
  have ha : ∀ j, (⟨g, 0, none⟩ : Addr).add j = ⟨g, j, none⟩ := fun j => by unfold Addr.add; split <;> simp_all
  rw [ha] at r0 r1 r2
  have fz0 := hoc.frozenAt (pc.length * 3)
  have fz2 := hoc.frozenAt (pc.length * 3 + 2)
  simp only [ctri] at r0 r1 r2
  have st := (hoc.stored (pc.length * 3) (.string s)).1.stored (pc.length * 3 + 2) (.int .i64 p)
  have hrow : ((tris ctri (pc ++ [(⟨n0, its0, p0⟩, v0)])).set (pc.length * 3) (.string s)).set (pc.length * 3 + 2) (.int .i64 p) = tris ctri (pc ++ [(⟨s, its0, p⟩, v0)]) := by
    have e := tris_set ctri pc (⟨n0, its0, p0⟩, v0) 0 (.string s)
    rw [Nat.add_zero] at e
    rw [e, ← tris_length ctri pc, set_two, tris_append]
    rfl
  have KS : Kp (fun k => k = g) w3 ((w3.setCell ⟨g, pc.length * 3, none⟩ (.string s)).setCell ⟨g, pc.length * 3 + 2, none⟩ (.int .i64 p)) := ((Kp.refl (fun k => k = g) _).setCell (p := ⟨g, pc.length * 3, none⟩) (.inr rfl) _).setCell (p := ⟨g, pc.length * 3 + 2, none⟩) (.inr rfl) _
  have hgB : ∃ cs, Blk w3 g 71 cs := own_blk hoc g rfl
  have nty : ∀ t, t ≠ 71 → ∀ g' cs, Blk w3 g' t cs → ¬ g' = g := by
    rintro t ht g' cs hb' rfl
    obtain ⟨cs', hcs'⟩ := hgB
    exact hb'.ne_ hcs' ht rfl
  have hit0 := (hd.ci (⟨n0, its0, p0⟩, v0) (by simp)).1
  have hd5 : PD ((w3.setCell ⟨g, pc.length * 3, none⟩ (.string s)).setCell ⟨g, pc.length * 3 + 2, none⟩ (.int .i64 p)) base (.slice (some ⟨g, 0, none⟩) (pc.length + 1) cap) vs (pc ++ [(⟨s, its0, p⟩, v0)]) ps :=
    hd.setc KS (fun y hy k hk => by obtain ⟨cs, hcs⟩ := own_blk (hd.ci y (by simp [hy])).1.1 k hk; exact nty 47 (by decide) k cs hcs) (fun y hy k hk => by obtain ⟨cs, hcs⟩ := own_blk (hd.si y hy).1.1 k hk; exact nty 47 (by decide) k cs hcs) (nty 73 (by decide))
      (by rw [← hrow]; exact st.1) (hit0.kt KS (nty 47 (by decide))) hs (.inl rfl)
  have b5 := hb.kp KS (fun h => nty 25 (by decide) _ _ hb h)
  have KL : Kp (LW base gd w) w ((w3.setCell ⟨g, pc.length * 3, none⟩ (.string s)).setCell ⟨g, pc.length * 3 + 2, none⟩ (.int .i64 p)) := (K0.kp k03).trans' KS (fun i hi h => by
    obtain ⟨cs, hcs⟩ := hgB
    subst h
    exact ⟨hgb, .inr ⟨71, cs, .inr (.inl rfl), (k03.block i hi (fun h => h)).symm.trans hcs⟩⟩)
  have yg : w.heap.size ≠ g := fun e => nty 42 (by decide) _ _ y3 e
  have HD5 := Lib.hid hd5
  have HB5 := Lib.hid b5
  have HKL := Lib.hid KL
  have HCLS := Lib.hid hcls
  have HSTEP := Lib.hid (fun b (hb : nameB s.data.toList = b) => show stepW d 1 s p = (if b = true then .ok (⟨pc.map Prod.fst ++ [⟨s, its0, p⟩], d.shs⟩, 2) else .error 60) by
    unfold stepW
    rw [if_neg (by omega), if_pos rfl, hcls, modLast_snoc, hb])
  clear hd5 b5 KL hcell st hrow KS nty hit0 hoc hd hm0 q0 q1 q2 hcls ha hcl hpc'
  go_quiet (fail)
  go_wp2_with fail
  go_region
  all_goals
    have h56 : ∀ m, K0 ((w3.setCell ⟨g, pc.length * 3, none⟩ (.string s)).setCell ⟨g, pc.length * 3 + 2, none⟩ (.int .i64 p)) (((w3.drewN m).setCell ⟨g, pc.length * 3, none⟩ (.string s)).setCell ⟨g, pc.length * 3 + 2, none⟩ (.int .i64 p)) := fun m => ⟨rfl, rfl, rfl, Nat.le_refl _, fun _ _ _ => rfl⟩
    have H56 := Lib.hid h56
    clear h56
    cases hnb : nameB s.data.toList with
    | true =>
      rw [hnb] at NA
      have HS := Lib.hid ((HSTEP.out true hnb).trans (if_pos rfl))
      clear hnb
      go_wp2_with (go_at_call 33; refine (NA.out _).mono ?_; rintro e w6 ⟨rfl, hk6⟩)
      go_ret2
      have k56 := (H56.out _).trans hk6
      exact .inr ⟨_, 2, HS.out, rfl, ⟨_, vs, pc ++ [(⟨s, its0, p⟩, v0)], ps, HB5.out.kp k56 (fun h => h), HD5.out.k0 k56, by simp, hps, hbg⟩, HKL.out.trans (K0.kp k56)⟩
    | false =>
      rw [hnb] at NA
      have HS := Lib.hid ((HSTEP.out false hnb).trans (if_neg (by decide)))
      clear hnb
      go_wp2_with (go_at_call 33; refine (NA.out _).mono ?_; rintro e w6 ⟨rfl, hk6⟩)
      go_ret2
      exact RWPost.bad HS.out (HKL.out.trans (K0.kp ((H56.out _).trans hk6)))
end Go.Proofs.YtobofhiakgohfaaDoor
