/- descr: the parser's class. -/
import Derived.Test.YtobofhiakgohfaaDoorTH
import Derived.Deep.DeepCutAuto
set_option linter.unusedVariables false
set_option linter.unusedSimpArgs false
namespace Go.Proofs.YtobofhiakgohfaaDoor
open Go.RowKit

/-- Two rows lie apart. -/
def Apart (a b : Option Nat) : Prop := ∀ g, a = some g → b ≠ some g
/-- A description's lists, of the call's own, each in a block of its own. -/
structure PD (w : World) (base : Nat) (vc vs : Value) (pc : List (ClassD × Value)) (ps : List (ShapeD × Value)) : Prop where
  oc : w.ownsRow base 71 3 vc pc.length (tris ctri pc)
  os : w.ownsRow base 73 3 vs ps.length (tris stri ps)
  ci : ∀ x ∈ pc, OItemsV w base x.2 x.1.its ∧ x.1.nm.size ≤ 1048576
  si : ∀ x ∈ ps, OItemsV w base x.2 x.1.its ∧ -9223372036854775808 ≤ x.1.first ∧ x.1.first ≤ 9223372036854775807
  ap : ((pc.map fun x => x.2.ownBlock) ++ (ps.map fun x => x.2.ownBlock)).Pairwise Apart
theorem PD.kt {S : Nat → Prop} {w w' : World} {base : Nat} {vc vs : Value} {pc : List (ClassD × Value)} {ps : List (ShapeD × Value)} (h : PD w base vc vs pc ps) (hk : Kp S w w')
    (h1 : ∀ g cs, Blk w g 47 cs → ¬ S g) (h2 : ∀ g cs, Blk w g 71 cs → ¬ S g) (h3 : ∀ g cs, Blk w g 73 cs → ¬ S g) : PD w' base vc vs pc ps :=
  ⟨own_kt h.oc hk h2, own_kt h.os hk h3, fun x hx => ⟨(h.ci x hx).1.kt hk h1, (h.ci x hx).2⟩, fun x hx => ⟨(h.si x hx).1.kt hk h1, (h.si x hx).2⟩, h.ap⟩
theorem PD.k0 {w w' : World} {base : Nat} {vc vs : Value} {pc : List (ClassD × Value)} {ps : List (ShapeD × Value)} (h : PD w base vc vs pc ps) (hk : K0 w w') : PD w' base vc vs pc ps :=
  h.kt hk (fun _ _ _ h => h) (fun _ _ _ h => h) (fun _ _ _ h => h)
theorem OItemsV.mono {w : World} {b b' : Nat} {v : Value} {l : List ItemD} (h : OItemsV w b v l) (hb : b' ≤ b) : OItemsV w b' v l := ⟨own_mono h.1 hb, h.2⟩
/-- A class more. -/
theorem PD.addc {S : Nat → Prop} {w w' : World} {base : Nat} {vc vc' vs : Value} {pc : List (ClassD × Value)} {ps : List (ShapeD × Value)} {x : ClassD × Value} (h : PD w base vc vs pc ps) (hk : Kp S w w')
    (h1 : ∀ g cs, Blk w g 47 cs → ¬ S g) (h3 : ∀ g cs, Blk w g 73 cs → ¬ S g) (hoc : w'.ownsRow base 71 3 vc' (pc.length + 1) (tris ctri (pc ++ [x])))
    (hit : OItemsV w' w.heap.size x.2 x.1.its) (hb : base ≤ w.heap.size) (hx : x.1.nm.size ≤ 1048576) : PD w' base vc' vs (pc ++ [x]) ps := by
  have nb : ∀ (y : Option Nat), (∃ z ∈ pc, y = z.2.ownBlock) ∨ (∃ z ∈ ps, y = z.2.ownBlock) → ∀ g, y = some g → g < w.heap.size := by
    rintro y (⟨z, hz, rfl⟩ | ⟨z, hz, rfl⟩) g hg
    · exact ((h.ci z hz).1.1.lt g hg).2
    · exact ((h.si z hz).1.1.lt g hg).2
  refine ⟨by rw [List.length_append, List.length_singleton]; exact hoc, own_kt h.os hk h3, fun y hy => ?_, fun y hy => ⟨(h.si y hy).1.kt hk h1, (h.si y hy).2⟩, ?_⟩
  · rcases List.mem_append.1 hy with hy | hy
    · exact ⟨(h.ci y hy).1.kt hk h1, (h.ci y hy).2⟩
    · simp only [List.mem_singleton] at hy
      subst hy
      exact ⟨hit.mono hb, hx⟩
  · have hap := List.pairwise_append.1 h.ap
    rw [List.map_append, List.pairwise_append, List.pairwise_append]
    refine ⟨⟨hap.1, List.pairwise_singleton _ _, fun a ha b hb2 => ?_⟩, hap.2.1, fun a ha b hb2 => ?_⟩
    · simp only [List.map_cons, List.map_nil, List.mem_singleton] at hb2
      subst hb2
      obtain ⟨z, hz, rfl⟩ := List.mem_map.1 ha
      intro g hg e
      have := nb _ (.inl ⟨z, hz, rfl⟩) g hg
      have := (hit.1.lt g e).1
      omega
    · rcases List.mem_append.1 ha with ha | ha
      · exact hap.2.2 a ha b hb2
      · simp only [List.map_cons, List.map_nil, List.mem_singleton] at ha
        subst ha
        obtain ⟨z, hz, rfl⟩ := List.mem_map.1 hb2
        intro g hg e
        have := nb _ (.inr ⟨z, hz, rfl⟩) g e
        have := (hit.1.lt g hg).1
        omega

/-- A way that leaves a region that draws its order (a callee's panic), closed on the spot: the region's tactic goes on with nothing. -/
theorem way_out {P : Program} {G : Prop} {w : World} (h : G) : wpAny P Region.Mode.any #[] (fun _ _ _ => True) 0 #[] { tmps := #[], defers := [] } w → G := fun _ => h

/-- What class answers. -/
def ClassPost (base g : Nat) (T : TVl) (d : DescD) (vc vs : Value) (pc : List (ClassD × Value)) (ps : List (ShapeD × Value)) (w : World) (e : Ending) (w' : World) : Prop :=
  (∃ p er, classR d T = .error (p, er) ∧ e = faultE p er ∧ Kp (fun k => k = g ∨ vc.ownBlock = some k) w w') ∨
  (∃ x t r A c vc', classR d T = .ok (⟨d.cls ++ [x.1], d.shs⟩, t :: r) ∧ TokOk (t :: r) ∧ e = .returned (.tuple #[]) ∧ PB w' g A c t r vc' vs ∧ PD w' base vc' vs (pc ++ [x]) ps ∧ Kp (fun k => k = g ∨ vc.ownBlock = some k) w w')
theorem ClassPost.bad {base g : Nat} {T : TVl} {d : DescD} {vc vs : Value} {pc : List (ClassD × Value)} {ps : List (ShapeD × Value)} {w w' : World} {p er : Int} (h : classR d T = .error (p, er)) (hk : Kp (fun k => k = g ∨ vc.ownBlock = some k) w w') : ClassPost base g T d vc vs pc ps w (faultE p er) w' := .inl ⟨p, er, h, rfl, hk⟩

set_option maxRecDepth 100000 in
set_option maxHeartbeats 16000000 in
theorem pclass_any (w : World) (base g : Nat) (A : Option Addr) (c : Nat) (t : TV) (r : TVl) (d : DescD) (vc vs : Value) (pc : List (ClassD × Value)) (ps : List (ShapeD × Value)) (ht : TokOk (t :: r)) (hpb : PB w g A c t r vc vs) (hd : PD w base vc vs pc ps) (hbase : base ≤ w.heap.size) (hn : pc.length < 32) :
    Calls Tryd.prog 93 #[.pointer (some ⟨g, 0, none⟩)] w (ClassPost base g (t :: r) d vc vs pc ps w) := by
  obtain ⟨i1, hj, hy0, hy1, hy2⟩ := info71'
  obtain ⟨k, s, p⟩ := t
  have hb := hpb.1
  simp only [] at hb
  have c3 := hb.cell 3
  have hl := hb.lt
  simp at c3
  by_cases hk1 : k = 1
  · subst hk1
    obtain ⟨htr, hsz, t', r', rfl⟩ := ht.next rfl
    simp only [] at hsz
    have WO := Lib.hid (fun W h => word_one W g (.slice A (t' :: r').length c) s p vc vs h)
    have NA := Lib.hid (fun W => name_any s W (by omega))
    have ST := Lib.hid (fun W A c h => step_any W g A c (1, s, p) t' r' vc vs h)
    have FA := Lib.hid (fun W e h => fail_any W g (.slice A (t' :: r').length c) (.int .i64 1) (.string s) p vc vs e h)
    unfold faultE at FA
    obtain ⟨W1, hW1⟩ : ∃ W1, W1 = (w.alloc (.cells #[.string s, .slice none 0 0, .int .i64 p] 71)).drew := ⟨_, rfl⟩
    have k1 : K0 w W1 := by rw [hW1]; exact ((Kp.refl _ _).alloc _).drew
    have e1 : Blk W1 w.heap.size 71 #[.string s, .slice none 0 0, .int .i64 p] := by rw [hW1]; exact (Blk.new _ _ _).drew
    have y0 := e1.cell 0
    have yl := e1.lt
    simp at y0
    have HW := Lib.hid hW1
    clear hW1
    go_enter Tryd.func93, Tryd.ntmps93
    go_upto_region 0 with fail
    go_cut [2] (fun s2 wx => s2 = .pointer (some ⟨w.heap.size, 0, none⟩) ∧ wx = W1)
    case first =>
      go_region_with (go_at_call 91; refine (WO.out _ (by first | exact hb.drew | exact (hb.alloc _).drew)).mono ?_; rintro e w1 ⟨rfl, rfl⟩)
      all_goals (go_wp2_with fail; go_meet; exact ⟨rfl, HW.out.symm⟩)
    case rest =>
      obtain ⟨rfl, rfl⟩ := hcut
      cases hnm : nameB s.data.toList with
      | false =>
        rw [hnm] at NA
        have HB := Lib.hid (show classR d ((1, s, p) :: t' :: r') = .error (p, 60) by rw [classR, if_neg (by rintro ⟨_, h⟩; rw [hnm] at h; cases h)])
        clear hnm
        go_wp2_with (first
          | (go_at_call 32; refine (NA.out _).mono ?_; rintro e w2 ⟨rfl, hk2⟩; have kA := k1.trans hk2)
          | (go_at_call 92; refine (FA.out _ _ (by exact hb.kp kA (fun h => h))).mono ?_; rintro e w3 ⟨rfl, rfl⟩))
        exact ⟨rfl, ClassPost.bad HB.out (K0.kp kA)⟩
      | true =>
        rw [hnm] at NA
        have hcl := show classR d ((1, s, p) :: t' :: r') = match itemsR 32 [] [] (t' :: r') with
          | .error e => .error e
          | .ok (l, T) => .ok (⟨d.cls ++ [⟨s, l, p⟩], d.shs⟩, T) by
            rw [classR, if_pos ⟨rfl, hnm⟩]
            cases itemsR 32 [] [] (t' :: r') <;> rfl
        have HCL := Lib.hid hcl
        clear hnm hcl
        go_wp2_with (first
          | (go_at_call 32; refine (NA.out _).mono ?_; rintro e w2 ⟨rfl, hk2⟩; have kA := k1.trans hk2; have hpb2 := hpb.k0 kA)
          | (go_at_call 66; refine (ST.out _ _ _ hpb2).mono ?_; rintro e w3 ⟨rfl, ⟨A3, c3', hpb3⟩, hk3⟩; have e3 := (e1.kp hk2 (fun h => h)).kp hk3 (fun h => by omega)))
        have kB : K1 g w w3 := (K0.kp kA).trans hk3
        go_wp2_with fail
        refine (pitems_any w3 g A3 c3' t' r' vc vs 32 ⟨#[]⟩ (by omega) (by omega) htr hpb3).mono ?_
        rintro e w4 h
        rcases h with ⟨p', er, hE, he, hk4⟩ | ⟨l, t2, r2, v, A4, c4, hE, ht2, he, hpb4, ho4, hl4, hk4⟩
        · unfold faultE at he
          subst he
          have HB := Lib.hid (HCL.out.trans (by rw [hE]) : classR d ((1, s, p) :: t' :: r') = .error (p', er))
          clear hE
          go_wp2
          exact ⟨rfl, ClassPost.bad HB.out ((kB.trans hk4).mono (fun _ h => .inl h))⟩
        · subst he
          have HB := Lib.hid (HCL.out.trans (by rw [hE]) : classR d ((1, s, p) :: t' :: r') = .ok (⟨d.cls ++ [⟨s, l, p⟩], d.shs⟩, t2 :: r2))
          clear hE
          obtain ⟨Av, cv, rfl, hv1, hv2⟩ := own_form ho4.1
          have e4 := e3.kp hk4 (fun h => by omega)
          have x0 := e4.cell 0
          have x1 := e4.cell 1
          have x2 := e4.cell 2
          have xf := e4.frozen 1
          have xl := e4.lt
          have b4 := hpb4.1
          have z4 := b4.cell 4
          have zf := b4.frozen 4
          have zl := b4.lt
          simp at x0 x1 x2 z4
          obtain ⟨Ac, cc, rfl, hc1, hc2⟩ := own_form hd.oc
          have kC : K1 g w w4 := kB.trans hk4
          have hd4 : PD w4 base (.slice Ac pc.length cc) vs pc ps := hd.kt kC (fun g' cs h e => by subst e; exact h.ne_ hb (by decide) rfl) (fun g' cs h e => by subst e; exact h.ne_ hb (by decide) rfl) (fun g' cs h e => by subst e; exact h.ne_ hb (by decide) rfl)
          obtain ⟨W5, hW5⟩ : ∃ W5, W5 = w4.setCell ⟨w.heap.size, 1, none⟩ (.slice Av l.length cv) := ⟨_, rfl⟩
          have k5 : Kp (fun k => k = w.heap.size) w4 W5 := by rw [hW5]; exact (Kp.refl (fun k => k = w.heap.size) _).setCell (p := ⟨w.heap.size, 1, none⟩) (.inr rfl) _
          have av : ∀ t cs, t ≠ 71 → ∀ g, Blk w4 g t cs → ¬ g = w.heap.size := fun t cs ht g h e => by subst e; exact ht (by unfold Blk at h e4; rw [e4] at h; injection h with h; injection h with _ h; exact h.symm)
          have hpb5 : PB W5 g A4 c4 t2 r2 (.slice Ac pc.length cc) vs := hpb4.kt k5 (fun g cs h => av _ _ (by decide) g h) (by omega)
          have b5 := hpb5.1
          have z4 := b5.cell 4
          have zf := b5.frozen 4
          have zl := b5.lt
          have e5 : Blk W5 w.heap.size 71 #[.string s, .slice Av l.length cv, .int .i64 p] := by
            have := e4.set_ 1 (.slice Av l.length cv)
            rw [hW5]
            simpa using this
          have x0' := e5.cell 0
          have x1' := e5.cell 1
          have x2' := e5.cell 2
          have xl' := e5.lt
          simp at x0' x1' x2' z4
          have hoc5 : W5.ownsRow base 71 3 (.slice Ac pc.length cc) pc.length (tris ctri pc) := by
            rw [hW5]
            exact own_setCell hd4.oc (fun e => by have := (hd.oc.lt _ e).2; simp at this)
          have ho5 : OItemsV W5 w3.heap.size (.slice Av l.length cv) l := ho4.kt k5 (fun g cs h => av _ _ (by decide) g h)
          have HW5 := Lib.hid hW5
          clear hW5
          have hs5 := k5.size
          have hs4 := kC.size
          go_wp2
          rw [← HW5.out]
          go_region_law (refine step_append_lies _ rfl (.tmp 27) (.tmp 29) 22 rfl base 71 i1 _ 3 48 Tryd.underlying22 hj hy0 hy1 hy2 rfl (by omega) (.slice Ac pc.length cc) pc.length (tris ctri pc) (by simp [Act.eval, Act.put]) (by exact hoc5.alloc _) ⟨W5.heap.size, 0, none⟩ 1 1 [.string s, .slice Av l.length cv, .int .i64 p] (by simp [Act.eval, Act.put]) rfl (by exact World.news_of_block (cs := #[.string s, .slice Av l.length cv, .int .i64 p]) (t := 71) (fr := (0, 0)) (heap_alloc_new W5 _)) (by simp [Value.oneCell']) (by omega) (by simp only [maxLen]; omega) (by omega) (by simp; omega) (W5.heap.size + 1) (by simp) ?_; intro g8 cap8 w8 hown8 hg8 hat8 hlt8; have d8 := (b5.alloc (.cells #[.string s, .slice Av l.length cv, .int .i64 p] 71)).drew.grown hg8 (Ne.symm (own_blk_ne hoc5 b5 (by decide))); have d80 := d8.cell 4; have d8f := d8.frozen 4; have d8l := d8.lt; simp at d80)
          all_goals
            have K8 : Kp (fun k => (Value.slice Ac pc.length cc).ownBlock = some k) W5 w8 := ((Kp.refl _ W5).alloc _).drew.grown hg8 (fun k hk => .inr hk)
            have KF : Kp (fun k => k = g ∨ (Value.slice Ac pc.length cc).ownBlock = some k) W5 (w8.setCell ⟨g, 4, none⟩ (.slice (some ⟨g8, 0, none⟩) (pc.length + 1) cap8)) := (K8.mono (fun _ h => .inr h)).setCell (p := ⟨g, 4, none⟩) (.inr (.inl rfl)) _
            have K45 : Kp (fun k => k = w.heap.size ∨ k = g ∨ (Value.slice Ac pc.length cc).ownBlock = some k) w4 (w8.setCell ⟨g, 4, none⟩ (.slice (some ⟨g8, 0, none⟩) (pc.length + 1) cap8)) := (k5.mono (fun _ h => .inl h)).trans (KF.mono (fun _ h => .inr h))
            have hd3 : PD w3 base (.slice Ac pc.length cc) vs pc ps := hd.kt kB (fun g' cs h e => by subst e; exact h.ne_ hb (by decide) rfl) (fun g' cs h e => by subst e; exact h.ne_ hb (by decide) rfl) (fun g' cs h e => by subst e; exact h.ne_ hb (by decide) rfl)
            have K3 : Kp (fun k => k = w.heap.size ∨ k = g ∨ (Value.slice Ac pc.length cc).ownBlock = some k) w3 (w8.setCell ⟨g, 4, none⟩ (.slice (some ⟨g8, 0, none⟩) (pc.length + 1) cap8)) := (hk4.mono (fun _ h => .inr (.inl h))).trans K45
            have b3 := hpb3.1
            have hs3 := kB.size
            have avo : ∀ t, t ≠ 108 → t ≠ 71 → ∀ g' cs, Blk w3 g' t cs → ¬ (g' = w.heap.size ∨ g' = g ∨ (Value.slice Ac pc.length cc).ownBlock = some g') := by
              rintro t h1 h2 g' cs h (e | e | e)
              · subst e; exact h.ne_ e3 h2 rfl
              · subst e; exact h.ne_ b3 h1 rfl
              · exact own_blk_ne hd3.oc h (Ne.symm h2) e
            have avo5 : ∀ t, t ≠ 108 → t ≠ 71 → ∀ g' cs, Blk W5 g' t cs → ¬ (g' = g ∨ (Value.slice Ac pc.length cc).ownBlock = some g') := by
              rintro t h1 h2 g' cs h (e | e)
              · subst e; exact h.ne_ b5 h1 rfl
              · exact own_blk_ne hoc5 h (Ne.symm h2) e
            have hown9 := own_setCell (p := ⟨g, 4, none⟩) (u := .slice (some ⟨g8, 0, none⟩) (pc.length + 1) cap8) hown8 (own_blk_ne hown8 d8 (by decide))
            have d9 := d8.set_ 4 (.slice (some ⟨g8, 0, none⟩) (pc.length + 1) cap8)
            go_end0
            refine .inr ⟨(⟨s, l, p⟩, .slice Av l.length cv), t2, r2, A4, c4, .slice (some ⟨g8, 0, none⟩) (pc.length + 1) cap8, HB.out, ht2, rfl, ⟨by simpa using d9, hpb5.2.1.kt KF (avo5 42 (by decide) (by decide)), hpb5.2.2⟩, ?_, ?_⟩
            · refine hd3.addc K3 (avo 47 (by decide) (by decide)) (avo 73 (by decide) (by decide)) ?_ (ho5.kt KF (avo5 47 (by decide) (by decide))) (by omega) hsz
              rw [tris_append]
              exact hown9
            · exact (kC.mono (fun _ h => .inl h)).trans' K45 (fun i hi h => by
                rcases h with h | h
                · omega
                · exact h)
  · have HB := Lib.hid (show classR d ((k, s, p) :: r) = .error (p, 60) by rw [classR, if_neg (fun h => hk1 h.1)])
    have WN := Lib.hid (fun W h => word_none W g (.slice A r.length c) k s p vc vs hk1 h)
    unfold faultE at WN
    go_enter Tryd.func93, Tryd.ntmps93
    go_wp2_with fail
    go_region_with (go_at_call 91; refine (WN.out _ (by first | exact hb.drew | exact (hb.alloc _).drew)).mono ?_; rintro e w1 ⟨rfl, rfl⟩; refine way_out (P := Tryd.prog) (w := w) ⟨rfl, ClassPost.bad HB.out (by first | exact (Kp.refl _ _).drew | exact ((Kp.refl _ _).alloc _).drew)⟩ ?_)
    all_goals trivial
end Go.Proofs.YtobofhiakgohfaaDoor
