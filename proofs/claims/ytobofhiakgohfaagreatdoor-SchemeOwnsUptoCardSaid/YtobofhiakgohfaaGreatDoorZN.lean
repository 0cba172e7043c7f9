/- descr: the parser's class. descr: Parse's deferred closure. descr: the parser's shape. -/
import Derived.Test.YtobofhiakgohfaaGreatDoorZL
import Derived.Deep.DeepCutAuto
import Derived.Test.YtobofhiakgohfaaGreatDoorZE
import Derived.RecoverIn
import Derived.RegionIn
import Derived.Test.YtobofhiakgohfaaGreatDoorZD
set_option linter.unusedVariables false
set_option linter.unusedSimpArgs false
namespace Go.Proofs.YtobofhiakgohfaaGreatDoor
open Go.RowKit

/-- Two rows lie apart. -/
def Apart (a b : Option Nat) : Prop := ∀ g, a = some g → b ≠ some g
/-- A description's lists, of the call's own, each in a block of its own. -/
structure PD (w : World) (base : Nat) (vc vs : Value) (pc : List (ClassD × Value)) (ps : List (ShapeD × Value)) : Prop where
  oc : w.ownsRow base 51 3 vc pc.length (tris ctri pc)
  os : w.ownsRow base 90 3 vs ps.length (tris stri ps)
  ci : ∀ x ∈ pc, OItemsV w base x.2 x.1.its ∧ x.1.nm.size ≤ 1048576
  si : ∀ x ∈ ps, OItemsV w base x.2 x.1.its ∧ -9223372036854775808 ≤ x.1.first ∧ x.1.first ≤ 9223372036854775807
  ap : ((pc.map fun x => x.2.ownBlock) ++ (ps.map fun x => x.2.ownBlock)).Pairwise Apart
theorem PD.kt {S : Nat → Prop} {w w' : World} {base : Nat} {vc vs : Value} {pc : List (ClassD × Value)} {ps : List (ShapeD × Value)} (h : PD w base vc vs pc ps) (hk : Kp S w w')
    (h1 : ∀ g cs, Blk w g 53 cs → ¬ S g) (h2 : ∀ g cs, Blk w g 51 cs → ¬ S g) (h3 : ∀ g cs, Blk w g 90 cs → ¬ S g) : PD w' base vc vs pc ps :=
  ⟨own_kt h.oc hk h2, own_kt h.os hk h3, fun x hx => ⟨(h.ci x hx).1.kt hk h1, (h.ci x hx).2⟩, fun x hx => ⟨(h.si x hx).1.kt hk h1, (h.si x hx).2⟩, h.ap⟩
theorem PD.k0 {w w' : World} {base : Nat} {vc vs : Value} {pc : List (ClassD × Value)} {ps : List (ShapeD × Value)} (h : PD w base vc vs pc ps) (hk : K0 w w') : PD w' base vc vs pc ps :=
  h.kt hk (fun _ _ _ h => h) (fun _ _ _ h => h) (fun _ _ _ h => h)
theorem OItemsV.mono {w : World} {b b' : Nat} {v : Value} {l : List ItemD} (h : OItemsV w b v l) (hb : b' ≤ b) : OItemsV w b' v l := ⟨own_mono h.1 hb, h.2⟩
/-- A class more. -/
theorem PD.addc {S : Nat → Prop} {w w' : World} {base : Nat} {vc vc' vs : Value} {pc : List (ClassD × Value)} {ps : List (ShapeD × Value)} {x : ClassD × Value} (h : PD w base vc vs pc ps) (hk : Kp S w w')
    (h1 : ∀ g cs, Blk w g 53 cs → ¬ S g) (h3 : ∀ g cs, Blk w g 90 cs → ¬ S g) (hoc : w'.ownsRow base 51 3 vc' (pc.length + 1) (tris ctri (pc ++ [x])))
    (hit : OItemsV w' w.heap.size x.2 x.1.its) (hb : base ≤ w.heap.size) (hx : x.1.nm.size ≤ 1048576) : PD w' base vc' vs (pc ++ [x]) ps := by
  have nb : ∀ (y : Option Nat), (∃ z ∈ pc, y = z.2.ownBlock) ∨ (∃ z ∈ ps, y = z.2.ownBlock) → ∀ g, y = some g → g < w.heap.size := by
    rintro y (⟨z, hz, rfl⟩ | ⟨z, hz, rfl⟩) g hg
    · exact ((h.ci z hz).1.1.lt g hg).2
    · exact ((h.si z hz).1.1.lt g hg).2
  refine ⟨by rw [List.length_append, List.length_singleton]; exact hoc, own_kt h.os hk h3, fun y hy => ?_, fun y hy => ⟨(h.si y hy).1.kt hk h1, (h.si y hy).2⟩, ?_⟩
  · rcases List.mem_append.1 hy with hy | hy
    · exact ⟨(h.ci y hy).1.kt hk h1, (h.ci y hy).2⟩
    · simp only [List.mem_singleton] at hy
      subst hy
      exact ⟨hit.mono hb, hx⟩
  · have hap := List.pairwise_append.1 h.ap
    rw [List.map_append, List.pairwise_append, List.pairwise_append]
    refine ⟨⟨hap.1, List.pairwise_singleton _ _, fun a ha b hb2 => ?_⟩, hap.2.1, fun a ha b hb2 => ?_⟩
    · simp only [List.map_cons, List.map_nil, List.mem_singleton] at hb2
      subst hb2
      obtain ⟨z, hz, rfl⟩ := List.mem_map.1 ha
      intro g hg e
      have := nb _ (.inl ⟨z, hz, rfl⟩) g hg
      have := (hit.1.lt g e).1
      omega
    · rcases List.mem_append.1 ha with ha | ha
      · exact hap.2.2 a ha b hb2
      · simp only [List.map_cons, List.map_nil, List.mem_singleton] at ha
        subst ha
        obtain ⟨z, hz, rfl⟩ := List.mem_map.1 hb2
        intro g hg e
        have := nb _ (.inr ⟨z, hz, rfl⟩) g e
        have := (hit.1.lt g hg).1
        omega

/-- A way that leaves a region that draws its order (a callee's panic), closed on the spot: the region's tactic goes on with nothing. -/
theorem way_out {P : Program} {G : Prop} {w : World} (h : G) : wpAny P Region.Mode.any #[] (fun _ _ _ => True) 0 #[] { tmps := #[], defers := [] } w → G := fun _ => h

/-- What class answers. -/
def ClassPost (base g : Nat) (T : TVl) (d : DescD) (vc vs : Value) (pc : List (ClassD × Value)) (ps : List (ShapeD × Value)) (w : World) (e : Ending) (w' : World) : Prop :=
  (∃ p er, classR d T = .error (p, er) ∧ e = faultE p er ∧ Kp (fun k => k = g ∨ vc.ownBlock = some k) w w') ∨
  (∃ x t r A c vc', classR d T = .ok (⟨d.cls ++ [x.1], d.shs⟩, t :: r) ∧ TokOk (t :: r) ∧ e = .returned (.tuple #[]) ∧ PB w' g A c t r vc' vs ∧ PD w' base vc' vs (pc ++ [x]) ps ∧ Kp (fun k => k = g ∨ vc.ownBlock = some k) w w')
theorem ClassPost.bad {base g : Nat} {T : TVl} {d : DescD} {vc vs : Value} {pc : List (ClassD × Value)} {ps : List (ShapeD × Value)} {w w' : World} {p er : Int} (h : classR d T = .error (p, er)) (hk : Kp (fun k => k = g ∨ vc.ownBlock = some k) w w') : ClassPost base g T d vc vs pc ps w (faultE p er) w' := .inl ⟨p, er, h, rfl, hk⟩

set_option maxRecDepth 100000 in
set_option maxHeartbeats 16000000 in
theorem pclass_any (w : World) (base g : Nat) (A : Option Addr) (c : Nat) (t : TV) (r : TVl) (d : DescD) (vc vs : Value) (pc : List (ClassD × Value)) (ps : List (ShapeD × Value)) (ht : TokOk (t :: r)) (hpb : PB w g A c t r vc vs) (hd : PD w base vc vs pc ps) (hbase : base ≤ w.heap.size) (hn : pc.length < 32) :
    Calls Tryz.prog 64 #[.pointer (some ⟨g, 0, none⟩)] w (ClassPost base g (t :: r) d vc vs pc ps w) := by
  obtain ⟨i1, hj, hy0, hy1, hy2⟩ := info71'
  obtain ⟨k, s, p⟩ := t
  have hb := hpb.1
  simp only [] at hb
  have c3 := hb.cell 3
  have hl := hb.lt
  simp at c3
  by_cases hk1 : k = 1
  · subst hk1
    obtain ⟨htr, hsz, t', r', rfl⟩ := ht.next rfl
    simp only [] at hsz
    have WO := Lib.hid (fun W h => word_one W g (.slice A (t' :: r').length c) s p vc vs h)
    have NA := Lib.hid (fun W => name_any s W (by omega))
    have ST := Lib.hid (fun W A c h => step_any W g A c (1, s, p) t' r' vc vs h)
    have FA := Lib.hid (fun W e h => fail_any W g (.slice A (t' :: r').length c) (.int .i64 1) (.string s) p vc vs e h)
    unfold faultE at FA
    obtain ⟨W1, hW1⟩ : ∃ W1, W1 = (w.alloc (.cells #[.string s, .slice none 0 0, .int .i64 p] 51)).drew := ⟨_, rfl⟩
    have k1 : K0 w W1 := by rw [hW1]; exact ((Kp.refl _ _).alloc _).drew
    have e1 : Blk W1 w.heap.size 51 #[.string s, .slice none 0 0, .int .i64 p] := by rw [hW1]; exact (Blk.new _ _ _).drew
    have y0 := e1.cell 0
    have yl := e1.lt
    simp at y0
    have HW := Lib.hid hW1
    clear hW1
    go_enter Tryz.func64, Tryz.ntmps64
    go_upto_region 0 with fail
    go_cut [2] (fun s2 wx => s2 = .pointer (some ⟨w.heap.size, 0, none⟩) ∧ wx = W1)
    case first =>
      go_region_with (go_at_call 62; refine (WO.out _ (by first | exact hb.drew | exact (hb.alloc _).drew)).mono ?_; rintro e w1 ⟨rfl, rfl⟩)
      all_goals (go_wp2_with fail; go_meet; exact ⟨rfl, HW.out.symm⟩)
    case rest =>
      obtain ⟨rfl, rfl⟩ := hcut
      cases hnm : nameB s.data.toList with
      | false =>
        rw [hnm] at NA
        have HB := Lib.hid (show classR d ((1, s, p) :: t' :: r') = .error (p, 60) by rw [classR, if_neg (by rintro ⟨_, h⟩; rw [hnm] at h; cases h)])
        clear hnm
        go_wp2_with (first
          | (go_at_call 34; refine (NA.out _).mono ?_; rintro e w2 ⟨rfl, hk2⟩; have kA := k1.trans hk2)
          | (go_at_call 63; refine (FA.out _ _ (by exact hb.kp kA (fun h => h))).mono ?_; rintro e w3 ⟨rfl, rfl⟩))
        exact ⟨rfl, ClassPost.bad HB.out (K0.kp kA)⟩
      | true =>
        rw [hnm] at NA
        have hcl := show classR d ((1, s, p) :: t' :: r') = match itemsR 32 [] [] (t' :: r') with
          | .error e => .error e
          | .ok (l, T) => .ok (⟨d.cls ++ [⟨s, l, p⟩], d.shs⟩, T) by
            rw [classR, if_pos ⟨rfl, hnm⟩]
            cases itemsR 32 [] [] (t' :: r') <;> rfl
        have HCL := Lib.hid hcl
        clear hnm hcl
        go_wp2_with (first
          | (go_at_call 34; refine (NA.out _).mono ?_; rintro e w2 ⟨rfl, hk2⟩; have kA := k1.trans hk2; have hpb2 := hpb.k0 kA)
          | (go_at_call 30; refine (ST.out _ _ _ hpb2).mono ?_; rintro e w3 ⟨rfl, ⟨A3, c3', hpb3⟩, hk3⟩; have e3 := (e1.kp hk2 (fun h => h)).kp hk3 (fun h => by omega)))
        have kB : K1 g w w3 := (K0.kp kA).trans hk3
        go_wp2_with fail
        refine (pitems_any w3 g A3 c3' t' r' vc vs 32 ⟨#[]⟩ (by omega) (by omega) htr hpb3).mono ?_
        rintro e w4 h
        rcases h with ⟨p', er, hE, he, hk4⟩ | ⟨l, t2, r2, v, A4, c4, hE, ht2, he, hpb4, ho4, hl4, hk4⟩
        · unfold faultE at he
          subst he
          have HB := Lib.hid (HCL.out.trans (by rw [hE]) : classR d ((1, s, p) :: t' :: r') = .error (p', er))
          clear hE
          go_wp2
          exact ⟨rfl, ClassPost.bad HB.out ((kB.trans hk4).mono (fun _ h => .inl h))⟩
        · subst he
          have HB := Lib.hid (HCL.out.trans (by rw [hE]) : classR d ((1, s, p) :: t' :: r') = .ok (⟨d.cls ++ [⟨s, l, p⟩], d.shs⟩, t2 :: r2))
          clear hE
          obtain ⟨Av, cv, rfl, hv1, hv2⟩ := own_form ho4.1
          have e4 := e3.kp hk4 (fun h => by omega)
          have x0 := e4.cell 0
          have x1 := e4.cell 1
          have x2 := e4.cell 2
          have xf := e4.frozen 1
          have xl := e4.lt
          have b4 := hpb4.1
          have z4 := b4.cell 4
          have zf := b4.frozen 4
          have zl := b4.lt
          simp at x0 x1 x2 z4
          obtain ⟨Ac, cc, rfl, hc1, hc2⟩ := own_form hd.oc
          have kC : K1 g w w4 := kB.trans hk4
          have hd4 : PD w4 base (.slice Ac pc.length cc) vs pc ps := hd.kt kC (fun g' cs h e => by subst e; exact h.ne_ hb (by decide) rfl) (fun g' cs h e => by subst e; exact h.ne_ hb (by decide) rfl) (fun g' cs h e => by subst e; exact h.ne_ hb (by decide) rfl)
          obtain ⟨W5, hW5⟩ : ∃ W5, W5 = w4.setCell ⟨w.heap.size, 1, none⟩ (.slice Av l.length cv) := ⟨_, rfl⟩
          have k5 : Kp (fun k => k = w.heap.size) w4 W5 := by rw [hW5]; exact (Kp.refl (fun k => k = w.heap.size) _).setCell (p := ⟨w.heap.size, 1, none⟩) (.inr rfl) _
          have av : ∀ t cs, t ≠ 51 → ∀ g, Blk w4 g t cs → ¬ g = w.heap.size := fun t cs ht g h e => by subst e; exact ht (by unfold Blk at h e4; rw [e4] at h; injection h with h; injection h with _ h; exact h.symm)
          have hpb5 : PB W5 g A4 c4 t2 r2 (.slice Ac pc.length cc) vs := hpb4.kt k5 (fun g cs h => av _ _ (by decide) g h) (by omega)
          have b5 := hpb5.1
          have z4 := b5.cell 4
          have zf := b5.frozen 4
          have zl := b5.lt
          have e5 : Blk W5 w.heap.size 51 #[.string s, .slice Av l.length cv, .int .i64 p] := by
            have := e4.set_ 1 (.slice Av l.length cv)
            rw [hW5]
            simpa using this
          have x0' := e5.cell 0
          have x1' := e5.cell 1
          have x2' := e5.cell 2
          have xl' := e5.lt
          simp at x0' x1' x2' z4
          have hoc5 : W5.ownsRow base 51 3 (.slice Ac pc.length cc) pc.length (tris ctri pc) := by
            rw [hW5]
            exact own_setCell hd4.oc (fun e => by have := (hd.oc.lt _ e).2; simp at this)
          have ho5 : OItemsV W5 w3.heap.size (.slice Av l.length cv) l := ho4.kt k5 (fun g cs h => av _ _ (by decide) g h)
          have HW5 := Lib.hid hW5
          clear hW5
          have hs5 := k5.size
          have hs4 := kC.size
          go_wp2
          rw [← HW5.out]
          go_region_law (refine step_append_lies _ rfl (.tmp 27) (.tmp 29) 39 rfl base 51 i1 _ 3 48 Tryz.underlying39 hj hy0 hy1 hy2 rfl (by omega) (.slice Ac pc.length cc) pc.length (tris ctri pc) (by simp [Act.eval, Act.put]) (by exact hoc5.alloc _) ⟨W5.heap.size, 0, none⟩ 1 1 [.string s, .slice Av l.length cv, .int .i64 p] (by simp [Act.eval, Act.put]) rfl (by exact World.news_of_block (cs := #[.string s, .slice Av l.length cv, .int .i64 p]) (t := 51) (fr := (0, 0)) (heap_alloc_new W5 _)) (by simp [Value.oneCell']) (by omega) (by simp only [maxLen]; omega) (by omega) (by simp; omega) (W5.heap.size + 1) (by simp) ?_; intro g8 cap8 w8 hown8 hg8 hat8 hlt8; have d8 := (b5.alloc (.cells #[.string s, .slice Av l.length cv, .int .i64 p] 51)).drew.grown hg8 (Ne.symm (own_blk_ne hoc5 b5 (by decide))); have d80 := d8.cell 4; have d8f := d8.frozen 4; have d8l := d8.lt; simp at d80)
          all_goals
            have K8 : Kp (fun k => (Value.slice Ac pc.length cc).ownBlock = some k) W5 w8 := ((Kp.refl _ W5).alloc _).drew.grown hg8 (fun k hk => .inr hk)
            have KF : Kp (fun k => k = g ∨ (Value.slice Ac pc.length cc).ownBlock = some k) W5 (w8.setCell ⟨g, 4, none⟩ (.slice (some ⟨g8, 0, none⟩) (pc.length + 1) cap8)) := (K8.mono (fun _ h => .inr h)).setCell (p := ⟨g, 4, none⟩) (.inr (.inl rfl)) _
            have K45 : Kp (fun k => k = w.heap.size ∨ k = g ∨ (Value.slice Ac pc.length cc).ownBlock = some k) w4 (w8.setCell ⟨g, 4, none⟩ (.slice (some ⟨g8, 0, none⟩) (pc.length + 1) cap8)) := (k5.mono (fun _ h => .inl h)).trans (KF.mono (fun _ h => .inr h))
            have hd3 : PD w3 base (.slice Ac pc.length cc) vs pc ps := hd.kt kB (fun g' cs h e => by subst e; exact h.ne_ hb (by decide) rfl) (fun g' cs h e => by subst e; exact h.ne_ hb (by decide) rfl) (fun g' cs h e => by subst e; exact h.ne_ hb (by decide) rfl)
            have K3 : Kp (fun k => k = w.heap.size ∨ k = g ∨ (Value.slice Ac pc.length cc).ownBlock = some k) w3 (w8.setCell ⟨g, 4, none⟩ (.slice (some ⟨g8, 0, none⟩) (pc.length + 1) cap8)) := (hk4.mono (fun _ h => .inr (.inl h))).trans K45
            have b3 := hpb3.1
            have hs3 := kB.size
            have avo : ∀ t, t ≠ 75 → t ≠ 51 → ∀ g' cs, Blk w3 g' t cs → ¬ (g' = w.heap.size ∨ g' = g ∨ (Value.slice Ac pc.length cc).ownBlock = some g') := by
              rintro t h1 h2 g' cs h (e | e | e)
              · subst e; exact h.ne_ e3 h2 rfl
              · subst e; exact h.ne_ b3 h1 rfl
              · exact own_blk_ne hd3.oc h (Ne.symm h2) e
            have avo5 : ∀ t, t ≠ 75 → t ≠ 51 → ∀ g' cs, Blk W5 g' t cs → ¬ (g' = g ∨ (Value.slice Ac pc.length cc).ownBlock = some g') := by
              rintro t h1 h2 g' cs h (e | e)
              · subst e; exact h.ne_ b5 h1 rfl
              · exact own_blk_ne hoc5 h (Ne.symm h2) e
            have hown9 := own_setCell (p := ⟨g, 4, none⟩) (u := .slice (some ⟨g8, 0, none⟩) (pc.length + 1) cap8) hown8 (own_blk_ne hown8 d8 (by decide))
            have d9 := d8.set_ 4 (.slice (some ⟨g8, 0, none⟩) (pc.length + 1) cap8)
            go_end0
            refine .inr ⟨(⟨s, l, p⟩, .slice Av l.length cv), t2, r2, A4, c4, .slice (some ⟨g8, 0, none⟩) (pc.length + 1) cap8, HB.out, ht2, rfl, ⟨by simpa using d9, hpb5.2.1.kt KF (avo5 73 (by decide) (by decide)), hpb5.2.2⟩, ?_, ?_⟩
            · refine hd3.addc K3 (avo 53 (by decide) (by decide)) (avo 90 (by decide) (by decide)) ?_ (ho5.kt KF (avo5 53 (by decide) (by decide))) (by omega) hsz
              rw [tris_append]
              exact hown9
            · exact (kC.mono (fun _ h => .inl h)).trans' K45 (fun i hi h => by
                rcases h with h | h
                · omega
                · exact h)
  · have HB := Lib.hid (show classR d ((k, s, p) :: r) = .error (p, 60) by rw [classR, if_neg (fun h => hk1 h.1)])
    have WN := Lib.hid (fun W h => word_none W g (.slice A r.length c) k s p vc vs hk1 h)
    unfold faultE at WN
    go_enter Tryz.func64, Tryz.ntmps64
    go_wp2_with fail
    go_region_with (go_at_call 62; refine (WN.out _ (by first | exact hb.drew | exact (hb.alloc _).drew)).mono ?_; rintro e w1 ⟨rfl, rfl⟩; refine way_out (P := Tryz.prog) (w := w) ⟨rfl, ClassPost.bad HB.out (by first | exact (Kp.refl _ _).drew | exact ((Kp.refl _ _).alloc _).drew)⟩ ?_)
    all_goals trivial
end Go.Proofs.YtobofhiakgohfaaGreatDoor

namespace Go.Proofs.YtobofhiakgohfaaGreatDoor
open Go.RowKit Go.Shelf
attribute [local go_sem] Oper.semAt_some

theorem wpIn_weak {F : Fence} {n : Nat} {P : Program} {c : Code} {Q Q' : Exit → Act → World → Prop} {a : Act} {w : World} (h : c.wpIn F n P Q' a w) (hq : ∀ e a' w', Q' e a' w' → Q e a' w') : c.wpIn F n P Q a w :=
  fun b k cs h1 h2 h3 => let ⟨e, a', w', q, r⟩ := h b k cs h1 h2 h3; ⟨e, a', w', hq _ _ _ q, r⟩

def IdleQ (w : World) (e : Exit) (a' : Act) (w' : World) : Prop := e = .normal ∧ a'.defers = [] ∧ w' = w
set_option maxRecDepth 100000 in
theorem closure_idle (n : Nat) (b2 b3 b4 : Addr) (w : World) :
    CallsDIn Fence.wide n Tryz.prog 28 #[.pointer (some b2), .pointer (some b3), .pointer (some b4)] .returning w fun e u' w' => e = .returned (.tuple #[]) ∧ u' = .returning ∧ w' = w := by
  refine callsDIn_of_wpSIn Tryz.func28 rfl trivial fun c₀ cs hu => ?_
  apply wpSIn_seq
  apply wpSIn_region
  simp [wpOpsSIn, go_sem, recoverD, hu, Tryz.ntmps28, Exit.thenS]
  refine wpSIn_of_wpIn rfl ?_
  refine wpIn_weak (Q' := IdleQ w) ?_ ?_
  · clear hu
    have hnil : ∀ w : World, (binOp BinOp.eql 20 .nilIface .nilIface).run Tryz.prog w = .ok (.bool true) w := fun _ => by kernel_rfl
    refine wpIn_block ?_
    refine wpIn_seq ?_
    refine wpIn_region_lit ?_
    simp [wpListIn, go_sem, hnil]
    refine wpIn_cond_true (by simp [Act.eval, Array.replicate]) ?_
    refine wpIn_region_lit ?_
    simp [wpListIn, go_sem, IdleQ, Exit.inBlock]
  · rintro e a' w' ⟨rfl, h1, rfl⟩
    cases c₀
    simp only [] at hu
    subst hu
    exact ⟨h1, .returning, rfl, .tuple #[], results_none rfl _ _ _, rfl, rfl, rfl⟩
/-- What the closure leaves behind a fault. -/
def CaughtQ (b2 b3 b4 : Nat) (p er : Int) (w : World) (e : Exit) (a' : Act) (w' : World) : Prop :=
  e = .normal ∧ a'.defers = [] ∧ Blk w' b2 42 #[.slice none 0 0, .slice none 0 0] ∧ Blk w' b3 3 #[.int .i64 p] ∧ Blk w' b4 26 #[.int .i64 er] ∧ Kp (fun k => k = b2 ∨ k = b3 ∨ k = b4) w w'

set_option maxRecDepth 100000 in
theorem closure_caught (n : Nat) (b2 b3 b4 : Nat) (x y z q : Value) (p er : Int) (older : List PanicEntry) (w : World) (h2 : Blk w b2 42 #[x, y]) (h3 : Blk w b3 3 #[z]) (h4 : Blk w b4 26 #[q]) :
    CallsDIn Fence.wide n Tryz.prog 28 #[.pointer (some ⟨b2, 0, none⟩), .pointer (some ⟨b3, 0, none⟩), .pointer (some ⟨b4, 0, none⟩)] (.panicking ({ v := .iface 68 (.agg #[.int .i64 p, .int .i64 er]), recovered := false } :: older)) w fun e u' w' =>
      e = .returned (.tuple #[]) ∧ u' = .panicking ({ v := .iface 68 (.agg #[.int .i64 p, .int .i64 er]), recovered := true } :: older) ∧
      Blk w' b2 42 #[.slice none 0 0, .slice none 0 0] ∧ Blk w' b3 3 #[.int .i64 p] ∧ Blk w' b4 26 #[.int .i64 er] ∧ Kp (fun k => k = b2 ∨ k = b3 ∨ k = b4) w w' := by
  have n23 := h2.ne_ h3 (by decide)
  have n24 := h2.ne_ h4 (by decide)
  have n34 := h3.ne_ h4 (by decide)
  have l2 := h2.lt
  have l3 := h3.lt
  have l4 := h4.lt
  have c20 := h2.cell 0
  have c21 := h2.cell 1
  have c3 := h3.cell 0
  have c4 := h4.cell 0
  have f20 := h2.frozen 0
  have f21 := h2.frozen 1
  have f3 := h3.frozen 0
  have f4 := h4.frozen 0
  simp at c20 c21 c3 c4
  refine callsDIn_of_wpSIn Tryz.func28 rfl trivial fun c₀ cs hu => ?_
  apply wpSIn_seq
  apply wpSIn_region
  simp [wpOpsSIn, go_sem, recoverD, hu, Tryz.ntmps28, Exit.thenS]
  refine wpSIn_of_wpIn rfl ?_
  refine wpIn_weak (Q' := CaughtQ b2 b3 b4 p er w) ?_ ?_
  · clear hu
    have hnil : ∀ w : World, (binOp BinOp.eql 20 (.iface 68 (.agg #[.int .i64 p, .int .i64 er])) .nilIface).run Tryz.prog w = .ok (.bool false) w := fun _ => by kernel_rfl
    have hta : ∀ w : World, (Instr.typeAssert (.iface 68 (.agg #[.int .i64 p, .int .i64 er])) 20 68 true).run Tryz.prog w = .ok (.tuple #[.agg #[.int .i64 p, .int .i64 er], .bool true]) w := fun _ => by kernel_rfl
    refine wpIn_block ?_
    refine wpIn_seq ?_
    refine wpIn_region_lit ?_
    simp [wpListIn, go_sem, hnil]
    refine wpIn_cond_false (by simp [Act.eval, Array.replicate]) ?_
    refine wpIn_seq ?_
    refine wpIn_region_lit ?_
    simp [wpListIn, go_sem, hta]
    refine wpIn_cond_true (by simp [Act.eval, Array.replicate]) ?_
    refine wpIn_seq ?_
    refine wpIn_region_lit ?_
    simp [wpListIn, go_sem]
    have F2 := Lib.hid (((((h2.set_ 0 (.slice none 0 0)).set_ 1 (.slice none 0 0)).far (p := ⟨b3, 0, none⟩) n23 (.int .i64 p)).far (p := ⟨b4, 0, none⟩) n24 (.int .i64 er)).alloc (.cells #[.int .i64 p, .int .i64 er] 68)).drew
    have F3 := Lib.hid (((((h3.far (p := ⟨b2, 0, none⟩) (Ne.symm n23) (.slice none 0 0)).far (p := ⟨b2, 1, none⟩) (Ne.symm n23) (.slice none 0 0)).set_ 0 (.int .i64 p)).far (p := ⟨b4, 0, none⟩) n34 (.int .i64 er)).alloc (.cells #[.int .i64 p, .int .i64 er] 68)).drew
    have F4 := Lib.hid (((((h4.far (p := ⟨b2, 0, none⟩) (Ne.symm n24) (.slice none 0 0)).far (p := ⟨b2, 1, none⟩) (Ne.symm n24) (.slice none 0 0)).far (p := ⟨b3, 0, none⟩) (Ne.symm n34) (.int .i64 p)).set_ 0 (.int .i64 er)).alloc (.cells #[.int .i64 p, .int .i64 er] 68)).drew
    have FK := Lib.hid ((((((Kp.refl (fun k => k = b2 ∨ k = b3 ∨ k = b4) w).setCell (p := ⟨b2, 0, none⟩) (.inr (.inl rfl)) (.slice none 0 0)).setCell (p := ⟨b2, 1, none⟩) (.inr (.inl rfl)) (.slice none 0 0)).setCell (p := ⟨b3, 0, none⟩) (.inr (.inr (.inl rfl))) (.int .i64 p)).setCell (p := ⟨b4, 0, none⟩) (.inr (.inr (.inr rfl))) (.int .i64 er)).alloc (.cells #[.int .i64 p, .int .i64 er] 68)).drew
    clear h2 h3 h4
    gi_region
    all_goals exact ⟨rfl, rfl, F2.out, F3.out, F4.out, FK.out⟩
  · rintro e a' w' ⟨rfl, h1, h2, h3, h4, hk⟩
    cases c₀
    simp only [] at hu
    subst hu
    exact ⟨h1, _, rfl, .tuple #[], results_none rfl _ _ _, rfl, rfl, h2, h3, h4, hk⟩
end Go.Proofs.YtobofhiakgohfaaGreatDoor

namespace Go.Proofs.YtobofhiakgohfaaGreatDoor
open Go.RowKit

/-- A shape more. -/
theorem PD.adds {S : Nat → Prop} {w w' : World} {base : Nat} {vc vs vs' : Value} {pc : List (ClassD × Value)} {ps : List (ShapeD × Value)} {x : ShapeD × Value} (h : PD w base vc vs pc ps) (hk : Kp S w w')
    (h1 : ∀ g cs, Blk w g 53 cs → ¬ S g) (h3 : ∀ g cs, Blk w g 51 cs → ¬ S g) (hos : w'.ownsRow base 90 3 vs' (ps.length + 1) (tris stri (ps ++ [x])))
    (hit : OItemsV w' w.heap.size x.2 x.1.its) (hb : base ≤ w.heap.size) (hx : -9223372036854775808 ≤ x.1.first ∧ x.1.first ≤ 9223372036854775807) : PD w' base vc vs' pc (ps ++ [x]) := by
  have nb : ∀ (y : Option Nat), (∃ z ∈ pc, y = z.2.ownBlock) ∨ (∃ z ∈ ps, y = z.2.ownBlock) → ∀ g, y = some g → g < w.heap.size := by
    rintro y (⟨z, hz, rfl⟩ | ⟨z, hz, rfl⟩) g hg
    · exact ((h.ci z hz).1.1.lt g hg).2
    · exact ((h.si z hz).1.1.lt g hg).2
  refine ⟨own_kt h.oc hk h3, by rw [List.length_append, List.length_singleton]; exact hos, fun y hy => ⟨(h.ci y hy).1.kt hk h1, (h.ci y hy).2⟩, fun y hy => ?_, ?_⟩
  · rcases List.mem_append.1 hy with hy | hy
    · exact ⟨(h.si y hy).1.kt hk h1, (h.si y hy).2⟩
    · simp only [List.mem_singleton] at hy
      subst hy
      exact ⟨hit.mono hb, hx⟩
  · rw [List.map_append, ← List.append_assoc, List.pairwise_append]
    refine ⟨h.ap, List.pairwise_singleton _ _, fun a ha b hb2 => ?_⟩
    simp only [List.map_cons, List.map_nil, List.mem_singleton] at hb2
    subst hb2
    intro g hg e
    have hlt : g < w.heap.size := by
      rcases List.mem_append.1 ha with ha | ha
      · obtain ⟨z, hz, rfl⟩ := List.mem_map.1 ha
        exact nb _ (.inl ⟨z, hz, rfl⟩) g hg
      · obtain ⟨z, hz, rfl⟩ := List.mem_map.1 ha
        exact nb _ (.inr ⟨z, hz, rfl⟩) g hg
    have := (hit.1.lt g e).1
    omega

/-- What shape answers. -/
def ShapePost (base g : Nat) (T : TVl) (d : DescD) (vc vs : Value) (pc : List (ClassD × Value)) (ps : List (ShapeD × Value)) (w : World) (e : Ending) (w' : World) : Prop :=
  (∃ p er, shapeR d T = .error (p, er) ∧ e = faultE p er ∧ Kp (fun k => k = g ∨ vs.ownBlock = some k) w w') ∨
  (∃ x t r A c vs', shapeR d T = .ok (⟨d.cls, d.shs ++ [x.1]⟩, t :: r) ∧ TokOk (t :: r) ∧ e = .returned (.tuple #[]) ∧ PB w' g A c t r vc vs' ∧ PD w' base vc vs' pc (ps ++ [x]) ∧ Kp (fun k => k = g ∨ vs.ownBlock = some k) w w')
theorem ShapePost.bad {base g : Nat} {T : TVl} {d : DescD} {vc vs : Value} {pc : List (ClassD × Value)} {ps : List (ShapeD × Value)} {w w' : World} {p er : Int} (h : shapeR d T = .error (p, er)) (hk : Kp (fun k => k = g ∨ vs.ownBlock = some k) w w') : ShapePost base g T d vc vs pc ps w (faultE p er) w' := .inl ⟨p, er, h, rfl, hk⟩

theorem shapeR_items {d : DescD} {T : TVl} {l : List ItemD} {T' : TVl} (h : itemsR 8 bAt [] T = .ok (l, T')) : shapeR d T = atR d l T' := by
  unfold shapeR
  rw [h]
theorem shapeR_bad {d : DescD} {T : TVl} {e : Int × Int} (h : itemsR 8 bAt [] T = .error e) : shapeR d T = .error e := by
  unfold shapeR
  rw [h]

set_option maxRecDepth 100000 in
set_option maxHeartbeats 16000000 in
theorem pshape_any (w : World) (base g : Nat) (A : Option Addr) (c : Nat) (t : TV) (r : TVl) (d : DescD) (vc vs : Value) (pc : List (ClassD × Value)) (ps : List (ShapeD × Value)) (ht : TokOk (t :: r)) (hpb : PB w g A c t r vc vs) (hd : PD w base vc vs pc ps) (hbase : base ≤ w.heap.size) (hn : ps.length < 32) :
    Calls Tryz.prog 65 #[.pointer (some ⟨g, 0, none⟩)] w (ShapePost base g (t :: r) d vc vs pc ps w) := by
  obtain ⟨i1, hj, hy0, hy1, hy2⟩ := info73'
  obtain ⟨T, hT⟩ : ∃ T, T = t :: r := ⟨_, rfl⟩
  have IT := Lib.hid (pitems_any w g A c t r vc vs 8 ⟨#[97, 116]⟩ (by omega) (by omega) ht hpb)
  rw [← hT] at IT ⊢
  have hb := hpb.1
  have hl := hb.lt
  clear hT ht
  go_enter Tryz.func65, Tryz.ntmps65
  go_wp2_with fail
  refine IT.out.mono ?_
  rintro e w1 h
  rcases h with ⟨p', er, hE, he, hk1⟩ | ⟨l, ⟨k, s, p⟩, r1, v, A1, c1, hE, ht1, he, hpb1, ho1, hl1, hk1⟩
  · unfold faultE at he
    subst he
    have HB := Lib.hid (shapeR_bad (d := d) hE)
    clear hE
    go_wp2
    exact ⟨rfl, ShapePost.bad HB.out (hk1.mono (fun _ h => .inl h))⟩
  subst he
  have HC := Lib.hid (shapeR_items (d := d) hE)
  clear hE
  obtain ⟨Av, cv, rfl, hv1, hv2⟩ := own_form ho1.1
  have b1 := hpb1.1
  simp only [] at b1
  have b1' := b1.alloc (.cells #[.slice Av l.length cv, .int .i64 0, .int .i64 0] 90)
  have hka : K1 g w (w1.alloc (.cells #[.slice Av l.length cv, .int .i64 0, .int .i64 0] 90)) := hk1.alloc _
  by_cases hkk : k = 1
  · subst hkk
    obtain ⟨htr, hsz, ⟨k2, s2, p2⟩, r2, rfl⟩ := ht1.next rfl
    simp only [] at hsz
    have WO := Lib.hid (fun W h => word_one W g (.slice A1 ((k2, s2, p2) :: r2).length c1) s p vc vs h)
    have ST := Lib.hid (fun W A c h => step_any W g A c (1, s, p) (k2, s2, p2) r2 vc vs h)
    have FA := Lib.hid (fun W e h => fail_any W g (.slice A1 ((k2, s2, p2) :: r2).length c1) (.int .i64 1) (.string s) p vc vs e h)
    unfold faultE at FA
    by_cases hat : s = ⟨#[97, 116]⟩
    · subst hat
      have HC2 := Lib.hid (HC.out.trans (by rw [atR, if_pos ⟨rfl, rfl⟩]) : shapeR d T = numTR d l ((k2, s2, p2) :: r2))
      have e1 := Blk.new w1 90 #[.slice Av l.length cv, .int .i64 0, .int .i64 0]
      go_wp2_with (first
        | (go_at_call 62; refine (WO.out _ (by exact b1')).mono ?_; rintro e w2 ⟨rfl, rfl⟩)
        | (go_at_call 30; refine (ST.out _ _ _ (by exact hpb1.k0 ((Kp.refl (fun _ => False) w1).alloc (.cells #[.slice Av l.length cv, .int .i64 0, .int .i64 0] 90)))).mono ?_; rintro e w3 ⟨rfl, ⟨A3, c3, hpb3⟩, hk3⟩))
      have b3 := hpb3.1
      simp only [] at b3
      have e3 := e1.kp hk3 (fun h => by have := hk1.size; omega)
      have kB : K1 g w w3 := hka.trans hk3
      by_cases hk2 : k2 = 1
      · subst hk2
        obtain ⟨htr2, hsz2, t3, r3, rfl⟩ := htr.next rfl
        have hne := (word_more htr.1 rfl).2
        simp only [] at hsz2 hne
        have WO2 := Lib.hid (fun W h => word_one W g (.slice A3 (t3 :: r3).length c3) s2 p2 vc vs h)
        have ST2 := Lib.hid (fun W A c h => step_any W g A c (1, s2, p2) t3 r3 vc vs h)
        have FA2 := Lib.hid (fun W e h => fail_any W g (.slice A3 (t3 :: r3).length c3) (.int .i64 1) (.string s2) p2 vc vs e h)
        have NU := Lib.hid (fun W => number_any s2 W (by omega) hne)
        unfold faultE at FA2
        unfold NumPost at NU
        cases hn2 : numR s2.data.toList with
        | none =>
          rw [hn2] at NU
          have HB := Lib.hid (HC2.out.trans (by rw [numTR, if_pos rfl]; simp only [hn2]) : shapeR d T = .error (p2, 60))
          clear hn2 hne
          go_wp2_with (first
            | (go_at_call 62; refine (WO2.out _ (by exact b3)).mono ?_; rintro e w2 ⟨rfl, rfl⟩)
            | (go_at_call 88; refine (NU.out _).mono ?_; rintro e w4 ⟨rfl, hk4⟩)
            | (go_at_call 63; refine (FA2.out _ _ (by exact b3.kp hk4 (fun h => h))).mono ?_; rintro e w3 ⟨rfl, rfl⟩))
          exact ⟨rfl, ShapePost.bad HB.out ((kB.trans hk4.kp).mono (fun _ h => .inl h))⟩
        | some n =>
          rw [hn2] at NU
          have HB := Lib.hid (HC2.out.trans (by rw [numTR, if_pos rfl]; simp only [hn2]) : shapeR d T = .ok (⟨d.cls, d.shs ++ [⟨l, (n : Int), p2⟩]⟩, t3 :: r3))
          have hnl := numR_lt hn2
          clear hn2 hne
          simp only [Option.getD_some, Option.isSome_some] at NU
          go_upto_region 7 with (first
            | (go_at_call 62; refine (WO2.out _ (by exact b3)).mono ?_; rintro e w2 ⟨rfl, rfl⟩)
            | (go_at_call 88; refine (NU.out _).mono ?_; rintro e w4 ⟨rfl, hk4⟩; have b4 := b3.kp hk4 (fun h => h); have e4 := e3.kp hk4 (fun h => h); have x3 := b4.cell 3; have l4 := b4.lt; have el4 := e4.lt; have y1 := e4.cell 1; have y2 := e4.cell 2; have f1 := e4.frozen 1; have f2 := e4.frozen 2; simp at x3 y1 y2))
          go_cut [2] (fun s2 wx => s2 = .pointer (some ⟨w1.heap.size, 0, none⟩) ∧ Blk wx w1.heap.size 90 #[.slice Av l.length cv, .int .i64 (n : Int), .int .i64 p2] ∧ Kp (fun k => k = w1.heap.size) w4 wx)
          case first =>
            have z0 := Lib.hid ((e4.set_ 1 (.int .i64 (n : Int))).set_ 2 (.int .i64 p2))
            go_region
            all_goals
              go_wp2_with fail
              go_meet
              refine ⟨rfl, ?_, ?_⟩
              · exact z0.out.drew
              · exact ((((Kp.refl (fun k => k = w1.heap.size) w4).setCell (p := ⟨w1.heap.size, 1, none⟩) (.inr rfl) _).setCell (p := ⟨w1.heap.size, 2, none⟩) (.inr rfl) _)).drew
          case rest =>
            obtain ⟨rfl, e5, k5⟩ := hcut
            have hs1 := hk1.size
            have hs3 := hk3.size
            have hs4 := hk4.size
            have hl1 : w1.heap.size < w3.heap.size := by simp at hs3; omega
            have b4 := b3.kp hk4 (fun h => h)
            have e4 := e3.kp hk4 (fun h => h)
            have hpb5 := (hpb3.k0 hk4).kt k5 (fun g cs h e => by subst e; exact h.ne_ e4 (by decide) rfl) (by omega)
            obtain ⟨Ac, cc, rfl, hc1, hc2⟩ := own_form hd.os
            go_wp2_with (go_at_call 30; refine (ST2.out _ _ _ hpb5).mono ?_; rintro e w6 ⟨rfl, ⟨A6, c6, hpb6⟩, hk6⟩)
            -- what the shape's list and the description are, before the last region
            have b6 := hpb6.1
            have e6 := e5.kp hk6 (fun h => by omega)
            have z5 := b6.cell 5
            have zf := b6.frozen 5
            have zl := b6.lt
            have x0 := e6.cell 0
            have x1 := e6.cell 1
            have x2 := e6.cell 2
            have xl := e6.lt
            simp at z5 x0 x1 x2
            have k16 : Kp (fun k => k = g ∨ k = w1.heap.size) w1 w6 :=
              (((((K0.kp ((Kp.refl (fun _ => False) w1).alloc (.cells #[.slice Av l.length cv, .int .i64 0, .int .i64 0] 90))).trans (hk3.mono (fun _ h => .inl h))).trans (K0.kp hk4)).trans (k5.mono (fun _ h => .inr h))).trans (hk6.mono (fun _ h => .inl h)))
            have hd1 : PD w1 base vc (.slice Ac ps.length cc) pc ps := hd.kt hk1 (fun g' cs h e => by subst e; exact h.ne_ hb (by decide) rfl) (fun g' cs h e => by subst e; exact h.ne_ hb (by decide) rfl) (fun g' cs h e => by subst e; exact h.ne_ hb (by decide) rfl)
            have av1 : ∀ t, t ≠ 75 → ∀ g' cs, Blk w1 g' t cs → ¬ (g' = g ∨ g' = w1.heap.size) := by
              rintro t h1 g' cs h (e | e)
              · subst e; exact h.ne_ b1 h1 rfl
              · have := h.lt; omega
            have ho6 : OItemsV w6 w.heap.size (.slice Av l.length cv) l := ho1.kt k16 (av1 53 (by decide))
            have hos6 : w6.ownsRow base 90 3 (.slice Ac ps.length cc) ps.length (tris stri ps) := own_kt hd1.os k16 (av1 90 (by decide))
            have hs6 := k16.size
            go_wp2
            go_region_law (refine step_append_lies _ rfl (.tmp 40) (.tmp 42) 40 rfl base 90 i1 _ 3 40 Tryz.underlying40 hj hy0 hy1 hy2 rfl (by omega) (.slice Ac ps.length cc) ps.length (tris stri ps) (by simp [Act.eval, Act.put]) (by exact hos6.alloc _) ⟨w6.heap.size, 0, none⟩ 1 1 [.slice Av l.length cv, .int .i64 (n : Int), .int .i64 p2] (by simp [Act.eval, Act.put]) rfl (by exact World.news_of_block (cs := #[.slice Av l.length cv, .int .i64 (n : Int), .int .i64 p2]) (t := 90) (fr := (0, 0)) (heap_alloc_new w6 _)) (by simp [Value.oneCell']) (by omega) (by simp only [maxLen]; omega) (by omega) (by simp; omega) (w6.heap.size + 1) (by simp) ?_; intro g8 cap8 w8 hown8 hg8 hat8 hlt8; have d8 := (b6.alloc (.cells #[.slice Av l.length cv, .int .i64 (n : Int), .int .i64 p2] 90)).drew.grown hg8 (Ne.symm (own_blk_ne hos6 b6 (by decide))); have d80 := d8.cell 5; have d8f := d8.frozen 5; have d8l := d8.lt; simp at d80)
            all_goals
              have K8 : Kp (fun k => (Value.slice Ac ps.length cc).ownBlock = some k) w6 w8 := ((Kp.refl _ w6).alloc _).drew.grown hg8 (fun k hk => .inr hk)
              have KF : Kp (fun k => k = g ∨ (Value.slice Ac ps.length cc).ownBlock = some k) w6 (w8.setCell ⟨g, 5, none⟩ (.slice (some ⟨g8, 0, none⟩) (ps.length + 1) cap8)) := (K8.mono (fun _ h => .inr h)).setCell (p := ⟨g, 5, none⟩) (.inr (.inl rfl)) _
              have K1F : Kp (fun k => k = w1.heap.size ∨ k = g ∨ (Value.slice Ac ps.length cc).ownBlock = some k) w1 (w8.setCell ⟨g, 5, none⟩ (.slice (some ⟨g8, 0, none⟩) (ps.length + 1) cap8)) := (k16.mono (fun _ h => h.elim (fun h => .inr (.inl h)) .inl)).trans (KF.mono (fun _ h => .inr h))
              have avo : ∀ t, t ≠ 75 → t ≠ 90 → ∀ g' cs, Blk w g' t cs → ¬ (g' = g ∨ (Value.slice Ac ps.length cc).ownBlock = some g') := by
                rintro t h1 h2 g' cs h (e | e)
                · subst e; exact h.ne_ hb h1 rfl
                · exact own_blk_ne hd.os h (Ne.symm h2) e
              have avo6 : ∀ t, t ≠ 75 → t ≠ 90 → ∀ g' cs, Blk w6 g' t cs → ¬ (g' = g ∨ (Value.slice Ac ps.length cc).ownBlock = some g') := by
                rintro t h1 h2 g' cs h (e | e)
                · subst e; exact h.ne_ b6 h1 rfl
                · exact own_blk_ne hos6 h (Ne.symm h2) e
              have KW : Kp (fun k => k = g ∨ (Value.slice Ac ps.length cc).ownBlock = some k) w (w8.setCell ⟨g, 5, none⟩ (.slice (some ⟨g8, 0, none⟩) (ps.length + 1) cap8)) :=
                (hk1.mono (fun _ h => .inl h)).trans' K1F (fun i hi h => by
                  rcases h with h | h
                  · omega
                  · exact h)
              have hown9 := own_setCell (p := ⟨g, 5, none⟩) (u := .slice (some ⟨g8, 0, none⟩) (ps.length + 1) cap8) hown8 (own_blk_ne hown8 d8 (by decide))
              have d9 := d8.set_ 5 (.slice (some ⟨g8, 0, none⟩) (ps.length + 1) cap8)
              go_end0
              refine .inr ⟨(⟨l, (n : Int), p2⟩, .slice Av l.length cv), t3, r3, A6, c6, .slice (some ⟨g8, 0, none⟩) (ps.length + 1) cap8, HB.out, htr2, rfl, ⟨by simpa using d9, hpb6.2.1.kt KF (avo6 73 (by decide) (by decide)), hpb6.2.2⟩, ?_, KW⟩
              refine hd.adds KW (avo 53 (by decide) (by decide)) (avo 51 (by decide) (by decide)) ?_ (ho6.kt KF (avo6 53 (by decide) (by decide))) hbase ⟨by show -9223372036854775808 ≤ (n : Int); omega, by show (n : Int) ≤ 9223372036854775807; omega⟩
              rw [tris_append]
              exact hown9
      · have HB := Lib.hid (HC2.out.trans (by rw [numTR, if_neg hk2]) : shapeR d T = .error (p2, 60))
        have WN := Lib.hid (fun W h => word_none W g (.slice A3 r2.length c3) k2 s2 p2 vc vs hk2 h)
        unfold faultE at WN
        go_wp2_with (go_at_call 62; refine (WN.out _ (by exact b3)).mono ?_; rintro e w2 ⟨rfl, rfl⟩)
        exact ⟨rfl, ShapePost.bad HB.out (kB.mono (fun _ h => .inl h))⟩
    · have HB := Lib.hid (HC.out.trans (by rw [atR, if_neg (fun h => hat (ba_ext h.2))]) : shapeR d T = .error (p, 60))
      have e1 : (s.toList == (⟨#[97, 116]⟩ : ByteArray).toList) = false := by
        rw [beq_eq_false_iff_ne, ByteArray.toList_eq, ByteArray.toList_eq]
        exact fun h => hat (ba_ext h)
      have e2 : (s.toList == [97, 116]) = false := by
        rw [beq_eq_false_iff_ne, ByteArray.toList_eq]
        exact fun h => hat (ba_ext h)
      clear hat
      go_wp2_with (first
        | (go_at_call 62; refine (WO.out _ (by exact b1')).mono ?_; rintro e w2 ⟨rfl, rfl⟩)
        | (go_at_call 63; refine (FA.out _ _ (by exact b1')).mono ?_; rintro e w3 ⟨rfl, rfl⟩))
      exact ⟨rfl, ShapePost.bad HB.out (hka.mono (fun _ h => .inl h))⟩
  · have HB := Lib.hid (HC.out.trans (by rw [atR, if_neg (fun h => hkk h.1)]) : shapeR d T = .error (p, 60))
    have WN := Lib.hid (fun W h => word_none W g (.slice A1 r1.length c1) k s p vc vs hkk h)
    unfold faultE at WN
    go_wp2_with (go_at_call 62; refine (WN.out _ (by exact b1')).mono ?_; rintro e w2 ⟨rfl, rfl⟩)
    exact ⟨rfl, ShapePost.bad HB.out (hka.mono (fun _ h => .inl h))⟩
end Go.Proofs.YtobofhiakgohfaaGreatDoor
