/- descr: the parser's shape. -/
import Derived.Test.YtobofhiakgohfaaDoorT36
import Derived.Test.YtobofhiakgohfaaDoorTC
set_option linter.unusedVariables false
set_option linter.unusedSimpArgs false
namespace Go.Proofs.YtobofhiakgohfaaDoor
open Go.RowKit

/-- A shape more. -/
theorem PD.adds {S : Nat → Prop} {w w' : World} {base : Nat} {vc vs vs' : Value} {pc : List (ClassD × Value)} {ps : List (ShapeD × Value)} {x : ShapeD × Value} (h : PD w base vc vs pc ps) (hk : Kp S w w')
    (h1 : ∀ g cs, Blk w g 47 cs → ¬ S g) (h3 : ∀ g cs, Blk w g 71 cs → ¬ S g) (hos : w'.ownsRow base 73 3 vs' (ps.length + 1) (tris stri (ps ++ [x])))
    (hit : OItemsV w' w.heap.size x.2 x.1.its) (hb : base ≤ w.heap.size) (hx : -9223372036854775808 ≤ x.1.first ∧ x.1.first ≤ 9223372036854775807) : PD w' base vc vs' pc (ps ++ [x]) := by
  have nb : ∀ (y : Option Nat), (∃ z ∈ pc, y = z.2.ownBlock) ∨ (∃ z ∈ ps, y = z.2.ownBlock) → ∀ g, y = some g → g < w.heap.size := by
    rintro y (⟨z, hz, rfl⟩ | ⟨z, hz, rfl⟩) g hg
    · exact ((h.ci z hz).1.1.lt g hg).2
    · exact ((h.si z hz).1.1.lt g hg).2
  refine ⟨own_kt h.oc hk h3, by rw [List.length_append, List.length_singleton]; exact hos, fun y hy => ⟨(h.ci y hy).1.kt hk h1, (h.ci y hy).2⟩, fun y hy => ?_, ?_⟩
  · rcases List.mem_append.1 hy with hy | hy
    · exact ⟨(h.si y hy).1.kt hk h1, (h.si y hy).2⟩
    · simp only [List.mem_singleton] at hy
      subst hy
      exact ⟨hit.mono hb, hx⟩
  · rw [List.map_append, ← List.append_assoc, List.pairwise_append]
    refine ⟨h.ap, List.pairwise_singleton _ _, fun a ha b hb2 => ?_⟩
    simp only [List.map_cons, List.map_nil, List.mem_singleton] at hb2
    subst hb2
    intro g hg e
    have hlt : g < w.heap.size := by
      rcases List.mem_append.1 ha with ha | ha
      · obtain ⟨z, hz, rfl⟩ := List.mem_map.1 ha
        exact nb _ (.inl ⟨z, hz, rfl⟩) g hg
      · obtain ⟨z, hz, rfl⟩ := List.mem_map.1 ha
        exact nb _ (.inr ⟨z, hz, rfl⟩) g hg
    have := (hit.1.lt g e).1
    omega

/-- What shape answers. -/
def ShapePost (base g : Nat) (T : TVl) (d : DescD) (vc vs : Value) (pc : List (ClassD × Value)) (ps : List (ShapeD × Value)) (w : World) (e : Ending) (w' : World) : Prop :=
  (∃ p er, shapeR d T = .error (p, er) ∧ e = faultE p er ∧ Kp (fun k => k = g ∨ vs.ownBlock = some k) w w') ∨
  (∃ x t r A c vs', shapeR d T = .ok (⟨d.cls, d.shs ++ [x.1]⟩, t :: r) ∧ TokOk (t :: r) ∧ e = .returned (.tuple #[]) ∧ PB w' g A c t r vc vs' ∧ PD w' base vc vs' pc (ps ++ [x]) ∧ Kp (fun k => k = g ∨ vs.ownBlock = some k) w w')
theorem ShapePost.bad {base g : Nat} {T : TVl} {d : DescD} {vc vs : Value} {pc : List (ClassD × Value)} {ps : List (ShapeD × Value)} {w w' : World} {p er : Int} (h : shapeR d T = .error (p, er)) (hk : Kp (fun k => k = g ∨ vs.ownBlock = some k) w w') : ShapePost base g T d vc vs pc ps w (faultE p er) w' := .inl ⟨p, er, h, rfl, hk⟩

theorem shapeR_items {d : DescD} {T : TVl} {l : List ItemD} {T' : TVl} (h : itemsR 8 bAt [] T = .ok (l, T')) : shapeR d T = atR d l T' := by
  unfold shapeR
  rw [h]
theorem shapeR_bad {d : DescD} {T : TVl} {e : Int × Int} (h : itemsR 8 bAt [] T = .error e) : shapeR d T = .error e := by
  unfold shapeR
  rw [h]

set_option maxRecDepth 100000 in
set_option maxHeartbeats 16000000 in
theorem pshape_any (w : World) (base g : Nat) (A : Option Addr) (c : Nat) (t : TV) (r : TVl) (d : DescD) (vc vs : Value) (pc : List (ClassD × Value)) (ps : List (ShapeD × Value)) (ht : TokOk (t :: r)) (hpb : PB w g A c t r vc vs) (hd : PD w base vc vs pc ps) (hbase : base ≤ w.heap.size) (hn : ps.length < 32) :
    Calls Tryd.prog 94 #[.pointer (some ⟨g, 0, none⟩)] w (ShapePost base g (t :: r) d vc vs pc ps w) := by
  obtain ⟨i1, hj, hy0, hy1, hy2⟩ := info73'
  obtain ⟨T, hT⟩ : ∃ T, T = t :: r := ⟨_, rfl⟩
  have IT := Lib.hid (pitems_any w g A c t r vc vs 8 ⟨#[97, 116]⟩ (by omega) (by omega) ht hpb)
  rw [← hT] at IT ⊢
  have hb := hpb.1
  have hl := hb.lt
  clear hT ht
  go_enter Tryd.func94, Tryd.ntmps94
  go_wp2_with fail
  refine IT.out.mono ?_
  rintro e w1 h
  rcases h with ⟨p', er, hE, he, hk1⟩ | ⟨l, ⟨k, s, p⟩, r1, v, A1, c1, hE, ht1, he, hpb1, ho1, hl1, hk1⟩
  · unfold faultE at he
    subst he
    have HB := Lib.hid (shapeR_bad (d := d) hE)
    clear hE
    go_wp2
    exact ⟨rfl, ShapePost.bad HB.out (hk1.mono (fun _ h => .inl h))⟩
  subst he
  have HC := Lib.hid (shapeR_items (d := d) hE)
  clear hE
  obtain ⟨Av, cv, rfl, hv1, hv2⟩ := own_form ho1.1
  have b1 := hpb1.1
  simp only [] at b1
  have b1' := b1.alloc (.cells #[.slice Av l.length cv, .int .i64 0, .int .i64 0] 73)
  have hka : K1 g w (w1.alloc (.cells #[.slice Av l.length cv, .int .i64 0, .int .i64 0] 73)) := hk1.alloc _
  by_cases hkk : k = 1
  · subst hkk
    obtain ⟨htr, hsz, ⟨k2, s2, p2⟩, r2, rfl⟩ := ht1.next rfl
    simp only [] at hsz
    have WO := Lib.hid (fun W h => word_one W g (.slice A1 ((k2, s2, p2) :: r2).length c1) s p vc vs h)
    have ST := Lib.hid (fun W A c h => step_any W g A c (1, s, p) (k2, s2, p2) r2 vc vs h)
    have FA := Lib.hid (fun W e h => fail_any W g (.slice A1 ((k2, s2, p2) :: r2).length c1) (.int .i64 1) (.string s) p vc vs e h)
    unfold faultE at FA
    by_cases hat : s = ⟨#[97, 116]⟩
    · subst hat
      have HC2 := Lib.hid (HC.out.trans (by rw [atR, if_pos ⟨rfl, rfl⟩]) : shapeR d T = numTR d l ((k2, s2, p2) :: r2))
      have e1 := Blk.new w1 73 #[.slice Av l.length cv, .int .i64 0, .int .i64 0]
      go_wp2_with (first
        | (go_at_call 91; refine (WO.out _ (by exact b1')).mono ?_; rintro e w2 ⟨rfl, rfl⟩)
        | (go_at_call 66; refine (ST.out _ _ _ (by exact hpb1.k0 ((Kp.refl (fun _ => False) w1).alloc (.cells #[.slice Av l.length cv, .int .i64 0, .int .i64 0] 73)))).mono ?_; rintro e w3 ⟨rfl, ⟨A3, c3, hpb3⟩, hk3⟩))
      have b3 := hpb3.1
      simp only [] at b3
      have e3 := e1.kp hk3 (fun h => by have := hk1.size; omega)
      have kB : K1 g w w3 := hka.trans hk3
      by_cases hk2 : k2 = 1
      · subst hk2
        obtain ⟨htr2, hsz2, t3, r3, rfl⟩ := htr.next rfl
        have hne := (word_more htr.1 rfl).2
        simp only [] at hsz2 hne
        have WO2 := Lib.hid (fun W h => word_one W g (.slice A3 (t3 :: r3).length c3) s2 p2 vc vs h)
        have ST2 := Lib.hid (fun W A c h => step_any W g A c (1, s2, p2) t3 r3 vc vs h)
        have FA2 := Lib.hid (fun W e h => fail_any W g (.slice A3 (t3 :: r3).length c3) (.int .i64 1) (.string s2) p2 vc vs e h)
        have NU := Lib.hid (fun W => number_any s2 W (by omega) hne)
        unfold faultE at FA2
        unfold NumPost at NU
        cases hn2 : numR s2.data.toList with
        | none =>
          rw [hn2] at NU
          have HB := Lib.hid (HC2.out.trans (by rw [numTR, if_pos rfl]; simp only [hn2]) : shapeR d T = .error (p2, 60))
          clear hn2 hne
          go_wp2_with (first
            | (go_at_call 91; refine (WO2.out _ (by exact b3)).mono ?_; rintro e w2 ⟨rfl, rfl⟩)
            | (go_at_call 28; refine (NU.out _).mono ?_; rintro e w4 ⟨rfl, hk4⟩)
            | (go_at_call 92; refine (FA2.out _ _ (by exact b3.kp hk4 (fun h => h))).mono ?_; rintro e w3 ⟨rfl, rfl⟩))
          exact ⟨rfl, ShapePost.bad HB.out ((kB.trans hk4.kp).mono (fun _ h => .inl h))⟩
        | some n =>
          rw [hn2] at NU
          have HB := Lib.hid (HC2.out.trans (by rw [numTR, if_pos rfl]; simp only [hn2]) : shapeR d T = .ok (⟨d.cls, d.shs ++ [⟨l, (n : Int), p2⟩]⟩, t3 :: r3))
          have hnl := numR_lt hn2
          clear hn2 hne
          simp only [Option.getD_some, Option.isSome_some] at NU
          go_upto_region 7 with (first
            | (go_at_call 91; refine (WO2.out _ (by exact b3)).mono ?_; rintro e w2 ⟨rfl, rfl⟩)
            | (go_at_call 28; refine (NU.out _).mono ?_; rintro e w4 ⟨rfl, hk4⟩; have b4 := b3.kp hk4 (fun h => h); have e4 := e3.kp hk4 (fun h => h); have x3 := b4.cell 3; have l4 := b4.lt; have el4 := e4.lt; have y1 := e4.cell 1; have y2 := e4.cell 2; have f1 := e4.frozen 1; have f2 := e4.frozen 2; simp at x3 y1 y2))
          go_cut [2] (fun s2 wx => s2 = .pointer (some ⟨w1.heap.size, 0, none⟩) ∧ Blk wx w1.heap.size 73 #[.slice Av l.length cv, .int .i64 (n : Int), .int .i64 p2] ∧ Kp (fun k => k = w1.heap.size) w4 wx)
          case first =>
            have z0 := Lib.hid ((e4.set_ 1 (.int .i64 (n : Int))).set_ 2 (.int .i64 p2))
            go_region
            all_goals
              go_wp2_with fail
              go_meet
              refine ⟨rfl, ?_, ?_⟩
              · exact z0.out.drew
              · exact ((((Kp.refl (fun k => k = w1.heap.size) w4).setCell (p := ⟨w1.heap.size, 1, none⟩) (.inr rfl) _).setCell (p := ⟨w1.heap.size, 2, none⟩) (.inr rfl) _)).drew
          case rest =>
            obtain ⟨rfl, e5, k5⟩ := hcut
            have hs1 := hk1.size
            have hs3 := hk3.size
            have hs4 := hk4.size
            have hl1 : w1.heap.size < w3.heap.size := by simp at hs3; omega
            have b4 := b3.kp hk4 (fun h => h)
            have e4 := e3.kp hk4 (fun h => h)
            have hpb5 := (hpb3.k0 hk4).kt k5 (fun g cs h e => by subst e; exact h.ne_ e4 (by decide) rfl) (by omega)
            obtain ⟨Ac, cc, rfl, hc1, hc2⟩ := own_form hd.os
            go_wp2_with (go_at_call 66; refine (ST2.out _ _ _ hpb5).mono ?_; rintro e w6 ⟨rfl, ⟨A6, c6, hpb6⟩, hk6⟩)
            -- what the shape's list and the description are, before the last region
            have b6 := hpb6.1
            have e6 := e5.kp hk6 (fun h => by omega)
            have z5 := b6.cell 5
            have zf := b6.frozen 5
            have zl := b6.lt
            have x0 := e6.cell 0
            have x1 := e6.cell 1
            have x2 := e6.cell 2
            have xl := e6.lt
            simp at z5 x0 x1 x2
            have k16 : Kp (fun k => k = g ∨ k = w1.heap.size) w1 w6 :=
              (((((K0.kp ((Kp.refl (fun _ => False) w1).alloc (.cells #[.slice Av l.length cv, .int .i64 0, .int .i64 0] 73))).trans (hk3.mono (fun _ h => .inl h))).trans (K0.kp hk4)).trans (k5.mono (fun _ h => .inr h))).trans (hk6.mono (fun _ h => .inl h)))
            have hd1 : PD w1 base vc (.slice Ac ps.length cc) pc ps := hd.kt hk1 (fun g' cs h e => by subst e; exact h.ne_ hb (by decide) rfl) (fun g' cs h e => by subst e; exact h.ne_ hb (by decide) rfl) (fun g' cs h e => by subst e; exact h.ne_ hb (by decide) rfl)
            have av1 : ∀ t, t ≠ 108 → ∀ g' cs, Blk w1 g' t cs → ¬ (g' = g ∨ g' = w1.heap.size) := by
              rintro t h1 g' cs h (e | e)
              · subst e; exact h.ne_ b1 h1 rfl
              · have := h.lt; omega
            have ho6 : OItemsV w6 w.heap.size (.slice Av l.length cv) l := ho1.kt k16 (av1 47 (by decide))
            have hos6 : w6.ownsRow base 73 3 (.slice Ac ps.length cc) ps.length (tris stri ps) := own_kt hd1.os k16 (av1 73 (by decide))
            have hs6 := k16.size
            go_wp2
            go_region_law (refine step_append_lies _ rfl (.tmp 40) (.tmp 42) 23 rfl base 73 i1 _ 3 40 Tryd.underlying23 hj hy0 hy1 hy2 rfl (by omega) (.slice Ac ps.length cc) ps.length (tris stri ps) (by simp [Act.eval, Act.put]) (by exact hos6.alloc _) ⟨w6.heap.size, 0, none⟩ 1 1 [.slice Av l.length cv, .int .i64 (n : Int), .int .i64 p2] (by simp [Act.eval, Act.put]) rfl (by exact World.news_of_block (cs := #[.slice Av l.length cv, .int .i64 (n : Int), .int .i64 p2]) (t := 73) (fr := (0, 0)) (heap_alloc_new w6 _)) (by simp [Value.oneCell']) (by omega) (by simp only [maxLen]; omega) (by omega) (by simp; omega) (w6.heap.size + 1) (by simp) ?_; intro g8 cap8 w8 hown8 hg8 hat8 hlt8; have d8 := (b6.alloc (.cells #[.slice Av l.length cv, .int .i64 (n : Int), .int .i64 p2] 73)).drew.grown hg8 (Ne.symm (own_blk_ne hos6 b6 (by decide))); have d80 := d8.cell 5; have d8f := d8.frozen 5; have d8l := d8.lt; simp at d80)
            all_goals
              have K8 : Kp (fun k => (Value.slice Ac ps.length cc).ownBlock = some k) w6 w8 := ((Kp.refl _ w6).alloc _).drew.grown hg8 (fun k hk => .inr hk)
              have KF : Kp (fun k => k = g ∨ (Value.slice Ac ps.length cc).ownBlock = some k) w6 (w8.setCell ⟨g, 5, none⟩ (.slice (some ⟨g8, 0, none⟩) (ps.length + 1) cap8)) := (K8.mono (fun _ h => .inr h)).setCell (p := ⟨g, 5, none⟩) (.inr (.inl rfl)) _
              have K1F : Kp (fun k => k = w1.heap.size ∨ k = g ∨ (Value.slice Ac ps.length cc).ownBlock = some k) w1 (w8.setCell ⟨g, 5, none⟩ (.slice (some ⟨g8, 0, none⟩) (ps.length + 1) cap8)) := (k16.mono (fun _ h => h.elim (fun h => .inr (.inl h)) .inl)).trans (KF.mono (fun _ h => .inr h))
              have avo : ∀ t, t ≠ 108 → t ≠ 73 → ∀ g' cs, Blk w g' t cs → ¬ (g' = g ∨ (Value.slice Ac ps.length cc).ownBlock = some g') := by
                rintro t h1 h2 g' cs h (e | e)
                · subst e; exact h.ne_ hb h1 rfl
                · exact own_blk_ne hd.os h (Ne.symm h2) e
              have avo6 : ∀ t, t ≠ 108 → t ≠ 73 → ∀ g' cs, Blk w6 g' t cs → ¬ (g' = g ∨ (Value.slice Ac ps.length cc).ownBlock = some g') := by
                rintro t h1 h2 g' cs h (e | e)
                · subst e; exact h.ne_ b6 h1 rfl
                · exact own_blk_ne hos6 h (Ne.symm h2) e
              have KW : Kp (fun k => k = g ∨ (Value.slice Ac ps.length cc).ownBlock = some k) w (w8.setCell ⟨g, 5, none⟩ (.slice (some ⟨g8, 0, none⟩) (ps.length + 1) cap8)) :=
                (hk1.mono (fun _ h => .inl h)).trans' K1F (fun i hi h => by
                  rcases h with h | h
                  · omega
                  · exact h)
              have hown9 := own_setCell (p := ⟨g, 5, none⟩) (u := .slice (some ⟨g8, 0, none⟩) (ps.length + 1) cap8) hown8 (own_blk_ne hown8 d8 (by decide))
              have d9 := d8.set_ 5 (.slice (some ⟨g8, 0, none⟩) (ps.length + 1) cap8)
              go_end0
              refine .inr ⟨(⟨l, (n : Int), p2⟩, .slice Av l.length cv), t3, r3, A6, c6, .slice (some ⟨g8, 0, none⟩) (ps.length + 1) cap8, HB.out, htr2, rfl, ⟨by simpa using d9, hpb6.2.1.kt KF (avo6 42 (by decide) (by decide)), hpb6.2.2⟩, ?_, KW⟩
              refine hd.adds KW (avo 47 (by decide) (by decide)) (avo 71 (by decide) (by decide)) ?_ (ho6.kt KF (avo6 47 (by decide) (by decide))) hbase ⟨by show -9223372036854775808 ≤ (n : Int); omega, by show (n : Int) ≤ 9223372036854775807; omega⟩
              rw [tris_append]
              exact hown9
      · have HB := Lib.hid (HC2.out.trans (by rw [numTR, if_neg hk2]) : shapeR d T = .error (p2, 60))
        have WN := Lib.hid (fun W h => word_none W g (.slice A3 r2.length c3) k2 s2 p2 vc vs hk2 h)
        unfold faultE at WN
        go_wp2_with (go_at_call 91; refine (WN.out _ (by exact b3)).mono ?_; rintro e w2 ⟨rfl, rfl⟩)
        exact ⟨rfl, ShapePost.bad HB.out (kB.mono (fun _ h => .inl h))⟩
    · have HB := Lib.hid (HC.out.trans (by rw [atR, if_neg (fun h => hat (ba_ext h.2))]) : shapeR d T = .error (p, 60))
      have e1 : (s.toList == (⟨#[97, 116]⟩ : ByteArray).toList) = false := by
        rw [beq_eq_false_iff_ne, ByteArray.toList_eq, ByteArray.toList_eq]
        exact fun h => hat (ba_ext h)
      have e2 : (s.toList == [97, 116]) = false := by
        rw [beq_eq_false_iff_ne, ByteArray.toList_eq]
        exact fun h => hat (ba_ext h)
      clear hat
      go_wp2_with (first
        | (go_at_call 91; refine (WO.out _ (by exact b1')).mono ?_; rintro e w2 ⟨rfl, rfl⟩)
        | (go_at_call 92; refine (FA.out _ _ (by exact b1')).mono ?_; rintro e w3 ⟨rfl, rfl⟩))
      exact ⟨rfl, ShapePost.bad HB.out (hka.mono (fun _ h => .inl h))⟩
  · have HB := Lib.hid (HC.out.trans (by rw [atR, if_neg (fun h => hkk h.1)]) : shapeR d T = .error (p, 60))
    have WN := Lib.hid (fun W h => word_none W g (.slice A1 r1.length c1) k s p vc vs hkk h)
    unfold faultE at WN
    go_wp2_with (go_at_call 91; refine (WN.out _ (by exact b1')).mono ?_; rintro e w2 ⟨rfl, rfl⟩)
    exact ⟨rfl, ShapePost.bad HB.out (hka.mono (fun _ h => .inl h))⟩
end Go.Proofs.YtobofhiakgohfaaDoor
