/- descr: the parser's line. -/
import Derived.Test.YtobofhiakgohfaaDoorT38
import Derived.Test.YtobofhiakgohfaaDoorPE
set_option linter.unusedVariables false
set_option linter.unusedSimpArgs false
namespace Go.Proofs.YtobofhiakgohfaaDoor
open Go.RowKit

/-- The parser and what it has read. -/
def PS (w : World) (base g : Nat) (T : TVl) (d : DescD) : Prop :=
  ∃ (t : TV) (r : TVl) (A : Option Addr) (c : Nat) (vc vs : Value) (pc : List (ClassD × Value)) (ps : List (ShapeD × Value)), T = t :: r ∧ TokOk T ∧ PB w g A c t r vc vs ∧ PD w base vc vs pc ps ∧ pc.map Prod.fst = d.cls ∧ ps.map Prod.fst = d.shs ∧ base ≤ g
/-- What a line may turn. -/
def LS (base g : Nat) (w : World) (k : Nat) : Prop := base ≤ k ∧ (k = g ∨ ∃ t cs, (t = 71 ∨ t = 73) ∧ Blk w k t cs)
/-- What line answers. -/
def LinePost (base g : Nat) (T : TVl) (d : DescD) (w : World) (e : Ending) (w' : World) : Prop :=
  (∃ p er, lineR d T = .error (p, er) ∧ e = faultE p er ∧ Kp (LS base g w) w w') ∨ (∃ d' T', lineR d T = .ok (d', T') ∧ e = .returned (.tuple #[]) ∧ PS w' base g T' d' ∧ Kp (LS base g w) w w')
theorem LinePost.bad {base g : Nat} {T : TVl} {d : DescD} {w w' : World} {p er : Int} (h : lineR d T = .error (p, er)) (hk : Kp (LS base g w) w w') : LinePost base g T d w (faultE p er) w' := .inl ⟨p, er, h, rfl, hk⟩

theorem lineR_class {d : DescD} {s : ByteArray} {p : Int} {r : TVl} (hs : s.data.toList = bClass) (h : d.cls.length ≠ 32) : lineR d ((1, s, p) :: r) = behind (classR d r) := by
  rw [lineR, if_pos rfl, if_neg (by rintro (h1 | h1); exact h h1.2; simp only [hs] at h1; exact absurd h1.1 (by decide)), if_pos hs]
theorem lineR_shape {d : DescD} {s : ByteArray} {p : Int} {r : TVl} (hs : s.data.toList = bShape) (h : d.shs.length ≠ 32) : lineR d ((1, s, p) :: r) = behind (shapeR d r) := by
  rw [lineR, if_pos rfl, if_neg (by rintro (h1 | h1); simp only [hs] at h1; exact absurd h1.1 (by decide); exact h h1.2), if_neg (by simp only [hs]; decide), if_pos hs]

set_option maxRecDepth 100000 in
set_option maxHeartbeats 16000000 in
/-- A line's end. -/
theorem line_end {x : Except (Int × Int) (DescD × TVl)} {d' : DescD} {t : TV} {r : TVl} (h : x = .ok (d', t :: r)) : behind x = if t.1 = 2 ∨ t.1 = 3 then .ok (d', t :: r) else .error (t.2.2, 60) := by
  rw [h]
  rfl

set_option maxRecDepth 100000 in
set_option maxHeartbeats 16000000 in
theorem pline_any (w : World) (base g : Nat) (T : TVl) (d : DescD) (h : PS w base g T d) (hbase : base ≤ w.heap.size) (hf : fitD d = true) :
    Calls Tryd.prog 67 #[.pointer (some ⟨g, 0, none⟩)] w (LinePost base g T d w) := by
  obtain ⟨⟨k, s, p⟩, r, A, c, vc, vs, pc, ps, rfl, ht, hpb, hd, hpc, hps, hbg⟩ := h
  have hf2 := hf
  unfold fitD at hf2
  simp only [Bool.and_eq_true, decide_eq_true_eq] at hf2
  obtain ⟨⟨⟨hlc, hls⟩, _⟩, _⟩ := hf2
  have hcl : d.cls.length = pc.length := by rw [← hpc]; simp
  have hsl : d.shs.length = ps.length := by rw [← hps]; simp
  have hb := hpb.1
  simp only [] at hb
  obtain ⟨Ac, cc, rfl, hc1, hc2⟩ := own_form hd.oc
  obtain ⟨As, cs, rfl, hs1, hs2⟩ := own_form hd.os
  have hl := hb.lt
  have x4 := hb.cell 4
  have x5 := hb.cell 5
  simp at x4 x5
  by_cases hk1 : k = 1
  · subst hk1
    obtain ⟨htr, hsz, t', r', rfl⟩ := ht.next rfl
    have WO := Lib.hid (fun W h => word_one W g (.slice A (t' :: r').length c) s p (.slice Ac pc.length cc) (.slice As ps.length cs) h)
    have ST := Lib.hid (fun W A c h => step_any W g A c (1, s, p) t' r' (.slice Ac pc.length cc) (.slice As ps.length cs) h)
    have FA := Lib.hid (fun W e h => fail_any W g (.slice A (t' :: r').length c) (.int .i64 1) (.string s) p (.slice Ac pc.length cc) (.slice As ps.length cs) e h)
    unfold faultE at FA
    by_cases hsc : s = ⟨#[99, 108, 97, 115, 115]⟩
    · subst hsc
      by_cases h32 : pc.length = 32
      · have HB := Lib.hid (show lineR d ((1, ⟨#[99, 108, 97, 115, 115]⟩, p) :: t' :: r') = .error (p, 4) by rw [lineR, if_pos rfl, if_pos (.inl ⟨rfl, by omega⟩)])
        have e32 : ((pc.length : Int) == 32) = true := by rw [h32]; rfl
        clear h32 hcl
        go_enter Tryd.func67, Tryd.ntmps67
        go_wp2_with (first
          | (go_at_call 91; refine (WO.out _ (by exact hb)).mono ?_; rintro e w2 ⟨rfl, rfl⟩)
          | (go_at_call 92; refine (FA.out _ _ (by exact hb)).mono ?_; rintro e w3 ⟨rfl, rfl⟩))
        exact ⟨rfl, LinePost.bad HB.out (Kp.refl _ _)⟩
      · have HL := Lib.hid (lineR_class (d := d) (s := ⟨#[99, 108, 97, 115, 115]⟩) (p := p) (r := t' :: r') rfl (by omega))
        have e32 : ((pc.length : Int) == 32) = false := beq_eq_false_iff_ne.2 (by omega)
        have hlt : pc.length < 32 := by omega
        clear h32 hcl
        go_enter Tryd.func67, Tryd.ntmps67
        go_wp2_with (first
          | (go_at_call 91; refine (WO.out _ (by exact hb)).mono ?_; rintro e w2 ⟨rfl, rfl⟩)
          | (go_at_call 66; refine (ST.out _ _ _ hpb).mono ?_; rintro e w3 ⟨rfl, ⟨A3, c3, hpb3⟩, hk3⟩))
        have hl3 := hk3.size
        go_wp2_with fail
        refine (pclass_any w3 base g A3 c3 t' r' d _ _ pc ps htr hpb3 (hd.kt hk3 (fun g' cs h e => by subst e; exact h.ne_ hb (by decide) rfl) (fun g' cs h e => by subst e; exact h.ne_ hb (by decide) rfl) (fun g' cs h e => by subst e; exact h.ne_ hb (by decide) rfl)) (by omega) hlt).mono ?_
        rintro e w4 h
        rcases h with ⟨p', er, hE, he, hk4⟩ | ⟨x, ⟨k2, s2, p2⟩, r2, A4, c4, v4, hE, ht4, he, hpb4, hd4, hk4⟩
        · unfold faultE at he
          subst he
          have HB := Lib.hid (HL.out.trans (by rw [hE]; rfl) : lineR d ((1, ⟨#[99, 108, 97, 115, 115]⟩, p) :: t' :: r') = .error (p', er))
          have hbl : Kp (LS base g w) w w4 := (hk3.mono (fun k h => ⟨by omega, .inl h⟩)).trans (hk4.mono (fun k h => h.elim (fun h => ⟨by omega, .inl h⟩) (fun h => by obtain ⟨cs, hcs⟩ := own_blk hd.oc k h; exact ⟨(hd.oc.lt k h).1, .inr ⟨71, cs, .inl rfl, hcs⟩⟩)))
          clear hE
          go_wp2
          exact ⟨rfl, LinePost.bad HB.out hbl⟩
        · subst he
          have hbl : Kp (LS base g w) w w4 := (hk3.mono (fun k h => ⟨by omega, .inl h⟩)).trans (hk4.mono (fun k h => h.elim (fun h => ⟨by omega, .inl h⟩) (fun h => by obtain ⟨cs, hcs⟩ := own_blk hd.oc k h; exact ⟨(hd.oc.lt k h).1, .inr ⟨71, cs, .inl rfl, hcs⟩⟩)))
          have hle := HL.out.trans (line_end hE)
          have b4 := hpb4.1
          simp only [] at b4
          have y1 := b4.cell 1
          have y3 := b4.cell 3
          have yl := b4.lt
          simp at y1 y3
          by_cases h2 : k2 = 2 ∨ k2 = 3
          · have HO := Lib.hid (hle.trans (if_pos h2))
            have HP := Lib.hid (show PS w4 base g ((k2, s2, p2) :: r2) ⟨d.cls ++ [x.1], d.shs⟩ from ⟨_, _, _, _, _, _, _, _, rfl, ht4, hpb4, hd4, by rw [List.map_append, hpc]; rfl, hps, hbg⟩)
            have HPost : LinePost base g ((1, ⟨#[99, 108, 97, 115, 115]⟩, p) :: t' :: r') d w (.returned (.tuple #[])) w4 := .inr ⟨_, _, HO.out, rfl, HP.out, hbl⟩
            clear hE hle
            rcases h2 with rfl | rfl
            all_goals
              go_wp2
              go_end0
              exact HPost
          · have HB := Lib.hid (hle.trans (if_neg h2))
            have q2 : (k2 == 2) = false := beq_eq_false_iff_ne.2 (fun e => h2 (.inl e))
            have q3 : (k2 == 3) = false := beq_eq_false_iff_ne.2 (fun e => h2 (.inr e))
            have n2 : (k2 != 2) = true := bne_iff_ne.2 (fun e => h2 (.inl e))
            have n3 : (k2 != 3) = true := bne_iff_ne.2 (fun e => h2 (.inr e))
            have FB := Lib.hid (fail_any w4 g (.slice A4 r2.length c4) (.int .i64 k2) (.string s2) p2 _ _ 60 b4)
            unfold faultE at FB
            clear hE hle h2
            go_wp2_with (go_at_call 92; refine FB.out.mono ?_; rintro e w5 ⟨rfl, rfl⟩)
            exact ⟨rfl, LinePost.bad HB.out hbl⟩
    · by_cases hss : s = ⟨#[115, 104, 97, 112, 101]⟩
      · subst hss
        clear hsc
        by_cases h32 : ps.length = 32
        · have HB := Lib.hid (show lineR d ((1, ⟨#[115, 104, 97, 112, 101]⟩, p) :: t' :: r') = .error (p, 4) by rw [lineR, if_pos rfl, if_pos (.inr ⟨rfl, by omega⟩)])
          have e32 : ((ps.length : Int) == 32) = true := by rw [h32]; rfl
          clear h32 hsl
          go_enter Tryd.func67, Tryd.ntmps67
          go_wp2_with (first
            | (go_at_call 91; refine (WO.out _ (by exact hb)).mono ?_; rintro e w2 ⟨rfl, rfl⟩)
            | (go_at_call 92; refine (FA.out _ _ (by exact hb)).mono ?_; rintro e w3 ⟨rfl, rfl⟩))
          exact ⟨rfl, LinePost.bad HB.out (Kp.refl _ _)⟩
        · have HL := Lib.hid (lineR_shape (d := d) (s := ⟨#[115, 104, 97, 112, 101]⟩) (p := p) (r := t' :: r') rfl (by omega))
          have e32 : ((ps.length : Int) == 32) = false := beq_eq_false_iff_ne.2 (by omega)
          have hlt : ps.length < 32 := by omega
          clear h32 hsl
          go_enter Tryd.func67, Tryd.ntmps67
          go_wp2_with (first
            | (go_at_call 91; refine (WO.out _ (by exact hb)).mono ?_; rintro e w2 ⟨rfl, rfl⟩)
            | (go_at_call 66; refine (ST.out _ _ _ hpb).mono ?_; rintro e w3 ⟨rfl, ⟨A3, c3, hpb3⟩, hk3⟩))
          have hl3 := hk3.size
          go_wp2_with fail
          refine (pshape_any w3 base g A3 c3 t' r' d _ _ pc ps htr hpb3 (hd.kt hk3 (fun g' cs h e => by subst e; exact h.ne_ hb (by decide) rfl) (fun g' cs h e => by subst e; exact h.ne_ hb (by decide) rfl) (fun g' cs h e => by subst e; exact h.ne_ hb (by decide) rfl)) (by omega) hlt).mono ?_
          rintro e w4 h
          rcases h with ⟨p', er, hE, he, hk4⟩ | ⟨x, ⟨k2, s2, p2⟩, r2, A4, c4, v4, hE, ht4, he, hpb4, hd4, hk4⟩
          · unfold faultE at he
            subst he
            have HB := Lib.hid (HL.out.trans (by rw [hE]; rfl) : lineR d ((1, ⟨#[115, 104, 97, 112, 101]⟩, p) :: t' :: r') = .error (p', er))
            have hbl : Kp (LS base g w) w w4 := (hk3.mono (fun k h => ⟨by omega, .inl h⟩)).trans (hk4.mono (fun k h => h.elim (fun h => ⟨by omega, .inl h⟩) (fun h => by obtain ⟨cs, hcs⟩ := own_blk hd.os k h; exact ⟨(hd.os.lt k h).1, .inr ⟨73, cs, .inr rfl, hcs⟩⟩)))
            clear hE
            go_wp2
            exact ⟨rfl, LinePost.bad HB.out hbl⟩
          · subst he
            have hbl : Kp (LS base g w) w w4 := (hk3.mono (fun k h => ⟨by omega, .inl h⟩)).trans (hk4.mono (fun k h => h.elim (fun h => ⟨by omega, .inl h⟩) (fun h => by obtain ⟨cs, hcs⟩ := own_blk hd.os k h; exact ⟨(hd.os.lt k h).1, .inr ⟨73, cs, .inr rfl, hcs⟩⟩)))
            have hle := HL.out.trans (line_end hE)
            have b4 := hpb4.1
            simp only [] at b4
            have y1 := b4.cell 1
            have y3 := b4.cell 3
            have yl := b4.lt
            simp at y1 y3
            by_cases h2 : k2 = 2 ∨ k2 = 3
            · have HO := Lib.hid (hle.trans (if_pos h2))
              have HP := Lib.hid (show PS w4 base g ((k2, s2, p2) :: r2) ⟨d.cls, d.shs ++ [x.1]⟩ from ⟨_, _, _, _, _, _, _, _, rfl, ht4, hpb4, hd4, hpc, by rw [List.map_append, hps]; rfl, hbg⟩)
              have HPost : LinePost base g ((1, ⟨#[115, 104, 97, 112, 101]⟩, p) :: t' :: r') d w (.returned (.tuple #[])) w4 := .inr ⟨_, _, HO.out, rfl, HP.out, hbl⟩
              clear hE hle
              rcases h2 with rfl | rfl
              all_goals
                go_wp2
                go_end0
                exact HPost
            · have HB := Lib.hid (hle.trans (if_neg h2))
              have q2 : (k2 == 2) = false := beq_eq_false_iff_ne.2 (fun e => h2 (.inl e))
              have q3 : (k2 == 3) = false := beq_eq_false_iff_ne.2 (fun e => h2 (.inr e))
              have n2 : (k2 != 2) = true := bne_iff_ne.2 (fun e => h2 (.inl e))
              have n3 : (k2 != 3) = true := bne_iff_ne.2 (fun e => h2 (.inr e))
              have FB := Lib.hid (fail_any w4 g (.slice A4 r2.length c4) (.int .i64 k2) (.string s2) p2 _ _ 60 b4)
              unfold faultE at FB
              clear hE hle h2
              go_wp2_with (go_at_call 92; refine FB.out.mono ?_; rintro e w5 ⟨rfl, rfl⟩)
              exact ⟨rfl, LinePost.bad HB.out hbl⟩
      · have HB := Lib.hid (show lineR d ((1, s, p) :: t' :: r') = .error (p, 60) by rw [lineR, if_pos rfl, if_neg (by rintro (h | h); exact hsc (ba_ext h.1); exact hss (ba_ext h.1))]; exact (if_neg (fun h => hsc (ba_ext h))).trans (if_neg (fun h => hss (ba_ext h))))
        have e1 : (s.toList == [99, 108, 97, 115, 115]) = false := by
          rw [beq_eq_false_iff_ne, ByteArray.toList_eq]
          exact fun h => hsc (ba_ext h)
        have e2 : (s.toList == [115, 104, 97, 112, 101]) = false := by
          rw [beq_eq_false_iff_ne, ByteArray.toList_eq]
          exact fun h => hss (ba_ext h)
        clear hsc hss
        go_enter Tryd.func67, Tryd.ntmps67
        go_wp2_with (first
          | (go_at_call 91; refine (WO.out _ (by exact hb)).mono ?_; rintro e w2 ⟨rfl, rfl⟩)
          | (go_at_call 92; refine (FA.out _ _ (by exact hb)).mono ?_; rintro e w3 ⟨rfl, rfl⟩))
        exact ⟨rfl, LinePost.bad HB.out (Kp.refl _ _)⟩
  · have HB := Lib.hid (show lineR d ((k, s, p) :: r) = .error (p, 60) by rw [lineR, if_neg hk1])
    have WN := Lib.hid (fun W h => word_none W g (.slice A r.length c) k s p (.slice Ac pc.length cc) (.slice As ps.length cs) hk1 h)
    unfold faultE at WN
    clear hk1
    go_enter Tryd.func67, Tryd.ntmps67
    go_wp2_with (go_at_call 91; refine (WN.out _ (by exact hb)).mono ?_; rintro e w2 ⟨rfl, rfl⟩)
    exact ⟨rfl, LinePost.bad HB.out (Kp.refl _ _)⟩
end Go.Proofs.YtobofhiakgohfaaDoor
