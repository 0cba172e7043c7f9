/- descr: the parser's line. A region that draws its order, in a fence, a round's too: by an invariant over what has been carried out. -/
import Derived.Test.YtobofhiakgohfaaGreatDoorZN
import Derived.Test.YtobofhiakgohfaaGreatDoorZK
import Derived.Test.YtobofhiakgohfaaGreatDoorZE
import Derived.Still
set_option linter.unusedVariables false
set_option linter.unusedSimpArgs false
namespace Go.Proofs.YtobofhiakgohfaaGreatDoor
open Go.RowKit

/-- The parser and what it has read. -/
def PS (w : World) (base g : Nat) (T : TVl) (d : DescD) : Prop :=
  ∃ (t : TV) (r : TVl) (A : Option Addr) (c : Nat) (vc vs : Value) (pc : List (ClassD × Value)) (ps : List (ShapeD × Value)), T = t :: r ∧ TokOk T ∧ PB w g A c t r vc vs ∧ PD w base vc vs pc ps ∧ pc.map Prod.fst = d.cls ∧ ps.map Prod.fst = d.shs ∧ base ≤ g
/-- What a line may turn. -/
def LS (base g : Nat) (w : World) (k : Nat) : Prop := base ≤ k ∧ (k = g ∨ ∃ t cs, (t = 51 ∨ t = 90) ∧ Blk w k t cs)
/-- What line answers. -/
def LinePost (base g : Nat) (T : TVl) (d : DescD) (w : World) (e : Ending) (w' : World) : Prop :=
  (∃ p er, lineR d T = .error (p, er) ∧ e = faultE p er ∧ Kp (LS base g w) w w') ∨ (∃ d' T', lineR d T = .ok (d', T') ∧ e = .returned (.tuple #[]) ∧ PS w' base g T' d' ∧ Kp (LS base g w) w w')
theorem LinePost.bad {base g : Nat} {T : TVl} {d : DescD} {w w' : World} {p er : Int} (h : lineR d T = .error (p, er)) (hk : Kp (LS base g w) w w') : LinePost base g T d w (faultE p er) w' := .inl ⟨p, er, h, rfl, hk⟩

theorem lineR_class {d : DescD} {s : ByteArray} {p : Int} {r : TVl} (hs : s.data.toList = bClass) (h : d.cls.length ≠ 32) : lineR d ((1, s, p) :: r) = behind (classR d r) := by
  rw [lineR, if_pos rfl, if_neg (by rintro (h1 | h1); exact h h1.2; simp only [hs] at h1; exact absurd h1.1 (by decide)), if_pos hs]
theorem lineR_shape {d : DescD} {s : ByteArray} {p : Int} {r : TVl} (hs : s.data.toList = bShape) (h : d.shs.length ≠ 32) : lineR d ((1, s, p) :: r) = behind (shapeR d r) := by
  rw [lineR, if_pos rfl, if_neg (by rintro (h1 | h1); simp only [hs] at h1; exact absurd h1.1 (by decide); exact h h1.2), if_neg (by simp only [hs]; decide), if_pos hs]

set_option maxRecDepth 100000 in
set_option maxHeartbeats 16000000 in
/-- A line's end. -/
theorem line_end {x : Except (Int × Int) (DescD × TVl)} {d' : DescD} {t : TV} {r : TVl} (h : x = .ok (d', t :: r)) : behind x = if t.1 = 2 ∨ t.1 = 3 then .ok (d', t :: r) else .error (t.2.2, 60) := by
  rw [h]
  rfl

set_option maxRecDepth 100000 in
set_option maxHeartbeats 16000000 in
theorem pline_any (w : World) (base g : Nat) (T : TVl) (d : DescD) (h : PS w base g T d) (hbase : base ≤ w.heap.size) (hf : fitD d = true) :
    Calls Tryz.prog 31 #[.pointer (some ⟨g, 0, none⟩)] w (LinePost base g T d w) := by
  obtain ⟨⟨k, s, p⟩, r, A, c, vc, vs, pc, ps, rfl, ht, hpb, hd, hpc, hps, hbg⟩ := h
  have hf2 := hf
  unfold fitD at hf2
  simp only [Bool.and_eq_true, decide_eq_true_eq] at hf2
  obtain ⟨⟨⟨hlc, hls⟩, _⟩, _⟩ := hf2
  have hcl : d.cls.length = pc.length := by rw [← hpc]; simp
  have hsl : d.shs.length = ps.length := by rw [← hps]; simp
  have hb := hpb.1
  simp only [] at hb
  obtain ⟨Ac, cc, rfl, hc1, hc2⟩ := own_form hd.oc
  obtain ⟨As, cs, rfl, hs1, hs2⟩ := own_form hd.os
  have hl := hb.lt
  have x4 := hb.cell 4
  have x5 := hb.cell 5
  simp at x4 x5
  by_cases hk1 : k = 1
  · subst hk1
    obtain ⟨htr, hsz, t', r', rfl⟩ := ht.next rfl
    have WO := Lib.hid (fun W h => word_one W g (.slice A (t' :: r').length c) s p (.slice Ac pc.length cc) (.slice As ps.length cs) h)
    have ST := Lib.hid (fun W A c h => step_any W g A c (1, s, p) t' r' (.slice Ac pc.length cc) (.slice As ps.length cs) h)
    have FA := Lib.hid (fun W e h => fail_any W g (.slice A (t' :: r').length c) (.int .i64 1) (.string s) p (.slice Ac pc.length cc) (.slice As ps.length cs) e h)
    unfold faultE at FA
    by_cases hsc : s = ⟨#[99, 108, 97, 115, 115]⟩
    · subst hsc
      by_cases h32 : pc.length = 32
      · have HB := Lib.hid (show lineR d ((1, ⟨#[99, 108, 97, 115, 115]⟩, p) :: t' :: r') = .error (p, 4) by rw [lineR, if_pos rfl, if_pos (.inl ⟨rfl, by omega⟩)])
        have e32 : ((pc.length : Int) == 32) = true := by rw [h32]; rfl
        clear h32 hcl
        go_enter Tryz.func31, Tryz.ntmps31
        go_wp2_with (first
          | (go_at_call 62; refine (WO.out _ (by exact hb)).mono ?_; rintro e w2 ⟨rfl, rfl⟩)
          | (go_at_call 63; refine (FA.out _ _ (by exact hb)).mono ?_; rintro e w3 ⟨rfl, rfl⟩))
        exact ⟨rfl, LinePost.bad HB.out (Kp.refl _ _)⟩
      · have HL := Lib.hid (lineR_class (d := d) (s := ⟨#[99, 108, 97, 115, 115]⟩) (p := p) (r := t' :: r') rfl (by omega))
        have e32 : ((pc.length : Int) == 32) = false := beq_eq_false_iff_ne.2 (by omega)
        have hlt : pc.length < 32 := by omega
        clear h32 hcl
        go_enter Tryz.func31, Tryz.ntmps31
        go_wp2_with (first
          | (go_at_call 62; refine (WO.out _ (by exact hb)).mono ?_; rintro e w2 ⟨rfl, rfl⟩)
          | (go_at_call 30; refine (ST.out _ _ _ hpb).mono ?_; rintro e w3 ⟨rfl, ⟨A3, c3, hpb3⟩, hk3⟩))
        have hl3 := hk3.size
        go_wp2_with fail
        refine (pclass_any w3 base g A3 c3 t' r' d _ _ pc ps htr hpb3 (hd.kt hk3 (fun g' cs h e => by subst e; exact h.ne_ hb (by decide) rfl) (fun g' cs h e => by subst e; exact h.ne_ hb (by decide) rfl) (fun g' cs h e => by subst e; exact h.ne_ hb (by decide) rfl)) (by omega) hlt).mono ?_
        rintro e w4 h
        rcases h with ⟨p', er, hE, he, hk4⟩ | ⟨x, ⟨k2, s2, p2⟩, r2, A4, c4, v4, hE, ht4, he, hpb4, hd4, hk4⟩
        · unfold faultE at he
          subst he
          have HB := Lib.hid (HL.out.trans (by rw [hE]; rfl) : lineR d ((1, ⟨#[99, 108, 97, 115, 115]⟩, p) :: t' :: r') = .error (p', er))
          have hbl : Kp (LS base g w) w w4 := (hk3.mono (fun k h => ⟨by omega, .inl h⟩)).trans (hk4.mono (fun k h => h.elim (fun h => ⟨by omega, .inl h⟩) (fun h => by obtain ⟨cs, hcs⟩ := own_blk hd.oc k h; exact ⟨(hd.oc.lt k h).1, .inr ⟨51, cs, .inl rfl, hcs⟩⟩)))
          clear hE
          go_wp2
          exact ⟨rfl, LinePost.bad HB.out hbl⟩
        · subst he
          have hbl : Kp (LS base g w) w w4 := (hk3.mono (fun k h => ⟨by omega, .inl h⟩)).trans (hk4.mono (fun k h => h.elim (fun h => ⟨by omega, .inl h⟩) (fun h => by obtain ⟨cs, hcs⟩ := own_blk hd.oc k h; exact ⟨(hd.oc.lt k h).1, .inr ⟨51, cs, .inl rfl, hcs⟩⟩)))
          have hle := HL.out.trans (line_end hE)
          have b4 := hpb4.1
          simp only [] at b4
          have y1 := b4.cell 1
          have y3 := b4.cell 3
          have yl := b4.lt
          simp at y1 y3
          by_cases h2 : k2 = 2 ∨ k2 = 3
          · have HO := Lib.hid (hle.trans (if_pos h2))
            have HP := Lib.hid (show PS w4 base g ((k2, s2, p2) :: r2) ⟨d.cls ++ [x.1], d.shs⟩ from ⟨_, _, _, _, _, _, _, _, rfl, ht4, hpb4, hd4, by rw [List.map_append, hpc]; rfl, hps, hbg⟩)
            have HPost : LinePost base g ((1, ⟨#[99, 108, 97, 115, 115]⟩, p) :: t' :: r') d w (.returned (.tuple #[])) w4 := .inr ⟨_, _, HO.out, rfl, HP.out, hbl⟩
            clear hE hle
            rcases h2 with rfl | rfl
            all_goals
              go_wp2
              go_end0
              exact HPost
          · have HB := Lib.hid (hle.trans (if_neg h2))
            have q2 : (k2 == 2) = false := beq_eq_false_iff_ne.2 (fun e => h2 (.inl e))
            have q3 : (k2 == 3) = false := beq_eq_false_iff_ne.2 (fun e => h2 (.inr e))
            have n2 : (k2 != 2) = true := bne_iff_ne.2 (fun e => h2 (.inl e))
            have n3 : (k2 != 3) = true := bne_iff_ne.2 (fun e => h2 (.inr e))
            have FB := Lib.hid (fail_any w4 g (.slice A4 r2.length c4) (.int .i64 k2) (.string s2) p2 _ _ 60 b4)
            unfold faultE at FB
            clear hE hle h2
            go_wp2_with (go_at_call 63; refine FB.out.mono ?_; rintro e w5 ⟨rfl, rfl⟩)
            exact ⟨rfl, LinePost.bad HB.out hbl⟩
    · by_cases hss : s = ⟨#[115, 104, 97, 112, 101]⟩
      · subst hss
        clear hsc
        by_cases h32 : ps.length = 32
        · have HB := Lib.hid (show lineR d ((1, ⟨#[115, 104, 97, 112, 101]⟩, p) :: t' :: r') = .error (p, 4) by rw [lineR, if_pos rfl, if_pos (.inr ⟨rfl, by omega⟩)])
          have e32 : ((ps.length : Int) == 32) = true := by rw [h32]; rfl
          clear h32 hsl
          go_enter Tryz.func31, Tryz.ntmps31
          go_wp2_with (first
            | (go_at_call 62; refine (WO.out _ (by exact hb)).mono ?_; rintro e w2 ⟨rfl, rfl⟩)
            | (go_at_call 63; refine (FA.out _ _ (by exact hb)).mono ?_; rintro e w3 ⟨rfl, rfl⟩))
          exact ⟨rfl, LinePost.bad HB.out (Kp.refl _ _)⟩
        · have HL := Lib.hid (lineR_shape (d := d) (s := ⟨#[115, 104, 97, 112, 101]⟩) (p := p) (r := t' :: r') rfl (by omega))
          have e32 : ((ps.length : Int) == 32) = false := beq_eq_false_iff_ne.2 (by omega)
          have hlt : ps.length < 32 := by omega
          clear h32 hsl
          go_enter Tryz.func31, Tryz.ntmps31
          go_wp2_with (first
            | (go_at_call 62; refine (WO.out _ (by exact hb)).mono ?_; rintro e w2 ⟨rfl, rfl⟩)
            | (go_at_call 30; refine (ST.out _ _ _ hpb).mono ?_; rintro e w3 ⟨rfl, ⟨A3, c3, hpb3⟩, hk3⟩))
          have hl3 := hk3.size
          go_wp2_with fail
          refine (pshape_any w3 base g A3 c3 t' r' d _ _ pc ps htr hpb3 (hd.kt hk3 (fun g' cs h e => by subst e; exact h.ne_ hb (by decide) rfl) (fun g' cs h e => by subst e; exact h.ne_ hb (by decide) rfl) (fun g' cs h e => by subst e; exact h.ne_ hb (by decide) rfl)) (by omega) hlt).mono ?_
          rintro e w4 h
          rcases h with ⟨p', er, hE, he, hk4⟩ | ⟨x, ⟨k2, s2, p2⟩, r2, A4, c4, v4, hE, ht4, he, hpb4, hd4, hk4⟩
          · unfold faultE at he
            subst he
            have HB := Lib.hid (HL.out.trans (by rw [hE]; rfl) : lineR d ((1, ⟨#[115, 104, 97, 112, 101]⟩, p) :: t' :: r') = .error (p', er))
            have hbl : Kp (LS base g w) w w4 := (hk3.mono (fun k h => ⟨by omega, .inl h⟩)).trans (hk4.mono (fun k h => h.elim (fun h => ⟨by omega, .inl h⟩) (fun h => by obtain ⟨cs, hcs⟩ := own_blk hd.os k h; exact ⟨(hd.os.lt k h).1, .inr ⟨90, cs, .inr rfl, hcs⟩⟩)))
            clear hE
            go_wp2
            exact ⟨rfl, LinePost.bad HB.out hbl⟩
          · subst he
            have hbl : Kp (LS base g w) w w4 := (hk3.mono (fun k h => ⟨by omega, .inl h⟩)).trans (hk4.mono (fun k h => h.elim (fun h => ⟨by omega, .inl h⟩) (fun h => by obtain ⟨cs, hcs⟩ := own_blk hd.os k h; exact ⟨(hd.os.lt k h).1, .inr ⟨90, cs, .inr rfl, hcs⟩⟩)))
            have hle := HL.out.trans (line_end hE)
            have b4 := hpb4.1
            simp only [] at b4
            have y1 := b4.cell 1
            have y3 := b4.cell 3
            have yl := b4.lt
            simp at y1 y3
            by_cases h2 : k2 = 2 ∨ k2 = 3
            · have HO := Lib.hid (hle.trans (if_pos h2))
              have HP := Lib.hid (show PS w4 base g ((k2, s2, p2) :: r2) ⟨d.cls, d.shs ++ [x.1]⟩ from ⟨_, _, _, _, _, _, _, _, rfl, ht4, hpb4, hd4, hpc, by rw [List.map_append, hps]; rfl, hbg⟩)
              have HPost : LinePost base g ((1, ⟨#[115, 104, 97, 112, 101]⟩, p) :: t' :: r') d w (.returned (.tuple #[])) w4 := .inr ⟨_, _, HO.out, rfl, HP.out, hbl⟩
              clear hE hle
              rcases h2 with rfl | rfl
              all_goals
                go_wp2
                go_end0
                exact HPost
            · have HB := Lib.hid (hle.trans (if_neg h2))
              have q2 : (k2 == 2) = false := beq_eq_false_iff_ne.2 (fun e => h2 (.inl e))
              have q3 : (k2 == 3) = false := beq_eq_false_iff_ne.2 (fun e => h2 (.inr e))
              have n2 : (k2 != 2) = true := bne_iff_ne.2 (fun e => h2 (.inl e))
              have n3 : (k2 != 3) = true := bne_iff_ne.2 (fun e => h2 (.inr e))
              have FB := Lib.hid (fail_any w4 g (.slice A4 r2.length c4) (.int .i64 k2) (.string s2) p2 _ _ 60 b4)
              unfold faultE at FB
              clear hE hle h2
              go_wp2_with (go_at_call 63; refine FB.out.mono ?_; rintro e w5 ⟨rfl, rfl⟩)
              exact ⟨rfl, LinePost.bad HB.out hbl⟩
      · have HB := Lib.hid (show lineR d ((1, s, p) :: t' :: r') = .error (p, 60) by rw [lineR, if_pos rfl, if_neg (by rintro (h | h); exact hsc (ba_ext h.1); exact hss (ba_ext h.1))]; exact (if_neg (fun h => hsc (ba_ext h))).trans (if_neg (fun h => hss (ba_ext h))))
        have e1 : (s.toList == [99, 108, 97, 115, 115]) = false := by
          rw [beq_eq_false_iff_ne, ByteArray.toList_eq]
          exact fun h => hsc (ba_ext h)
        have e2 : (s.toList == [115, 104, 97, 112, 101]) = false := by
          rw [beq_eq_false_iff_ne, ByteArray.toList_eq]
          exact fun h => hss (ba_ext h)
        clear hsc hss
        go_enter Tryz.func31, Tryz.ntmps31
        go_wp2_with (first
          | (go_at_call 62; refine (WO.out _ (by exact hb)).mono ?_; rintro e w2 ⟨rfl, rfl⟩)
          | (go_at_call 63; refine (FA.out _ _ (by exact hb)).mono ?_; rintro e w3 ⟨rfl, rfl⟩))
        exact ⟨rfl, LinePost.bad HB.out (Kp.refl _ _)⟩
  · have HB := Lib.hid (show lineR d ((k, s, p) :: r) = .error (p, 60) by rw [lineR, if_neg hk1])
    have WN := Lib.hid (fun W h => word_none W g (.slice A r.length c) k s p (.slice Ac pc.length cc) (.slice As ps.length cs) hk1 h)
    unfold faultE at WN
    clear hk1
    go_enter Tryz.func31, Tryz.ntmps31
    go_wp2_with (go_at_call 62; refine (WN.out _ (by exact hb)).mono ?_; rintro e w2 ⟨rfl, rfl⟩)
    exact ⟨rfl, LinePost.bad HB.out (Kp.refl _ _)⟩
end Go.Proofs.YtobofhiakgohfaaGreatDoor

namespace Go.Proofs.YtobofhiakgohfaaGreatDoor
open Go

/-- Operation i has been carried out. -/
def lst (listed : Array Bool) (i : Nat) : Prop := listed.getD i false = true
theorem lst_set {listed : Array Bool} {i j : Nat} (hi : i < listed.size) : lst (listed.setIfInBounds i true) j ↔ j = i ∨ lst listed j := by
  unfold lst
  by_cases h : j = i
  · subst h
    simp [hi]
  · simp only [Array.getD_eq_getD_getElem?, Array.getElem?_setIfInBounds, h, false_or]
    rw [if_neg (fun e => h e.symm)]
theorem lst_none (m i : Nat) : ¬ lst (Array.replicate m false) i := by
  unfold lst
  rcases Nat.lt_or_ge i m with h | h <;> simp [h]

section
variable {F : Fence} {n : Nat} {P : Program} {ops : Array Oper} {Q : Exit → Act → World → Prop} {md : Region.Mode}

/-- What an operation waits for has been carried out with it. -/
def Closed (md : Region.Mode) (ops : Array Oper) (listed : Array Bool) : Prop := ∀ j oj, ops[j]? = some oj → lst listed j → ∀ e ∈ oj.after, Region.binds md e = true → lst listed e.on

theorem ready_facts {listed : Array Bool} {i : Nat} (hs : listed.size = ops.size) (h : i ∈ Region.ready md ops listed) : i < ops.size ∧ ¬ lst listed i ∧ ∃ o, ops[i]? = some o ∧ ∀ e ∈ o.after, Region.binds md e = true → lst listed e.on := by
  obtain ⟨h1, o, h2, h3⟩ := mem_ready.1 h
  have hi : i < ops.size := (Array.getElem?_eq_some_iff.1 h2).1
  refine ⟨hi, ?_, o, h2, h3⟩
  unfold lst
  simp only [Array.getD_eq_getD_getElem?] at h1 ⊢
  rw [Array.getElem?_eq_getElem (by omega)] at h1 ⊢
  simpa using h1

theorem closed_set {listed : Array Bool} {i : Nat} (hs : listed.size = ops.size) (hc : Closed md ops listed) (h : i ∈ Region.ready md ops listed) : Closed md ops (listed.setIfInBounds i true) := by
  obtain ⟨hi, _, o, ho, ha⟩ := ready_facts hs h
  intro j oj hj hl e he hb
  rw [lst_set (by omega)] at hl ⊢
  rcases hl with rfl | hl
  · rw [ho] at hj
    cases hj
    exact .inr (ha e he hb)
  · exact .inr (hc j oj hj hl e he hb)

theorem count_set {listed : Array Bool} {i : Nat} (hi : i < listed.size) (h : ¬ lst listed i) : (listed.setIfInBounds i true).toList.count false + 1 = listed.toList.count false := by
  have hf : listed[i] = false := by
    unfold lst at h
    simp only [Array.getD_eq_getD_getElem?, Array.getElem?_eq_getElem hi, Option.getD_some] at h
    simpa using h
  have hm : false ∈ listed.toList := by
    rw [← hf]; exact Array.mem_toList_iff.2 (Array.getElem_mem hi)
  have hp := List.count_pos_iff.2 hm
  rw [Array.toList_setIfInBounds, List.count_set (by simpa using hi)]
  have e1 : (listed.toList[i]'(by simpa using hi) == false) = true := by simp [hf]
  rw [if_pos e1, if_neg (by decide)]
  omega

/-- By an invariant. -/
theorem any_inv (I : Array Bool → Act → World → Prop)
    (hstep : ∀ listed a w i, listed.size = ops.size → Closed md ops listed → I listed a w → i ∈ Region.ready md ops listed → wpOpIn F n P ops Q i (I (listed.setIfInBounds i true)) a w)
    (hend : ∀ listed a w, listed.size = ops.size → Closed md ops listed → I listed a w → Region.ready md ops listed = [] → Q .normal a w) :
    ∀ (fuel : Nat) (listed : Array Bool) (a : Act) (w : World), listed.size = ops.size → Closed md ops listed → listed.toList.count false ≤ fuel → I listed a w → wpAnyIn F n P md ops Q fuel listed a w
  | 0, listed, a, w, hs, hc, hn, hI => by
    have h0 : Region.ready md ops listed = [] := by
      refine List.eq_nil_iff_forall_not_mem.2 fun i hi => ?_
      obtain ⟨h1, h2, _⟩ := ready_facts hs hi
      have := count_set (by omega) h2
      omega
    exact ⟨h0, hend _ _ _ hs hc hI h0⟩
  | fuel + 1, listed, a, w, hs, hc, hn, hI => by
    refine ⟨fun h0 => hend _ _ _ hs hc hI h0, fun i hi => ?_⟩
    obtain ⟨h1, h2, _⟩ := ready_facts hs hi
    have hcs := count_set (by omega) h2
    exact wpOpIn_mono (fun a' w' h => any_inv I hstep hend fuel _ a' w' (by simpa using hs) (closed_set hs hc hi) (by omega) h) (hstep _ _ _ _ hs hc hI hi)

/-- The region. -/
theorem region_inv {id : Nat} {a : Act} {w : World} (I : Array Bool → Act → World → Prop) (hm : P.follows .mixedOrders = true)
    (h0 : I (Array.replicate ops.size false) a w.drew)
    (hstep : ∀ listed a w i, listed.size = ops.size → Closed .any ops listed → I listed a w → i ∈ Region.ready .any ops listed → wpOpIn F n P ops Q i (I (listed.setIfInBounds i true)) a w)
    (hend : ∀ listed a w, listed.size = ops.size → Closed .any ops listed → I listed a w → Region.ready .any ops listed = [] → Q .normal a w) : (Code.region id ops true).wpIn F n P Q a w :=
  wpIn_region_any hm (any_inv I hstep hend _ _ _ _ (by simp) (fun j oj hj hl => absurd hl (lst_none _ _)) (by simp) h0)

theorem lst_of_done {listed : Array Bool} {i : Nat} {o : Oper} (hs : listed.size = ops.size) (h0 : Region.ready md ops listed = []) (ho : ops[i]? = some o) (ha : ∀ e ∈ o.after, lst listed e.on) : lst listed i := by
  by_cases hn : lst listed i
  · exact hn
  · have hi : i < ops.size := (Array.getElem?_eq_some_iff.1 ho).1
    have : i ∈ Region.ready md ops listed := by
      refine mem_ready.2 ⟨?_, o, ho, fun e he _ => ha e he⟩
      unfold lst at hn
      simp only [Array.getD_eq_getD_getElem?] at hn ⊢
      rw [Array.getElem?_eq_getElem (by omega)] at hn ⊢
      simpa using hn
    rw [h0] at this
    cases this
theorem op_val {i : Nat} {o : Oper} {a : Act} {w w' : World} {v : Value} {K : Act → World → Prop} (hF : ∀ f, F.fn f) (ho : ops[i]? = some o) (hg : o.guard = none) (hnd : noDefer o = true) (hr : (execOp a.eval o).run P w = .ok (.value v) w') (hK : K (a.put o.dst v) w') : wpOpIn F n P ops Q i K a w := by
  unfold wpOpIn
  rw [ho]
  have hw : Region.wanted o (yielded ops a.tmps) = true := by simp [Region.wanted, hg]
  simp only [hw, if_true]
  refine ⟨fun f _ => hF f, ?_⟩
  rw [Oper.semAt_plain F _ _ (noDefer_ne hnd), hr]
  exact hK
theorem op_skip {i : Nat} {o : Oper} {a : Act} {w w' : World} {K : Act → World → Prop} (hF : ∀ f, F.fn f) (ho : ops[i]? = some o) (hg : o.guard = none) (hnd : noDefer o = true) (hr : (execOp a.eval o).run P w = .ok .skip w') (hK : K (a.put o.dst undef) w') : wpOpIn F n P ops Q i K a w := by
  unfold wpOpIn
  rw [ho]
  have hw : Region.wanted o (yielded ops a.tmps) = true := by simp [Region.wanted, hg]
  simp only [hw, if_true]
  refine ⟨fun f _ => hF f, ?_⟩
  rw [Oper.semAt_plain F _ _ (noDefer_ne hnd), hr]
  exact hK
theorem exec_append {o : Oper} {a : Act} {w w' : World} {s x : Operand} {t : TypeId} {vs vx v : Value} (ho : o.op = .call { callee := .builtin .append, args := #[s, x], argTypes := #[t, t] }) (hs : a.eval s = vs) (hx : a.eval x = vx)
    (hr : (Builtin.append_ #[t, t] o.type #[vs, vx]).run P w = .ok v w') : (execOp a.eval o).run P w = .ok (.value v) w' := by
  unfold execOp
  simp only [ho, resolve, invoke, builtin, Sem.run_bind, Sem.run_pure, Result.andThen_ok, List.map_toArray, List.map_cons, List.map_nil, hs, hx, hr]
end
end Go.Proofs.YtobofhiakgohfaaGreatDoor
