/- PrinterTidies, PrinterBack: the walks. token: Number at the empty word; the walk of TokenWords. descr: the document's ended, begun. descr: the document's word. descr: the document's word: a class's name. -/
import Derived.Test.YtobofhiakgohfaaGreatDoorZQ
import Derived.Test.YtobofhiakgohfaaGreatDoorZI
import Derived.Test.YtobofhiakgohfaaGreatDoorZD
import Derived.Test.YtobofhiakgohfaaGreatDoorZC
import Derived.Test.YtobofhiakgohfaaGreatDoorZB
import Derived.Test.YtobofhiakgohfaaGreatDoorZA
set_option linter.unusedVariables false
set_option linter.unusedSimpArgs false
namespace Go.Proofs.YtobofhiakgohfaaGreatDoor
open Go.RowKit

theorem runT_err : ∀ (T : TVl) (d : DescD) (st : Nat) (p e : Int), runT d st T = .error (p, e) → e = 4 ∨ e = 60
  | [], d, st, p, e, h => by rw [runT] at h; cases h
  | t :: r, d, st, p, e, h => by
    rw [runT] at h
    cases hs : stepT d st t with
    | ok x =>
      obtain ⟨d', st'⟩ := x
      rw [hs] at h
      exact runT_err r d' st' p e h
    | error e' =>
      rw [hs] at h
      cases h
      unfold stepT at hs
      split at hs
      · unfold stepW at hs
        repeat' split at hs
        all_goals first
          | (cases hs; first | exact .inl rfl | exact .inr rfl)
          | cases hs
      · split at hs
        · cases hs; exact .inr rfl
        · split at hs
          · cases hs
          · cases hs; exact .inr rfl
theorem parse_err {s : ByteArray} {p e : Int} (h : parseR s = .error (p, e)) : e = 4 ∨ e = 60 := runT_err _ _ _ _ _ h

theorem PD.descV {w : World} {base : Nat} {vc vs : Value} {pc : List (ClassD × Value)} {ps : List (ShapeD × Value)} {d : DescD} (h : PD w base vc vs pc ps) (hc : pc.map Prod.fst = d.cls) (hs : ps.map Prod.fst = d.shs) (hf : fitD d = true) : DescV w w.heap.size (.agg #[vc, vs]) d := by
  unfold fitD at hf
  simp only [Bool.and_eq_true, decide_eq_true_eq] at hf
  have h1 : pc.length = d.cls.length := by rw [← hc]; simp
  have h2 : ps.length = d.shs.length := by rw [← hs]; simp
  exact (show ODescV w base (.agg #[vc, vs]) d from ⟨vc, vs, rfl, ⟨pc, hc, h.oc, by omega, h.ci⟩, ⟨ps, hs, h.os, by omega, h.si⟩⟩).it

/-- Parse, for readers. -/
def ParseD (s : ByteArray) (w : World) (e : Ending) (w' : World) : Prop :=
  (∃ p er, parseR s = .error (p, er) ∧ er ≠ 0 ∧ e = .returned (.tuple #[.agg #[.slice none 0 0, .slice none 0 0], .int .i64 p, .int .i64 er]) ∧ K0 w w') ∨
  (∃ d A n c A2 n2 c2, parseR s = .ok d ∧ fitD d = true ∧ e = .returned (.tuple #[.agg #[.slice A n c, .slice A2 n2 c2], .int .i64 0, .int .i64 0]) ∧ DescV w' w'.heap.size (.agg #[.slice A n c, .slice A2 n2 c2]) d ∧ n = d.cls.length ∧ n2 = d.shs.length ∧ K0 w w')
theorem parse_desc (s : ByteArray) (w : World) (hs : s.size ≤ 1048576) : Calls Tryz.prog 15 #[.string s] w (ParseD s w) := by
  refine (parse_any s w hs).mono ?_
  rintro e w' (⟨p, er, h1, h2, h3⟩ | ⟨d, vc, vs, pc, ps, h1, h2, h3, h4, h5, h6⟩)
  · exact .inl ⟨p, er, h1, by rcases parse_err h1 with rfl | rfl <;> omega, h2, h3⟩
  · obtain ⟨A, c, rfl, _, _⟩ := own_form h3.oc
    obtain ⟨A2, c2, rfl, _, _⟩ := own_form h3.os
    have hf := parse_fit h1
    exact .inr ⟨d, A, _, c, A2, _, c2, h1, hf, h2, h3.descV h4 h5 hf, by rw [← h4]; simp, by rw [← h5]; simp, h6⟩

theorem printR_fit {d : DescD} (h : fitD d = true) : printR d = (txtID d, 0) := by unfold printR; rw [if_pos h]

end Go.Proofs.YtobofhiakgohfaaGreatDoor

namespace Go.Proofs.YtobofhiakgohfaaGreatDoor
open Go.RowKit

/-- The variable strconv.ErrSyntax holds an error. -/
def SynV (w : World) : Prop := ∃ ev, w.cell? ⟨1, 0, none⟩ = some ev ∧ (ev = .nilIface ∨ ∃ te pe, ev = .iface te pe)

theorem SynV.kp {S : Nat → Prop} {w w' : World} (h : SynV w) (hk : Kp S w w') (hs : ¬ S 1) : SynV w' := by
  obtain ⟨ev, h1, h2⟩ := h
  exact ⟨ev, (hk.cell (World.block_lt_of_cell? w _ h1) hs).trans h1, h2⟩

theorem itemR_form (s : ByteArray) : ∃ n lo hi ok, itemR s = (itemVal n lo hi, ok) := by
  unfold itemR
  split
  · exact ⟨_, _, _, _, rfl⟩
  · split
    · exact ⟨_, _, _, _, rfl⟩
    · split
      · exact ⟨_, _, _, _, rfl⟩
      · exact ⟨_, _, _, _, rfl⟩

end Go.Proofs.YtobofhiakgohfaaGreatDoor

namespace Go.Proofs.YtobofhiakgohfaaGreatDoor
open Go.RowKit

/-- A line's end, in a state. -/
def endedE (st : Nat) : Int := if st = 0 ∨ st = 3 ∨ st = 7 then 0 else 60
set_option maxRecDepth 100000 in
theorem ended_any (st : Nat) (w : World) (h : st ≤ 7) : Calls Tryz.prog 58 #[.int .i64 (st : Int)] w fun e w' => e = .returned (.tuple #[.int .i64 0, .int .i64 (endedE st)]) ∧ w = w' := by
  have : st = 0 ∨ st = 1 ∨ st = 2 ∨ st = 3 ∨ st = 4 ∨ st = 5 ∨ st = 6 ∨ st = 7 := by omega
  rcases this with rfl | rfl | rfl | rfl | rfl | rfl | rfl | rfl
  all_goals
    go_enter Tryz.func58, Tryz.ntmps58
    go_wp2
    go_ret2
    exact ⟨rfl, rfl⟩

/-- What the document's machine has read, as it lies in memory. -/
def RS (w : World) (base gd : Nat) (d : DescD) : Prop := ∃ vc vs pc ps, Blk w gd 42 #[vc, vs] ∧ PD w base vc vs pc ps ∧ pc.map Prod.fst = d.cls ∧ ps.map Prod.fst = d.shs ∧ base ≤ gd
/-- What a step may turn. -/
def LW (base g : Nat) (w : World) (k : Nat) : Prop := base ≤ k ∧ (k = g ∨ ∃ t cs, (t = 53 ∨ t = 51 ∨ t = 90) ∧ Blk w k t cs)
/-- What a step answers. -/
def RWPost (base gd : Nat) (x : Except Int (DescD × Nat)) (w : World) (e : Ending) (w' : World) : Prop :=
  (∃ (a er : Int), x = .error er ∧ e = .returned (.tuple #[.int .i64 a, .int .i64 er]) ∧ Kp (LW base gd w) w w') ∨
  (∃ d' st', x = .ok (d', st') ∧ e = .returned (.tuple #[.int .i64 (st' : Nat), .int .i64 0]) ∧ RS w' base gd d' ∧ Kp (LW base gd w) w w')
theorem RWPost.bad {base gd : Nat} {x : Except Int (DescD × Nat)} {w w' : World} {er a : Int} (h : x = .error er) (hk : Kp (LW base gd w) w w') : RWPost base gd x w (.returned (.tuple #[.int .i64 a, .int .i64 er])) w' := .inl ⟨a, er, h, rfl, hk⟩

set_option maxRecDepth 100000 in
set_option maxHeartbeats 4000000 in
theorem begun_any (w : World) (base gd : Nat) (d : DescD) (s : ByteArray) (p : Int) (h : RS w base gd d) (hbase : base ≤ w.heap.size) (hlc : d.cls.length ≤ 32) (hls : d.shs.length ≤ 32) :
    Calls Tryz.prog 86 #[.pointer (some ⟨gd, 0, none⟩), .string s] w (RWPost base gd (stepW d 0 s p) w) := by
  obtain ⟨vc, vs, pc, ps, hb, hd, hpc, hps, hbg⟩ := h
  obtain ⟨i1, hj, hy0, hy1, hy2⟩ := info71'
  obtain ⟨i2, hm, hx0, hx1, hx2⟩ := info73'
  have hcl : d.cls.length = pc.length := by rw [← hpc]; simp
  have hsl : d.shs.length = ps.length := by rw [← hps]; simp
  obtain ⟨Ac, cc, rfl, hc1, hc2⟩ := own_form hd.oc
  obtain ⟨As, cs, rfl, hs1, hs2⟩ := own_form hd.os
  have hl := hb.lt
  have x4 := hb.cell 0
  have x5 := hb.cell 1
  have xf4 := hb.frozen 0
  have xf5 := hb.frozen 1
  simp at x4 x5
  by_cases hsc : s.data.toList = bClass
  · by_cases h32 : pc.length = 32
    · have HB := Lib.hid (show stepW d 0 s p = .error 4 by unfold stepW; rw [if_pos rfl, if_pos hsc, if_pos (by omega)])
      obtain rfl : s = ⟨#[99, 108, 97, 115, 115]⟩ := ba_ext hsc
      have e32 : ((pc.length : Int) == 32) = true := by rw [h32]; rfl
      clear h32 hcl hsc
      go_enter Tryz.func86, Tryz.ntmps86
      go_wp2
      go_ret2
      exact RWPost.bad HB.out (Kp.refl _ _)
    · have HB := Lib.hid (show stepW d 0 s p = .ok (⟨d.cls ++ [⟨⟨#[]⟩, [], 0⟩], d.shs⟩, 1) by unfold stepW; rw [if_pos rfl, if_pos hsc, if_neg (by omega)])
      obtain rfl : s = ⟨#[99, 108, 97, 115, 115]⟩ := ba_ext hsc
      have e32 : ((pc.length : Int) == 32) = false := beq_eq_false_iff_ne.2 (by omega)
      have hlt : pc.length < 32 := by omega
      clear h32 hcl hsc
      go_enter Tryz.func86, Tryz.ntmps86
      go_wp2_with (at_builtin; refine wpList_append_lies _ rfl (.tmp 18) (.tmp 20) 39 rfl base 51 i1 _ 3 48 Tryz.underlying39 hj hy0 hy1 hy2 rfl (by omega) (.slice Ac pc.length cc) pc.length (tris ctri pc) rfl (by exact hd.oc.alloc _) ⟨w.heap.size, 0, none⟩ 1 1 [.string ⟨#[]⟩, .slice none 0 0, .int .i64 0] rfl rfl (by exact World.news_of_block (cs := #[.string ⟨#[]⟩, .slice none 0 0, .int .i64 0]) (t := 51) (fr := (0, 0)) (heap_alloc_new w _)) (by simp [Value.oneCell']) (by omega) (by simp only [maxLen]; omega) (by omega) (by simp; omega) (w.heap.size + 1) (by simp) ?_; intro g8 cap8 w8 hown8 hg8 hat8 hlt8; have d8 := (hb.alloc (.cells #[.string ⟨#[]⟩, .slice none 0 0, .int .i64 0] 51)).grown hg8 (Ne.symm (own_blk_ne hd.oc hb (by decide))); have d80 := d8.cell 0; have d8f := d8.frozen 0; have d8l := d8.lt; simp at d80)
      all_goals
        have KF : Kp (fun k => k = gd ∨ (Value.slice Ac pc.length cc).ownBlock = some k) w (w8.setCell ⟨gd, 0, none⟩ (.slice (some ⟨g8, 0, none⟩) (pc.length + 1) cap8)) := (((Kp.refl _ w).alloc _).grown hg8 (fun k hk => .inr (.inr hk))).setCell (p := ⟨gd, 0, none⟩) (.inr (.inl rfl)) _
        have avo : ∀ t, t ≠ 42 → t ≠ 51 → ∀ g' cs, Blk w g' t cs → ¬ (g' = gd ∨ (Value.slice Ac pc.length cc).ownBlock = some g') := by
          rintro t h1 h2 g' cs h (e | e)
          · subst e; exact h.ne_ hb h1 rfl
          · exact own_blk_ne hd.oc h (Ne.symm h2) e
        have hown9 := own_setCell (p := ⟨gd, 0, none⟩) (u := .slice (some ⟨g8, 0, none⟩) (pc.length + 1) cap8) hown8 (own_blk_ne hown8 d8 (by decide))
        have d9 := d8.set_ 0 (.slice (some ⟨g8, 0, none⟩) (pc.length + 1) cap8)
        go_ret2
        refine .inr ⟨_, 1, HB.out, rfl, ⟨.slice (some ⟨g8, 0, none⟩) (pc.length + 1) cap8, _, pc ++ [(⟨⟨#[]⟩, [], 0⟩, .slice none 0 0)], ps, by simpa using d9, ?_, by rw [List.map_append, hpc]; rfl, hps, hbg⟩, ?_⟩
        · refine hd.addc KF (avo 53 (by decide) (by decide)) (avo 90 (by decide) (by decide)) ?_ ⟨World.ownsRow_nil _ _ _ _, by simp, by simp⟩ hbase (by show 0 ≤ 1048576; omega)
          rw [tris_append]
          exact hown9
        · exact KF.mono (fun k h => by
            rcases h with h | h
            · exact ⟨by omega, .inl h⟩
            · obtain ⟨cs', hcs⟩ := own_blk hd.oc k h
              exact ⟨(hd.oc.lt k h).1, .inr ⟨51, cs', .inr (.inl rfl), hcs⟩⟩)
  · by_cases hss : s.data.toList = bShape
    · by_cases h32 : ps.length = 32
      · have HB := Lib.hid (show stepW d 0 s p = .error 4 by unfold stepW; rw [if_pos rfl, if_neg hsc, if_pos hss, if_pos (by omega)])
        obtain rfl : s = ⟨#[115, 104, 97, 112, 101]⟩ := ba_ext hss
        have e32 : ((ps.length : Int) == 32) = true := by rw [h32]; rfl
        clear h32 hsl hsc hss
        go_enter Tryz.func86, Tryz.ntmps86
        go_wp2
        go_ret2
        exact RWPost.bad HB.out (Kp.refl _ _)
      · have HB := Lib.hid (show stepW d 0 s p = .ok (⟨d.cls, d.shs ++ [⟨[], 0, 0⟩]⟩, 4) by unfold stepW; rw [if_pos rfl, if_neg hsc, if_pos hss, if_neg (by omega)])
        obtain rfl : s = ⟨#[115, 104, 97, 112, 101]⟩ := ba_ext hss
        have e32 : ((ps.length : Int) == 32) = false := beq_eq_false_iff_ne.2 (by omega)
        have hlt : ps.length < 32 := by omega
        clear h32 hsl hsc hss
        go_enter Tryz.func86, Tryz.ntmps86
        go_wp2_with (at_builtin; refine wpList_append_lies _ rfl (.tmp 36) (.tmp 38) 40 rfl base 90 i2 _ 3 40 Tryz.underlying40 hm hx0 hx1 hx2 rfl (by omega) (.slice As ps.length cs) ps.length (tris stri ps) rfl (by exact hd.os.alloc _) ⟨w.heap.size, 0, none⟩ 1 1 [.slice none 0 0, .int .i64 0, .int .i64 0] rfl rfl (by exact World.news_of_block (cs := #[.slice none 0 0, .int .i64 0, .int .i64 0]) (t := 90) (fr := (0, 0)) (heap_alloc_new w _)) (by simp [Value.oneCell']) (by omega) (by simp only [maxLen]; omega) (by omega) (by simp; omega) (w.heap.size + 1) (by simp) ?_; intro g8 cap8 w8 hown8 hg8 hat8 hlt8; have d8 := (hb.alloc (.cells #[.slice none 0 0, .int .i64 0, .int .i64 0] 90)).grown hg8 (Ne.symm (own_blk_ne hd.os hb (by decide))); have d80 := d8.cell 1; have d8f := d8.frozen 1; have d8l := d8.lt; simp at d80)
        all_goals
          have KF : Kp (fun k => k = gd ∨ (Value.slice As ps.length cs).ownBlock = some k) w (w8.setCell ⟨gd, 1, none⟩ (.slice (some ⟨g8, 0, none⟩) (ps.length + 1) cap8)) := (((Kp.refl _ w).alloc _).grown hg8 (fun k hk => .inr (.inr hk))).setCell (p := ⟨gd, 1, none⟩) (.inr (.inl rfl)) _
          have avo : ∀ t, t ≠ 42 → t ≠ 90 → ∀ g' cs', Blk w g' t cs' → ¬ (g' = gd ∨ (Value.slice As ps.length cs).ownBlock = some g') := by
            rintro t h1 h2 g' cs h (e | e)
            · subst e; exact h.ne_ hb h1 rfl
            · exact own_blk_ne hd.os h (Ne.symm h2) e
          have hown9 := own_setCell (p := ⟨gd, 1, none⟩) (u := .slice (some ⟨g8, 0, none⟩) (ps.length + 1) cap8) hown8 (own_blk_ne hown8 d8 (by decide))
          have d9 := d8.set_ 1 (.slice (some ⟨g8, 0, none⟩) (ps.length + 1) cap8)
          go_ret2
          refine .inr ⟨_, 4, HB.out, rfl, ⟨_, .slice (some ⟨g8, 0, none⟩) (ps.length + 1) cap8, pc, ps ++ [(⟨[], 0, 0⟩, .slice none 0 0)], by simpa using d9, ?_, hpc, by rw [List.map_append, hps]; rfl, hbg⟩, ?_⟩
          · refine hd.adds KF (avo 53 (by decide) (by decide)) (avo 51 (by decide) (by decide)) ?_ ⟨World.ownsRow_nil _ _ _ _, by simp, by simp⟩ hbase ⟨by show (-9223372036854775808 : Int) ≤ 0; omega, by show (0 : Int) ≤ 9223372036854775807; omega⟩
            rw [tris_append]
            exact hown9
          · exact KF.mono (fun k h => by
              rcases h with h | h
              · exact ⟨by omega, .inl h⟩
              · obtain ⟨cs', hcs⟩ := own_blk hd.os k h
                exact ⟨(hd.os.lt k h).1, .inr ⟨90, cs', .inr (.inr rfl), hcs⟩⟩)
    · have HB := Lib.hid (show stepW d 0 s p = .error 60 by unfold stepW; rw [if_pos rfl, if_neg hsc, if_neg hss])
      have e1 : (s.toList == [99, 108, 97, 115, 115]) = false := by
        rw [beq_eq_false_iff_ne, ByteArray.toList_eq]
        exact hsc
      have e2 : (s.toList == [115, 104, 97, 112, 101]) = false := by
        rw [beq_eq_false_iff_ne, ByteArray.toList_eq]
        exact hss
      clear hsc hss
      go_enter Tryz.func86, Tryz.ntmps86
      go_wp2
      go_ret2
      exact RWPost.bad HB.out (Kp.refl _ _)
end Go.Proofs.YtobofhiakgohfaaGreatDoor

namespace Go.Proofs.YtobofhiakgohfaaGreatDoor
open Go.RowKit

theorem RS.k0 {w w' : World} {base gd : Nat} {d : DescD} (h : RS w base gd d) (hk : K0 w w') : RS w' base gd d := by
  obtain ⟨vc, vs, pc, ps, h1, h2, h3, h4, h5⟩ := h
  exact ⟨vc, vs, pc, ps, h1.kp hk (fun h => h), h2.k0 hk, h3, h4, h5⟩
theorem LW.k0 {w w1 : World} {base g k : Nat} (hk : K0 w w1) (hb : k < w.heap.size) (h : LW base g w1 k) : LW base g w k := by
  refine ⟨h.1, ?_⟩
  rcases h.2 with h | ⟨t, cs, ht, hb'⟩
  · exact .inl h
  · exact .inr ⟨t, cs, ht, (hk.block k hb (fun h => h)).symm.trans hb'⟩
theorem RWPost.k0 {base gd : Nat} {x : Except Int (DescD × Nat)} {w w1 w' : World} {e : Ending} (hk : K0 w w1) (h : RWPost base gd x w1 e w') : RWPost base gd x w e w' := by
  rcases h with ⟨a, er, h1, h2, h3⟩ | ⟨d, st, h1, h2, h3, h4⟩
  · exact .inl ⟨a, er, h1, h2, (K0.kp hk).trans' h3 (fun i hi h => h.k0 hk hi)⟩
  · exact .inr ⟨d, st, h1, h2, h3, (K0.kp hk).trans' h4 (fun i hi h => h.k0 hk hi)⟩

set_option maxRecDepth 100000 in
set_option maxHeartbeats 4000000 in
theorem rword_0 (w : World) (base gd : Nat) (d : DescD) (s : ByteArray) (p : Int) (hs : s.size ≤ 1048576) (h : RS w base gd d) (hbase : base ≤ w.heap.size) (hlc : d.cls.length ≤ 32) (hls : d.shs.length ≤ 32) :
    Calls Tryz.prog 57 #[.pointer (some ⟨gd, 0, none⟩), .int .i64 0, .agg #[.int .i64 1, .string s, .int .i64 p]] w (RWPost base gd (stepW d 0 s p) w) := by
  obtain ⟨nm, lo, hi', isI, hI⟩ := itemR_form s
  have HI := Lib.hid (fun W => ritem_any s W (by omega))
  unfold ItemPost at HI
  rw [hI] at HI
  simp only [itemVal] at HI
  have HN := Lib.hid (fun W => rnumber_any s W (by omega))
  unfold NumPost at HN
  have y := Blk.new w 73 #[.int .i64 1, .string s, .int .i64 p]
  have ky : K0 w (w.alloc (.cells #[.int .i64 1, .string s, .int .i64 p] 73)) := (Kp.refl _ _).alloc _
  have HB := Lib.hid (fun W h1 h2 => begun_any W base gd d s p h1 h2 hlc hls)
  go_enter Tryz.func57, Tryz.ntmps57
  go_wp2_with (first
    | (go_at_call 84; refine (HI.out _).mono ?_; rintro e w2 ⟨rfl, hk2⟩; have y2 := y.kp hk2 (fun h => h); have y21 := y2.cell 1; have y22 := y2.cell 2; have yl2 := y2.lt; have k02 := ky.trans hk2; have z2 := Blk.new w2 53 #[.string nm, .int .i64 lo, .int .i64 hi', .int .i64 p]; have kz : K0 w2 (w2.alloc (.cells #[.string nm, .int .i64 lo, .int .i64 hi', .int .i64 p] 53)) := (Kp.refl _ _).alloc _; simp at y21 y22)
    | (go_at_call 85; refine (HN.out _).mono ?_; rintro e w3 ⟨rfl, hk3⟩; have y3 := (y2.kp kz (fun h => h)).kp hk3 (fun h => h); have y31 := y3.cell 1; have y32 := y3.cell 2; have yl3 := y3.lt; have z3 := z2.kp hk3 (fun h => h); have z30 := z3.cell 0; have z31 := z3.cell 1; have z32 := z3.cell 2; have z33 := z3.cell 3; have zl3 := z3.lt; have k03 : K0 w w3 := (k02.trans kz).trans hk3; simp at y31 y32 z30 z31 z32 z33)
    )
  refine (HB.out w3 (h.k0 k03) (by have := k03.size; omega)).mono ?_
  rintro e w4 hp
  have hp' := hp.k0 k03
  rcases hp with ⟨a, er, h1, he, h3⟩ | ⟨d', st', h1, he, h3, h4⟩
  all_goals
    rw [he] at hp'
    subst he
    have HP := Lib.hid hp'
    clear hp'
    go_wp2
    go_ret2
    exact HP.out
set_option maxRecDepth 100000 in
set_option maxHeartbeats 4000000 in
theorem rword_7 (w : World) (base gd : Nat) (d : DescD) (s : ByteArray) (p : Int) (hs : s.size ≤ 1048576) (h : RS w base gd d) (hbase : base ≤ w.heap.size) :
    Calls Tryz.prog 57 #[.pointer (some ⟨gd, 0, none⟩), .int .i64 7, .agg #[.int .i64 1, .string s, .int .i64 p]] w (RWPost base gd (stepW d 7 s p) w) := by
  obtain ⟨nm, lo, hi', isI, hI⟩ := itemR_form s
  have HI := Lib.hid (fun W => ritem_any s W (by omega))
  unfold ItemPost at HI
  rw [hI] at HI
  simp only [itemVal] at HI
  have HN := Lib.hid (fun W => rnumber_any s W (by omega))
  unfold NumPost at HN
  have y := Blk.new w 73 #[.int .i64 1, .string s, .int .i64 p]
  have ky : K0 w (w.alloc (.cells #[.int .i64 1, .string s, .int .i64 p] 73)) := (Kp.refl _ _).alloc _
  go_enter Tryz.func57, Tryz.ntmps57
  go_wp2_with (first
    | (go_at_call 84; refine (HI.out _).mono ?_; rintro e w2 ⟨rfl, hk2⟩; have y2 := y.kp hk2 (fun h => h); have y21 := y2.cell 1; have y22 := y2.cell 2; have yl2 := y2.lt; have k02 := ky.trans hk2; have z2 := Blk.new w2 53 #[.string nm, .int .i64 lo, .int .i64 hi', .int .i64 p]; have kz : K0 w2 (w2.alloc (.cells #[.string nm, .int .i64 lo, .int .i64 hi', .int .i64 p] 53)) := (Kp.refl _ _).alloc _; simp at y21 y22)
    | (go_at_call 85; refine (HN.out _).mono ?_; rintro e w3 ⟨rfl, hk3⟩; have y3 := (y2.kp kz (fun h => h)).kp hk3 (fun h => h); have y31 := y3.cell 1; have y32 := y3.cell 2; have yl3 := y3.lt; have z3 := z2.kp hk3 (fun h => h); have z30 := z3.cell 0; have z31 := z3.cell 1; have z32 := z3.cell 2; have z33 := z3.cell 3; have zl3 := z3.lt; have k03 : K0 w w3 := (k02.trans kz).trans hk3; simp at y31 y32 z30 z31 z32 z33)
    )
  go_ret2
  exact RWPost.bad (stepW_7 d s p) (K0.kp k03)
end Go.Proofs.YtobofhiakgohfaaGreatDoor

namespace Go.Proofs.YtobofhiakgohfaaGreatDoor
open Go.RowKit

theorem OItemsV.far {S : Nat → Prop} {w w' : World} {base : Nat} {v : Value} {l : List ItemD} (h : OItemsV w base v l) (hk : Kp S w w') (hs : ∀ g, v.ownBlock = some g → ¬ S g) : OItemsV w' base v l := ⟨own_far h.1 hk hs, h.2⟩
theorem apart_last {α β : Type} {f : α → Option Nat} {g : β → Option Nat} {l : List α} {x0 x1 : α} {r : List β} {n : Nat} (h : ((l ++ [x0]).map f ++ r.map g).Pairwise Apart)
    (hl : ∀ y ∈ l, ∀ k, f y = some k → k < n) (hr : ∀ y ∈ r, ∀ k, g y = some k → k < n) (hb : f x1 = f x0 ∨ ∀ k, f x1 = some k → n ≤ k) : ((l ++ [x1]).map f ++ r.map g).Pairwise Apart := by
  rw [List.map_append, List.pairwise_append, List.pairwise_append] at h ⊢
  obtain ⟨⟨a1, a2, a3⟩, a4, a5⟩ := h
  rcases hb with hb | hb
  · have e : List.map f [x1] = List.map f [x0] := by rw [List.map_cons, List.map_cons, hb]
    rw [e]
    exact ⟨⟨a1, a2, a3⟩, a4, a5⟩
  · refine ⟨⟨a1, List.pairwise_singleton _ _, fun a ha b hb2 => ?_⟩, a4, fun a ha b hb2 => ?_⟩
    · simp only [List.map_cons, List.map_nil, List.mem_singleton] at hb2
      subst hb2
      obtain ⟨y, hy, rfl⟩ := List.mem_map.1 ha
      intro k hk e
      have := hl y hy k hk
      have := hb k e
      omega
    · rcases List.mem_append.1 ha with ha | ha
      · exact a5 a (List.mem_append.2 (.inl ha)) b hb2
      · simp only [List.map_cons, List.map_nil, List.mem_singleton] at ha
        subst ha
        obtain ⟨y, hy, rfl⟩ := List.mem_map.1 hb2
        intro k hk e
        have := hr y hy k e
        have := hb k hk
        omega
theorem apart_first {α β : Type} {f : α → Option Nat} {g : β → Option Nat} {l : List α} {r : List β} {x0 x1 : β} {n : Nat} (h : (l.map f ++ (r ++ [x0]).map g).Pairwise Apart)
    (hl : ∀ y ∈ l, ∀ k, f y = some k → k < n) (hr : ∀ y ∈ r, ∀ k, g y = some k → k < n) (hb : g x1 = g x0 ∨ ∀ k, g x1 = some k → n ≤ k) : (l.map f ++ (r ++ [x1]).map g).Pairwise Apart := by
  rw [List.map_append, ← List.append_assoc, List.pairwise_append] at h ⊢
  obtain ⟨a1, a2, a3⟩ := h
  rcases hb with hb | hb
  · have e : List.map g [x1] = List.map g [x0] := by rw [List.map_cons, List.map_cons, hb]
    rw [e]
    exact ⟨a1, a2, a3⟩
  · refine ⟨a1, List.pairwise_singleton _ _, fun a ha b hb2 => ?_⟩
    simp only [List.map_cons, List.map_nil, List.mem_singleton] at hb2
    subst hb2
    intro k hk e
    have := hb k e
    rcases List.mem_append.1 ha with ha | ha
    · obtain ⟨y, hy, rfl⟩ := List.mem_map.1 ha
      have := hl y hy k hk
      omega
    · obtain ⟨y, hy, rfl⟩ := List.mem_map.1 ha
      have := hr y hy k hk
      omega
theorem PD.ltc {w : World} {base : Nat} {vc vs : Value} {pc : List (ClassD × Value)} {ps : List (ShapeD × Value)} (h : PD w base vc vs pc ps) : (∀ y ∈ pc, ∀ k, y.2.ownBlock = some k → k < w.heap.size) ∧ (∀ y ∈ ps, ∀ k, y.2.ownBlock = some k → k < w.heap.size) :=
  ⟨fun y hy k hk => ((h.ci y hy).1.1.lt k hk).2, fun y hy k hk => ((h.si y hy).1.1.lt k hk).2⟩
/-- The last class turns. -/
theorem PD.setc {S : Nat → Prop} {w w' : World} {base : Nat} {vc vs : Value} {pc : List (ClassD × Value)} {ps : List (ShapeD × Value)} {x0 x1 : ClassD × Value} (h : PD w base vc vs (pc ++ [x0]) ps) (hk : Kp S w w')
    (h1 : ∀ y ∈ pc, ∀ g, y.2.ownBlock = some g → ¬ S g) (h2 : ∀ y ∈ ps, ∀ g, y.2.ownBlock = some g → ¬ S g) (h3 : ∀ g cs, Blk w g 90 cs → ¬ S g)
    (hoc : w'.ownsRow base 51 3 vc (pc.length + 1) (tris ctri (pc ++ [x1]))) (hit : OItemsV w' base x1.2 x1.1.its) (hnm : x1.1.nm.size ≤ 1048576) (hb : x1.2.ownBlock = x0.2.ownBlock ∨ ∀ g, x1.2.ownBlock = some g → w.heap.size ≤ g) : PD w' base vc vs (pc ++ [x1]) ps := by
  obtain ⟨l1, l2⟩ := h.ltc
  refine ⟨by rw [List.length_append, List.length_singleton]; exact hoc, own_kt h.os hk h3, fun y hy => ?_, fun y hy => ⟨(h.si y hy).1.far hk (h2 y hy), (h.si y hy).2⟩, apart_last h.ap (fun y hy => l1 y (by simp [hy])) l2 hb⟩
  rcases List.mem_append.1 hy with hy | hy
  · have hy' := h.ci y (by simp [hy])
    exact ⟨hy'.1.far hk (h1 y hy), hy'.2⟩
  · simp only [List.mem_singleton] at hy
    subst hy
    exact ⟨hit, hnm⟩
/-- The last shape turns. -/
theorem PD.sets {S : Nat → Prop} {w w' : World} {base : Nat} {vc vs : Value} {pc : List (ClassD × Value)} {ps : List (ShapeD × Value)} {x0 x1 : ShapeD × Value} (h : PD w base vc vs pc (ps ++ [x0])) (hk : Kp S w w')
    (h1 : ∀ y ∈ pc, ∀ g, y.2.ownBlock = some g → ¬ S g) (h2 : ∀ y ∈ ps, ∀ g, y.2.ownBlock = some g → ¬ S g) (h3 : ∀ g cs, Blk w g 51 cs → ¬ S g)
    (hos : w'.ownsRow base 90 3 vs (ps.length + 1) (tris stri (ps ++ [x1]))) (hit : OItemsV w' base x1.2 x1.1.its) (hnm : -9223372036854775808 ≤ x1.1.first ∧ x1.1.first ≤ 9223372036854775807) (hb : x1.2.ownBlock = x0.2.ownBlock ∨ ∀ g, x1.2.ownBlock = some g → w.heap.size ≤ g) : PD w' base vc vs pc (ps ++ [x1]) := by
  obtain ⟨l1, l2⟩ := h.ltc
  refine ⟨own_kt h.oc hk h3, by rw [List.length_append, List.length_singleton]; exact hos, fun y hy => ⟨(h.ci y hy).1.far hk (h1 y hy), (h.ci y hy).2⟩, fun y hy => ?_, apart_first h.ap l1 (fun y hy => l2 y (by simp [hy])) hb⟩
  rcases List.mem_append.1 hy with hy | hy
  · have hy' := h.si y (by simp [hy])
    exact ⟨hy'.1.far hk (h2 y hy), hy'.2⟩
  · simp only [List.mem_singleton] at hy
    subst hy
    exact ⟨hit, hnm⟩
theorem tris_set {α : Type} (f : α → Value × Value × Value) (l : List α) (x : α) (i : Nat) (u : Value) : (tris f (l ++ [x])).set (l.length * 3 + i) u = tris f l ++ [(f x).1, (f x).2.1, (f x).2.2].set i u := by
  rw [tris_append, ← tris_length f l, List.set_append_right _ _ (by omega), Nat.add_sub_cancel_left]
  rfl
theorem set_two (A B : List Value) (i : Nat) (u : Value) : (A ++ B).set (A.length + i) u = A ++ B.set i u := by
  rw [List.set_append_right _ _ (by omega), Nat.add_sub_cancel_left]
theorem snoc_map {α β : Type} {f : α → β} {p : List α} {l : List β} (h : p.map f = l) (hl : l ≠ []) : ∃ p0 x0, p = p0 ++ [x0] ∧ l = p0.map f ++ [f x0] := by
  have hp : p ≠ [] := by rintro rfl; exact hl (by rw [← h]; rfl)
  obtain ⟨p0, x0, rfl⟩ := snoc_of hp
  exact ⟨p0, x0, rfl, by rw [← h]; simp⟩

set_option maxRecDepth 100000 in
set_option maxHeartbeats 4000000 in
theorem rword_1 (w : World) (base gd : Nat) (d : DescD) (s : ByteArray) (p : Int) (hs : s.size ≤ 1048576) (h : RS w base gd d) (hbase : base ≤ w.heap.size) (hne : d.cls ≠ []) (hlc : d.cls.length ≤ 32) :
    Calls Tryz.prog 57 #[.pointer (some ⟨gd, 0, none⟩), .int .i64 1, .agg #[.int .i64 1, .string s, .int .i64 p]] w (RWPost base gd (stepW d 1 s p) w) := by
  obtain ⟨nm, lo, hi', isI, hI⟩ := itemR_form s
  have HI := Lib.hid (fun W => ritem_any s W (by omega))
  unfold ItemPost at HI
  rw [hI] at HI
  simp only [itemVal] at HI
  have HN := Lib.hid (fun W => rnumber_any s W (by omega))
  unfold NumPost at HN
  have y := Blk.new w 73 #[.int .i64 1, .string s, .int .i64 p]
  have ky : K0 w (w.alloc (.cells #[.int .i64 1, .string s, .int .i64 p] 73)) := (Kp.refl _ _).alloc _
  have NA := Lib.hid (fun W => rname_any s W (by omega))
  go_enter Tryz.func57, Tryz.ntmps57
  go_wp2_with (first
    | (go_at_call 84; refine (HI.out _).mono ?_; rintro e w2 ⟨rfl, hk2⟩; have y2 := y.kp hk2 (fun h => h); have y21 := y2.cell 1; have y22 := y2.cell 2; have yl2 := y2.lt; have k02 := ky.trans hk2; have z2 := Blk.new w2 53 #[.string nm, .int .i64 lo, .int .i64 hi', .int .i64 p]; have kz : K0 w2 (w2.alloc (.cells #[.string nm, .int .i64 lo, .int .i64 hi', .int .i64 p] 53)) := (Kp.refl _ _).alloc _; simp at y21 y22)
    | (go_at_call 85; refine (HN.out _).mono ?_; rintro e w3 ⟨rfl, hk3⟩; have y3 := (y2.kp kz (fun h => h)).kp hk3 (fun h => h); have y31 := y3.cell 1; have y32 := y3.cell 2; have yl3 := y3.lt; have z3 := z2.kp hk3 (fun h => h); have z30 := z3.cell 0; have z31 := z3.cell 1; have z32 := z3.cell 2; have z33 := z3.cell 3; have zl3 := z3.lt; have k03 : K0 w w3 := (k02.trans kz).trans hk3; simp at y31 y32 z30 z31 z32 z33)
    )
  obtain ⟨vc, vs, pc', ps, hb, hd, hpc', hps, hbg⟩ := h.k0 k03
  obtain ⟨pc, x0, rfl, hcls⟩ := snoc_map hpc' hne
  obtain ⟨⟨n0, its0, p0⟩, v0⟩ := x0
  have hcl : d.cls.length = pc.length + 1 := by rw [hcls]; simp
  have hoc := hd.oc
  rw [List.length_append, List.length_singleton] at hoc
  obtain ⟨g, cap, hvc, hgb, hgl⟩ := hoc.form (by omega)
  obtain ⟨_, _, hvc2, hcp1, hcp2⟩ := own_form hoc
  rw [hvc] at hvc2
  cases hvc2
  subst hvc
  have hcell := hoc.cells (g := g) rfl
  have x4 := hb.cell 0
  have hl := hb.lt
  simp at x4
  obtain ⟨m0, hm0⟩ : ∃ m0, m0 = tris ctri (pc ++ [(⟨n0, its0, p0⟩, v0)]) := ⟨_, rfl⟩
  obtain ⟨q0, q1, q2⟩ := tris_get ctri (pc ++ [(⟨n0, its0, p0⟩, v0)]) pc.length _ (by rw [List.getElem?_append_right (Nat.le_refl _), Nat.sub_self]; rfl)
  rw [← hm0] at q0 q1 q2 hcell
  have r0 := hcell _ _ q0
  have r1 := hcell _ _ q1
  have r2 := hcell _ _ q2
  have ha : ∀ j, (⟨g, 0, none⟩ : Addr).add j = ⟨g, j, none⟩ := fun j => by unfold Addr.add; split <;> simp_all
  rw [ha] at r0 r1 r2
  have fz0 := hoc.frozenAt (pc.length * 3)
  have fz2 := hoc.frozenAt (pc.length * 3 + 2)
  simp only [ctri] at r0 r1 r2
  have st := (hoc.stored (pc.length * 3) (.string s)).1.stored (pc.length * 3 + 2) (.int .i64 p)
  have hrow : ((tris ctri (pc ++ [(⟨n0, its0, p0⟩, v0)])).set (pc.length * 3) (.string s)).set (pc.length * 3 + 2) (.int .i64 p) = tris ctri (pc ++ [(⟨s, its0, p⟩, v0)]) := by
    have e := tris_set ctri pc (⟨n0, its0, p0⟩, v0) 0 (.string s)
    rw [Nat.add_zero] at e
    rw [e, ← tris_length ctri pc, set_two, tris_append]
    rfl
  have KS : Kp (fun k => k = g) w3 ((w3.setCell ⟨g, pc.length * 3, none⟩ (.string s)).setCell ⟨g, pc.length * 3 + 2, none⟩ (.int .i64 p)) := ((Kp.refl (fun k => k = g) _).setCell (p := ⟨g, pc.length * 3, none⟩) (.inr rfl) _).setCell (p := ⟨g, pc.length * 3 + 2, none⟩) (.inr rfl) _
  have hgB : ∃ cs, Blk w3 g 51 cs := own_blk hoc g rfl
  have nty : ∀ t, t ≠ 51 → ∀ g' cs, Blk w3 g' t cs → ¬ g' = g := by
    rintro t ht g' cs hb' rfl
    obtain ⟨cs', hcs'⟩ := hgB
    exact hb'.ne_ hcs' ht rfl
  have hit0 := (hd.ci (⟨n0, its0, p0⟩, v0) (by simp)).1
  have hd5 : PD ((w3.setCell ⟨g, pc.length * 3, none⟩ (.string s)).setCell ⟨g, pc.length * 3 + 2, none⟩ (.int .i64 p)) base (.slice (some ⟨g, 0, none⟩) (pc.length + 1) cap) vs (pc ++ [(⟨s, its0, p⟩, v0)]) ps :=
    hd.setc KS (fun y hy k hk => by obtain ⟨cs, hcs⟩ := own_blk (hd.ci y (by simp [hy])).1.1 k hk; exact nty 53 (by decide) k cs hcs) (fun y hy k hk => by obtain ⟨cs, hcs⟩ := own_blk (hd.si y hy).1.1 k hk; exact nty 53 (by decide) k cs hcs) (nty 90 (by decide))
      (by rw [← hrow]; exact st.1) (hit0.kt KS (nty 53 (by decide))) hs (.inl rfl)
  have b5 := hb.kp KS (fun h => nty 42 (by decide) _ _ hb h)
  have KL : Kp (LW base gd w) w ((w3.setCell ⟨g, pc.length * 3, none⟩ (.string s)).setCell ⟨g, pc.length * 3 + 2, none⟩ (.int .i64 p)) := (K0.kp k03).trans' KS (fun i hi h => by
    obtain ⟨cs, hcs⟩ := hgB
    subst h
    exact ⟨hgb, .inr ⟨51, cs, .inr (.inl rfl), (k03.block i hi (fun h => h)).symm.trans hcs⟩⟩)
  have yg : w.heap.size ≠ g := fun e => nty 73 (by decide) _ _ y3 e
  have HD5 := Lib.hid hd5
  have HB5 := Lib.hid b5
  have HKL := Lib.hid KL
  have HCLS := Lib.hid hcls
  have HSTEP := Lib.hid (fun b (hb : nameB s.data.toList = b) => show stepW d 1 s p = (if b = true then .ok (⟨pc.map Prod.fst ++ [⟨s, its0, p⟩], d.shs⟩, 2) else .error 60) by
    unfold stepW
    rw [if_neg (by omega), if_pos rfl, hcls, modLast_snoc, hb])
  clear hd5 b5 KL hcell st hrow KS nty hit0 hoc hd hm0 q0 q1 q2 hcls ha hcl hpc'
  go_quiet (fail)
  go_wp2_with fail
  go_region
  all_goals
    have h56 : ∀ m, K0 ((w3.setCell ⟨g, pc.length * 3, none⟩ (.string s)).setCell ⟨g, pc.length * 3 + 2, none⟩ (.int .i64 p)) (((w3.drewN m).setCell ⟨g, pc.length * 3, none⟩ (.string s)).setCell ⟨g, pc.length * 3 + 2, none⟩ (.int .i64 p)) := fun m => ⟨rfl, rfl, rfl, Nat.le_refl _, fun _ _ _ => rfl⟩
    have H56 := Lib.hid h56
    clear h56
    cases hnb : nameB s.data.toList with
    | true =>
      rw [hnb] at NA
      have HS := Lib.hid ((HSTEP.out true hnb).trans (if_pos rfl))
      clear hnb
      go_wp2_with (go_at_call 79; refine (NA.out _).mono ?_; rintro e w6 ⟨rfl, hk6⟩)
      go_ret2
      have k56 := (H56.out _).trans hk6
      exact .inr ⟨_, 2, HS.out, rfl, ⟨_, vs, pc ++ [(⟨s, its0, p⟩, v0)], ps, HB5.out.kp k56 (fun h => h), HD5.out.k0 k56, by simp, hps, hbg⟩, HKL.out.trans (K0.kp k56)⟩
    | false =>
      rw [hnb] at NA
      have HS := Lib.hid ((HSTEP.out false hnb).trans (if_neg (by decide)))
      clear hnb
      go_wp2_with (go_at_call 79; refine (NA.out _).mono ?_; rintro e w6 ⟨rfl, hk6⟩)
      go_ret2
      exact RWPost.bad HS.out (HKL.out.trans (K0.kp ((H56.out _).trans hk6)))
end Go.Proofs.YtobofhiakgohfaaGreatDoor
