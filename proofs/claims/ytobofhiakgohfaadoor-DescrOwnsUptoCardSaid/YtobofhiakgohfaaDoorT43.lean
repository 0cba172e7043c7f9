/- descr: the document's ended, begun. -/
import Derived.Test.YtobofhiakgohfaaDoorT42
set_option linter.unusedVariables false
set_option linter.unusedSimpArgs false
namespace Go.Proofs.YtobofhiakgohfaaDoor
open Go.RowKit

/-- A line's end, in a state. -/
def endedE (st : Nat) : Int := if st = 0 ∨ st = 3 ∨ st = 7 then 0 else 60
set_option maxRecDepth 100000 in
theorem ended_any (st : Nat) (w : World) (h : st ≤ 7) : Calls Tryd.prog 69 #[.int .i64 (st : Int)] w fun e w' => e = .returned (.tuple #[.int .i64 0, .int .i64 (endedE st)]) ∧ w = w' := by
  have : st = 0 ∨ st = 1 ∨ st = 2 ∨ st = 3 ∨ st = 4 ∨ st = 5 ∨ st = 6 ∨ st = 7 := by omega
  rcases this with rfl | rfl | rfl | rfl | rfl | rfl | rfl | rfl
  all_goals
    go_enter Tryd.func69, Tryd.ntmps69
    go_wp2
    go_ret2
    exact ⟨rfl, rfl⟩

/-- What the document's machine has read, as it lies in memory. -/
def RS (w : World) (base gd : Nat) (d : DescD) : Prop := ∃ vc vs pc ps, Blk w gd 25 #[vc, vs] ∧ PD w base vc vs pc ps ∧ pc.map Prod.fst = d.cls ∧ ps.map Prod.fst = d.shs ∧ base ≤ gd
/-- What a step may turn. -/
def LW (base g : Nat) (w : World) (k : Nat) : Prop := base ≤ k ∧ (k = g ∨ ∃ t cs, (t = 47 ∨ t = 71 ∨ t = 73) ∧ Blk w k t cs)
/-- What a step answers. -/
def RWPost (base gd : Nat) (x : Except Int (DescD × Nat)) (w : World) (e : Ending) (w' : World) : Prop :=
  (∃ (a er : Int), x = .error er ∧ e = .returned (.tuple #[.int .i64 a, .int .i64 er]) ∧ Kp (LW base gd w) w w') ∨
  (∃ d' st', x = .ok (d', st') ∧ e = .returned (.tuple #[.int .i64 (st' : Nat), .int .i64 0]) ∧ RS w' base gd d' ∧ Kp (LW base gd w) w w')
theorem RWPost.bad {base gd : Nat} {x : Except Int (DescD × Nat)} {w w' : World} {er a : Int} (h : x = .error er) (hk : Kp (LW base gd w) w w') : RWPost base gd x w (.returned (.tuple #[.int .i64 a, .int .i64 er])) w' := .inl ⟨a, er, h, rfl, hk⟩

set_option maxRecDepth 100000 in
set_option maxHeartbeats 4000000 in
theorem begun_any (w : World) (base gd : Nat) (d : DescD) (s : ByteArray) (p : Int) (h : RS w base gd d) (hbase : base ≤ w.heap.size) (hlc : d.cls.length ≤ 32) (hls : d.shs.length ≤ 32) :
    Calls Tryd.prog 95 #[.pointer (some ⟨gd, 0, none⟩), .string s] w (RWPost base gd (stepW d 0 s p) w) := by
  obtain ⟨vc, vs, pc, ps, hb, hd, hpc, hps, hbg⟩ := h
  obtain ⟨i1, hj, hy0, hy1, hy2⟩ := info71'
  obtain ⟨i2, hm, hx0, hx1, hx2⟩ := info73'
  have hcl : d.cls.length = pc.length := by rw [← hpc]; simp
  have hsl : d.shs.length = ps.length := by rw [← hps]; simp
  obtain ⟨Ac, cc, rfl, hc1, hc2⟩ := own_form hd.oc
  obtain ⟨As, cs, rfl, hs1, hs2⟩ := own_form hd.os
  have hl := hb.lt
  have x4 := hb.cell 0
  have x5 := hb.cell 1
  have xf4 := hb.frozen 0
  have xf5 := hb.frozen 1
  simp at x4 x5
  by_cases hsc : s.data.toList = bClass
  · by_cases h32 : pc.length = 32
    · have HB := Lib.hid (show stepW d 0 s p = .error 4 by unfold stepW; rw [if_pos rfl, if_pos hsc, if_pos (by omega)])
      obtain rfl : s = ⟨#[99, 108, 97, 115, 115]⟩ := ba_ext hsc
      have e32 : ((pc.length : Int) == 32) = true := by rw [h32]; rfl
      clear h32 hcl hsc
      go_enter Tryd.func95, Tryd.ntmps95
      go_wp2
      go_ret2
      exact RWPost.bad HB.out (Kp.refl _ _)
    · have HB := Lib.hid (show stepW d 0 s p = .ok (⟨d.cls ++ [⟨⟨#[]⟩, [], 0⟩], d.shs⟩, 1) by unfold stepW; rw [if_pos rfl, if_pos hsc, if_neg (by omega)])
      obtain rfl : s = ⟨#[99, 108, 97, 115, 115]⟩ := ba_ext hsc
      have e32 : ((pc.length : Int) == 32) = false := beq_eq_false_iff_ne.2 (by omega)
      have hlt : pc.length < 32 := by omega
      clear h32 hcl hsc
      go_enter Tryd.func95, Tryd.ntmps95
      go_wp2_with (at_builtin; refine wpList_append_lies _ rfl (.tmp 18) (.tmp 20) 22 rfl base 71 i1 _ 3 48 Tryd.underlying22 hj hy0 hy1 hy2 rfl (by omega) (.slice Ac pc.length cc) pc.length (tris ctri pc) rfl (by exact hd.oc.alloc _) ⟨w.heap.size, 0, none⟩ 1 1 [.string ⟨#[]⟩, .slice none 0 0, .int .i64 0] rfl rfl (by exact World.news_of_block (cs := #[.string ⟨#[]⟩, .slice none 0 0, .int .i64 0]) (t := 71) (fr := (0, 0)) (heap_alloc_new w _)) (by simp [Value.oneCell']) (by omega) (by simp only [maxLen]; omega) (by omega) (by simp; omega) (w.heap.size + 1) (by simp) ?_; intro g8 cap8 w8 hown8 hg8 hat8 hlt8; have d8 := (hb.alloc (.cells #[.string ⟨#[]⟩, .slice none 0 0, .int .i64 0] 71)).grown hg8 (Ne.symm (own_blk_ne hd.oc hb (by decide))); have d80 := d8.cell 0; have d8f := d8.frozen 0; have d8l := d8.lt; simp at d80)
      all_goals
        have KF : Kp (fun k => k = gd ∨ (Value.slice Ac pc.length cc).ownBlock = some k) w (w8.setCell ⟨gd, 0, none⟩ (.slice (some ⟨g8, 0, none⟩) (pc.length + 1) cap8)) := (((Kp.refl _ w).alloc _).grown hg8 (fun k hk => .inr (.inr hk))).setCell (p := ⟨gd, 0, none⟩) (.inr (.inl rfl)) _
        have avo : ∀ t, t ≠ 25 → t ≠ 71 → ∀ g' cs, Blk w g' t cs → ¬ (g' = gd ∨ (Value.slice Ac pc.length cc).ownBlock = some g') := by
          rintro t h1 h2 g' cs h (e | e)
          · subst e; exact h.ne_ hb h1 rfl
          · exact own_blk_ne hd.oc h (Ne.symm h2) e
        have hown9 := own_setCell (p := ⟨gd, 0, none⟩) (u := .slice (some ⟨g8, 0, none⟩) (pc.length + 1) cap8) hown8 (own_blk_ne hown8 d8 (by decide))
        have d9 := d8.set_ 0 (.slice (some ⟨g8, 0, none⟩) (pc.length + 1) cap8)
        go_ret2
        refine .inr ⟨_, 1, HB.out, rfl, ⟨.slice (some ⟨g8, 0, none⟩) (pc.length + 1) cap8, _, pc ++ [(⟨⟨#[]⟩, [], 0⟩, .slice none 0 0)], ps, by simpa using d9, ?_, by rw [List.map_append, hpc]; rfl, hps, hbg⟩, ?_⟩
        · refine hd.addc KF (avo 47 (by decide) (by decide)) (avo 73 (by decide) (by decide)) ?_ ⟨World.ownsRow_nil _ _ _ _, by simp, by simp⟩ hbase (by show 0 ≤ 1048576; omega)
          rw [tris_append]
          exact hown9
        · exact KF.mono (fun k h => by
            rcases h with h | h
            · exact ⟨by omega, .inl h⟩
            · obtain ⟨cs', hcs⟩ := own_blk hd.oc k h
              exact ⟨(hd.oc.lt k h).1, .inr ⟨71, cs', .inr (.inl rfl), hcs⟩⟩)
  · by_cases hss : s.data.toList = bShape
    · by_cases h32 : ps.length = 32
      · have HB := Lib.hid (show stepW d 0 s p = .error 4 by unfold stepW; rw [if_pos rfl, if_neg hsc, if_pos hss, if_pos (by omega)])
        obtain rfl : s = ⟨#[115, 104, 97, 112, 101]⟩ := ba_ext hss
        have e32 : ((ps.length : Int) == 32) = true := by rw [h32]; rfl
        clear h32 hsl hsc hss
        go_enter Tryd.func95, Tryd.ntmps95
        go_wp2
        go_ret2
        exact RWPost.bad HB.out (Kp.refl _ _)
      · have HB := Lib.hid (show stepW d 0 s p = .ok (⟨d.cls, d.shs ++ [⟨[], 0, 0⟩]⟩, 4) by unfold stepW; rw [if_pos rfl, if_neg hsc, if_pos hss, if_neg (by omega)])
        obtain rfl : s = ⟨#[115, 104, 97, 112, 101]⟩ := ba_ext hss
        have e32 : ((ps.length : Int) == 32) = false := beq_eq_false_iff_ne.2 (by omega)
        have hlt : ps.length < 32 := by omega
        clear h32 hsl hsc hss
        go_enter Tryd.func95, Tryd.ntmps95
        go_wp2_with (at_builtin; refine wpList_append_lies _ rfl (.tmp 36) (.tmp 38) 23 rfl base 73 i2 _ 3 40 Tryd.underlying23 hm hx0 hx1 hx2 rfl (by omega) (.slice As ps.length cs) ps.length (tris stri ps) rfl (by exact hd.os.alloc _) ⟨w.heap.size, 0, none⟩ 1 1 [.slice none 0 0, .int .i64 0, .int .i64 0] rfl rfl (by exact World.news_of_block (cs := #[.slice none 0 0, .int .i64 0, .int .i64 0]) (t := 73) (fr := (0, 0)) (heap_alloc_new w _)) (by simp [Value.oneCell']) (by omega) (by simp only [maxLen]; omega) (by omega) (by simp; omega) (w.heap.size + 1) (by simp) ?_; intro g8 cap8 w8 hown8 hg8 hat8 hlt8; have d8 := (hb.alloc (.cells #[.slice none 0 0, .int .i64 0, .int .i64 0] 73)).grown hg8 (Ne.symm (own_blk_ne hd.os hb (by decide))); have d80 := d8.cell 1; have d8f := d8.frozen 1; have d8l := d8.lt; simp at d80)
        all_goals
          have KF : Kp (fun k => k = gd ∨ (Value.slice As ps.length cs).ownBlock = some k) w (w8.setCell ⟨gd, 1, none⟩ (.slice (some ⟨g8, 0, none⟩) (ps.length + 1) cap8)) := (((Kp.refl _ w).alloc _).grown hg8 (fun k hk => .inr (.inr hk))).setCell (p := ⟨gd, 1, none⟩) (.inr (.inl rfl)) _
          have avo : ∀ t, t ≠ 25 → t ≠ 73 → ∀ g' cs', Blk w g' t cs' → ¬ (g' = gd ∨ (Value.slice As ps.length cs).ownBlock = some g') := by
            rintro t h1 h2 g' cs h (e | e)
            · subst e; exact h.ne_ hb h1 rfl
            · exact own_blk_ne hd.os h (Ne.symm h2) e
          have hown9 := own_setCell (p := ⟨gd, 1, none⟩) (u := .slice (some ⟨g8, 0, none⟩) (ps.length + 1) cap8) hown8 (own_blk_ne hown8 d8 (by decide))
          have d9 := d8.set_ 1 (.slice (some ⟨g8, 0, none⟩) (ps.length + 1) cap8)
          go_ret2
          refine .inr ⟨_, 4, HB.out, rfl, ⟨_, .slice (some ⟨g8, 0, none⟩) (ps.length + 1) cap8, pc, ps ++ [(⟨[], 0, 0⟩, .slice none 0 0)], by simpa using d9, ?_, hpc, by rw [List.map_append, hps]; rfl, hbg⟩, ?_⟩
          · refine hd.adds KF (avo 47 (by decide) (by decide)) (avo 71 (by decide) (by decide)) ?_ ⟨World.ownsRow_nil _ _ _ _, by simp, by simp⟩ hbase ⟨by show (-9223372036854775808 : Int) ≤ 0; omega, by show (0 : Int) ≤ 9223372036854775807; omega⟩
            rw [tris_append]
            exact hown9
          · exact KF.mono (fun k h => by
              rcases h with h | h
              · exact ⟨by omega, .inl h⟩
              · obtain ⟨cs', hcs⟩ := own_blk hd.os k h
                exact ⟨(hd.os.lt k h).1, .inr ⟨73, cs', .inr (.inr rfl), hcs⟩⟩)
    · have HB := Lib.hid (show stepW d 0 s p = .error 60 by unfold stepW; rw [if_pos rfl, if_neg hsc, if_neg hss])
      have e1 : (s.toList == [99, 108, 97, 115, 115]) = false := by
        rw [beq_eq_false_iff_ne, ByteArray.toList_eq]
        exact hsc
      have e2 : (s.toList == [115, 104, 97, 112, 101]) = false := by
        rw [beq_eq_false_iff_ne, ByteArray.toList_eq]
        exact hss
      clear hsc hss
      go_enter Tryd.func95, Tryd.ntmps95
      go_wp2
      go_ret2
      exact RWPost.bad HB.out (Kp.refl _ _)
end Go.Proofs.YtobofhiakgohfaaDoor
