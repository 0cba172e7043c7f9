/- the reference's Item. -/
import Derived.Test.YtobofhiakgohfaaDoorT4
set_option linter.unusedVariables false
set_option linter.unusedSimpArgs false
namespace Go.Proofs.YtobofhiakgohfaaDoor
open Go.RowKit

/-- An item's value. -/
def itemVal (n : ByteArray) (lo hi : Int) : Value := .agg #[.string n, .int .i64 lo, .int .i64 hi, .int .i64 0]
/-- What Item answers. -/
def itemR (s : ByteArray) : Value × Bool :=
  if nameB s.data.toList = true then (itemVal s 0 0, true)
  else if s.size = 2 ∧ 0 ≤ pairI s.data.toList 0 then (itemVal ⟨#[]⟩ (pairI s.data.toList 0) (pairI s.data.toList 0), true)
  else if s.size = 5 ∧ 0 ≤ pairI s.data.toList 0 ∧ s.data.toList[2]?.getD 0 = 45 ∧ pairI s.data.toList 0 ≤ pairI s.data.toList 3 then (itemVal ⟨#[]⟩ (pairI s.data.toList 0) (pairI s.data.toList 3), true)
  else (itemVal ⟨#[]⟩ 0 0, false)
def ItemPost (s : ByteArray) (w : World) (e : Ending) (w' : World) : Prop := e = .returned (.tuple #[(itemR s).1, .bool (itemR s).2]) ∧ K0 w w'

theorem item_keep {w w1 : World} (hk : K0 w w1) {b : Nat} (hb : w.heap.size ≤ b) (u0 u1 u2 u3 : Value) : K0 w ((((w1.setCell ⟨b, 0, none⟩ u0).setCell ⟨b, 1, none⟩ u1).setCell ⟨b, 2, none⟩ u2).setCell ⟨b, 3, none⟩ u3) :=
  (((hk.setCell (p := ⟨b, 0, none⟩) (.inl hb) _).setCell (p := ⟨b, 1, none⟩) (.inl hb) _).setCell (p := ⟨b, 2, none⟩) (.inl hb) _).setCell (p := ⟨b, 3, none⟩) (.inl hb) _
theorem item_cells {w : World} {b : Nat} {v0 v1 v2 v3 : Value} (h : Blk w b 47 #[v0, v1, v2, v3]) (u0 u1 u2 u3 : Value) :
    let w' := (((w.setCell ⟨b, 0, none⟩ u0).setCell ⟨b, 1, none⟩ u1).setCell ⟨b, 2, none⟩ u2).setCell ⟨b, 3, none⟩ u3
    w'.cell? ⟨b, 0, none⟩ = some u0 ∧ w'.cell? ⟨b, 1, none⟩ = some u1 ∧ w'.cell? ⟨b, 2, none⟩ = some u2 ∧ w'.cell? ⟨b, 3, none⟩ = some u3 := by
  have yb' := (((h.set_ 0 u0).set_ 1 u1).set_ 2 u2).set_ 3 u3
  have c0 := yb'.cell 0
  have c1 := yb'.cell 1
  have c2 := yb'.cell 2
  have c3 := yb'.cell 3
  simp at c0 c1 c2 c3
  exact ⟨c0, c1, c2, c3⟩

/-- The new item's block, and what the walk wants of it. -/
theorem item_new (w : World) : Blk (w.alloc (.cells #[.string ⟨#[]⟩, .int .i64 0, .int .i64 0, .int .i64 0] 47)) w.heap.size 47 #[.string ⟨#[]⟩, .int .i64 0, .int .i64 0, .int .i64 0] := Blk.new _ _ _

set_option maxRecDepth 100000 in
set_option maxHeartbeats 1000000 in
theorem ritem_any (s : ByteArray) (w : World) (hs : s.size ≤ 140737488355328) : Calls Tryd.prog 27 #[.string s] w (ItemPost s w) := by
  have P0 := Lib.hid (fun W => rpair_any s 0 W hs (by omega))
  have P3 := Lib.hid (fun W => rpair_any s 3 W hs (by omega))
  have N0 := Lib.hid (fun W => rname_any s W hs)
  by_cases h1 : nameB s.data.toList = true
  · have hR : itemR s = (itemVal s 0 0, true) := by unfold itemR; rw [if_pos h1]
    have HR := Lib.hid hR
    rw [h1] at N0
    clear h1 hR
    go_enter Tryd.func27, Tryd.ntmps27
    go_wp2_with (go_at_call 33; refine (N0.out _).mono ?_; rintro e w1 ⟨rfl, hk⟩; have yb := (Blk.new w 47 #[.string ⟨#[]⟩, .int .i64 0, .int .i64 0, .int .i64 0]).kp hk (fun h => h); have y0 := yb.cell 0; have y1 := yb.cell 1; have y2 := yb.cell 2; have y3 := yb.cell 3; have z0 := yb.frozen 0; have z1 := yb.frozen 1; have z2 := yb.frozen 2; have z3 := yb.frozen 3; simp at y0 y1 y2 y3)
    obtain ⟨c0, c1, c2, c3⟩ := item_cells yb (.string s) (.int .i64 0) (.int .i64 0) (.int .i64 0)
    refine bodyPost_ret (v := .tuple #[itemVal s 0 0, .bool true]) ?_ rfl ?_
    · simp [results, Tryd.f27, go_sem, c0, c1, c2, c3, itemVal]
    · exact ⟨by rw [HR.out], item_keep (((Kp.refl _ w).alloc _).trans hk) (Nat.le_refl _) _ _ _ _⟩
  · have hn : nameB s.data.toList = false := by simpa using h1
    rw [hn] at N0
    generalize hp0 : pairI s.data.toList 0 = p0
    have hp0' := pairI_ge s.data.toList 0
    rw [hp0] at hp0'
    by_cases h2 : s.size = 2 ∧ 0 ≤ p0
    · have hR : itemR s = (itemVal ⟨#[]⟩ p0 p0, true) := by unfold itemR; rw [if_neg h1, hp0, if_pos h2]
      have HR := Lib.hid hR
      obtain ⟨h2, h3⟩ := h2
      clear h1 hR hn P0 P3
      go_enter Tryd.func27, Tryd.ntmps27
      go_wp2_with (first
        | (go_at_call 33; refine (N0.out _).mono ?_; rintro e w1 ⟨rfl, hk⟩; have yb := (item_new w).kp hk (fun h => h); have y0 := yb.cell 0; have y1 := yb.cell 1; have y2 := yb.cell 2; have y3 := yb.cell 3; have z0 := yb.frozen 0; have z1 := yb.frozen 1; have z2 := yb.frozen 2; have z3 := yb.frozen 3; simp at y0 y1 y2 y3)
        | (go_at_call 59; refine (rpair_any s 0 _ hs (by omega)).mono ?_; rintro e w2 ⟨rfl, hk2⟩; have xb := yb.kp hk2 (fun h => h); have x0 := xb.cell 0; have x1 := xb.cell 1; have x2 := xb.cell 2; have x3 := xb.cell 3; have v0 := xb.frozen 0; have v1 := xb.frozen 1; have v2 := xb.frozen 2; have v3 := xb.frozen 3; simp at x0 x1 x2 x3; rw [hp0]))
      obtain ⟨c0, c1, c2, c3⟩ := item_cells xb (.string ⟨#[]⟩) (.int .i64 p0) (.int .i64 p0) (.int .i64 0)
      refine bodyPost_ret (v := .tuple #[itemVal ⟨#[]⟩ p0 p0, .bool true]) ?_ rfl ?_
      · simp [results, Tryd.f27, go_sem, c0, c1, c2, c3, itemVal]
      · exact ⟨by rw [HR.out], item_keep ((((Kp.refl _ w).alloc _).trans hk).trans hk2) (Nat.le_refl _) _ _ _ _⟩
    · rw [hp0] at P0
      have P0' := P0
      by_cases h5 : s.size = 5
      · have hg2 := str_get (show 2 < s.size by omega)
        have h2l : 2 < s.size := by omega
        obtain ⟨c, hc⟩ : ∃ c, c = s[2]'h2l := ⟨_, rfl⟩
        rw [← hc] at hg2
        have hcv : s[2]'h2l = c := hc.symm
        clear hc
        generalize hp3 : pairI s.data.toList 3 = p3 at *
        by_cases h6 : 0 ≤ p0
        · by_cases h7 : c = 45
          · subst h7
            by_cases h8 : p0 ≤ p3
            · have hR : itemR s = (itemVal ⟨#[]⟩ p0 p3, true) := by unfold itemR; rw [if_neg h1, hp0, hp3, if_neg h2, hg2, if_pos ⟨h5, h6, rfl, h8⟩]
              have HR := Lib.hid hR
              clear h1 hR hn h2 hg2 hp0 hp3
              go_enter Tryd.func27, Tryd.ntmps27
              go_wp2_with (go_at_call 33; refine (N0.out _).mono ?_; rintro e w1 ⟨rfl, hk⟩; have yb := (item_new w).kp hk (fun h => h); have y0 := yb.cell 0; have y1 := yb.cell 1; have y2 := yb.cell 2; have y3 := yb.cell 3; have z0 := yb.frozen 0; have z1 := yb.frozen 1; have z2 := yb.frozen 2; have z3 := yb.frozen 3; simp at y0 y1 y2 y3)
              refine (P0.out _).mono ?_
              rintro e w2 ⟨rfl, hk2⟩
              go_wp2_with fail
              refine (P3.out _).mono ?_
              rintro e w3 ⟨rfl, hk3⟩
              go_wp2_with fail
              refine (P3.out _).mono ?_
              rintro e w4 ⟨rfl, hk4⟩
              have xb := ((yb.kp hk2 (fun h => h)).kp hk3 (fun h => h)).kp hk4 (fun h => h)
              have x0 := xb.cell 0
              have x1 := xb.cell 1
              have x2 := xb.cell 2
              have x3 := xb.cell 3
              have v0 := xb.frozen 0
              have v1 := xb.frozen 1
              have v2 := xb.frozen 2
              have v3 := xb.frozen 3
              simp at x0 x1 x2 x3
              go_wp2
              obtain ⟨c0, c1, c2, c3⟩ := item_cells xb (.string ⟨#[]⟩) (.int .i64 p0) (.int .i64 p3) (.int .i64 0)
              refine bodyPost_ret (v := .tuple #[itemVal ⟨#[]⟩ p0 p3, .bool true]) ?_ rfl ?_
              · simp [results, Tryd.f27, go_sem, c0, c1, c2, c3, itemVal]
              · exact ⟨by rw [HR.out], item_keep ((((((Kp.refl _ w).alloc _).trans hk).trans hk2).trans hk3).trans hk4) (Nat.le_refl _) _ _ _ _⟩
            · have hR : itemR s = (itemVal ⟨#[]⟩ 0 0, false) := by unfold itemR; rw [if_neg h1, hp0, hp3, if_neg h2, hg2, if_neg (fun h => h8 h.2.2.2)]
              have HR := Lib.hid hR
              clear h1 hR hn h2 hg2 hp0 hp3
              go_enter Tryd.func27, Tryd.ntmps27
              go_wp2_with (go_at_call 33; refine (N0.out _).mono ?_; rintro e w1 ⟨rfl, hk⟩; have yb := (item_new w).kp hk (fun h => h); have y0 := yb.cell 0; have y1 := yb.cell 1; have y2 := yb.cell 2; have y3 := yb.cell 3; have z0 := yb.frozen 0; have z1 := yb.frozen 1; have z2 := yb.frozen 2; have z3 := yb.frozen 3; simp at y0 y1 y2 y3)
              refine (P0.out _).mono ?_
              rintro e w2 ⟨rfl, hk2⟩
              go_wp2_with fail
              refine (P3.out _).mono ?_
              rintro e w3 ⟨rfl, hk3⟩
              have xb := (yb.kp hk2 (fun h => h)).kp hk3 (fun h => h)
              have x0 := xb.cell 0
              have x1 := xb.cell 1
              have x2 := xb.cell 2
              have x3 := xb.cell 3
              have v0 := xb.frozen 0
              have v1 := xb.frozen 1
              have v2 := xb.frozen 2
              have v3 := xb.frozen 3
              simp at x0 x1 x2 x3
              go_wp2
              obtain ⟨c0, c1, c2, c3⟩ := item_cells xb (.string ⟨#[]⟩) (.int .i64 0) (.int .i64 0) (.int .i64 0)
              refine bodyPost_ret (v := .tuple #[itemVal ⟨#[]⟩ 0 0, .bool false]) ?_ rfl ?_
              · simp [results, Tryd.f27, go_sem, c0, c1, c2, c3, itemVal]
              · exact ⟨by rw [HR.out], item_keep (((((Kp.refl _ w).alloc _).trans hk).trans hk2).trans hk3) (Nat.le_refl _) _ _ _ _⟩
          · have hR : itemR s = (itemVal ⟨#[]⟩ 0 0, false) := by unfold itemR; rw [if_neg h1, hp0, hp3, if_neg h2, hg2, if_neg (fun h => h7 h.2.2.1)]
            have HR := Lib.hid hR
            have h7' : ((c.toNat : Int) == 45) = false := by
              rw [beq_eq_false_iff_ne]; intro e; exact h7 (UInt8.toNat_inj.1 (by simp; omega))
            clear h1 hR hn h2 hg2 hp0 hp3
            go_enter Tryd.func27, Tryd.ntmps27
            go_wp2_with (go_at_call 33; refine (N0.out _).mono ?_; rintro e w1 ⟨rfl, hk⟩; have yb := (item_new w).kp hk (fun h => h); have y0 := yb.cell 0; have y1 := yb.cell 1; have y2 := yb.cell 2; have y3 := yb.cell 3; have z0 := yb.frozen 0; have z1 := yb.frozen 1; have z2 := yb.frozen 2; have z3 := yb.frozen 3; simp at y0 y1 y2 y3)
            refine (P0.out _).mono ?_
            rintro e w2 ⟨rfl, hk2⟩
            have xb := yb.kp hk2 (fun h => h)
            have x0 := xb.cell 0
            have x1 := xb.cell 1
            have x2 := xb.cell 2
            have x3 := xb.cell 3
            have v0 := xb.frozen 0
            have v1 := xb.frozen 1
            have v2 := xb.frozen 2
            have v3 := xb.frozen 3
            simp at x0 x1 x2 x3
            go_wp2
            obtain ⟨c0, c1, c2, c3⟩ := item_cells xb (.string ⟨#[]⟩) (.int .i64 0) (.int .i64 0) (.int .i64 0)
            refine bodyPost_ret (v := .tuple #[itemVal ⟨#[]⟩ 0 0, .bool false]) ?_ rfl ?_
            · simp [results, Tryd.f27, go_sem, c0, c1, c2, c3, itemVal]
            · exact ⟨by rw [HR.out], item_keep ((((Kp.refl _ w).alloc _).trans hk).trans hk2) (Nat.le_refl _) _ _ _ _⟩
        · have hR : itemR s = (itemVal ⟨#[]⟩ 0 0, false) := by unfold itemR; rw [if_neg h1, hp0, hp3, if_neg h2, if_neg (fun h => h6 h.2.1)]
          have HR := Lib.hid hR
          clear h1 hR hn h2 hg2 hp0 hp3
          go_enter Tryd.func27, Tryd.ntmps27
          go_wp2_with (go_at_call 33; refine (N0.out _).mono ?_; rintro e w1 ⟨rfl, hk⟩; have yb := (item_new w).kp hk (fun h => h); have y0 := yb.cell 0; have y1 := yb.cell 1; have y2 := yb.cell 2; have y3 := yb.cell 3; have z0 := yb.frozen 0; have z1 := yb.frozen 1; have z2 := yb.frozen 2; have z3 := yb.frozen 3; simp at y0 y1 y2 y3)
          refine (P0.out _).mono ?_
          rintro e w2 ⟨rfl, hk2⟩
          have xb := yb.kp hk2 (fun h => h)
          have x0 := xb.cell 0
          have x1 := xb.cell 1
          have x2 := xb.cell 2
          have x3 := xb.cell 3
          have v0 := xb.frozen 0
          have v1 := xb.frozen 1
          have v2 := xb.frozen 2
          have v3 := xb.frozen 3
          simp at x0 x1 x2 x3
          go_wp2
          obtain ⟨c0, c1, c2, c3⟩ := item_cells xb (.string ⟨#[]⟩) (.int .i64 0) (.int .i64 0) (.int .i64 0)
          refine bodyPost_ret (v := .tuple #[itemVal ⟨#[]⟩ 0 0, .bool false]) ?_ rfl ?_
          · simp [results, Tryd.f27, go_sem, c0, c1, c2, c3, itemVal]
          · exact ⟨by rw [HR.out], item_keep ((((Kp.refl _ w).alloc _).trans hk).trans hk2) (Nat.le_refl _) _ _ _ _⟩
      · have hR : itemR s = (itemVal ⟨#[]⟩ 0 0, false) := by unfold itemR; rw [if_neg h1, hp0, if_neg h2, if_neg (fun h => h5 h.1)]
        have HR := Lib.hid hR
        by_cases h9 : s.size = 2
        · have h6 : ¬ 0 ≤ p0 := fun h => h2 ⟨h9, h⟩
          clear h1 hR hn h2 hp0
          go_enter Tryd.func27, Tryd.ntmps27
          go_wp2_with (go_at_call 33; refine (N0.out _).mono ?_; rintro e w1 ⟨rfl, hk⟩; have yb := (item_new w).kp hk (fun h => h); have y0 := yb.cell 0; have y1 := yb.cell 1; have y2 := yb.cell 2; have y3 := yb.cell 3; have z0 := yb.frozen 0; have z1 := yb.frozen 1; have z2 := yb.frozen 2; have z3 := yb.frozen 3; simp at y0 y1 y2 y3)
          refine (P0.out _).mono ?_
          rintro e w2 ⟨rfl, hk2⟩
          have xb := yb.kp hk2 (fun h => h)
          have x0 := xb.cell 0
          have x1 := xb.cell 1
          have x2 := xb.cell 2
          have x3 := xb.cell 3
          have v0 := xb.frozen 0
          have v1 := xb.frozen 1
          have v2 := xb.frozen 2
          have v3 := xb.frozen 3
          simp at x0 x1 x2 x3
          go_wp2
          obtain ⟨c0, c1, c2, c3⟩ := item_cells xb (.string ⟨#[]⟩) (.int .i64 0) (.int .i64 0) (.int .i64 0)
          refine bodyPost_ret (v := .tuple #[itemVal ⟨#[]⟩ 0 0, .bool false]) ?_ rfl ?_
          · simp [results, Tryd.f27, go_sem, c0, c1, c2, c3, itemVal]
          · exact ⟨by rw [HR.out], item_keep ((((Kp.refl _ w).alloc _).trans hk).trans hk2) (Nat.le_refl _) _ _ _ _⟩
        · clear h1 hR hn h2 hp0
          go_enter Tryd.func27, Tryd.ntmps27
          go_wp2_with (go_at_call 33; refine (N0.out _).mono ?_; rintro e w1 ⟨rfl, hk⟩; have yb := (item_new w).kp hk (fun h => h); have y0 := yb.cell 0; have y1 := yb.cell 1; have y2 := yb.cell 2; have y3 := yb.cell 3; have z0 := yb.frozen 0; have z1 := yb.frozen 1; have z2 := yb.frozen 2; have z3 := yb.frozen 3; simp at y0 y1 y2 y3)
          refine (P0.out _).mono ?_
          rintro e w2 ⟨rfl, hk2⟩
          have xb := yb.kp hk2 (fun h => h)
          have x0 := xb.cell 0
          have x1 := xb.cell 1
          have x2 := xb.cell 2
          have x3 := xb.cell 3
          have v0 := xb.frozen 0
          have v1 := xb.frozen 1
          have v2 := xb.frozen 2
          have v3 := xb.frozen 3
          simp at x0 x1 x2 x3
          go_wp2
          obtain ⟨c0, c1, c2, c3⟩ := item_cells xb (.string ⟨#[]⟩) (.int .i64 0) (.int .i64 0) (.int .i64 0)
          refine bodyPost_ret (v := .tuple #[itemVal ⟨#[]⟩ 0 0, .bool false]) ?_ rfl ?_
          · simp [results, Tryd.f27, go_sem, c0, c1, c2, c3, itemVal]
          · exact ⟨by rw [HR.out], item_keep ((((Kp.refl _ w).alloc _).trans hk).trans hk2) (Nat.le_refl _) _ _ _ _⟩
end Go.Proofs.YtobofhiakgohfaaDoor
