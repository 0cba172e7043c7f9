/- Item. -/
import Derived.Test.YtobofhiakgohfaaDoorT5
import Derived.Test.YtobofhiakgohfaaDoorP7
set_option linter.unusedVariables false
set_option linter.unusedSimpArgs false
namespace Go.Proofs.YtobofhiakgohfaaDoor
open Go.RowKit

set_option maxRecDepth 100000 in
set_option maxHeartbeats 2000000 in
theorem item_any (s : ByteArray) (w : World) (hs : s.size ≤ 140737488355328) : Calls Tryd.prog 26 #[.string s] w (ItemPost s w) := by
  have N0 := Lib.hid (fun W => name_any s W hs)
  have C0 := Lib.hid (fun W => cut1_any s W hs)
  have hl : s.data.toList.length = s.size := by simp
  by_cases h1 : nameB s.data.toList = true
  · have hR : itemR s = (itemVal s 0 0, true) := by unfold itemR; rw [if_pos h1]
    have HR := Lib.hid hR
    rw [h1] at N0
    clear h1 hR
    go_enter Tryd.func26, Tryd.ntmps26
    go_wp2_with fail
    refine (N0.out _).mono ?_
    rintro e w1 ⟨rfl, hk⟩
    have xb := (item_new w).kp hk (fun h => h)
    have x0 := xb.cell 0
    have x1 := xb.cell 1
    have x2 := xb.cell 2
    have x3 := xb.cell 3
    have fz0 := xb.frozen 0
    have fz1 := xb.frozen 1
    have fz2 := xb.frozen 2
    have fz3 := xb.frozen 3
    simp at x0 x1 x2 x3
    go_wp2
    obtain ⟨c0, c1, c2, c3⟩ := item_cells xb (.string s) (.int .i64 0) (.int .i64 0) (.int .i64 0)
    refine bodyPost_ret (v := .tuple #[itemVal s 0 0, .bool true]) ?_ rfl ?_
    · simp [results, Tryd.f26, go_sem, c0, c1, c2, c3, itemVal]
    · exact ⟨by rw [HR.out], item_keep (((Kp.refl _ w).alloc _).trans hk) (Nat.le_refl _) _ _ _ _⟩
  · have hn : nameB s.data.toList = false := by simpa using h1
    rw [hn] at N0
    have hI : ∀ r, (if s.size = 2 ∧ 0 ≤ pairI s.data.toList 0 then (itemVal ⟨#[]⟩ (pairI s.data.toList 0) (pairI s.data.toList 0), true)
      else if s.size = 5 ∧ 0 ≤ pairI s.data.toList 0 ∧ s.data.toList[2]?.getD 0 = 45 ∧ pairI s.data.toList 0 ≤ pairI s.data.toList 3 then (itemVal ⟨#[]⟩ (pairI s.data.toList 0) (pairI s.data.toList 3), true)
      else (itemVal ⟨#[]⟩ 0 0, false)) = r → itemR s = r := fun r h => by unfold itemR; rw [if_neg h1]; exact h
    have HI := Lib.hid hI
    have HL := Lib.hid hl
    clear h1 hn hI hl
    go_enter Tryd.func26, Tryd.ntmps26
    go_wp2_with fail
    refine (N0.out _).mono ?_
    rintro e w1 ⟨rfl, hk⟩
    go_wp2_with fail
    refine (C0.out _).mono ?_
    rintro e w2 ⟨a, b, t, rfl, hk2, hab⟩
    have hka : K0 w w2 := ((((Kp.refl _ w).alloc _).trans hk).trans hk2)
    have yb2 := ((item_new w).kp hk (fun h => h)).kp hk2 (fun h => h)
    rcases hab with ⟨rfl, hno, hal⟩ | ⟨rfl, hal, hno⟩
    · have has : a.size = s.size := by rw [← HL.out, ← hal]; simp
      go_wp2_with fail
      refine (pair_any a _ (by omega)).mono ?_
      rintro e w3 ⟨v, ok, rfl, ⟨ho, hv, hv0, hv1⟩, hk3⟩
      have hno' := item_none _ hno
      rw [hal] at ho hv; rw [HL.out] at ho
      rw [HL.out] at hno'
      cases ok with
      | true =>
        have hv' := hv rfl
        have ho' := of_decide_eq_true ho.symm
        subst hv'
        have HR := Lib.hid (HI.out _ (if_pos ho'))
        clear ho hv hno' hno hal ho'
        have xb := yb2.kp hk3 (fun h => h)
        have x0 := xb.cell 0
        have x1 := xb.cell 1
        have x2 := xb.cell 2
        have x3 := xb.cell 3
        have fz0 := xb.frozen 0
        have fz1 := xb.frozen 1
        have fz2 := xb.frozen 2
        have fz3 := xb.frozen 3
        simp at x0 x1 x2 x3
        go_wp2
        all_goals
          obtain ⟨c0, c1, c2, c3⟩ := item_cells xb (.string ⟨#[]⟩) (.int .i64 (pairI s.data.toList 0)) (.int .i64 (pairI s.data.toList 0)) (.int .i64 0)
          have d0 := (xb.set_ 0 (.string ⟨#[]⟩)).cell 0
          have d1 := ((xb.set_ 0 (.string ⟨#[]⟩)).set_ 1 (.int .i64 (pairI s.data.toList 0))).cell 1
          have d2 := (((xb.set_ 0 (.string ⟨#[]⟩)).set_ 1 (.int .i64 (pairI s.data.toList 0))).set_ 2 (.int .i64 (pairI s.data.toList 0))).cell 2
          simp at d0 d1 d2
          refine bodyPost_ret (v := .tuple #[itemVal ⟨#[]⟩ (pairI s.data.toList 0) (pairI s.data.toList 0), .bool true]) ?_ rfl ?_
          · simp [results, Tryd.f26, go_sem, c0, c1, c2, c3, d0, d1, d2, itemVal]
          · exact ⟨by rw [HR.out], item_keep (hka.trans hk3) (Nat.le_refl _) _ _ _ _⟩
      | false =>
        have ho' := of_decide_eq_false ho.symm
        have HR := Lib.hid (HI.out _ ((if_neg ho').trans (if_neg hno')))
        clear ho hv hno' hno hal ho'
        have xb := yb2.kp hk3 (fun h => h)
        have x0 := xb.cell 0
        have x1 := xb.cell 1
        have x2 := xb.cell 2
        have x3 := xb.cell 3
        have fz0 := xb.frozen 0
        have fz1 := xb.frozen 1
        have fz2 := xb.frozen 2
        have fz3 := xb.frozen 3
        simp at x0 x1 x2 x3
        go_wp2
        all_goals
          obtain ⟨c0, c1, c2, c3⟩ := item_cells xb (.string ⟨#[]⟩) (.int .i64 0) (.int .i64 0) (.int .i64 0)
          have d0 := (xb.set_ 0 (.string ⟨#[]⟩)).cell 0
          have d1 := ((xb.set_ 0 (.string ⟨#[]⟩)).set_ 1 (.int .i64 0)).cell 1
          have d2 := (((xb.set_ 0 (.string ⟨#[]⟩)).set_ 1 (.int .i64 0)).set_ 2 (.int .i64 0)).cell 2
          simp at d0 d1 d2
          refine bodyPost_ret (v := .tuple #[itemVal ⟨#[]⟩ 0 0, .bool false]) ?_ rfl ?_
          · simp [results, Tryd.f26, go_sem, c0, c1, c2, c3, d0, d1, d2, itemVal]
          · exact ⟨by rw [HR.out], item_keep (hka.trans hk3) (Nat.le_refl _) _ _ _ _⟩
    · have hasz : a.size + b.size + 1 = s.size := by
        have := congrArg List.length hal
        rw [HL.out] at this
        simp at this
        omega
      go_wp2_with fail
      refine (pair_any a _ (by omega)).mono ?_
      rintro e w3 ⟨v, ok, rfl, hPO, hk3⟩
      go_wp2_with fail
      refine (pair_any b _ (by omega)).mono ?_
      rintro e w4 ⟨v2, ok2, rfl, hPO2, hk4⟩
      obtain ⟨ho, hv, hv0, hv1⟩ := hPO
      obtain ⟨ho2, hv2, hv20, hv21⟩ := hPO2
      obtain ⟨hc1, hc2, hc3⟩ := item_cut _ _ _ hal hno
      rw [HL.out] at hc1 hc2
      have HN := HI.out _ (if_neg hc1)
      cases ok with
      | false =>
        have ho' := of_decide_eq_false ho.symm
        have HR := Lib.hid (HI.out _ ((if_neg hc1).trans (if_neg (fun h => ho' (by have := hc2.1 h; exact ⟨this.1, this.2.1⟩)))))
        clear ho hv ho2 hv2 hc1 hc2 hc3 HN ho' hal hno
        have xb := (yb2.kp hk3 (fun h => h)).kp hk4 (fun h => h)
        have x0 := xb.cell 0
        have x1 := xb.cell 1
        have x2 := xb.cell 2
        have x3 := xb.cell 3
        have fz0 := xb.frozen 0
        have fz1 := xb.frozen 1
        have fz2 := xb.frozen 2
        have fz3 := xb.frozen 3
        simp at x0 x1 x2 x3
        go_wp2
        all_goals
          obtain ⟨c0, c1, c2, c3⟩ := item_cells xb (.string ⟨#[]⟩) (.int .i64 0) (.int .i64 0) (.int .i64 0)
          have d0 := (xb.set_ 0 (.string ⟨#[]⟩)).cell 0
          have d1 := ((xb.set_ 0 (.string ⟨#[]⟩)).set_ 1 (.int .i64 0)).cell 1
          have d2 := (((xb.set_ 0 (.string ⟨#[]⟩)).set_ 1 (.int .i64 0)).set_ 2 (.int .i64 0)).cell 2
          simp at d0 d1 d2
          refine bodyPost_ret (v := .tuple #[itemVal ⟨#[]⟩ 0 0, .bool false]) ?_ rfl ?_
          · simp [results, Tryd.f26, go_sem, c0, c1, c2, c3, d0, d1, d2, itemVal]
          · exact ⟨by rw [HR.out], item_keep ((hka.trans hk3).trans hk4) (Nat.le_refl _) _ _ _ _⟩
      | true =>
        have ho' := of_decide_eq_true ho.symm
        have hv' := hv rfl
        cases ok2 with
        | false =>
          have ho2' := of_decide_eq_false ho2.symm
          have HR := Lib.hid (HI.out _ ((if_neg hc1).trans (if_neg (fun h => ho2' (by have := hc2.1 h; exact ⟨this.2.2.1, this.2.2.2.1⟩)))))
          clear ho hv ho2 hv2 hc1 hc2 hc3 HN ho' ho2' hal hno hv'
          have xb := (yb2.kp hk3 (fun h => h)).kp hk4 (fun h => h)
          have x0 := xb.cell 0
          have x1 := xb.cell 1
          have x2 := xb.cell 2
          have x3 := xb.cell 3
          have fz0 := xb.frozen 0
          have fz1 := xb.frozen 1
          have fz2 := xb.frozen 2
          have fz3 := xb.frozen 3
          simp at x0 x1 x2 x3
          go_wp2
          all_goals
            obtain ⟨c0, c1, c2, c3⟩ := item_cells xb (.string ⟨#[]⟩) (.int .i64 0) (.int .i64 0) (.int .i64 0)
            have d0 := (xb.set_ 0 (.string ⟨#[]⟩)).cell 0
            have d1 := ((xb.set_ 0 (.string ⟨#[]⟩)).set_ 1 (.int .i64 0)).cell 1
            have d2 := (((xb.set_ 0 (.string ⟨#[]⟩)).set_ 1 (.int .i64 0)).set_ 2 (.int .i64 0)).cell 2
            simp at d0 d1 d2
            refine bodyPost_ret (v := .tuple #[itemVal ⟨#[]⟩ 0 0, .bool false]) ?_ rfl ?_
            · simp [results, Tryd.f26, go_sem, c0, c1, c2, c3, d0, d1, d2, itemVal]
            · exact ⟨by rw [HR.out], item_keep ((hka.trans hk3).trans hk4) (Nat.le_refl _) _ _ _ _⟩
        | true =>
          have ho2' := of_decide_eq_true ho2.symm
          have hv2' := hv2 rfl
          obtain ⟨e1, e2⟩ := hc3 ho'.1 ho2'.1
          by_cases hle : v ≤ v2
          · have HR := Lib.hid (HI.out (itemVal ⟨#[]⟩ v v2, true) ((if_neg hc1).trans ((if_pos (hc2.2 ⟨ho'.1, ho'.2, ho2'.1, ho2'.2, by omega⟩)).trans (by rw [e1, e2, ← hv', ← hv2']))))
            clear ho hv ho2 hv2 hc1 hc2 hc3 HN ho' ho2' hal hno hv' hv2' e1 e2
            have xb := (yb2.kp hk3 (fun h => h)).kp hk4 (fun h => h)
            have x0 := xb.cell 0
            have x1 := xb.cell 1
            have x2 := xb.cell 2
            have x3 := xb.cell 3
            have fz0 := xb.frozen 0
            have fz1 := xb.frozen 1
            have fz2 := xb.frozen 2
            have fz3 := xb.frozen 3
            simp at x0 x1 x2 x3
            go_wp2
            all_goals
              obtain ⟨c0, c1, c2, c3⟩ := item_cells xb (.string ⟨#[]⟩) (.int .i64 v) (.int .i64 v2) (.int .i64 0)
              have d0 := (xb.set_ 0 (.string ⟨#[]⟩)).cell 0
              have d1 := ((xb.set_ 0 (.string ⟨#[]⟩)).set_ 1 (.int .i64 v)).cell 1
              have d2 := (((xb.set_ 0 (.string ⟨#[]⟩)).set_ 1 (.int .i64 v)).set_ 2 (.int .i64 v2)).cell 2
              simp at d0 d1 d2
              refine bodyPost_ret (v := .tuple #[itemVal ⟨#[]⟩ v v2, .bool true]) ?_ rfl ?_
              · simp [results, Tryd.f26, go_sem, c0, c1, c2, c3, d0, d1, d2, itemVal]
              · exact ⟨by rw [HR.out], item_keep ((hka.trans hk3).trans hk4) (Nat.le_refl _) _ _ _ _⟩
          · have HR := Lib.hid (HI.out _ ((if_neg hc1).trans (if_neg (fun h => hle (by have := (hc2.1 h).2.2.2.2; omega)))))
            clear ho hv ho2 hv2 hc1 hc2 hc3 HN ho' ho2' hal hno hv' hv2' e1 e2
            have xb := (yb2.kp hk3 (fun h => h)).kp hk4 (fun h => h)
            have x0 := xb.cell 0
            have x1 := xb.cell 1
            have x2 := xb.cell 2
            have x3 := xb.cell 3
            have fz0 := xb.frozen 0
            have fz1 := xb.frozen 1
            have fz2 := xb.frozen 2
            have fz3 := xb.frozen 3
            simp at x0 x1 x2 x3
            go_wp2
            all_goals
              obtain ⟨c0, c1, c2, c3⟩ := item_cells xb (.string ⟨#[]⟩) (.int .i64 0) (.int .i64 0) (.int .i64 0)
              have d0 := (xb.set_ 0 (.string ⟨#[]⟩)).cell 0
              have d1 := ((xb.set_ 0 (.string ⟨#[]⟩)).set_ 1 (.int .i64 0)).cell 1
              have d2 := (((xb.set_ 0 (.string ⟨#[]⟩)).set_ 1 (.int .i64 0)).set_ 2 (.int .i64 0)).cell 2
              simp at d0 d1 d2
              refine bodyPost_ret (v := .tuple #[itemVal ⟨#[]⟩ 0 0, .bool false]) ?_ rfl ?_
              · simp [results, Tryd.f26, go_sem, c0, c1, c2, c3, d0, d1, d2, itemVal]
              · exact ⟨by rw [HR.out], item_keep ((hka.trans hk3).trans hk4) (Nat.le_refl _) _ _ _ _⟩
end Go.Proofs.YtobofhiakgohfaaDoor
