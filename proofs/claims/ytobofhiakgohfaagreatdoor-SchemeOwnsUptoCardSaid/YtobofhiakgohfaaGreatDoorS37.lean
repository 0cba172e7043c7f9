/- The document's Read; SchemeReads. -/
import Derived.Test.YtobofhiakgohfaaGreatDoorSJ
set_option linter.unusedVariables false
set_option linter.unusedSimpArgs false
namespace Go.Proofs.YtobofhiakgohfaaGreatDoor
open Go.RowKit Go.Maps Go.WideMaps

theorem refparse_desc (s : ByteArray) (w : World) (hs : s.size ≤ 1048576) : Calls Tryz.prog 25 #[.string s] w (ParseD s w) := by
  refine (refparse_any s w hs).mono ?_
  rintro e w' (⟨p, er, h1, h2, h3⟩ | ⟨d, vc, vs, pc, ps, h1, h2, h3, h4, h5, h6⟩)
  · exact .inl ⟨p, er, h1, by rcases parse_err h1 with rfl | rfl <;> omega, h2, h3⟩
  · obtain ⟨A, c, rfl, _, _⟩ := own_form h3.oc
    obtain ⟨A2, c2, rfl, _, _⟩ := own_form h3.os
    have hf := parse_fit h1
    exact .inr ⟨d, A, _, c, A2, _, c2, h1, hf, h2, h3.descV h4 h5 hf, by rw [← h4]; simp, by rw [← h5]; simp, h6⟩

set_option maxRecDepth 100000 in
set_option maxHeartbeats 8000000 in
theorem rread_any (w : World) (s : ByteArray) (hs : s.size ≤ 1048576) :
    Calls Tryz.prog 11 #[.string s] w (RBPost (readS s) w) := by
  obtain ⟨wa, hwa⟩ : ∃ wa, wa = w.alloc (.cells #[.slice none 0 0] 25) := ⟨_, rfl⟩
  have ka : K0 w wa := by rw [hwa]; exact (Kp.refl _ _).alloc _
  have ya : Blk wa w.heap.size 25 #[.slice none 0 0] := by rw [hwa]; exact Blk.new _ _ _
  have PA := Lib.hid (refparse_desc s wa hs)
  go_enter Tryz.func11, Tryz.ntmps11
  go_wp2_with fail
  rw [← hwa]
  clear hwa
  refine PA.out.mono ?_
  rintro e w2 h
  rcases h with ⟨pp, er, hE, hne, rfl, hk2⟩ | ⟨d, A, n, c, A2, n2, c2, hE, hf, rfl, hD, hn, hn2, hk2⟩
  · have y2 := ya.kp hk2 (fun h => h)
    have c0 := y2.cell 0
    have f0 := y2.frozen 0
    have l0 := y2.lt
    simp at c0
    have HR : Hid (readS s = ([], pp, er)) := Lib.hid (by unfold readS; rw [hE])
    have kw : K0 w w2 := ka.trans hk2
    go_wp2
    have y3 := (y2.set_ 0 (.slice none 0 0)).alloc (.cells #[.slice none 0 0, .slice none 0 0] 42)
    have c3 := y3.cell 0
    simp at c3
    refine bodyPost_ret (v := .tuple #[.agg #[.slice none 0 0], .int .i64 pp, .int .i64 er]) ?_ rfl ?_
    · simp [results, Tryz.f11, go_sem, c3]
    · exact ⟨.slice none 0 0, [], by rw [HR.out]; rfl, by rw [HR.out], OSL.nil _ _, by simp, (kw.setCell (p := ⟨w.heap.size, 0, none⟩) (.inl (by simp)) _).alloc _⟩
  · clear hn hn2
    have HR : Hid (readS s = schR d) := Lib.hid (by unfold readS; rw [hE])
    have kw : K0 w w2 := ka.trans hk2
    have k3 : K0 w2 (w2.alloc (.cells #[.slice A n c, .slice A2 n2 c2] 42)) := (Kp.refl _ _).alloc _
    have BU := Lib.hid (rbuild_any (w2.alloc (.cells #[.slice A n c, .slice A2 n2 c2] 42)) w2.heap.size _ d (hD.k0 (Nat.le_refl _) k3) (by simp))
    have ya2 := (ya.kp hk2 (fun h => h)).kp k3 (fun h => h)
    clear hD hE hf
    generalize schR d = R at BU HR
    go_wp2_with fail
    refine BU.out.mono ?_
    rintro e w4 ⟨vo, out, h1, rfl, hO, hl, hk4⟩
    have y4 := ya2.kp hk4 (fun h => h)
    have c0 := y4.cell 0
    have f0 := y4.frozen 0
    have l0 := y4.lt
    simp at c0
    have hsz := (kw.trans k3).size
    have k4 : K0 w w4 := (kw.trans k3).trans hk4
    obtain ⟨Ao, co, rfl, ho1, ho2⟩ := own_form hO.row
    go_wp2
    have yb3 := y4.set_ 0 (.slice Ao out.length co)
    have c3 := yb3.cell 0
    simp at c3
    refine bodyPost_ret (v := .tuple #[.agg #[.slice Ao out.length co], .int .i64 R.2.1, .int .i64 R.2.2]) ?_ rfl ?_
    · simp [results, Tryz.f11, go_sem, c3]
    · refine ⟨.slice Ao out.length co, out, ?_, ?_, ?_, hl, ?_⟩
      · rw [HR.out]; exact h1
      · rw [HR.out]
      · exact (hO.kt ((Kp.refl (fun k => k = w.heap.size) w4).setCell (p := ⟨w.heap.size, 0, none⟩) (.inr rfl) _) (fun g cs hg h => by subst h; have := hg.symm.trans y4; cases this) (fun g cs hg h => by subst h; have := hg.symm.trans y4; cases this) (fun g cs hg h => by obtain ⟨_, h⟩ := h; subst h; have := hg.symm.trans y4; cases this)).mono (by omega)
      · exact k4.setCell (p := ⟨w.heap.size, 0, none⟩) (.inl (by simp)) _

set_option maxRecDepth 100000 in
set_option maxHeartbeats 16000000 in
theorem schemeReads_any (w : World) (s : ByteArray) (hs : s.size ≤ 1048576) (hP : PowV w) :
    Calls Tryz.prog 3 #[.string s] w fun e w' => e = .returned (.bool true) ∧ K0 w w' := by
  have FX := Lib.hid (fixed_any w hP)
  have RA := Lib.hid (fun W (hk : K0 w W) => read_any W s hs (hP.k0 hk))
  have RR := Lib.hid (fun W => rread_any W s hs)
  generalize readS s = R at RA RR
  obtain ⟨r1, r2, r3⟩ := R
  clear hP
  go_enter Tryz.func3, Tryz.ntmps3
  go_wp2_with fail
  refine FX.out.mono ?_
  rintro e w1 ⟨rfl, hk1⟩
  go_wp2_with fail
  refine (RA.out _ hk1).mono ?_
  rintro e w2 ⟨vo, out, h1, rfl, hO, hl, hk2⟩
  obtain ⟨Ao, co, rfl, ho1, ho2⟩ := own_form hO.row
  have ka : K0 w2 (w2.alloc (.cells #[.slice Ao out.length co] 25)) := (Kp.refl _ _).alloc _
  have ya := Blk.new w2 25 #[.slice Ao out.length co]
  obtain ⟨wa, hwa⟩ : ∃ wa, wa = w2.alloc (.cells #[.slice Ao out.length co] 25) := ⟨_, rfl⟩
  rw [← hwa] at ka ya
  simp only [] at h1 ⊢
  go_wp2_with fail
  rw [← hwa]
  refine (RR.out _).mono ?_
  rintro e w3 ⟨vo2, out2, h2, rfl, hO2, hl2, hk3⟩
  obtain ⟨Ao2, co2, rfl, ho3, ho4⟩ := own_form hO2.row
  have kb : K0 w3 (w3.alloc (.cells #[.slice Ao2 out2.length co2] 25)) := (Kp.refl _ _).alloc _
  have yb := Blk.new w3 25 #[.slice Ao2 out2.length co2]
  have SM := Lib.hid (same12_any (w3.alloc (.cells #[.slice Ao2 out2.length co2] 25)) _ _ out out2 ((hO.shpsV (by omega)).k0 (Nat.le_refl _) ((ka.trans hk3).trans kb)) ((hO2.shpsV (by omega)).k0 (Nat.le_refl _) kb))
  simp only [] at h2
  rw [h1, h2, show decide (r1 = r1) = true from decide_eq_true rfl] at SM
  have y1 := (ya.kp hk3 (fun h => h)).kp kb (fun h => h)
  have kw := Lib.hid ((hk1.trans hk2).trans ((ka.trans hk3).trans kb))
  obtain ⟨wb, hwb⟩ : ∃ wb, wb = w3.alloc (.cells #[.slice Ao2 out2.length co2] 25) := ⟨_, rfl⟩
  have b0 := y1.cell 0
  have b1 := yb.cell 0
  have l0 := y1.lt
  have l1 := yb.lt
  rw [← hwb] at b0 b1 l0 l1 SM kw
  simp at b0 b1
  clear hO hO2 h1 h2 ho1 ho2 ho3 ho4 hwa ya yb y1 ka kb hk1 hk2 hk3 FX RA RR
  rw [hwb] at b0 b1 l0 l1
  go_wp2_with fail
  rw [← hwb]
  refine SM.out.mono ?_
  rintro e w4 ⟨rfl, hk4⟩
  have d1 : decide (r2 = r2) = true := decide_eq_true rfl
  have d2 : decide (r3 = r3) = true := decide_eq_true rfl
  go_wp2
  go_ret
  exact ⟨rfl, kw.out.trans hk4⟩
theorem schemeReads_walk (W : World) (hP : PowV W) (s : ByteArray) (hs : s.size ≤ 1048576) : Calls Tryz.prog 3 #[.string s] W fun e W' => e = .returned (.bool true) ∧ Below W.heap.size W W' :=
  (schemeReads_any W s hs hP).mono fun e W' h => ⟨h.1, h.2.below⟩
end Go.Proofs.YtobofhiakgohfaaGreatDoor
