/- SchemeBuilds. -/
import Derived.Test.YtobofhiakgohfaaGreatDoorSJ
set_option linter.unusedVariables false
set_option linter.unusedSimpArgs false
namespace Go.Proofs.YtobofhiakgohfaaGreatDoor
open Go.RowKit Go.Maps Go.WideMaps

theorem sameI_refl (pl : Bool) (x : ItemD) : sameI pl x x = true := by simp [sameI]
theorem sameR_refl (pl : Bool) : ∀ l : List ItemD, sameR pl l l = true
  | [] => rfl
  | x :: a => by simp [sameR, sameI_refl, sameR_refl pl a]
theorem sameL_refl {α : Type} {f : α → α → Bool} (h : ∀ x, f x x = true) : ∀ l : List α, sameL f l l = true
  | [] => rfl
  | x :: a => by simp [sameL, h, sameL_refl h a]
theorem sameD_refl (pl : Bool) (d : DescD) : sameD pl d d = true := by
  unfold sameD
  rw [sameL_refl (fun x => by simp [sameC, sameR_refl]), sameL_refl (fun x => by simp [sameS, sameR_refl])]
  rfl
theorem schR_valid (d : DescD) : validR (schR d).1 = true := by
  unfold schR
  cases h : buildR d with
  | error e => rfl
  | ok out => exact buildR_valid h

set_option maxRecDepth 100000 in
set_option maxHeartbeats 16000000 in
theorem schemeBuilds_any (w : World) (v : Value) (d : DescD) (hv : DescV w w.heap.size v d) (hP : PowV w) :
    Calls Tryz.prog 7 #[v] w fun e w' => e = .returned (.bool true) ∧ K0 w w' := by
  obtain ⟨vc, vs, rfl, hvc, hvs⟩ := id hv
  have ka : K0 w (w.alloc (.cells #[vc, vs] 42)) := (Kp.refl _ _).alloc _
  have ya := Blk.new w 42 #[vc, vs]
  obtain ⟨wa, hwa⟩ : ∃ wa, wa = w.alloc (.cells #[vc, vs] 42) := ⟨_, rfl⟩
  rw [← hwa] at ka ya
  have FX := Lib.hid (fixed_any wa (hP.k0 ka))
  have HD := Lib.hid (fun W (hk : K0 w W) => show DescV W W.heap.size (.agg #[vc, vs]) d from hv.keep hk.size (fun p hp => hk.cell hp (fun h => h)))
  have HV := Lib.hid (schR_valid d)
  have BU := Lib.hid (fun W v' (h : DescV W W.heap.size v' d) (hP : PowV W) => build_any W W.heap.size v' d h (Nat.le_refl _) hP)
  have RU := Lib.hid (fun W v' (h : DescV W W.heap.size v' d) => rbuild_any W W.heap.size v' d h (Nat.le_refl _))
  generalize schR d = R at HV BU RU
  obtain ⟨r1, r2, r3⟩ := R
  have HSD := Lib.hid (sameD_refl true d)
  obtain ⟨A, n, c, rfl⟩ : ∃ A n c, vc = .slice A n c := by obtain ⟨p, A, c, _, e, _⟩ := hvc; exact ⟨A, _, c, e⟩
  obtain ⟨A2, n2, c2, rfl⟩ : ∃ A n c, vs = .slice A n c := by obtain ⟨p, A, c, _, e, _⟩ := hvs; exact ⟨A, _, c, e⟩
  clear hvc hvs hv
  go_enter Tryz.func7, Tryz.ntmps7
  go_wp2_with fail
  rw [← hwa]
  clear hwa
  refine FX.out.mono ?_
  rintro e w1 ⟨rfl, hk1⟩
  have y1 := ya.kp hk1 (fun h => h)
  have k1 := ka.trans hk1
  have a0 := y1.cell 0
  have a1 := y1.cell 1
  have al := y1.lt
  simp at a0 a1
  clear ya FX
  go_wp2_with fail
  refine (copy_any w1 w1.heap.size _ d (HD.out w1 k1) (Nat.le_refl _)).mono ?_
  rintro e w2 ⟨v', rfl, hO2, hk2⟩
  have hD2 := hO2.it
  obtain ⟨vc', vs', rfl, hc', hs'⟩ := hO2
  obtain ⟨B, m, b, rfl⟩ : ∃ A n c, vc' = .slice A n c := by obtain ⟨p, e, h, _⟩ := hc'; obtain ⟨A, c, e, _⟩ := own_form h; exact ⟨A, _, c, e⟩
  obtain ⟨B2, m2, b2, rfl⟩ : ∃ A n c, vs' = .slice A n c := by obtain ⟨p, e, h, _⟩ := hs'; obtain ⟨A, c, e, _⟩ := own_form h; exact ⟨A, _, c, e⟩
  have y2 := y1.kp hk2 (fun h => h)
  have kb : K0 w2 (w2.alloc (.cells #[.slice B m b, .slice B2 m2 b2] 42)) := (Kp.refl _ _).alloc _
  have yb := Blk.new w2 42 #[.slice B m b, .slice B2 m2 b2]
  have k2 : K0 w w2 := k1.trans hk2
  obtain ⟨wb, hwb⟩ : ∃ wb, wb = w2.alloc (.cells #[.slice B m b, .slice B2 m2 b2] 42) := ⟨_, rfl⟩
  rw [← hwb] at kb yb
  have yab := y2.kp kb (fun h => h)
  have HD2 := Lib.hid (fun W (hk : K0 w2 W) => show DescV W W.heap.size (.agg #[.slice B m b, .slice B2 m2 b2]) d from hD2.keep hk.size (fun p hp => hk.cell hp (fun h => h)))
  have b0 := yb.cell 0
  have b1 := yb.cell 1
  have bl := yb.lt
  simp at b0 b1
  clear hc' hs' hD2 a0 a1 al y1 y2
  go_wp2_with fail
  rw [← hwb]
  refine (BU.out wb _ (HD2.out wb kb) (hP.k0 (k2.trans kb))).mono ?_
  rintro e w3 ⟨vo, out, h1, rfl, hO, hl, hk3⟩
  obtain ⟨Ao, co, rfl, ho1, ho2⟩ := own_form hO.row
  have kc : K0 w3 (w3.alloc (.cells #[.slice Ao out.length co] 25)) := (Kp.refl _ _).alloc _
  have yc := Blk.new w3 25 #[.slice Ao out.length co]
  obtain ⟨wc, hwc⟩ : ∃ wc, wc = w3.alloc (.cells #[.slice Ao out.length co] 25) := ⟨_, rfl⟩
  rw [← hwc] at kc yc
  have k3c := hk3.trans kc
  have yac := yab.kp k3c (fun h => h)
  have ybc := yb.kp k3c (fun h => h)
  have kwc : K0 w wc := (k2.trans kb).trans k3c
  have a0 := yac.cell 0
  have a1 := yac.cell 1
  have al := yac.lt
  simp at a0 a1
  simp only [] at h1 HV ⊢
  clear b0 b1 bl yab yb hwb
  rw [hwc] at a0 a1 al
  go_wp2_with fail
  rw [← hwc]
  refine (RU.out wc _ (HD.out wc kwc)).mono ?_
  rintro e w4 ⟨vo2, out2, h2, rfl, hO2, hl2, hk4⟩
  obtain ⟨Ao2, co2, rfl, ho3, ho4⟩ := own_form hO2.row
  have kd : K0 w4 (w4.alloc (.cells #[.slice Ao2 out2.length co2] 25)) := (Kp.refl _ _).alloc _
  have yd := Blk.new w4 25 #[.slice Ao2 out2.length co2]
  obtain ⟨wd, hwd⟩ : ∃ wd, wd = w4.alloc (.cells #[.slice Ao2 out2.length co2] 25) := ⟨_, rfl⟩
  rw [← hwd] at kd yd
  have k4d := hk4.trans kd
  have k3d := kc.trans k4d
  have hS1 := (hO.shpsV (by omega)).k0 (Nat.le_refl _) k3d
  have hS2 := (hO2.shpsV (by omega)).k0 (Nat.le_refl _) kd
  simp only [] at h2
  have SM := Lib.hid (same12_any wd _ _ out out2 hS1 hS2)
  rw [h1, h2, show decide (r1 = r1) = true from decide_eq_true rfl] at SM
  have VL := Lib.hid (fun W (hk : K0 wd W) => valid20_any W _ out (hS1.k0 (Nat.le_refl _) hk))
  have hv1 := HV.out
  rw [h1, hv1] at VL
  have kwd : K0 w wd := kwc.trans k4d
  have k2d : K0 w2 wd := kb.trans ((hk3.trans kc).trans k4d)
  have SD := Lib.hid (fun W (hk : K0 wd W) => same_any W W.heap.size _ _ d d true (HD2.out W (k2d.trans hk)) (HD.out W (kwd.trans hk)) (Nat.le_refl _))
  have hsd := HSD.out
  rw [hsd] at SD
  have yad := yac.kp k4d (fun h => h)
  have ybd := ybc.kp k4d (fun h => h)
  have ycd := yc.kp k4d (fun h => h)
  have c0 := ycd.cell 0
  have c1 := ycd.lt
  have d0 := yd.cell 0
  have d1 := yd.lt
  simp at c0 d0
  have HYA := Lib.hid yad
  have HYB := Lib.hid ybd
  have HYC := Lib.hid ycd
  have KW := Lib.hid kwd
  have e1 : decide (r2 = r2) = true := decide_eq_true rfl
  have e2 : decide (r3 = r3) = true := decide_eq_true rfl
  clear hO hO2 h1 h2 hS1 hS2 hv1 hsd yad ybd ycd yac ybc yc yd kwd k2d k3d k4d kd kc kwc hk4 hk3 k3c kb k2 hk2 k1 hk1 ka HD HD2 HSD HV BU RU a0 a1 al ho1 ho2 ho3 ho4 hP hl hl2
  rw [hwd] at c0 c1 d0 d1
  go_wp2_with fail
  rw [← hwd]
  clear hwd
  refine SM.out.mono ?_
  rintro e w5 ⟨rfl, hk5⟩
  have c0 := (HYC.out.kp hk5 (fun h => h)).cell 0
  have c1 := (HYC.out.kp hk5 (fun h => h)).lt
  simp at c0
  clear SM d0 d1
  go_wp2_with fail
  refine (VL.out w5 hk5).mono ?_
  rintro e w6 ⟨rfl, hk6⟩
  have k56 := hk5.trans hk6
  have a0 := (HYA.out.kp k56 (fun h => h)).cell 0
  have a1 := (HYA.out.kp k56 (fun h => h)).cell 1
  have al := (HYA.out.kp k56 (fun h => h)).lt
  have b0 := (HYB.out.kp k56 (fun h => h)).cell 0
  have b1 := (HYB.out.kp k56 (fun h => h)).cell 1
  have bl := (HYB.out.kp k56 (fun h => h)).lt
  simp at a0 a1 b0 b1
  clear VL
  go_wp2_with fail
  refine (SD.out w6 k56).mono ?_
  rintro e w7 ⟨rfl, hk7⟩
  go_wp2
  go_ret
  exact ⟨rfl, (KW.out.trans k56).trans hk7⟩
theorem schemeBuilds_walk (W : World) (hP : PowV W) (v : Value) (d : DescD) (hv : DescV W W.heap.size v d) : Calls Tryz.prog 7 #[v] W fun e W' => e = .returned (.bool true) ∧ Below W.heap.size W W' :=
  (schemeBuilds_any W v d hv hP).mono fun e W' h => ⟨h.1, h.2.below⟩
end Go.Proofs.YtobofhiakgohfaaGreatDoor
