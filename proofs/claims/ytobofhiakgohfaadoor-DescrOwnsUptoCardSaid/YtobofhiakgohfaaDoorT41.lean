/- PrinterTidies, PrinterBack: the walks. -/
import Derived.Test.YtobofhiakgohfaaDoorT40
import Derived.Test.YtobofhiakgohfaaDoorT33
set_option linter.unusedVariables false
set_option linter.unusedSimpArgs false
namespace Go.Proofs.YtobofhiakgohfaaDoor
open Go.RowKit

theorem runT_err : ∀ (T : TVl) (d : DescD) (st : Nat) (p e : Int), runT d st T = .error (p, e) → e = 4 ∨ e = 60
  | [], d, st, p, e, h => by rw [runT] at h; cases h
  | t :: r, d, st, p, e, h => by
    rw [runT] at h
    cases hs : stepT d st t with
    | ok x =>
      obtain ⟨d', st'⟩ := x
      rw [hs] at h
      exact runT_err r d' st' p e h
    | error e' =>
      rw [hs] at h
      cases h
      unfold stepT at hs
      split at hs
      · unfold stepW at hs
        repeat' split at hs
        all_goals first
          | (cases hs; first | exact .inl rfl | exact .inr rfl)
          | cases hs
      · split at hs
        · cases hs; exact .inr rfl
        · split at hs
          · cases hs
          · cases hs; exact .inr rfl
theorem parse_err {s : ByteArray} {p e : Int} (h : parseR s = .error (p, e)) : e = 4 ∨ e = 60 := runT_err _ _ _ _ _ h

theorem PD.descV {w : World} {base : Nat} {vc vs : Value} {pc : List (ClassD × Value)} {ps : List (ShapeD × Value)} {d : DescD} (h : PD w base vc vs pc ps) (hc : pc.map Prod.fst = d.cls) (hs : ps.map Prod.fst = d.shs) (hf : fitD d = true) : DescV w w.heap.size (.agg #[vc, vs]) d := by
  unfold fitD at hf
  simp only [Bool.and_eq_true, decide_eq_true_eq] at hf
  have h1 : pc.length = d.cls.length := by rw [← hc]; simp
  have h2 : ps.length = d.shs.length := by rw [← hs]; simp
  exact (show ODescV w base (.agg #[vc, vs]) d from ⟨vc, vs, rfl, ⟨pc, hc, h.oc, by omega, h.ci⟩, ⟨ps, hs, h.os, by omega, h.si⟩⟩).it

/-- Parse, for readers. -/
def ParseD (s : ByteArray) (w : World) (e : Ending) (w' : World) : Prop :=
  (∃ p er, parseR s = .error (p, er) ∧ er ≠ 0 ∧ e = .returned (.tuple #[.agg #[.slice none 0 0, .slice none 0 0], .int .i64 p, .int .i64 er]) ∧ K0 w w') ∨
  (∃ d A n c A2 n2 c2, parseR s = .ok d ∧ fitD d = true ∧ e = .returned (.tuple #[.agg #[.slice A n c, .slice A2 n2 c2], .int .i64 0, .int .i64 0]) ∧ DescV w' w'.heap.size (.agg #[.slice A n c, .slice A2 n2 c2]) d ∧ n = d.cls.length ∧ n2 = d.shs.length ∧ K0 w w')
theorem parse_desc (s : ByteArray) (w : World) (hs : s.size ≤ 1048576) : Calls Tryd.prog 41 #[.string s] w (ParseD s w) := by
  refine (parse_any s w hs).mono ?_
  rintro e w' (⟨p, er, h1, h2, h3⟩ | ⟨d, vc, vs, pc, ps, h1, h2, h3, h4, h5, h6⟩)
  · exact .inl ⟨p, er, h1, by rcases parse_err h1 with rfl | rfl <;> omega, h2, h3⟩
  · obtain ⟨A, c, rfl, _, _⟩ := own_form h3.oc
    obtain ⟨A2, c2, rfl, _, _⟩ := own_form h3.os
    have hf := parse_fit h1
    exact .inr ⟨d, A, _, c, A2, _, c2, h1, hf, h2, h3.descV h4 h5 hf, by rw [← h4]; simp, by rw [← h5]; simp, h6⟩

theorem printR_fit {d : DescD} (h : fitD d = true) : printR d = (txtID d, 0) := by unfold printR; rw [if_pos h]

set_option maxRecDepth 100000 in
set_option maxHeartbeats 800000 in
theorem printerTidies_walk (w : World) (hP : PowV w) (s : ByteArray) (hs : s.size ≤ 1048576) : Calls Tryd.prog 15 #[.string s] w fun e w' => e = .returned (.bool true) ∧ Below w.heap.size w w' := by
  go_enter Tryd.func15, Tryd.ntmps15
  go_wp2_with fail
  refine (pfixed_any _ hP).mono ?_
  rintro e w1 ⟨rfl, hk1⟩
  go_wp2_with fail
  refine (parse_desc s w1 hs).mono ?_
  rintro e w2 (⟨p, er, hE, hne, rfl, hk2⟩ | ⟨d, A, n, c, A2, n2, c2, hE, hf, rfl, hm, hn, hn2, hk2⟩)
  · have e1 : (er == 0) = false := beq_eq_false_iff_ne.2 hne
    have e2 : (er != 0) = true := bne_iff_ne.2 hne
    have HE := Lib.hid hE
    clear hE hne
    go_wp2
    go_ret
    exact ⟨rfl, ((hk1.trans hk2).alloc _).below⟩
  · obtain ⟨d', hd1, hd2⟩ := parse_print hf
    have hf' := parse_fit (s := ⟨(txtID d).toArray⟩) (by rw [parseR_eq]; exact hd1)
    have ht := txtID_er hd2
    have hsame : sameD false d' d = true := (sameD_er _ _).2 hd2
    have hl := txtID_len hf
    obtain ⟨S, hS⟩ : ∃ S : ByteArray, S = ⟨(txtID d).toArray⟩ := ⟨_, rfl⟩
    have hSl : S.size ≤ 1048576 := by rw [hS]; show (txtID d).toArray.size ≤ _; simp; omega
    have hSp : parseR S = .ok d' := by rw [hS, parseR_eq]; exact hd1
    have P1 := Lib.hid (fun W B v h1 h2 h3 => print_any W B v d h1 h2 h3)
    have P2 := Lib.hid (fun W B v h1 h2 h3 => print_any W B v d' h1 h2 h3)
    rw [printR_fit hf, ← hS] at P1
    rw [printR_fit hf', ht, ← hS] at P2
    have PP := Lib.hid (fun W => parse_desc S W hSl)
    have HSP := Lib.hid hSp
    have SM := Lib.hid (fun W va vb ha hb => same_any W W.heap.size va vb d' d false ha hb (Nat.le_refl _))
    rw [hsame] at SM
    have HE := Lib.hid hE
    clear hE hd1 hd2 hf hf' ht hsame hl hS hSp hSl hn hn2
    have hk02 := hk1.trans hk2
    have zb := Blk.new w2 25 #[.slice A n c, .slice A2 n2 c2]
    have kz : K0 w2 (w2.alloc (.cells #[.slice A n c, .slice A2 n2 c2] 25)) := (Kp.refl _ _).alloc _
    go_wp2_with fail
    refine (P1.out _ w2.heap.size _ (hm.k0 (Nat.le_refl _) kz) (by simp) (hP.k0 (hk02.trans kz))).mono ?_
    rintro e w3 ⟨rfl, hk3⟩
    have kz3 := kz.trans hk3
    go_wp2_with fail
    refine (PP.out w3).mono ?_
    rintro e w4 (⟨p, er, hE2, _, _, _⟩ | ⟨d2, A3, n3, c3, A4, n4, c4, hE2, hq0, rfl, hm4, hq1, hq2, hk4⟩)
    · have := HSP.out; rw [hE2] at this; cases this
    obtain rfl : d2 = d' := by have := HSP.out; rw [hE2] at this; cases this; rfl
    clear hE2 hq0 hq1 hq2
    have zc := Blk.new w4 25 #[.slice A3 n3 c3, .slice A4 n4 c4]
    have kc : K0 w4 (w4.alloc (.cells #[.slice A3 n3 c3, .slice A4 n4 c4] 25)) := (Kp.refl _ _).alloc _
    have zb4 := (zb.kp hk3 (fun h => h)).kp hk4 (fun h => h)
    have kz4 := kz3.trans hk4
    go_wp2_with fail
    refine (P2.out _ w4.heap.size _ (by exact hm4.k0 (Nat.le_refl _) kc) (by simp) (by exact hP.k0 ((hk02.trans kz4).trans kc))).mono ?_
    rintro e w5 ⟨rfl, hk5⟩
    have kc5 := kc.trans hk5
    have zb5 := (zb4.kp kc (fun h => h)).kp hk5 (fun h => h)
    have zc5 := zc.kp hk5 (fun h => h)
    have b0 := zb5.cell 0
    have b1 := zb5.cell 1
    have c0 := zc5.cell 0
    have c1 := zc5.cell 1
    have l0 := zb5.lt
    have l1 := zc5.lt
    simp at b0 b1 c0 c1
    have hk25 : K0 w2 w5 := kz4.trans kc5
    have hmd := (hm.k0 (Nat.le_refl _) hk25).keep (B' := w5.heap.size) hk25.size (fun _ _ => rfl)
    have hmd' := (hm4.k0 (Nat.le_refl _) kc5).keep (B' := w5.heap.size) kc5.size (fun _ _ => rfl)
    have HD1 := Lib.hid hmd
    have HD2 := Lib.hid hmd'
    clear hmd hmd' hm hm4 zb zc zb4 zb5 zc5
    go_wp2_with (go_at_call 21; refine (SM.out w5 _ _ HD2.out HD1.out).mono ?_; rintro e w6 ⟨rfl, hk6⟩)
    go_ret
    exact ⟨rfl, (((hk02.trans kz4).trans kc5).trans hk6).below⟩

theorem printR_no {d : DescD} (h : ¬ fitD d = true) : printR d = ([], 70) := by unfold printR; rw [if_neg h]
set_option maxRecDepth 100000 in
set_option maxHeartbeats 1600000 in
theorem printerBack_walk (w : World) (hP : PowV w) (v : Value) (d : DescD) (hv : DescV w w.heap.size v d) (u : Value) (o : DescD) (hu : DescV w w.heap.size u o) : Calls Tryd.prog 14 #[v, u] w fun e w' => e = .returned (.bool true) ∧ Below w.heap.size w w' := by
  obtain ⟨vc, vs, rfl, hvc, hvs⟩ := id hv
  obtain ⟨A, n, c, rfl⟩ : ∃ A n c, vc = .slice A n c := by obtain ⟨_, _, _, _, e, _⟩ := hvc; exact ⟨_, _, _, e⟩
  obtain ⟨A2, n2, c2, rfl⟩ : ∃ A n c, vs = .slice A n c := by obtain ⟨_, _, _, _, e, _⟩ := hvs; exact ⟨_, _, _, e⟩
  obtain ⟨uc, us, rfl, huc, hus⟩ := id hu
  obtain ⟨A3, n3, c3, rfl⟩ : ∃ A n c, uc = .slice A n c := by obtain ⟨_, _, _, _, e, _⟩ := huc; exact ⟨_, _, _, e⟩
  obtain ⟨A4, n4, c4, rfl⟩ : ∃ A n c, us = .slice A n c := by obtain ⟨_, _, _, _, e, _⟩ := hus; exact ⟨_, _, _, e⟩
  clear hvc hvs huc hus
  obtain ⟨X, hX⟩ : ∃ X, X = (printR d).1 := ⟨_, rfl⟩
  obtain ⟨N, hN⟩ : ∃ N, N = (printR d).2 := ⟨_, rfl⟩
  obtain ⟨Y, hY⟩ : ∃ X, X = (printR o).1 := ⟨_, rfl⟩
  obtain ⟨M, hM⟩ : ∃ N, N = (printR o).2 := ⟨_, rfl⟩
  have P1 := Lib.hid (fun W B v h1 h2 h3 => print_any W B v d h1 h2 h3)
  have P2 := Lib.hid (fun W B v h1 h2 h3 => print_any W B v o h1 h2 h3)
  rw [← hX, ← hN] at P1
  rw [← hY, ← hM] at P2
  have y2 := (Blk.new w 25 #[.slice A n c, .slice A2 n2 c2]).alloc (.cells #[.slice A3 n3 c3, .slice A4 n4 c4] 25)
  have y3 := Blk.new (w.alloc (.cells #[.slice A n c, .slice A2 n2 c2] 25)) 25 #[.slice A3 n3 c3, .slice A4 n4 c4]
  rw [World.size_alloc] at y3
  have hk0 : K0 w ((w.alloc (.cells #[.slice A n c, .slice A2 n2 c2] 25)).alloc (.cells #[.slice A3 n3 c3, .slice A4 n4 c4] 25)) := ((Kp.refl _ _).alloc _).alloc _
  have HV := Lib.hid hv
  have HU := Lib.hid hu
  have hF : (fitD d = true ∧ X = txtID d ∧ N = 0) ∨ (¬ fitD d = true ∧ X = [] ∧ N = 70) := by
    by_cases h : fitD d = true
    · exact .inl ⟨h, by rw [hX, printR_fit h], by rw [hN, printR_fit h]⟩
    · exact .inr ⟨h, by rw [hX, printR_no h], by rw [hN, printR_no h]⟩
  have hG : (fitD o = true ∧ Y = txtID o ∧ M = 0) ∨ (¬ fitD o = true ∧ Y = [] ∧ M = 70) := by
    by_cases h : fitD o = true
    · exact .inl ⟨h, by rw [hY, printR_fit h], by rw [hM, printR_fit h]⟩
    · exact .inr ⟨h, by rw [hY, printR_no h], by rw [hM, printR_no h]⟩
  have HFF := Lib.hid hF
  have HGG := Lib.hid hG
  clear hX hN hY hM hv hu hF hG
  go_enter Tryd.func14, Tryd.ntmps14
  go_wp2_with fail
  refine (pfixed_any _ (by exact hP.k0 hk0)).mono ?_
  rintro e w1 ⟨rfl, hk1⟩
  have y21 := y2.kp hk1 (fun h => h)
  have y31 := y3.kp hk1 (fun h => h)
  have x0 := y21.cell 0
  have x1 := y21.cell 1
  simp at x0 x1
  have hk01 := hk0.trans hk1
  go_wp2_with fail
  refine (copy_any w1 w.heap.size _ d (by exact HV.out.k0 (Nat.le_refl _) hk01) (by exact hk01.size)).mono ?_
  rintro e w2 ⟨v', rfl, hod, hk2⟩
  obtain ⟨vc', vs', rfl, hvc', hvs'⟩ := id hod.it
  obtain ⟨B3, m3, d3, rfl⟩ : ∃ A n c, vc' = .slice A n c := by obtain ⟨_, _, _, _, e, _⟩ := hvc'; exact ⟨_, _, _, e⟩
  obtain ⟨B4, m4, d4, rfl⟩ : ∃ A n c, vs' = .slice A n c := by obtain ⟨_, _, _, _, e, _⟩ := hvs'; exact ⟨_, _, _, e⟩
  clear hvc' hvs'
  have hm := hod.it
  have hk02 := hk01.trans hk2
  go_wp2_with fail
  refine (P1.out _ w2.heap.size _ (by exact hm) (by exact Nat.le_refl _) (by exact hP.k0 hk02)).mono ?_
  rintro e w3 ⟨rfl, hk3⟩
  have hk03 := hk02.trans hk3
  rcases HFF.out with ⟨hf, hX, rfl⟩ | ⟨hf, rfl, rfl⟩
  · obtain ⟨d', hd1, hd2⟩ := parse_print hf
    have hsame : sameD false d' d = true := (sameD_er _ _).2 hd2
    have hl := txtID_len hf
    obtain ⟨S, hS⟩ : ∃ S : ByteArray, S = ⟨X.toArray⟩ := ⟨_, rfl⟩
    have hSl : S.size ≤ 1048576 := by rw [hS, hX]; show (txtID d).toArray.size ≤ _; simp; omega
    have hSp : parseR S = .ok d' := by rw [hS, hX, parseR_eq]; exact hd1
    have PP := Lib.hid (fun W => parse_desc S W hSl)
    have HSP := Lib.hid hSp
    have SM := Lib.hid (fun W va vb ha hb => same_any W W.heap.size va vb d' d false ha hb (Nat.le_refl _))
    rw [hsame] at SM
    have SO := Lib.hid (fun W va vb ha hb => same_any W W.heap.size va vb d o false ha hb (Nat.le_refl _))
    have HX := Lib.hid hX
    have HF := Lib.hid hf
    rw [← hS]
    have HSS := Lib.hid hS
    clear hd1 hd2 hf hX hsame hl hS hSp hSl
    go_wp2_with fail
    refine (PP.out w3).mono ?_
    rintro e w4 (⟨p, er, hE2, hz0, hz1, hz2⟩ | ⟨d2, A5, n5, c5, A6, n6, c6, hE2, hq0, rfl, hm4, hq1, hq2, hk4⟩)
    · have := HSP.out; rw [hE2] at this; cases this
    obtain rfl : d2 = d' := by have := HSP.out; rw [hE2] at this; cases this; rfl
    clear hE2 hq0 hq1 hq2
    have zc := Blk.new w4 25 #[.slice A5 n5 c5, .slice A6 n6 c6]
    have kc : K0 w4 (w4.alloc (.cells #[.slice A5 n5 c5, .slice A6 n6 c6] 25)) := (Kp.refl _ _).alloc _
    have hk04 : K0 w w4 := hk03.trans hk4
    have hk0c : K0 w (w4.alloc (.cells #[.slice A5 n5 c5, .slice A6 n6 c6] 25)) := hk04.trans kc
    have hk14 : K0 w1 w4 := (hk2.trans hk3).trans hk4
    have hk1c : K0 w1 (w4.alloc (.cells #[.slice A5 n5 c5, .slice A6 n6 c6] 25)) := hk14.trans kc
    have y24 := y21.kp hk1c (fun h => h)
    have y34 := y31.kp hk1c (fun h => h)
    have q0 := y34.cell 0
    have q1 := y34.cell 1
    have ql := y34.lt
    simp at q0 q1
    have b30 := y31.kp hk14 (fun h => h)
    have q30 := b30.cell 0
    have q31 := b30.cell 1
    have q3l := b30.lt
    simp at q30 q31
    go_wp2_with fail
    refine (copy_any _ w.heap.size _ o (by exact HU.out.k0 (Nat.le_refl _) hk0c) (by exact hk0c.size)).mono ?_
    rintro e w5 ⟨v5, rfl, hod5, hk5⟩
    obtain ⟨vc5, vs5, rfl, hvc5, hvs5⟩ := id hod5.it
    obtain ⟨B7, m7, d7, rfl⟩ : ∃ A n c, vc5 = .slice A n c := by obtain ⟨_, _, _, _, e, _⟩ := hvc5; exact ⟨_, _, _, e⟩
    obtain ⟨B8, m8, d8, rfl⟩ : ∃ A n c, vs5 = .slice A n c := by obtain ⟨_, _, _, _, e, _⟩ := hvs5; exact ⟨_, _, _, e⟩
    clear hvc5 hvs5
    have hm5 := hod5.it
    have hk05 := hk0c.trans hk5
    go_wp2_with fail
    refine (P2.out _ w5.heap.size _ (by exact hm5) (by exact Nat.le_refl _) (by exact hP.k0 hk05)).mono ?_
    rintro e w6 ⟨rfl, hk6⟩
    have hk06 := hk05.trans hk6
    have hk46 : K0 w4 w6 := (kc.trans hk5).trans hk6
    have hk16 : K0 w1 w6 := hk14.trans hk46
    have g2 := y21.kp hk16 (fun h => h)
    have g3 := y31.kp hk16 (fun h => h)
    have gc := (zc.kp hk5 (fun h => h)).kp hk6 (fun h => h)
    have g20 := g2.cell 0
    have g21 := g2.cell 1
    have g30 := g3.cell 0
    have g31 := g3.cell 1
    have gc0 := gc.cell 0
    have gc1 := gc.cell 1
    have g2l := g2.lt
    have g3l := g3.lt
    have gcl := gc.lt
    simp at g20 g21 g30 g31 gc0 gc1
    have hmX := (hm4.k0 (Nat.le_refl _) hk46).keep (B' := w6.heap.size) hk46.size (fun _ _ => rfl)
    have hmD := (HV.out.k0 (Nat.le_refl _) hk06).keep (B' := w6.heap.size) hk06.size (fun _ _ => rfl)
    have hmO := (HU.out.k0 (Nat.le_refl _) hk06).keep (B' := w6.heap.size) hk06.size (fun _ _ => rfl)
    have HMX := Lib.hid hmX
    have HMD := Lib.hid hmD
    have HMO := Lib.hid hmO
    have HK06 := Lib.hid hk06
    have G2 := Lib.hid g2
    have G3 := Lib.hid g3
    clear hmX hmD hmO hm hm4 hm5 hod hod5 zc y24 y34 g2 g3 gc b30 y21 y31
    rcases HGG.out with ⟨hg, hY, rfl⟩ | ⟨hg, rfl, rfl⟩
    · have hiff := txtID_iff HF.out hg
      rw [← HX.out, ← hY] at hiff
      obtain ⟨bb, hbb⟩ : ∃ bb, bb = sameD false d o := ⟨_, rfl⟩
      rw [← hbb] at hiff SO
      obtain ⟨S2, hS2⟩ : ∃ S : ByteArray, S = ⟨Y.toArray⟩ := ⟨_, rfl⟩
      have heq : (S2.toList == S.toList) = bb := by
        rw [ByteArray.toList_eq, ByteArray.toList_eq, hS2, HSS.out]
        show (Y == X) = bb
        cases bb
        · rw [beq_eq_false_iff_ne]
          intro e
          have := hiff.1 e.symm
          cases this
        · rw [hiff.2 rfl]
          exact beq_self_eq_true _
      rw [← hS2]
      clear hiff hbb hS2 hY hg HX HF HSS
      cases bb
      all_goals
        go_wp2_with (first
          | (go_at_call_of 21 (Value.slice A5 n5 c5); refine (SM.out w6 _ _ HMX.out HMD.out).mono ?_; rintro e w7 ⟨rfl, hk7⟩; have p2 := G2.out.kp hk7 (fun h => h); have p3 := G3.out.kp hk7 (fun h => h); have p20 := p2.cell 0; have p21 := p2.cell 1; have p30 := p3.cell 0; have p31 := p3.cell 1; have p2l := p2.lt; have p3l := p3.lt; simp at p20 p21 p30 p31; clear p2 p3)
          | (go_at_call 21; refine (SO.out _ _ _ (by exact (HMD.out.k0 (Nat.le_refl _) hk7).keep hk7.size (fun _ _ => rfl)) (by exact (HMO.out.k0 (Nat.le_refl _) hk7).keep hk7.size (fun _ _ => rfl))).mono ?_; rintro e w8 ⟨rfl, hk8⟩))
        go_ret
        exact ⟨rfl, ((HK06.out.trans hk7).trans hk8).below⟩
    · go_wp2_with (go_at_call 21; refine (SM.out w6 _ _ HMX.out HMD.out).mono ?_; rintro e w7 ⟨rfl, hk7⟩)
      go_ret
      exact ⟨rfl, (HK06.out.trans hk7).below⟩
  · go_wp2
    go_ret
    exact ⟨rfl, hk03.below⟩
end Go.Proofs.YtobofhiakgohfaaDoor
