/- DescrLocal: the lines of a right text. -/
import Derived.Test.YtobofhiakgohfaaDoorT42
import Derived.Test.YtobofhiakgohfaaDoorT55
set_option linter.unusedVariables false
set_option linter.unusedSimpArgs false
namespace Go.Proofs.YtobofhiakgohfaaDoor
open Go.RowKit

theorem sum_take {α : Type} (f : α → Nat) (X : List α) (q : Nat) (h : q < X.length) : ((X.take (q + 1)).map f).sum = ((X.take q).map f).sum + f X[q] := by
  rw [List.take_succ_eq_append_getElem h, List.map_append, List.sum_append]
  simp
theorem sum_le {α : Type} (f : α → Nat) (X : List α) (q : Nat) : ((X.take q).map f).sum ≤ (X.map f).sum := by
  have h : X.map f = (X.take q).map f ++ (X.drop q).map f := by rw [← List.map_append, List.take_append_drop]
  rw [h, List.sum_append]
  omega

set_option maxRecDepth 100000 in
set_option maxHeartbeats 4000000 in
theorem descrLocal_right (w : World) (mm : Int) (hM : w.cell? ⟨0, 0, none⟩ = some (.int .i64 mm)) (s m : ByteArray) (d : DescD) (hs : s.size ≤ 1048576) (hE : parseR s = .ok d) : Calls Tryd.prog 13 #[.string s, .string m] w fun e w' => e = .returned (.bool true) ∧ Below w.heap.size w w' := by
  have P1 := Lib.hid (fun W => parse_any s W (by omega))
  have hlt0 : 0 < w.heap.size := by
    rcases Nat.lt_or_ge 0 w.heap.size with h | h
    · exact h
    · simp [World.cell?, Array.getElem?_eq_none h] at hM
  obtain ⟨L0, L1, L2, L3⟩ := lines_of _ s rfl
  have hfit := parse_fit hE
  have hE2 := hE
  rw [parseR_eq] at hE2
  obtain ⟨LS, hLS⟩ : ∃ LS, Lib.splitB ⟨#[10]⟩ 0 (Lib.countB s ⟨#[10]⟩) s = LS := ⟨_, rfl⟩
  rw [hLS] at L0 L1 L2 L3
  have hE3 : runT d0 0 (toksT false none 0 (inter (LS.map fun x => x.data.toList))) = .ok d := by rw [L2]; exact hE2
  obtain ⟨X, X1, X2, X3, X4⟩ := lines_ok _ d0 d 0 L0 L1 hE3
  have hcnt : LS.length = Lib.countB s ⟨#[10]⟩ + 1 := by rw [← hLS]; exact Lib.splitB_all ⟨#[10]⟩ (by decide) 0 _ s rfl
  have hXl : X.length = LS.length := by rw [X1]; simp
  have hd1 : d.cls.length = (X.map fun x => x.cls.length).sum := by rw [X3]; show 0 + _ = _; omega
  have hd2 : d.shs.length = (X.map fun x => x.shs.length).sum := by rw [X4]; show 0 + _ = _; omega
  have hdc : d.cls.length ≤ 32 ∧ d.shs.length ≤ 32 := by
    unfold fitD at hfit
    simp only [Bool.and_eq_true, decide_eq_true_eq] at hfit
    exact ⟨hfit.1.1.1, hfit.1.1.2⟩
  have SP := Lib.hid (fun W (h : W.cell? ⟨0, 0, none⟩ = some (.int .i64 mm)) => Tryd.strings_Split s ⟨#[10]⟩ mm W (by omega) h (by decide))
  rw [hLS, ← hcnt] at SP
  have hLn : LS.length ≤ 1048577 := by
    have := Lib.countB_le ⟨#[10]⟩ (by decide) s.size s (Nat.le_refl _)
    omega
  have HX := Lib.hid (fun q (h : q < LS.length) (h' : q < X.length) => show parseR LS[q] = .ok X[q] ∧ X[q].cls.length + X[q].shs.length ≤ 1 ∧ LS[q].size ≤ 1048576 by
    have h2 : q < (LS.map fun x => x.data.toList).length := by simpa using h
    obtain ⟨g1, g2⟩ := X2 q h2 h'
    refine ⟨?_, g2, Nat.le_trans (L3 _ (List.getElem_mem h)) hs⟩
    rw [parseR_eq]
    simpa using g1)
  have HEE := Lib.hid hE
  have HD := Lib.hid (And.intro hd1 hd2)
  clear hE hE2 hE3 L0 L1 L2 L3 X2 X3 X4 hLS hcnt hfit X1 hd1 hd2
  go_enter Tryd.func13, Tryd.ntmps13
  go_wp2_with fail
  refine (fixed6_any _).mono ?_
  rintro e w1 ⟨rfl, hk1⟩
  go_wp2_with fail
  refine (P1.out _).mono ?_
  rintro e w2 (⟨p, er, hE, rfl, hk2⟩ | ⟨d', vc, vs, pc, ps, hE, rfl, hpd, hpc, hps, hk2⟩)
  · exfalso
    have := HEE.out
    rw [hE] at this
    cases this
  obtain rfl : d' = d := by have := HEE.out; rw [hE] at this; cases this; rfl
  obtain ⟨A, cA, rfl, _, _⟩ := own_form hpd.oc
  obtain ⟨A2, c2, rfl, _, _⟩ := own_form hpd.os
  have m1 : pc.length = d'.cls.length := by rw [← hpc]; simp
  have m2 : ps.length = d'.shs.length := by rw [← hps]; simp
  rw [m1, m2]
  clear hE hpd hpc hps m1 m2
  have y := Blk.new w2 25 #[.slice A d'.cls.length cA, .slice A2 d'.shs.length c2]
  have ky : K0 w2 (w2.alloc (.cells #[.slice A d'.cls.length cA, .slice A2 d'.shs.length c2] 25)) := (Kp.refl _ _).alloc _
  have k03 := (hk1.trans hk2).trans ky
  have hM3 := (k03.cell (p := ⟨0, 0, none⟩) hlt0 (fun h => h)).trans hM
  go_wp2_with fail
  generalize hW3 : w2.alloc (.cells #[.slice A d'.cls.length cA, .slice A2 d'.shs.length c2] 25) = W3 at *
  clear hk1 hk2 ky hW3
  refine (SP.out _ hM3).mono ?_
  rintro e w4 ⟨rfl, rfl⟩
  have kl : K0 W3 (W3.alloc (.cells (LS.map Value.string).toArray 9)) := (Kp.refl _ _).alloc _
  have z := Blk.new W3 9 (LS.map Value.string).toArray
  have y4 := y.kp kl (fun h => h)
  have k04 := k03.trans kl
  have sz4 : (W3.alloc (.cells (LS.map Value.string).toArray 9)).heap.size = W3.heap.size + 1 := by simp
  generalize W3.alloc (.cells (LS.map Value.string).toArray 9) = W4 at *
  try clear SP
  try clear y
  try clear kl
  try clear hM3
  try clear k03
  go_wp2_with fail
  have hdl := HD.out
  obtain ⟨N1, hN1⟩ : ∃ N1 : Nat → Nat, N1 = fun q => ((X.take q).map fun x => x.cls.length).sum := ⟨_, rfl⟩
  obtain ⟨N2, hN2⟩ : ∃ N2 : Nat → Nat, N2 = fun q => ((X.take q).map fun x => x.shs.length).sum := ⟨_, rfl⟩
  have n1s : ∀ q (h : q < X.length), N1 (q + 1) = N1 q + X[q].cls.length := fun q h => by rw [hN1]; exact sum_take _ X q h
  have n2s : ∀ q (h : q < X.length), N2 (q + 1) = N2 q + X[q].shs.length := fun q h => by rw [hN2]; exact sum_take _ X q h
  have n1l : ∀ q, N1 q ≤ d'.cls.length := fun q => by rw [hN1, hdl.1]; exact sum_le _ X q
  have n2l : ∀ q, N2 q ≤ d'.shs.length := fun q => by rw [hN2, hdl.2]; exact sum_le _ X q
  have n1e : N1 LS.length = d'.cls.length := by rw [hN1, hdl.1]; show ((X.take LS.length).map _).sum = _; rw [List.take_of_length_le (by omega)]
  have n2e : N2 LS.length = d'.shs.length := by rw [hN2, hdl.2]; show ((X.take LS.length).map _).sum = _; rw [List.take_of_length_le (by omega)]
  have n10 : N1 0 = 0 := by rw [hN1]; rfl
  have n20 : N2 0 = 0 := by rw [hN2]; rfl
  have H1 := Lib.hid n1s
  have H2 := Lib.hid n2s
  have H3 := Lib.hid (And.intro n1l n2l)
  have H4 := Lib.hid (And.intro n1e n2e)
  clear n1s n2s n1l n2l n1e n2e hdl HD hN1 hN2
  go_loopw [12, 13, 96] (fun nv mv i wr => ∃ q : Nat, q ≤ LS.length ∧ i = .int .i64 (q : Int) ∧ nv = .int .i64 (N1 q : Int) ∧ mv = .int .i64 (N2 q : Int) ∧ Hid (K0 W4 wr)) (fun nv mv i wr => LS.length - (intOf i).toNat)
  case atStart => exact ⟨0, by omega, rfl, by rw [n10]; rfl, by rw [n20]; rfl, Lib.hid (Kp.refl _ _)⟩
  case round =>
    obtain ⟨q, hq, rfl, rfl, rfl, hk⟩ := hrel
    have hks := hk.out.size
    have zr := z.kp hk.out (fun h => h)
    have yr := y4.kp hk.out (fun h => h)
    by_cases hlt : q < LS.length
    · obtain ⟨g1, g2, g3⟩ := HX.out q hlt (by omega)
      have hz := zr.cell q
      rw [List.getElem?_toArray, List.getElem?_map, List.getElem?_eq_getElem hlt] at hz
      simp only [Option.map_some] at hz
      have e1 := H1.out q (by omega)
      have e2 := H2.out q (by omega)
      have b1 := H3.out.1 (q + 1)
      have b2 := H3.out.2 (q + 1)
      generalize X[q]'(by omega) = D at g1 g2 e1 e2
      generalize LS[q] = x at g1 g3 hz
      obtain ⟨a, ha⟩ : ∃ a, D.cls.length = a := ⟨_, rfl⟩
      obtain ⟨b, hb⟩ : ∃ b, D.shs.length = b := ⟨_, rfl⟩
      have PX : ∀ W, Calls Tryd.prog 41 #[.string x] W (fun e w' => ∃ A n A2 n2, e = .returned (.tuple #[.agg #[.slice A a n, .slice A2 b n2], .int .i64 0, .int .i64 0]) ∧ K0 W w') := fun W => (parse_any x W g3).mono (by
        rintro e w' (⟨p, er, h1, _⟩ | ⟨d, vc, vs, pc, ps, h1, h2, h3, h4, h5, h6⟩)
        · rw [g1] at h1
          cases h1
        · rw [g1] at h1
          cases h1
          obtain ⟨A, c, rfl, _, _⟩ := own_form h3.oc
          obtain ⟨A2, c2, rfl, _, _⟩ := own_form h3.os
          exact ⟨A, c, A2, c2, by rw [h2, show pc.length = a by rw [← ha, ← h4]; simp, show ps.length = b by rw [← hb, ← h5]; simp], h6⟩)
      rw [ha] at e1 g2
      rw [hb] at e2 g2
      have HP := Lib.hid PX
      clear PX g1 ha hb
      have lz := zr.lt
      have u1 : IntKind.i64.wrap ((N1 q : Int) + (a : Int)) = (N1 q : Int) + (a : Int) := IntWalk.i64_in _ (by omega)
      have u2 : IntKind.i64.wrap ((N2 q : Int) + (b : Int)) = (N2 q : Int) + (b : Int) := IntWalk.i64_in _ (by omega)
      have u3 : IntKind.i64.wrap ((a : Int) + (b : Int)) = (a : Int) + (b : Int) := IntWalk.i64_in _ (by omega)
      clear zr yr
      go_wp2_with fail
      refine (HP.out _).mono ?_
      rintro e w5 ⟨Aa, na, Ab, nb, rfl, hk5⟩
      go_wp2_with fail
      go_quiet (fail)
      go_wp2_with fail
      exact ⟨⟨q + 1, by omega, by go_num, by rw [e1, Int.natCast_add], by rw [e2, Int.natCast_add], Lib.hid (((hk.out.trans hk5).alloc _).drewN _)⟩, by simp [intOf]; omega⟩
    · obtain rfl : q = LS.length := by omega
      have hk4 := H4.out
      rw [hk4.1, hk4.2]
      have c0 := yr.cell 0
      have c1 := yr.cell 1
      have ly := yr.lt
      simp at c0 c1
      clear hk4 zr yr z y4
      have v1 : (d'.cls.length : Int) ≤ 32 := by omega
      have v2 : (d'.shs.length : Int) ≤ 32 := by omega
      go_wp2_with fail
      go_ret
      exact ⟨rfl, (k04.trans hk.out).below⟩
end Go.Proofs.YtobofhiakgohfaaDoor
