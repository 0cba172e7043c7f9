/- The walk of DescrLocal. -/
import Derived.Test.YtobofhiakgohfaaDoorT42
import Derived.Test.YtobofhiakgohfaaDoorT55
import Derived.Test.YtobofhiakgohfaaDoorTF
set_option linter.unusedVariables false
set_option linter.unusedSimpArgs false
namespace Go.Proofs.YtobofhiakgohfaaDoor
open Go.RowKit

theorem append_list (a b : ByteArray) : (a ++ b).data.toList = a.data.toList ++ b.data.toList := by simp [ByteArray.data_append]
theorem size_list (s : ByteArray) : s.size = s.data.toList.length := by simp
set_option maxRecDepth 100000 in
set_option maxHeartbeats 16000000 in
theorem descrLocal_wrong (w : World) (s m : ByteArray) (p0 er0 : Int) (hE0 : parseR s = .error (p0, er0)) (hs : s.size + m.size + 2 ≤ 1048576) : Calls Tryd.prog 13 #[.string s, .string m] w fun e w' => e = .returned (.bool true) ∧ Below w.heap.size w w' := by
  have P1 := Lib.hid (fun W => parse_any s W (by omega))
  have HE0 := Lib.hid hE0
  clear hE0
  have HL := Lib.hid (fun W => list_any s W (by omega))
  unfold ListPost at HL
  have hz : s.data.toList.length = s.size := by simp
  go_enter Tryd.func13, Tryd.ntmps13
  go_wp2_with fail
  refine (fixed6_any _).mono ?_
  rintro e w1 ⟨rfl, hk1⟩
  go_wp2_with fail
  refine (P1.out _).mono ?_
  rintro e w2 (⟨p, er, hE, rfl, hk2⟩ | ⟨d, vc, vs, pc, ps, hE, rfl, hpd, hpc, hps, hk2⟩)
  · have hne : er ≠ 0 := by rcases parse_err hE with rfl | rfl <;> omega
    have hne1 : (er != 0) = true := by simp [hne]
    rw [parseR_eq] at hE
    obtain ⟨⟨p0, p1⟩, hloc⟩ := local_fault hE
    obtain ⟨pn, rfl⟩ : ∃ pn : Nat, p = (pn : Int) := ⟨p.toNat, by omega⟩
    rw [hz] at p1
    have hV : (toks s.data.toList).map (tv s) = toksT false none 0 s.data.toList := (toksT_eq s s.data.toList false 0 (by simp)).1
    have hVl : (toks s.data.toList).length = (toksT false none 0 s.data.toList).length := by rw [← hV]; simp
    rw [hV, hVl] at HL
    have hwf := wft_toksT s.data.toList 0
    have hTl : (toksT false none 0 s.data.toList).length ≤ s.size + 1 := by rw [← hVl]; have := toks_len s.data.toList; simp at this; omega
    generalize toksT false none 0 s.data.toList = V at *
    have hV0 : V ≠ [] := by rintro rfl; exact hwf
    obtain ⟨VI, x, rfl⟩ := snoc_of hV0
    have hVn : (VI ++ [x]).length = VI.length + 1 := by simp
    have hlast := fun h => hloc x (by simp) h m.data.toList
    have HLOC := Lib.hid hlast
    have HEE := Lib.hid hE
    clear hE hloc hlast hwf hV hVl hV0 hne
    have y := Blk.new w2 25 #[.slice none 0 0, .slice none 0 0]
    have ky : K0 w2 (w2.alloc (.cells #[.slice none 0 0, .slice none 0 0] 25)) := (Kp.refl _ _).alloc _
    have k02 := Lib.hid ((hk1.trans hk2).trans ky)
    clear hk1 hk2 ky
    go_wp2_with fail
    refine (HL.out _).mono ?_
    rintro e w3 ⟨v, rfl, hown, hk3⟩
    obtain ⟨A, c, rfl, hc1, hc2⟩ := own_form hown
    have hrd := Reads.of_own hown
    obtain ⟨ad, rfl, hbl, x0, x1, x2⟩ := hrd.tok (j := VI.length) (by omega)
    have hx : (VI ++ [x])[VI.length]'(by omega) = x := by simp
    rw [hx] at x0 x1 x2
    clear hx hown
    have k03 := Lib.hid (k02.out.trans hk3)
    have HRD := Lib.hid hrd
    clear hrd k02 hk3
    by_cases hpl : pn = s.size
    · go_wp2_with fail
      go_ret
      exact ⟨rfl, k03.out.below⟩
    · have d1 : ((pn : Int) == (s.size : Int)) = false := beq_eq_false_iff_ne.2 (by omega)
      by_cases hla : x.2.2 ≤ (pn : Int)
      · rw [hVn]
        go_wp2_with fail
        go_ret
        exact ⟨rfl, k03.out.below⟩
      · obtain ⟨hg, hgl⟩ := HLOC.out (by omega)
        have d2 : ¬ (x.2.2 ≤ (pn : Int)) := hla
        rw [Int.toNat_natCast] at hg hgl
        rw [hz] at hgl
        have WA0 : ∀ W, K0 w3 W → Calls Tryd.prog 43 #[.slice (some ad) (VI.length + 1) c, .int .i64 (pn : Int)] W (fun e w' => e = .returned (.string (wordAt (VI ++ [x]) (pn : Int))) ∧ K0 W w') := fun W hk => by
          have := lword_any (some ad) c (VI ++ [x]) (pn : Int) W (by omega) ((HRD.out.k0 (Nat.le_refl _) hk).more hk.size)
          rwa [hVn] at this
        have WA := Lib.hid WA0
        clear WA0
        obtain ⟨wd, hwd⟩ : ∃ wd, wordAt (VI ++ [x]) (pn : Int) = wd := ⟨_, rfl⟩
        rw [hwd] at WA hg hgl
        obtain ⟨sa, hsa⟩ : ∃ sa, s.extract 0 pn = sa := ⟨_, rfl⟩
        obtain ⟨sb, hsb⟩ : ∃ sb, s.extract pn (pn + wd.size) = sb := ⟨_, rfl⟩
        have la : sa.data.toList = s.data.toList.take pn := by rw [← hsa, extract_list]; simp
        have lb : sb.data.toList = (s.data.toList.drop pn).take wd.size := by rw [← hsb, extract_list, Nat.add_sub_cancel_left]
        have za : sa.size = pn := by rw [size_list, la]; simp; omega
        have zb : sb.size = wd.size := by rw [size_list, lb]; simp; omega
        have zw : wd.size ≤ 1048576 := by omega
        obtain ⟨s1, e1, z1, a1, b1⟩ := str_sum sa sb (by omega)
        obtain ⟨s2, e2, z2, a2, b2⟩ := str_sum s1 ⟨#[10]⟩ (by show s1.size + 1 ≤ _; omega)
        rw [show (⟨#[10]⟩ : ByteArray).size = 1 from rfl] at z2
        obtain ⟨T, e3, z3, a3, b3⟩ := str_sum s2 m (by omega)
        have lT : T.data.toList = s.data.toList.take (pn + wd.size) ++ 10 :: m.data.toList := by
          rw [e3, e2, e1, la, lb, List.take_add]
          simp
        have zT : T.size ≤ 1048576 := by omega
        have i1 : IntKind.i64.wrap ((pn : Int) + (wd.size : Int)) = (pn : Int) + (wd.size : Int) := IntWalk.i64_in _ (by omega)
        have i2 : (0 : Int) ≤ (pn : Int) + (wd.size : Int) := by omega
        have i3 : ((pn : Int) + (wd.size : Int)).toNat = pn + wd.size := by omega
        have i4 : (pn : Int) + (wd.size : Int) ≤ (s.size : Int) := by omega
        have i5 : (pn : Int) ≤ (pn : Int) + (wd.size : Int) := by omega
        have hpT : parseR T = .error ((pn : Int), er) := by rw [parseR_eq, lT]; exact hg
        have PT : ∀ W, Calls Tryd.prog 41 #[.string T] W (fun e w' => e = .returned (.tuple #[.agg #[.slice none 0 0, .slice none 0 0], .int .i64 (pn : Int), .int .i64 er]) ∧ K0 W w') := fun W => (parse_any T W zT).mono (by
          rintro e w' (⟨p, er', g1, g2, g3⟩ | ⟨d, vc, vs, pc, ps, g1, _⟩)
          · rw [hpT] at g1
            cases g1
            exact ⟨g2, g3⟩
          · rw [hpT] at g1
            cases g1)
        have HP := Lib.hid PT
        clear PT hpT lT zT hg hwd HLOC hla HEE e1 e2 e3 z1 z2 z3 la lb za zb
        rw [hVn]
        go_wp2_with fail
        go_region_with (first
          | (go_at_call 43; refine (WA.out _ (by first | exact Kp.refl _ _ | exact (Kp.refl _ _).drew | exact (Kp.refl _ _).drewN _ | exact ((Kp.refl _ _).drew).alloc _ | exact ((Kp.refl _ _).drewN _).alloc _)).mono ?_; rintro e w4 ⟨rfl, hk4⟩; have kk4 : K0 w3 w4 := Kp.trans (by first | exact Kp.refl _ _ | exact (Kp.refl _ _).drew | exact (Kp.refl _ _).drewN _ | exact ((Kp.refl _ _).drew).alloc _ | exact ((Kp.refl _ _).drewN _).alloc _) hk4; try (have zz : Blk w4 w3.heap.size 25 #[.slice none 0 0, .slice none 0 0] := (Blk.new w3.drew 25 #[.slice none 0 0, .slice none 0 0]).kp hk4 (fun h => h); have zz0 : w4.cell? ⟨w3.heap.size, 0, none⟩ = some (.slice none 0 0) := zz.cell 0; have zz1 : w4.cell? ⟨w3.heap.size, 1, none⟩ = some (.slice none 0 0) := zz.cell 1; have zzf0 : w4.frozen? ⟨w3.heap.size, 0, none⟩ = false := zz.frozen 0; have zzf1 : w4.frozen? ⟨w3.heap.size, 1, none⟩ = false := zz.frozen 1; have zzl : w3.heap.size < w4.heap.size := zz.lt))
          | (go_at_call 41; refine (HP.out _).mono ?_; rintro e w5 ⟨rfl, hk5⟩; have kk5 : K0 w3 w5 := Kp.trans (by first | exact kk4 | exact kk4.drew | exact kk4.drewN _ | exact kk4.alloc _ | exact kk4.drew.alloc _) hk5; first | (have yy : Blk w5 w3.heap.size 25 #[.slice none 0 0, .slice none 0 0] := zz.kp hk5 (fun h => h); have yy0 : w5.cell? ⟨w3.heap.size, 0, none⟩ = some (.slice none 0 0) := yy.cell 0; have yy1 : w5.cell? ⟨w3.heap.size, 1, none⟩ = some (.slice none 0 0) := yy.cell 1; have yyf0 : w5.frozen? ⟨w3.heap.size, 0, none⟩ = false := yy.frozen 0; have yyf1 : w5.frozen? ⟨w3.heap.size, 1, none⟩ = false := yy.frozen 1; have yyl : w3.heap.size < w5.heap.size := yy.lt) | (have yy : Blk w5 w4.heap.size 25 #[.slice none 0 0, .slice none 0 0] := (Blk.new _ 25 #[.slice none 0 0, .slice none 0 0]).kp hk5 (fun h => h); have yy0 : w5.cell? ⟨w4.heap.size, 0, none⟩ = some (.slice none 0 0) := yy.cell 0; have yy1 : w5.cell? ⟨w4.heap.size, 1, none⟩ = some (.slice none 0 0) := yy.cell 1; have yyf0 : w5.frozen? ⟨w4.heap.size, 0, none⟩ = false := yy.frozen 0; have yyf1 : w5.frozen? ⟨w4.heap.size, 1, none⟩ = false := yy.frozen 1; have yyl : w4.heap.size < w5.heap.size := yy.lt) | skip))
        all_goals
          go_wp2_with fail
          go_ret
          have q3 := k03.out.size
          have q4 := kk4.size
          have KF := k03.out.trans kk5
          refine ⟨rfl, Kp.below ?_⟩
          first
            | exact KF
            | exact KF.alloc _
            | exact (KF.setCell (p := ⟨w3.heap.size, 0, none⟩) (.inl q3) _).setCell (p := ⟨w3.heap.size, 1, none⟩) (.inl q3) _
            | exact (KF.setCell (p := ⟨w4.heap.size, 0, none⟩) (.inl (Nat.le_trans q3 q4)) _).setCell (p := ⟨w4.heap.size, 1, none⟩) (.inl (Nat.le_trans q3 q4)) _
            | exact ((KF.alloc _).setCell (p := ⟨w5.heap.size, 0, none⟩) (.inl KF.size) _).setCell (p := ⟨w5.heap.size, 1, none⟩) (.inl KF.size) _
  · exfalso
    have := HE0.out
    rw [hE] at this
    cases this
end Go.Proofs.YtobofhiakgohfaaDoor
