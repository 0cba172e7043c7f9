/- The walk of DescrTooBig. -/
import Derived.Test.YtobofhiakgohfaaDoorT42
import Derived.Test.YtobofhiakgohfaaDoorT52
import Derived.Test.YtobofhiakgohfaaDoorP21
set_option linter.unusedVariables false
set_option linter.unusedSimpArgs false
namespace Go.Proofs.YtobofhiakgohfaaDoor
open Go.RowKit

theorem append_list (a b : ByteArray) : (a ++ b).data.toList = a.data.toList ++ b.data.toList := by simp [ByteArray.data_append]
theorem clamp_eq (lo hi a : Int) (h : 0 ≤ lo) (h2 : lo ≤ hi) : ∃ n : Nat, min (max a lo) hi = (n : Int) ∧ lo ≤ (n : Int) ∧ (n : Int) ≤ hi :=
  ⟨(min (max a lo) hi).toNat, by omega, by omega, by omega⟩
theorem size_list (s : ByteArray) : s.size = s.data.toList.length := by simp

set_option maxRecDepth 100000 in
set_option maxHeartbeats 4000000 in
theorem descrTooBig_walk (w : World) (a b c : Int) (wr : Bool) : Calls Tryd.prog 16 #[.agg #[.int .i64 a, .int .i64 b, .int .i64 c, .bool wr]] w fun e w' => e = .returned (.bool true) ∧ Below w.heap.size w w' := by
  obtain ⟨nc, ea, a0, a1⟩ := clamp_eq 0 40 a (by omega) (by omega)
  obtain ⟨ns, eb, b0, b1⟩ := clamp_eq 0 40 b (by omega) (by omega)
  obtain ⟨it, ec, c0, c1⟩ := clamp_eq 1 12 c (by omega) (by omega)
  -- the three words
  have R1 := Lib.hid (fun W => repeat_any ⟨#[99, 108, 97, 115, 115, 32, 99, 32, 52, 49, 10]⟩ nc 99 _ W rfl (.inr (by decide)) (by omega) (by show 11 * nc ≤ 8192; omega))
  have R2 := Lib.hid (fun W => repeat_any ⟨#[32, 52, 49]⟩ it 32 _ W rfl (.inl ⟨rfl, by omega⟩) (by omega) (by show 3 * it ≤ 8192; omega))
  obtain ⟨S1, hS1⟩ : ∃ S1 : ByteArray, (⟨(Lib.repeatL (ByteArray.mk #[99, 108, 97, 115, 115, 32, 99, 32, 52, 49, 10]).data.toList nc).toArray⟩ : ByteArray) = S1 := ⟨_, rfl⟩
  obtain ⟨S2, hS2⟩ : ∃ S2 : ByteArray, (⟨(Lib.repeatL (ByteArray.mk #[32, 52, 49]).data.toList it).toArray⟩ : ByteArray) = S2 := ⟨_, rfl⟩
  rw [hS1] at R1
  rw [hS2] at R2
  have l1 : S1.data.toList = Lib.repeatL lineC nc := by rw [← hS1]; rfl
  have l2 : S2.data.toList = Lib.repeatL [32, 52, 49] it := by rw [← hS2]
  have z1 : S1.size ≤ 440 := by rw [size_list, l1, Lib.repeatL_length]; show nc * 11 ≤ 440; omega
  have z2 : S2.size ≤ 36 := by rw [size_list, l2, Lib.repeatL_length]; show it * 3 ≤ 36; omega
  obtain ⟨S3, hS3⟩ : ∃ S3 : ByteArray, (⟨#[115, 104, 97, 112, 101]⟩ ++ S2 ++ ⟨#[32, 97, 116, 32, 55, 10]⟩ : ByteArray) = S3 := ⟨_, rfl⟩
  have l3 : S3.data.toList = lineS it := by rw [← hS3, append_list, append_list, l2]; rfl
  have z3 : S3.size ≤ 47 := by rw [size_list, l3]; unfold lineS; simp [Lib.repeatL_length]; omega
  obtain ⟨S4, hS4⟩ : ∃ S4 : ByteArray, (⟨(Lib.repeatL S3.data.toList ns).toArray⟩ : ByteArray) = S4 := ⟨_, rfl⟩
  have z34 : S3.size * ns ≤ 47 * 40 := Nat.mul_le_mul z3 (by omega)
  have R3 := Lib.hid (fun W => repeat_any S3 ns 115 _ W (by rw [l3]; rfl) (.inr (by decide)) (by omega) (by omega))
  rw [hS4] at R3
  have l4 : S4.data.toList = Lib.repeatL (lineS it) ns := by rw [← hS4, l3]
  have z4 : S4.size ≤ 1880 := by rw [size_list, l4, Lib.repeatL_length, Nat.mul_comm, ← l3, ← size_list]; exact z34
  obtain ⟨T, hT⟩ : ∃ T : ByteArray, S1 ++ S4 ++ (if wr = true then ⟨#[119, 114, 111, 110, 103]⟩ else ⟨#[]⟩) = T := ⟨_, rfl⟩
  have lT : T.data.toList = bigT nc ns it wr := by
    rw [← hT, append_list, append_list, l1, l4]
    unfold bigT
    cases wr <;> rfl
  have zT : T.size ≤ 1048576 := by
    rw [size_list, lT]
    unfold bigT
    rw [← l1, ← l4, List.length_append, List.length_append, ← size_list, ← size_list]
    cases wr
    · show S1.size + S4.size + 0 ≤ _; omega
    · show S1.size + S4.size + 5 ≤ _; omega
  have PT := Lib.hid (fun W => parse_any T W zT)
  have HB := Lib.hid (show _ from big_parse nc ns it wr (by omega))
  rw [← lT, ← parseR_eq] at HB
  have HT := Lib.hid hT
  have HS3 := Lib.hid hS3
  clear hS1 hS2 hS3 hS4 l1 l2 l3 l4 z34 hT lT zT
  have y := Blk.new w 80 #[.int .i64 a, .int .i64 b, .int .i64 c, .bool wr]
  have ky : K0 w (w.alloc (.cells #[.int .i64 a, .int .i64 b, .int .i64 c, .bool wr] 80)) := (Kp.refl _ _).alloc _
  go_enter Tryd.func16, Tryd.ntmps16
  go_wp2_with fail
  refine (fixed6_any _).mono ?_
  rintro e w1 ⟨rfl, hk1⟩
  have y1 := y.kp hk1 (fun h => h)
  have x0 := y1.cell 0
  have x1 := y1.cell 1
  have x2 := y1.cell 2
  have x3 := y1.cell 3
  have xl := y1.lt
  simp at x0 x1 x2 x3
  have k01 := ky.trans hk1
  clear y y1 ky hk1
  go_wp2_with fail
  go_quiet (fail)
  have kq : K0 w1 (w1.drewN nq) := (Kp.refl _ _).drewN _
  generalize w1.drewN nq = W at *
  have k02 := Lib.hid (k01.trans kq)
  clear ea eb ec x0 x1 x2 x3 xl k01 kq
  go_wp2_with fail
  refine (R1.out _).mono ?_
  rintro e w2 ⟨rfl, hb2⟩
  go_wp2_with fail
  refine (R2.out _).mono ?_
  rintro e w3 ⟨rfl, hb3⟩
  go_wp2_with fail
  rw [HS3.out]
  refine (R3.out _).mono ?_
  rintro e w4 ⟨rfl, hb4⟩
  have k04 := Lib.hid (((k02.out.trans (Kp.of_below hb2)).trans (Kp.of_below hb3)).trans (Kp.of_below hb4))
  have hdec : (32 < nc) ∨ (¬ 32 < nc ∧ 32 < ns) ∨ (¬ 32 < nc ∧ ¬ 32 < ns ∧ 0 < ns ∧ 8 < it) ∨ (¬ 32 < nc ∧ ¬ 32 < ns ∧ 0 < ns ∧ ¬ 8 < it) ∨ (¬ 32 < nc ∧ ¬ 32 < ns ∧ ¬ 0 < ns) := by omega
  clear hb2 hb3 hb4 k02
  cases wr with
  | true =>
    have e4 : S1 ++ S4 ++ (⟨#[119, 114, 111, 110, 103]⟩ : ByteArray) = T := HT.out
    go_wp2_with fail
    refine (PT.out _).mono ?_
    rintro e w5 (⟨p, er, hE, rfl, hk5⟩ | ⟨d, vc, vs, pc, ps, hE, rfl, _⟩)
    · rcases hdec with h1 | ⟨h1, h2⟩ | ⟨h1, h2, h3, h4⟩ | ⟨h1, h2, h3, h4⟩ | ⟨h1, h2, h3⟩
      case inl | inr.inl | inr.inr.inl =>
        obtain rfl : er = 4 := by obtain ⟨q, hq⟩ := HB.out.1 (by omega); rw [hE] at hq; cases hq; rfl
        clear hE
        go_wp2_with fail
        go_ret
        exact ⟨rfl, (k04.out.trans (hk5.alloc _)).below⟩
      all_goals
        obtain rfl : er = 60 := by obtain ⟨q, hq⟩ := (HB.out.2 (by omega)).1 (by simp); rw [hE] at hq; cases hq; rfl
        clear hE
        go_wp2_with fail
        go_ret
        exact ⟨rfl, (k04.out.trans (hk5.alloc _)).below⟩
    · exfalso
      by_cases hbig : 32 < nc ∨ 32 < ns ∨ 0 < ns ∧ 8 < it
      · obtain ⟨q, hq⟩ := HB.out.1 hbig; rw [hE] at hq; cases hq
      · obtain ⟨q, hq⟩ := (HB.out.2 hbig).1 (by simp); rw [hE] at hq; cases hq
  | false =>
    have e4 : S1 ++ S4 = T := by
      have := HT.out
      rw [if_neg (by decide)] at this
      rw [← this]
      exact ba_ext (by rw [append_list, append_list, append_list]; simp)
    go_wp2_with fail
    refine (PT.out _).mono ?_
    rintro e w5 (⟨p, er, hE, rfl, hk5⟩ | ⟨d, vc, vs, pc, ps, hE, rfl, hpd, hpc, hps, hk5⟩)
    · rcases hdec with h1 | ⟨h1, h2⟩ | ⟨h1, h2, h3, h4⟩ | ⟨h1, h2, h3, h4⟩ | ⟨h1, h2, h3⟩
      case inl | inr.inl | inr.inr.inl =>
        obtain rfl : er = 4 := by obtain ⟨q, hq⟩ := HB.out.1 (by omega); rw [hE] at hq; cases hq; rfl
        clear hE
        go_wp2_with fail
        go_ret
        exact ⟨rfl, (k04.out.trans (hk5.alloc _)).below⟩
      all_goals
        exfalso
        obtain ⟨d, hq, _⟩ := (HB.out.2 (by omega)).2 (by simp); rw [hE] at hq; cases hq
    · rcases hdec with h1 | ⟨h1, h2⟩ | ⟨h1, h2, h3, h4⟩ | ⟨h1, h2, h3, h4⟩ | ⟨h1, h2, h3⟩
      case inl | inr.inl | inr.inr.inl =>
        exfalso
        obtain ⟨q, hq⟩ := HB.out.1 (by omega); rw [hE] at hq; cases hq
      all_goals
        obtain ⟨A, cA, rfl, _, _⟩ := own_form hpd.oc
        obtain ⟨A2, c2, rfl, _, _⟩ := own_form hpd.os
        obtain ⟨d', hq, n1, n2⟩ := (HB.out.2 (by omega)).2 (by simp)
        rw [hE] at hq
        cases hq
        have m1 : pc.length = nc := by rw [← n1, ← hpc]; simp
        have m2 : ps.length = ns := by rw [← n2, ← hps]; simp
        rw [m1, m2]
        clear hE n1 n2 m1 m2 hpd hpc hps
        go_wp2_with fail
        go_ret
        exact ⟨rfl, (k04.out.trans (hk5.alloc _)).below⟩
end Go.Proofs.YtobofhiakgohfaaDoor
