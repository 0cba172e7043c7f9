/- PrinterPrints: the law's example, and the walk. -/
import Derived.Test.YtobofhiakgohfaaDoorTG
set_option linter.unusedVariables false
set_option linter.unusedSimpArgs false
namespace Go.Proofs.YtobofhiakgohfaaDoor
open Go.RowKit

def exD : DescD := ⟨[⟨⟨#[116]⟩, [⟨⟨#[]⟩, 128, 191, 0⟩, ⟨⟨#[]⟩, 9, 9, 0⟩], 0⟩], [⟨[⟨⟨#[]⟩, 194, 223, 0⟩, ⟨⟨#[116]⟩, 0, 0, 0⟩], 128, 0⟩]⟩
def exDT : List UInt8 := [99, 108, 97, 115, 115, 32, 116, 32, 56, 48, 45, 66, 70, 32, 48, 57, 10, 115, 104, 97, 112, 101, 32, 67, 50, 45, 68, 70, 32, 116, 32, 97, 116, 32, 49, 50, 56, 10]
theorem dec128 : Lib.itoa 128 = [49, 50, 56] := by
  show Lib.itoa ((128 : Nat) : Int) = _
  rw [itoa_pos, decUp_last, decUp, if_neg (by decide), decUp_last, decUp, if_neg (by decide), Lib.decDigits_one (by decide)]
  decide
theorem exD_print : printR exD = (exDT, 0) := by
  have h1 : fitD exD = true := by decide +kernel
  unfold printR
  rw [if_pos h1]
  have h2 : txtID exD = exDT := by
    unfold txtID exD
    simp only [List.flatMap_cons, List.flatMap_nil, txtIC, txtIS, dec128]
    decide +kernel
  rw [h2]

/-- The example, as it lies in memory behind its making. -/
theorem exD_mem (w : World) :
    DescV ((((w.alloc (.cells #[.string ⟨#[]⟩, .int .i64 128, .int .i64 191, .int .i64 0, .string ⟨#[]⟩, .int .i64 9, .int .i64 9, .int .i64 0] 47)).alloc (.cells #[.string ⟨#[116]⟩, .slice (some ⟨w.heap.size, 0, none⟩) 2 2, .int .i64 0] 71)).alloc (.cells #[.string ⟨#[]⟩, .int .i64 194, .int .i64 223, .int .i64 0, .string ⟨#[116]⟩, .int .i64 0, .int .i64 0, .int .i64 0] 47)).alloc (.cells #[.slice (some ⟨w.heap.size + 1 + 1, 0, none⟩) 2 2, .int .i64 128, .int .i64 0] 73))
      (w.heap.size + 1 + 1 + 1 + 1) (.agg #[.slice (some ⟨w.heap.size + 1, 0, none⟩) 1 1, .slice (some ⟨w.heap.size + 1 + 1 + 1, 0, none⟩) 1 1]) exD := by
  have r1 := reads_new w 47 #[.string ⟨#[]⟩, .int .i64 128, .int .i64 191, .int .i64 0, .string ⟨#[]⟩, .int .i64 9, .int .i64 9, .int .i64 0] 2 4 rfl
  generalize hw1 : w.alloc (.cells #[.string ⟨#[]⟩, .int .i64 128, .int .i64 191, .int .i64 0, .string ⟨#[]⟩, .int .i64 9, .int .i64 9, .int .i64 0] 47) = w1 at *
  have s1 : w1.heap.size = w.heap.size + 1 := by rw [← hw1]; simp
  have r2 := reads_new w1 71 #[.string ⟨#[116]⟩, .slice (some ⟨w.heap.size, 0, none⟩) 2 2, .int .i64 0] 1 3 rfl
  have r1' := r1.alloc (by omega) (.cells #[.string ⟨#[116]⟩, .slice (some ⟨w.heap.size, 0, none⟩) 2 2, .int .i64 0] 71)
  generalize hw2 : w1.alloc (.cells #[.string ⟨#[116]⟩, .slice (some ⟨w.heap.size, 0, none⟩) 2 2, .int .i64 0] 71) = w2 at *
  have s2 : w2.heap.size = w.heap.size + 1 + 1 := by rw [← hw2]; simp [s1]
  have r3 := reads_new w2 47 #[.string ⟨#[]⟩, .int .i64 194, .int .i64 223, .int .i64 0, .string ⟨#[116]⟩, .int .i64 0, .int .i64 0, .int .i64 0] 2 4 rfl
  have r1'' := r1'.alloc (by omega) (.cells #[.string ⟨#[]⟩, .int .i64 194, .int .i64 223, .int .i64 0, .string ⟨#[116]⟩, .int .i64 0, .int .i64 0, .int .i64 0] 47)
  have r2' := r2.alloc (by omega) (.cells #[.string ⟨#[]⟩, .int .i64 194, .int .i64 223, .int .i64 0, .string ⟨#[116]⟩, .int .i64 0, .int .i64 0, .int .i64 0] 47)
  generalize hw3 : w2.alloc (.cells #[.string ⟨#[]⟩, .int .i64 194, .int .i64 223, .int .i64 0, .string ⟨#[116]⟩, .int .i64 0, .int .i64 0, .int .i64 0] 47) = w3 at *
  have s3 : w3.heap.size = w.heap.size + 1 + 1 + 1 := by rw [← hw3]; simp [s2]
  have r4 := reads_new w3 73 #[.slice (some ⟨w.heap.size + 1 + 1, 0, none⟩) 2 2, .int .i64 128, .int .i64 0] 1 3 rfl
  have q1 := (r1''.alloc (by omega) (.cells #[.slice (some ⟨w.heap.size + 1 + 1, 0, none⟩) 2 2, .int .i64 128, .int .i64 0] 73)).more (B' := w.heap.size + 1 + 1 + 1 + 1) (by omega)
  have q2 := (r2'.alloc (by omega) (.cells #[.slice (some ⟨w.heap.size + 1 + 1, 0, none⟩) 2 2, .int .i64 128, .int .i64 0] 73)).more (B' := w.heap.size + 1 + 1 + 1 + 1) (by omega)
  have q3 := (r3.alloc (by omega) (.cells #[.slice (some ⟨w.heap.size + 1 + 1, 0, none⟩) 2 2, .int .i64 128, .int .i64 0] 73)).more (B' := w.heap.size + 1 + 1 + 1 + 1) (by omega)
  have q4 := r4.more (B' := w.heap.size + 1 + 1 + 1 + 1) (by omega)
  rw [s1] at q2
  rw [s2] at q3
  rw [s3] at q4
  refine ⟨_, _, rfl, ⟨[(⟨⟨#[116]⟩, [⟨⟨#[]⟩, 128, 191, 0⟩, ⟨⟨#[]⟩, 9, 9, 0⟩], 0⟩, .slice (some ⟨w.heap.size, 0, none⟩) 2 2)], _, _, rfl, rfl, Nat.le_refl 1, by omega, by show 1 ≤ 1048576; omega, q2, ?_⟩, ⟨[(⟨[⟨⟨#[]⟩, 194, 223, 0⟩, ⟨⟨#[116]⟩, 0, 0, 0⟩], 128, 0⟩, .slice (some ⟨w.heap.size + 1 + 1, 0, none⟩) 2 2)], _, _, rfl, rfl, Nat.le_refl 1, by omega, by show 1 ≤ 1048576; omega, q4, ?_⟩⟩
  · intro x hx
    simp only [List.mem_singleton] at hx
    subst hx
    refine ⟨⟨_, _, rfl, Nat.le_refl 2, by omega, by show 2 ≤ 1048576; omega, q1, ?_⟩, by show 1 ≤ 1048576; omega⟩
    intro x hx
    simp only [List.mem_cons, List.not_mem_nil, or_false] at hx
    rcases hx with rfl | rfl
    · show 0 ≤ 1048576; omega
    · show 0 ≤ 1048576; omega
  · intro x hx
    simp only [List.mem_singleton] at hx
    subst hx
    refine ⟨⟨_, _, rfl, Nat.le_refl 2, by omega, by show 2 ≤ 1048576; omega, q3, ?_⟩, by show (-9223372036854775808 : Int) ≤ 128; omega, by show (128 : Int) ≤ 9223372036854775807; omega⟩
    intro x hx
    simp only [List.mem_cons, List.not_mem_nil, or_false] at hx
    rcases hx with rfl | rfl
    · show 0 ≤ 1048576; omega
    · show 1 ≤ 1048576; omega

set_option maxRecDepth 100000 in
set_option maxHeartbeats 16000000 in
theorem pfixed_any (w : World) (hP : PowV w) : Calls Tryd.prog 17 #[] w fun e w' => e = .returned (.bool true) ∧ K0 w w' := by
  have HE := Lib.hid (exD_mem w)
  go_enter Tryd.func17, Tryd.ntmps17
  go_wp2_with fail
  refine (print_any _ _ _ exD HE.out (by simp) (hP.k0 ((((Kp.refl _ _).alloc _).alloc _).alloc _ |>.alloc _))).mono ?_
  rw [exD_print]
  rintro e w1 ⟨rfl, hk1⟩
  unfold exDT
  go_wp2
  go_ret
  exact ⟨rfl, ((((Kp.refl _ _).alloc _).alloc _).alloc _ |>.alloc _).trans hk1⟩

set_option maxRecDepth 100000 in
set_option maxHeartbeats 16000000 in
theorem printerPrints_walk (w : World) (hP : PowV w) (v : Value) (d : DescD) (hv : DescV w w.heap.size v d) : Calls Tryd.prog 3 #[v] w fun e w' => e = .returned (.bool true) ∧ Below w.heap.size w w' := by
  obtain ⟨vc, vs, rfl, hvc, hvs⟩ := id hv
  obtain ⟨A, n, c, rfl⟩ : ∃ A n c, vc = .slice A n c := by obtain ⟨_, _, _, _, e, _⟩ := hvc; exact ⟨_, _, _, e⟩
  obtain ⟨A2, n2, c2, rfl⟩ : ∃ A n c, vs = .slice A n c := by obtain ⟨_, _, _, _, e, _⟩ := hvs; exact ⟨_, _, _, e⟩
  clear hvc hvs
  obtain ⟨X, hX⟩ : ∃ X, X = (printR d).1 := ⟨_, rfl⟩
  obtain ⟨N, hN⟩ : ∃ N, N = (printR d).2 := ⟨_, rfl⟩
  have yb := Blk.new w 25 #[.slice A n c, .slice A2 n2 c2]
  have HX := Lib.hid (fun W B v hv hB hP => print_any W B v d hv hB hP)
  have HY := Lib.hid (fun W B v hv hB => rprint_any W B v d hv hB)
  rw [← hX, ← hN] at HX HY
  clear hX hN
  have hk0 : K0 w (w.alloc (.cells #[.slice A n c, .slice A2 n2 c2] 25)) := (Kp.refl _ _).alloc _
  go_enter Tryd.func3, Tryd.ntmps3
  go_wp2_with fail
  refine (pfixed_any _ (hP.k0 hk0)).mono ?_
  rintro e w1 ⟨rfl, hk1⟩
  have yb1 := yb.kp hk1 (fun h => h)
  have x0 := yb1.cell 0
  have x1 := yb1.cell 1
  simp at x0 x1
  have hk01 := hk0.trans hk1
  go_wp2_with fail
  refine (copy_any w1 w.heap.size _ d (hv.k0 (Nat.le_refl _) hk01) hk01.size).mono ?_
  rintro e w2 ⟨v', rfl, hod, hk2⟩
  obtain ⟨vc', vs', rfl, hvc', hvs'⟩ := id hod.it
  obtain ⟨A3, n3, c3, rfl⟩ : ∃ A n c, vc' = .slice A n c := by obtain ⟨_, _, _, _, e, _⟩ := hvc'; exact ⟨_, _, _, e⟩
  obtain ⟨A4, n4, c4, rfl⟩ : ∃ A n c, vs' = .slice A n c := by obtain ⟨_, _, _, _, e, _⟩ := hvs'; exact ⟨_, _, _, e⟩
  clear hvc' hvs'
  have hm := hod.it
  have hk02 := hk01.trans hk2
  have zb := Blk.new w2 25 #[.slice A3 n3 c3, .slice A4 n4 c4]
  have hkn : K0 w2 (w2.alloc (.cells #[.slice A3 n3 c3, .slice A4 n4 c4] 25)) := (Kp.refl _ _).alloc _
  have yb2 := yb1.kp hk2 (fun h => h)
  go_wp2_with fail
  refine (HX.out _ w2.heap.size _ (hm.k0 (Nat.le_refl _) hkn) hkn.size (hP.k0 (hk02.trans hkn))).mono ?_
  rintro e w3 ⟨rfl, hk3⟩
  have hk23 := hkn.trans hk3
  have hk03 := hk02.trans hk23
  have yb3 := yb2.kp hk23 (fun h => h)
  have y0 := yb3.cell 0
  have y1 := yb3.cell 1
  simp at y0 y1
  go_wp2_with fail
  refine (HY.out _ w.heap.size _ (hv.k0 (Nat.le_refl _) hk03) hk03.size).mono ?_
  rintro e w4 ⟨rfl, hk4⟩
  have hk24 := hk23.trans hk4
  have hk04 := hk03.trans hk4
  have yb4 := yb3.kp hk4 (fun h => h)
  have zb4 := (zb.kp hk3 (fun h => h)).kp hk4 (fun h => h)
  have u0 := yb4.cell 0
  have u1 := yb4.cell 1
  have u2 := zb4.cell 0
  have u3 := zb4.cell 1
  simp at u0 u1 u2 u3
  go_wp2_with fail
  have hd4 := (hm.k0 (Nat.le_refl _) hk24).keep (B' := w4.heap.size) hk24.size (fun _ _ => rfl)
  have hd5 := (hv.k0 (Nat.le_refl _) hk04).keep (B' := w4.heap.size) hk04.size (fun _ _ => rfl)
  refine (same_any w4 w4.heap.size _ _ d d true hd4 hd5 (Nat.le_refl _)).mono ?_
  rw [sameD_refl]
  rintro e w5 ⟨rfl, hk5⟩
  go_wp2
  go_ret
  exact ⟨rfl, (hk04.trans hk5).below⟩
end Go.Proofs.YtobofhiakgohfaaDoor
