/- The law's example (chapter 06); the walk of DescrNames. -/
import Derived.Test.YtobofhiakgohfaaDoorT41
set_option linter.unusedVariables false
set_option linter.unusedSimpArgs false
namespace Go.Proofs.YtobofhiakgohfaaDoor
open Go.RowKit

def ex6 : ByteArray := ⟨#[99, 108, 97, 115, 115, 32, 116, 32, 56, 48, 45, 66, 70, 10, 115, 104, 97, 112, 101, 32, 67, 50, 45, 68, 70, 32, 116, 32, 97, 116, 32, 49, 50, 56, 32, 35, 32, 116, 119, 111, 10]⟩
def ex6D : DescD := ⟨[⟨⟨#[116]⟩, [⟨⟨#[]⟩, 128, 191, 8⟩], 6⟩], [⟨[⟨⟨#[]⟩, 194, 223, 20⟩, ⟨⟨#[116]⟩, 0, 0, 26⟩], 128, 31⟩]⟩
theorem ex6_parse : parseR ex6 = .ok ex6D := by
  rw [parseR_eq]
  kernel_rfl

/-- The example, as it lies in memory behind its making. -/
theorem ex6_mem (w : World) :
    DescV ((((w.alloc (.cells #[.string ⟨#[]⟩, .int .i64 128, .int .i64 191, .int .i64 8] 47)).alloc (.cells #[.string ⟨#[116]⟩, .slice (some ⟨w.heap.size, 0, none⟩) 1 1, .int .i64 6] 71)).alloc (.cells #[.string ⟨#[]⟩, .int .i64 194, .int .i64 223, .int .i64 20, .string ⟨#[116]⟩, .int .i64 0, .int .i64 0, .int .i64 26] 47)).alloc (.cells #[.slice (some ⟨w.heap.size + 1 + 1, 0, none⟩) 2 2, .int .i64 128, .int .i64 31] 73))
      (w.heap.size + 1 + 1 + 1 + 1) (.agg #[.slice (some ⟨w.heap.size + 1, 0, none⟩) 1 1, .slice (some ⟨w.heap.size + 1 + 1 + 1, 0, none⟩) 1 1]) ex6D := by
  have r1 := reads_new w 47 #[.string ⟨#[]⟩, .int .i64 128, .int .i64 191, .int .i64 8] 1 4 rfl
  generalize hw1 : w.alloc (.cells #[.string ⟨#[]⟩, .int .i64 128, .int .i64 191, .int .i64 8] 47) = w1 at *
  have s1 : w1.heap.size = w.heap.size + 1 := by rw [← hw1]; simp
  have r2 := reads_new w1 71 #[.string ⟨#[116]⟩, .slice (some ⟨w.heap.size, 0, none⟩) 1 1, .int .i64 6] 1 3 rfl
  have r1' := r1.alloc (by omega) (.cells #[.string ⟨#[116]⟩, .slice (some ⟨w.heap.size, 0, none⟩) 1 1, .int .i64 6] 71)
  generalize hw2 : w1.alloc (.cells #[.string ⟨#[116]⟩, .slice (some ⟨w.heap.size, 0, none⟩) 1 1, .int .i64 6] 71) = w2 at *
  have s2 : w2.heap.size = w.heap.size + 1 + 1 := by rw [← hw2]; simp [s1]
  have r3 := reads_new w2 47 #[.string ⟨#[]⟩, .int .i64 194, .int .i64 223, .int .i64 20, .string ⟨#[116]⟩, .int .i64 0, .int .i64 0, .int .i64 26] 2 4 rfl
  have r1'' := r1'.alloc (by omega) (.cells #[.string ⟨#[]⟩, .int .i64 194, .int .i64 223, .int .i64 20, .string ⟨#[116]⟩, .int .i64 0, .int .i64 0, .int .i64 26] 47)
  have r2' := r2.alloc (by omega) (.cells #[.string ⟨#[]⟩, .int .i64 194, .int .i64 223, .int .i64 20, .string ⟨#[116]⟩, .int .i64 0, .int .i64 0, .int .i64 26] 47)
  generalize hw3 : w2.alloc (.cells #[.string ⟨#[]⟩, .int .i64 194, .int .i64 223, .int .i64 20, .string ⟨#[116]⟩, .int .i64 0, .int .i64 0, .int .i64 26] 47) = w3 at *
  have s3 : w3.heap.size = w.heap.size + 1 + 1 + 1 := by rw [← hw3]; simp [s2]
  have r4 := reads_new w3 73 #[.slice (some ⟨w.heap.size + 1 + 1, 0, none⟩) 2 2, .int .i64 128, .int .i64 31] 1 3 rfl
  have q1 := (r1''.alloc (by omega) (.cells #[.slice (some ⟨w.heap.size + 1 + 1, 0, none⟩) 2 2, .int .i64 128, .int .i64 31] 73)).more (B' := w.heap.size + 1 + 1 + 1 + 1) (by omega)
  have q2 := (r2'.alloc (by omega) (.cells #[.slice (some ⟨w.heap.size + 1 + 1, 0, none⟩) 2 2, .int .i64 128, .int .i64 31] 73)).more (B' := w.heap.size + 1 + 1 + 1 + 1) (by omega)
  have q3 := (r3.alloc (by omega) (.cells #[.slice (some ⟨w.heap.size + 1 + 1, 0, none⟩) 2 2, .int .i64 128, .int .i64 31] 73)).more (B' := w.heap.size + 1 + 1 + 1 + 1) (by omega)
  have q4 := r4.more (B' := w.heap.size + 1 + 1 + 1 + 1) (by omega)
  rw [s1] at q2
  rw [s2] at q3
  rw [s3] at q4
  refine ⟨_, _, rfl, ⟨[(⟨⟨#[116]⟩, [⟨⟨#[]⟩, 128, 191, 8⟩], 6⟩, .slice (some ⟨w.heap.size, 0, none⟩) 1 1)], _, _, rfl, rfl, Nat.le_refl 1, by omega, by show 1 ≤ 1048576; omega, q2, ?_⟩, ⟨[(⟨[⟨⟨#[]⟩, 194, 223, 20⟩, ⟨⟨#[116]⟩, 0, 0, 26⟩], 128, 31⟩, .slice (some ⟨w.heap.size + 1 + 1, 0, none⟩) 2 2)], _, _, rfl, rfl, Nat.le_refl 1, by omega, by show 1 ≤ 1048576; omega, q4, ?_⟩⟩
  · intro x hx
    simp only [List.mem_singleton] at hx
    subst hx
    refine ⟨⟨_, _, rfl, Nat.le_refl 1, by omega, by show 1 ≤ 1048576; omega, q1, ?_⟩, by show 1 ≤ 1048576; omega⟩
    intro x hx
    simp only [List.mem_singleton] at hx
    subst hx
    show 0 ≤ 1048576; omega
  · intro x hx
    simp only [List.mem_singleton] at hx
    subst hx
    refine ⟨⟨_, _, rfl, Nat.le_refl 2, by omega, by show 2 ≤ 1048576; omega, q3, ?_⟩, by show (-9223372036854775808 : Int) ≤ 128; omega, by show (128 : Int) ≤ 9223372036854775807; omega⟩
    intro x hx
    simp only [List.mem_cons, List.not_mem_nil, or_false] at hx
    rcases hx with rfl | rfl
    · show 0 ≤ 1048576; omega
    · show 1 ≤ 1048576; omega

set_option maxRecDepth 100000 in
set_option maxHeartbeats 1600000 in
theorem fixed6_any (w : World) : Calls Tryd.prog 40 #[] w fun e w' => e = .returned (.bool true) ∧ K0 w w' := by
  have HE := Lib.hid ex6_mem
  go_enter Tryd.func40, Tryd.ntmps40
  go_wp2_with fail
  refine (parse_desc ex6 w (by decide)).mono ?_
  rintro e w1 (⟨p, er, hE2, hz0, hz1, hz2⟩ | ⟨d, A, n, c, A2, n2, c2, hE2, hq0, rfl, hm, hq1, hq2, hk1⟩)
  · rw [ex6_parse] at hE2; cases hE2
  obtain rfl : ex6D = d := by rw [ex6_parse] at hE2; cases hE2; rfl
  clear hE2 hq0 hq1 hq2
  have kA : K0 w1 (((((w1.alloc (.cells #[.slice A n c, .slice A2 n2 c2] 25)).alloc (.cells #[.string ⟨#[]⟩, .int .i64 128, .int .i64 191, .int .i64 8] 47)).alloc (.cells #[.string ⟨#[116]⟩, .slice (some ⟨w1.heap.size + 1, 0, none⟩) 1 1, .int .i64 6] 71)).alloc (.cells #[.string ⟨#[]⟩, .int .i64 194, .int .i64 223, .int .i64 20, .string ⟨#[116]⟩, .int .i64 0, .int .i64 0, .int .i64 26] 47)).alloc (.cells #[.slice (some ⟨w1.heap.size + 1 + 1 + 1, 0, none⟩) 2 2, .int .i64 128, .int .i64 31] 73)) := ((((((Kp.refl _ _).alloc _).alloc _).alloc _).alloc _).alloc _)
  have HM := Lib.hid ((hm.k0 (Nat.le_refl _) kA).keep (B' := w1.heap.size + 1 + 1 + 1 + 1 + 1) (by omega) (fun _ _ => rfl))
  have HX := Lib.hid (HE.out (w1.alloc (.cells #[.slice A n c, .slice A2 n2 c2] 25)))
  clear hm
  go_wp2_with fail
  refine (same_any _ (w1.heap.size + 1 + 1 + 1 + 1 + 1) _ _ ex6D ex6D true (by exact HM.out) (by have := HX.out; simp only [World.size_alloc] at this; exact this) (by simp)).mono ?_
  rw [sameD_refl]
  rintro e w2 ⟨rfl, hk2⟩
  go_wp2
  go_ret
  exact ⟨rfl, (hk1.trans kA).trans hk2⟩

/-! ## The examples of right and wrong descriptions -/
def exN : List (ByteArray × Int × Int) :=
  [(⟨#[]⟩, 0, 0), (⟨#[35, 32, 110, 111, 116, 104, 105, 110, 103, 10, 10]⟩, 0, 0), (⟨#[99, 108, 97, 115, 115]⟩, 5, 60), (⟨#[99, 108, 97, 115, 115, 32, 97]⟩, 7, 60), (⟨#[99, 108, 97, 115, 115, 32, 97, 116, 32, 52, 49]⟩, 6, 60),
   (⟨#[115, 104, 97, 112, 101, 32, 97, 116, 32, 48]⟩, 6, 60), (⟨#[115, 104, 97, 112, 101, 32, 52, 49, 32, 97, 116, 32, 48, 48]⟩, 12, 60), (⟨#[115, 104, 97, 112, 101, 32, 52, 49, 32, 97, 116, 32, 48, 32, 49]⟩, 14, 60), (⟨#[115, 104, 97, 112, 101, 32, 52, 49, 10, 97, 116, 32, 48]⟩, 8, 60),
   (⟨#[115, 104, 97, 112, 101, 32, 97, 32, 97, 32, 97, 32, 97, 32, 97, 32, 97, 32, 97, 32, 97, 32, 97, 32, 97, 116, 32, 48]⟩, 22, 4), (⟨#[115, 104, 97, 112, 101, 32, 97, 32, 97, 32, 97, 32, 97, 32, 97, 32, 97, 32, 97, 32, 97, 32, 65, 32, 97, 116, 32, 48]⟩, 22, 60)]
def okN (x : ByteArray × Int × Int) : Prop := x.1.size ≤ 1048576 ∧ (parseR x.1 = .error (x.2.1, x.2.2) ∨ parseR x.1 = .ok d0 ∧ x.2.1 = 0 ∧ x.2.2 = 0)
theorem exN_ok : ∀ x ∈ exN, okN x := by
  intro x hx
  simp only [exN, List.mem_cons, List.not_mem_nil, or_false] at hx
  rcases hx with rfl | rfl | rfl | rfl | rfl | rfl | rfl | rfl | rfl | rfl | rfl
  · exact ⟨by decide, .inr ⟨by rw [parseR_eq]; kernel_rfl, rfl, rfl⟩⟩
  · exact ⟨by decide, .inr ⟨by rw [parseR_eq]; kernel_rfl, rfl, rfl⟩⟩
  all_goals exact ⟨by decide, .inl (by rw [parseR_eq]; kernel_rfl)⟩
def ntri (x : ByteArray × Int × Int) : Value × Value × Value := (.string x.1, .int .i64 x.2.1, .int .i64 x.2.2)

set_option maxRecDepth 100000 in
set_option maxHeartbeats 1600000 in
theorem descrNames_walk (w : World) : Calls Tryd.prog 10 #[] w fun e w' => e = .returned (.bool true) ∧ Below w.heap.size w w' := by
  go_enter Tryd.func10, Tryd.ntmps10
  go_wp2_with fail
  refine (fixed6_any w).mono ?_
  rintro e w1 ⟨rfl, hk1⟩
  have hr : Reads (w1.alloc (.cells (tris ntri exN).toArray 62)) (w1.heap.size + 1) 3 (some ⟨w1.heap.size, 0, none⟩) exN.length (tris ntri exN) := reads_new w1 62 (tris ntri exN).toArray 11 3 rfl
  have hka : K0 w1 (w1.alloc (.cells (tris ntri exN).toArray 62)) := (Kp.refl _ _).alloc _
  have HRD := Lib.hid hr
  clear hr
  go_wp2
  go_loopw [25] (fun i wr => ∃ q : Nat, q ≤ 11 ∧ i = .int .i64 (q : Int) ∧ K0 w1 wr ∧ Hid (Reads wr (w1.heap.size + 1) 3 (some ⟨w1.heap.size, 0, none⟩) exN.length (tris ntri exN)) ∧ w1.heap.size < wr.heap.size) (fun i wr => 11 - (intOf i).toNat)
  case atStart => exact ⟨0, by omega, rfl, (Kp.refl _ _).alloc _, HRD, by simp⟩
  case round =>
    obtain ⟨q, hq, rfl, hk, hrd, hs⟩ := hrel
    clear HRD hka
    by_cases hlt : q < 11
    · obtain ⟨ad, had, hbl, r0, r1, r2⟩ := hrd.out.tri (j := q) hlt
      cases had
      have ha : (⟨w1.heap.size, 0, none⟩ : Addr).add (q * 3) = ⟨w1.heap.size, q * 3, none⟩ := by unfold Addr.add; split <;> simp_all
      rw [ha] at r0 r1 r2
      clear ha
      obtain ⟨⟨tx, at', er⟩, hxe⟩ : ∃ x, x = exN[q]'hlt := ⟨_, rfl⟩
      have hok := exN_ok _ (List.getElem_mem hlt)
      rw [← hxe] at r0 r1 r2 hok
      simp only [ntri] at r0 r1 r2
      obtain ⟨hz, hpar⟩ := hok
      simp only [] at hz hpar
      have PP := Lib.hid (fun W => parse_desc tx W hz)
      have HPAR := Lib.hid hpar
      clear hxe hpar
      have yb := Blk.new wr 62 #[.string tx, .int .i64 at', .int .i64 er]
      have ka : K0 wr (wr.alloc (.cells #[.string tx, .int .i64 at', .int .i64 er] 62)) := (Kp.refl _ _).alloc _
      go_wp2_with fail
      refine (PP.out _).mono ?_
      rintro e w2 (⟨p', er', hE2, hz0, rfl, hk2⟩ | ⟨d, A, n, c, A2, n2, c2, hE2, hq0, rfl, hm, hq1, hq2, hk2⟩)
      · have h3 : p' = at' ∧ er' = er := by
          rcases HPAR.out with h | ⟨h, _⟩
          · rw [hE2] at h; cases h; exact ⟨rfl, rfl⟩
          · rw [hE2] at h; cases h
        obtain ⟨rfl, rfl⟩ := h3
        have yb2 := yb.kp hk2 (fun h => h)
        have u1 := yb2.cell 1
        have u2 := yb2.cell 2
        have cl := yb2.lt
        simp at u1 u2
        have kk := ka.trans hk2
        have HRD2 := Lib.hid (((hrd.out.k0 (by omega) kk).alloc (by have := kk.size; omega) (.cells #[.slice none 0 0, .slice none 0 0] 25)))
        clear hE2 hz0
        go_wp2
        refine ⟨⟨q + 1, by omega, by go_num, (hk.trans kk).alloc _, HRD2, by have := kk.size; simp; omega⟩, by simp [intOf]; omega⟩
      · have h3 : d = d0 ∧ at' = 0 ∧ er = 0 := by
          rcases HPAR.out with h | ⟨h, h1, h2⟩
          · rw [hE2] at h; cases h
          · rw [hE2] at h; cases h; exact ⟨rfl, h1, h2⟩
        obtain ⟨rfl, rfl, rfl⟩ := h3

        obtain rfl : n = 0 := hq1
        obtain rfl : n2 = 0 := hq2
        have yb2 := yb.kp hk2 (fun h => h)
        have u1 := yb2.cell 1
        have u2 := yb2.cell 2
        have cl := yb2.lt
        simp at u1 u2
        have kk := ka.trans hk2
        have HRD2 := Lib.hid (((hrd.out.k0 (by omega) kk).alloc (by have := kk.size; omega) (.cells #[.slice A 0 c, .slice A2 0 c2] 25)))
        clear hE2 hq0 hm
        go_wp2
        refine ⟨⟨q + 1, by omega, by go_num, (hk.trans kk).alloc _, HRD2, by have := kk.size; simp; omega⟩, by simp [intOf]; omega⟩
    · obtain rfl : q = 11 := by omega
      go_wp2
      go_ret
      exact ⟨rfl, (hk1.trans hk).below⟩
end Go.Proofs.YtobofhiakgohfaaDoor
