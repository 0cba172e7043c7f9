/- SchemeNames. -/
import Derived.Test.YtobofhiakgohfaaGreatDoorSF
set_option linter.unusedVariables false
set_option linter.unusedSimpArgs false
namespace Go.Proofs.YtobofhiakgohfaaGreatDoor
open Go.RowKit

def tx1 : ByteArray := ⟨#[99, 108, 97, 115, 115, 32, 116, 32, 52, 49, 10, 99, 108, 97, 115, 115, 32, 116, 32, 52, 50]⟩
def tx2 : ByteArray := ⟨#[99, 108, 97, 115, 115, 32, 116, 32, 117, 10, 99, 108, 97, 115, 115, 32, 117, 32, 52, 50]⟩
def tx3 : ByteArray := ⟨#[115, 104, 97, 112, 101, 32, 116, 32, 97, 116, 32, 48]⟩
def tx4 : ByteArray := ⟨#[115, 104, 97, 112, 101, 32, 52, 49, 32, 97, 116, 32, 48, 10, 115, 104, 97, 112, 101, 32, 52, 50, 45, 52, 51, 32, 97, 116, 32, 48]⟩
def tx5 : ByteArray := ⟨#[115, 104, 97, 112, 101, 32, 48, 48, 45, 70, 70, 32, 48, 48, 45, 70, 70, 32, 48, 48, 45, 70, 70, 32, 48, 48, 45, 51, 70, 32, 97, 116, 32, 49]⟩
def tx6 : ByteArray := ⟨#[115, 104, 97, 112, 101]⟩
def tx7 : ByteArray := ⟨#[115, 104, 97, 112, 101, 32, 48, 48, 45, 70, 70, 32, 48, 48, 45, 70, 70, 32, 48, 48, 45, 70, 70, 32, 48, 48, 45, 51, 70, 32, 97, 116, 32, 48]⟩
def sh7 : SchD := [⟨[[(0, 255)], [(0, 255)], [(0, 255)], [(0, 63)]], 0⟩]
theorem read1 : readS tx1 = ([], 17, 80) := by kernel_rfl
theorem read2 : readS tx2 = ([], 8, 81) := by kernel_rfl
theorem read3 : readS tx3 = ([], 6, 81) := by kernel_rfl
theorem read4 : readS tx4 = ([], 29, 83) := by kernel_rfl
theorem read5 : readS tx5 = ([], 33, 82) := by kernel_rfl
theorem read6 : readS tx6 = ([], 5, 60) := by kernel_rfl
theorem read7 : readS tx7 = (sh7, 0, 0) := by kernel_rfl
theorem valid7 : validR sh7 = true := by kernel_rfl
def tabN : List (ByteArray × Int × Int) := [(tx1, 17, 80), (tx2, 8, 81), (tx3, 6, 81), (tx4, 29, 83), (tx5, 33, 82), (tx6, 5, 60)]
def tabV (t : ByteArray × Int × Int) : Value × Value × Value := (.string t.1, .int .i64 t.2.1, .int .i64 t.2.2)
theorem tab_ok : ∀ t ∈ tabN, readS t.1 = ([], t.2.1, t.2.2) ∧ t.1.size ≤ 1048576 := by
  intro t ht
  simp only [tabN, List.mem_cons, List.not_mem_nil, or_false] at ht
  rcases ht with rfl | rfl | rfl | rfl | rfl | rfl
  · exact ⟨read1, by decide⟩
  · exact ⟨read2, by decide⟩
  · exact ⟨read3, by decide⟩
  · exact ⟨read4, by decide⟩
  · exact ⟨read5, by decide⟩
  · exact ⟨read6, by decide⟩

set_option maxRecDepth 100000 in
set_option maxHeartbeats 8000000 in
theorem names_any (w : World) (hP : PowV w) : Calls Tryz.prog 6 #[] w fun e w' => e = .returned (.bool true) ∧ K0 w w' := by
  have FX := Lib.hid (fixed_any w hP)
  have HP := Lib.hid hP
  have hlen : tabN.length = 6 := rfl
  have RW := Lib.hid (fun W => reads_new W 54 #[.string tx1, .int .i64 17, .int .i64 80, .string tx2, .int .i64 8, .int .i64 81, .string tx3, .int .i64 6, .int .i64 81, .string tx4, .int .i64 29, .int .i64 83, .string tx5, .int .i64 33, .int .i64 82, .string tx6, .int .i64 5, .int .i64 60] 6 3 rfl)
  have R7 := Lib.hid (fun W h => read_any W tx7 (by decide) h)
  rw [read7] at R7
  unfold tx1 tx2 tx3 tx4 tx5 tx6 at RW
  unfold tx7 at R7
  go_enter Tryz.func6, Tryz.ntmps6
  go_wp2_with fail
  refine FX.out.mono ?_
  rintro e w1 ⟨rfl, hk1⟩
  have k2 : K0 w1 _ := (Kp.refl _ w1).alloc (.cells #[.string tx1, .int .i64 17, .int .i64 80, .string tx2, .int .i64 8, .int .i64 81, .string tx3, .int .i64 6, .int .i64 81, .string tx4, .int .i64 29, .int .i64 83, .string tx5, .int .i64 33, .int .i64 82, .string tx6, .int .i64 5, .int .i64 60] 54)
  unfold tx1 tx2 tx3 tx4 tx5 tx6 at k2
  go_wp2
  have RT := RW.out w1
  clear RW
  generalize w1.alloc _ = w2 at RT k2 ⊢
  have kw := hk1.trans k2
  have RT2 : Reads w2 (w1.heap.size + 1) 3 (some ⟨w1.heap.size, 0, none⟩) tabN.length (tris tabV tabN) := RT
  have hB : w1.heap.size + 1 ≤ w2.heap.size := (RT2.2 (by omega)).elim fun ad h => by
    obtain ⟨e, hb, hc⟩ := h
    cases e
    exact World.block_lt_of_cell? w2 _ (hc 0 (.string tx1) rfl)
  clear RT
  have HT := Lib.hid RT2
  clear RT2
  have hp0 := HP.out
  obtain ⟨b0, hb0⟩ : ∃ b0, b0 = w1.heap.size := ⟨_, rfl⟩
  rw [← hb0] at HT hB ⊢
  clear hb0 hk1 k2 FX HP
  generalize (⟨b0, 0, none⟩ : Addr) = A0 at HT ⊢
  go_loopw [29] (fun i wr => ∃ q : Nat, q ≤ 6 ∧ i = .int .i64 (q : Int) ∧ K0 w2 wr) (fun i wr => 6 - (intOf i).toNat)
  case atStart => exact ⟨0, by omega, rfl, Kp.refl _ _⟩
  case round =>
    obtain ⟨q, hq, rfl, hk⟩ := hrel
    by_cases hlt : q < 6
    · have hlt2 : q < tabN.length := by omega
      obtain ⟨ad, had, hbk, r0, r1, r2⟩ := (HT.out.k0 hB hk).tri hlt2
      cases had
      obtain ⟨hrd, hsz⟩ := tab_ok _ (List.getElem_mem hlt2)
      generalize tabN[q] = t at r0 r1 r2 hrd hsz
      obtain ⟨s, pp, er⟩ := t
      simp only [tabV] at r0 r1 r2 hrd hsz
      have ybx := Blk.new wr 54 #[.string s, .int .i64 pp, .int .i64 er]
      have kb : K0 wr (wr.alloc (.cells #[.string s, .int .i64 pp, .int .i64 er] 54)) := (Kp.refl _ _).alloc _
      have RD := Lib.hid (read_any (wr.alloc (.cells #[.string s, .int .i64 pp, .int .i64 er] 54)) s hsz (hp0.k0 (kw.trans (hk.trans kb))))
      rw [hrd] at RD
      clear hrd
      have HPO := Lib.hid hp0
      clear hp0
      go_wp2_with fail
      refine RD.out.mono ?_
      rintro e w3 ⟨vo, out, h1, rfl, hO, hl, hk3⟩
      have ho0 : out = [] := by cases out with
        | nil => rfl
        | cons a t => cases h1
      subst ho0
      obtain ⟨Ao, co, rfl, ho1, ho2⟩ := own_form hO.row
      have yb3 := ybx.kp hk3 (fun h => h)
      have c0 := yb3.cell 0
      have c1 := yb3.cell 1
      have c2 := yb3.cell 2
      have l3 := yb3.lt
      simp at c0 c1 c2
      clear h1 hO ho1 ho2 hl
      simp only [List.length_nil]
      go_wp2
      exact ⟨⟨q + 1, by omega, by go_num, (hk.trans (kb.trans hk3)).alloc _⟩, by simp [intOf]; omega⟩
    · obtain rfl : q = 6 := by omega
      have RD := Lib.hid (R7.out wr (hp0.k0 (kw.trans hk)))
      have HPO := Lib.hid hp0
      clear hp0 R7
      go_wp2_with fail
      refine RD.out.mono ?_
      rintro e w3 ⟨vo, out, h1, rfl, hO, hl, hk3⟩
      have hS := hO.shpsV (by omega)
      obtain ⟨Ao, co, rfl, ho1, ho2⟩ := own_form hO.row
      have ka : K0 w3 (w3.alloc (.cells #[.slice Ao out.length co] 25)) := (Kp.refl _ _).alloc _
      have VA := Lib.hid (valid20_any _ _ out (hS.k0 (Nat.le_refl _) ka))
      rw [h1, valid7] at VA
      clear hS hO h1 ho1 ho2
      go_wp2_with fail
      refine VA.out.mono ?_
      rintro e w4 ⟨rfl, hk4⟩
      go_wp2
      go_ret
      exact ⟨rfl, kw.trans (hk.trans (hk3.trans (ka.trans hk4)))⟩
theorem schemeNames_walk (w : World) (hP : PowV w) : Calls Tryz.prog 6 #[] w fun e w' => e = .returned (.bool true) ∧ Below w.heap.size w w' := (names_any w hP).mono fun e w' ⟨h1, h2⟩ => ⟨h1, h2.below⟩
end Go.Proofs.YtobofhiakgohfaaGreatDoor
