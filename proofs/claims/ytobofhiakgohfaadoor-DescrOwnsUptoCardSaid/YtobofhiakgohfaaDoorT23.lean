/- the printer's items: itemFits of the document, item of the program. -/
import Derived.Test.YtobofhiakgohfaaDoorT15
import Derived.Test.YtobofhiakgohfaaDoorTB
import Derived.Test.YtobofhiakgohfaaDoorT20
import Derived.Test.YtobofhiakgohfaaDoorPB
set_option linter.unusedVariables false
set_option linter.unusedSimpArgs false
namespace Go.Proofs.YtobofhiakgohfaaDoor
open Go.RowKit

/-- An item's value. -/
abbrev ival (x : ItemD) : Value := .agg #[.string x.nm, .int .i64 x.lo, .int .i64 x.hi, .int .i64 x.pl]
theorem empty_iff (s : ByteArray) : s.toList.isEmpty = true ↔ s.data.toList = [] := by rw [ByteArray.toList_eq]; simp
theorem ret_bool' {a b : Bool} (h : b = a) : Ending.returned (.bool a) = .returned (.bool b) := by rw [h]

set_option maxRecDepth 100000 in
set_option maxHeartbeats 2000000 in
theorem itemFits_any (x : ItemD) (w : World) (hs : x.nm.size ≤ 140737488355328) : Calls Tryd.prog 104 #[ival x] w fun e w' => e = .returned (.bool (fitB x)) ∧ K0 w w' := by
  obtain ⟨nm, lo, hi, pl⟩ := x
  simp only [] at hs
  have HN := Lib.hid (fun W => rname_any nm W hs)
  unfold ival
  by_cases h0 : nm.data.toList = []
  · have hF : fitB ⟨nm, lo, hi, pl⟩ = decide (0 ≤ lo ∧ lo ≤ hi ∧ hi ≤ 255) := by unfold fitB; rw [if_pos h0]
    rw [hF]
    have e0 : nm.toList.isEmpty = true := (empty_iff nm).2 h0
    clear h0 hF
    by_cases h1 : 0 ≤ lo
    · by_cases h2 : lo ≤ hi
      · go_enter Tryd.func104, Tryd.ntmps104
        go_wp2
        go_ret
        exact ⟨ret_bool' (by simp [h1, h2]), (Kp.refl _ _).alloc _⟩
      · go_enter Tryd.func104, Tryd.ntmps104
        go_wp2
        go_ret
        exact ⟨ret_bool' (by simp [h1]; omega), (Kp.refl _ _).alloc _⟩
    · go_enter Tryd.func104, Tryd.ntmps104
      go_wp2
      go_ret
      exact ⟨ret_bool' (by simp; omega), (Kp.refl _ _).alloc _⟩
  · have hF : fitB ⟨nm, lo, hi, pl⟩ = (nameB nm.data.toList && decide (lo = 0 ∧ hi = 0)) := by unfold fitB; rw [if_neg h0]
    rw [hF]
    have e0 : nm.toList.isEmpty = false := by
      cases h : nm.toList.isEmpty
      · rfl
      · exact absurd ((empty_iff nm).1 h) h0
    clear h0 hF
    cases hn : nameB nm.data.toList with
    | false =>
      rw [hn] at HN
      clear hn
      go_enter Tryd.func104, Tryd.ntmps104
      go_wp2_with (go_at_call 33; refine (HN.out _).mono ?_; rintro e w1 ⟨rfl, hk⟩)
      go_ret
      exact ⟨rfl, ((Kp.refl _ _).alloc _).trans hk⟩
    | true =>
      rw [hn] at HN
      clear hn
      have yb := fun (w1 : World) (hk : K0 (w.alloc (.cells #[.string nm, .int .i64 lo, .int .i64 hi, .int .i64 pl] 47)) w1) => (Blk.new w 47 #[.string nm, .int .i64 lo, .int .i64 hi, .int .i64 pl]).kp hk (fun h => h)
      have YB := Lib.hid yb
      clear yb
      by_cases h1 : lo = 0
      · subst h1
        go_enter Tryd.func104, Tryd.ntmps104
        go_wp2_with (go_at_call 33; refine (HN.out _).mono ?_; rintro e w1 ⟨rfl, hk⟩; have y1 := (YB.out _ hk).cell 1; have y2 := (YB.out _ hk).cell 2; simp at y1 y2)
        go_ret
        exact ⟨ret_bool' (by rw [Bool.eq_iff_iff]; simp), ((Kp.refl _ _).alloc _).trans hk⟩
      · have h1' : (lo == 0) = false := beq_eq_false_iff_ne.2 h1
        go_enter Tryd.func104, Tryd.ntmps104
        go_wp2_with (go_at_call 33; refine (HN.out _).mono ?_; rintro e w1 ⟨rfl, hk⟩; have y1 := (YB.out _ hk).cell 1; have y2 := (YB.out _ hk).cell 2; simp at y1 y2)
        go_ret
        exact ⟨ret_bool' (by simp [h1]), ((Kp.refl _ _).alloc _).trans hk⟩

theorem add_add_span (c d : UInt8) : (⟨(digL [c]).toArray⟩ ++ ⟨#[45]⟩ : ByteArray) ++ ⟨(digL [d]).toArray⟩ = ⟨(spanL c d).toArray⟩ := by
  refine ba_ext ?_
  simp [spanL]
theorem byte_of {v : Int} (h0 : 0 ≤ v) (h1 : v ≤ 255) : ∃ c : UInt8, v = (c.toNat : Int) ∧ byteOf v = c := ⟨byteOf v, by unfold byteOf; simp; omega, rfl⟩
/-- Digits of a new row of one byte. -/
theorem digits_lit (W : World) (b : Nat) (c : UInt8) (h : W.cell? ⟨b, 0, none⟩ = some (.int .u8 (c.toNat : Int))) : Calls Tryd.prog 35 #[.slice (some ⟨b, 0, none⟩) 1 1] W fun e w' => e = .returned (.string ⟨(digL [c]).toArray⟩) ∧ K0 W w' :=
  digits_any (some ⟨b, 0, none⟩) 1 [c] W ⟨rfl, fun _ => ⟨_, rfl, World.block_lt_of_cell? W _ h, fun j u hu => by
    cases j with
    | zero => cases hu; exact h
    | succ j => simp [bvs] at hu⟩⟩ (by simp)

set_option maxRecDepth 100000 in
set_option maxHeartbeats 4000000 in
theorem itemP_any (x : ItemD) (w : World) (hs : x.nm.size ≤ 140737488355328) : Calls Tryd.prog 75 #[ival x] w fun e w' => e = .returned (.string ⟨(txtP x).toArray⟩) ∧ K0 w w' := by
  obtain ⟨nm, lo, hi, pl⟩ := x
  simp only [] at hs
  have HN := Lib.hid (fun W => name_any nm W hs)
  unfold ival
  by_cases h0 : nm.data.toList = []
  · have hF : fitB ⟨nm, lo, hi, pl⟩ = decide (0 ≤ lo ∧ lo ≤ hi ∧ hi ≤ 255) := by unfold fitB; rw [if_pos h0]
    have e0 : nm.toList.isEmpty = true := (empty_iff nm).2 h0
    by_cases hfit : 0 ≤ lo ∧ lo ≤ hi ∧ hi ≤ 255
    · have hT : txtP ⟨nm, lo, hi, pl⟩ = digL [byteOf lo] ++ (if lo < hi then 45 :: digL [byteOf hi] else []) := by
        unfold txtP txtI
        rw [hF, decide_eq_true hfit, if_pos rfl, if_pos h0]
      rw [hT]
      obtain ⟨f1, f2, f3⟩ := hfit
      obtain ⟨cl, rfl, hcl⟩ := byte_of f1 (by omega)
      obtain ⟨ch, rfl, hch⟩ := byte_of (show 0 ≤ hi by omega) f3
      rw [hcl, hch]
      have hl := cl.toNat_lt
      have hh := ch.toNat_lt
      have hw1 : IntKind.u8.wrap (cl.toNat : Int) = (cl.toNat : Int) := IntWalk.u8_in _ (by omega)
      have hw2 : IntKind.u8.wrap (ch.toNat : Int) = (ch.toNat : Int) := IntWalk.u8_in _ (by omega)
      have DG := Lib.hid (fun W b c h => digits_lit W b c h)
      clear h0 hF hT hcl hch
      go_enter Tryd.func75, Tryd.ntmps75
      go_wp2
      obtain ⟨w0, hw0⟩ : ∃ w0, w0 = w.alloc (.cells #[.string nm, .int .i64 (cl.toNat : Int), .int .i64 (ch.toNat : Int), .int .i64 pl] 47) := ⟨_, rfl⟩
      have hkw : K0 w w0 := by rw [hw0]; exact (Kp.refl _ _).alloc _
      have yb : Blk w0 w.heap.size 47 #[.string nm, .int .i64 (cl.toNat : Int), .int .i64 (ch.toNat : Int), .int .i64 pl] := by rw [hw0]; exact Blk.new _ _ _
      have hlb := yb.lt
      have y1 := yb.cell 1
      have y2 := yb.cell 2
      simp at y1 y2
      have YC := Lib.hid (fun (W : World) (hk : K0 w0 W) => show W.cell? ⟨w.heap.size, 1, none⟩ = some (.int .i64 (cl.toNat : Int)) ∧ W.cell? ⟨w.heap.size, 2, none⟩ = some (.int .i64 (ch.toNat : Int)) from ⟨(hk.cell hlb (fun h => h)).trans y1, (hk.cell hlb (fun h => h)).trans y2⟩)
      rw [← hw0]
      have HW0 := Lib.hid hw0
      clear hw0
      have kk5 : K0 w0 w0 := Kp.refl _ _
      go_region_with (go_at_call 35; first
        | (refine (DG.out _ _ cl ?_).mono ?_; (focus (first | (simp; done) | (refine (Kp.cell hk5 ?_ (fun h => h)).trans ?_; (focus (simp <;> omega)); (focus (simp; done))))); rintro e w5 ⟨rfl, hk5⟩; have kk5 : K0 w0 w5 := Kp.trans (by repeat (first | exact kk5 | exact Kp.refl _ _ | refine Kp.alloc ?_ _ | refine Kp.drew ?_)) hk5; have y1 : w5.cell? ⟨w.heap.size, 1, none⟩ = some (.int .i64 (cl.toNat : Int)) := (YC.out w5 kk5).1; have y2 : w5.cell? ⟨w.heap.size, 2, none⟩ = some (.int .i64 (ch.toNat : Int)) := (YC.out w5 kk5).2; have hs5 := kk5.size)
        | (refine (DG.out _ _ ch ?_).mono ?_; (focus (first | (simp; done) | (refine (Kp.cell hk5 ?_ (fun h => h)).trans ?_; (focus (simp <;> omega)); (focus (simp; done))))); rintro e w5 ⟨rfl, hk5⟩; have kk5 : K0 w0 w5 := Kp.trans (by repeat (first | exact kk5 | exact Kp.refl _ _ | refine Kp.alloc ?_ _ | refine Kp.drew ?_)) hk5; have y1 : w5.cell? ⟨w.heap.size, 1, none⟩ = some (.int .i64 (cl.toNat : Int)) := (YC.out w5 kk5).1; have y2 : w5.cell? ⟨w.heap.size, 2, none⟩ = some (.int .i64 (ch.toNat : Int)) := (YC.out w5 kk5).2; have hs5 := kk5.size))
      all_goals
        have hkF : K0 w w5 := hkw.trans kk5
        clear kk5 hk5 DG YC
        by_cases hcc : cl = ch
        · subst hcc
          go_wp2
          go_ret
          refine ⟨?_, hkF⟩
          first | rfl | (refine Eq.trans (b := Ending.returned (.string ⟨(digL [cl]).toArray⟩)) rfl ?_; simp)
        · have hlt : ¬ (cl.toNat : Int) = (ch.toNat : Int) := fun e => hcc (UInt8.toNat_inj.1 (by omega))
          have hdd : ((⟨(digL [cl]).toArray⟩ : ByteArray).toList == (⟨(digL [ch]).toArray⟩ : ByteArray).toList) = false := by
            rw [beq_eq_false_iff_ne, ByteArray.toList_eq, ByteArray.toList_eq]
            intro e
            have e2 : digL [cl] = digL [ch] := e
            have h1 := hexR_digL [cl]
            rw [e2, hexR_digL] at h1
            exact hcc (by simpa using h1.symm)
          have hdl : (digL [cl] == digL [ch]) = false := by
            rw [beq_eq_false_iff_ne]
            intro e2
            have h1 := hexR_digL [cl]
            rw [e2, hexR_digL] at h1
            exact hcc (by simpa using h1.symm)
          go_wp2
          go_ret
          refine ⟨?_, hkF⟩
          refine Eq.trans (b := Ending.returned (.string ((⟨(digL [cl]).toArray⟩ ++ ⟨#[45]⟩ : ByteArray) ++ ⟨(digL [ch]).toArray⟩))) rfl ?_
          rw [add_add_span]
          first | rfl | (rw [if_pos (show (cl.toNat : Int) < (ch.toNat : Int) by omega)]; rfl) | (simp [spanL]; omega)
    · have hT : txtP ⟨nm, lo, hi, pl⟩ = [] := by
        unfold txtP
        rw [hF, decide_eq_false hfit]
        rfl
      rw [hT]
      clear h0 hF hT
      by_cases h1 : 0 ≤ lo
      · by_cases h2 : lo ≤ hi
        · have h3 : 255 < hi := by omega
          go_enter Tryd.func75, Tryd.ntmps75
          go_wp2
          go_ret
          exact ⟨rfl, (Kp.refl _ _).alloc _⟩
        · go_enter Tryd.func75, Tryd.ntmps75
          go_wp2
          go_ret
          exact ⟨rfl, (Kp.refl _ _).alloc _⟩
      · go_enter Tryd.func75, Tryd.ntmps75
        go_wp2
        go_ret
        exact ⟨rfl, (Kp.refl _ _).alloc _⟩
  · have hF : fitB ⟨nm, lo, hi, pl⟩ = (nameB nm.data.toList && decide (lo = 0 ∧ hi = 0)) := by unfold fitB; rw [if_neg h0]
    have hT : txtP ⟨nm, lo, hi, pl⟩ = if (nameB nm.data.toList && decide (lo = 0 ∧ hi = 0)) = true then nm.data.toList else [] := by
      unfold txtP txtI
      rw [hF, if_neg h0]
    rw [hT]
    have e0 : nm.toList.isEmpty = false := by
      cases h : nm.toList.isEmpty
      · rfl
      · exact absurd ((empty_iff nm).1 h) h0
    clear h0 hF hT
    cases hn : nameB nm.data.toList with
    | false =>
      rw [hn] at HN
      clear hn
      go_enter Tryd.func75, Tryd.ntmps75
      go_wp2_with (go_at_call 32; refine (HN.out _).mono ?_; rintro e w1 ⟨rfl, hk⟩)
      go_ret
      exact ⟨rfl, ((Kp.refl _ _).alloc _).trans hk⟩
    | true =>
      rw [hn] at HN
      clear hn
      have YB := Lib.hid (fun (w1 : World) (hk : K0 (w.alloc (.cells #[.string nm, .int .i64 lo, .int .i64 hi, .int .i64 pl] 47)) w1) => (Blk.new w 47 #[.string nm, .int .i64 lo, .int .i64 hi, .int .i64 pl]).kp hk (fun h => h))
      by_cases h1 : lo = 0
      · by_cases h2 : hi = 0
        · subst h1 h2
          go_enter Tryd.func75, Tryd.ntmps75
          go_wp2_with (go_at_call 32; refine (HN.out _).mono ?_; rintro e w1 ⟨rfl, hk⟩; have y0 := (YB.out _ hk).cell 0; have y1 := (YB.out _ hk).cell 1; have y2 := (YB.out _ hk).cell 2; simp at y0 y1 y2)
          go_ret
          exact ⟨rfl, ((Kp.refl _ _).alloc _).trans hk⟩
        · have h2' : (hi == 0) = false := beq_eq_false_iff_ne.2 h2
          have h2'' : (hi != 0) = true := by simp [h2]
          subst h1
          rw [show (if (true && decide ((0 : Int) = 0 ∧ hi = 0)) = true then nm.data.toList else []) = [] from if_neg (by simp [h2])]
          go_enter Tryd.func75, Tryd.ntmps75
          go_wp2_with (go_at_call 32; refine (HN.out _).mono ?_; rintro e w1 ⟨rfl, hk⟩; have y0 := (YB.out _ hk).cell 0; have y1 := (YB.out _ hk).cell 1; have y2 := (YB.out _ hk).cell 2; simp at y0 y1 y2)
          go_ret
          exact ⟨rfl, ((Kp.refl _ _).alloc _).trans hk⟩
      · have h1' : (lo == 0) = false := beq_eq_false_iff_ne.2 h1
        have h1'' : (lo != 0) = true := by simp [h1]
        rw [show (if (true && decide (lo = 0 ∧ hi = 0)) = true then nm.data.toList else []) = [] from if_neg (by simp [h1])]
        go_enter Tryd.func75, Tryd.ntmps75
        go_wp2_with (go_at_call 32; refine (HN.out _).mono ?_; rintro e w1 ⟨rfl, hk⟩; have y0 := (YB.out _ hk).cell 0; have y1 := (YB.out _ hk).cell 1; have y2 := (YB.out _ hk).cell 2; simp at y0 y1 y2)
        go_ret
        exact ⟨rfl, ((Kp.refl _ _).alloc _).trans hk⟩
end Go.Proofs.YtobofhiakgohfaaDoor
