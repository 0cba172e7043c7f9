/- The walk of TokenBack. the printer's items: itemFits of the document, item of the program. the printer's lists of items: items of the program, listFits of the document. Descriptions in memory; the document's Decimal and list. -/
import Derived.Test.YtobofhiakgohfaaGreatDoorZD
import Derived.Test.YtobofhiakgohfaaGreatDoorZB
import Derived.Test.YtobofhiakgohfaaGreatDoorZA
import Derived.Lib.SmallJoins
import Derived.Lib.AppendIntMem
import Derived.Lib.ItoaLen
import Derived.Test.YtobofhiakgohfaaGreatDoorZC
import Derived.Test.YtobofhiakgohfaaGreatDoorZX
set_option linter.unusedVariables false
set_option linter.unusedSimpArgs false
namespace Go.Proofs.YtobofhiakgohfaaGreatDoor
open Go.RowKit

/-- The table of the powers of ten is laid. -/
abbrev PowV (w : World) : Prop := Lib.TabIs Tryz.prog w "internal/strconv.uint64pow10" .u64 Lib.pow10Tab
theorem gPow : Tryz.prog.globalNamed "internal/strconv.uint64pow10" = some 0 := by kernel_rfl
theorem PowV.k0 {w w' : World} (h : PowV w) (hk : K0 w w') : PowV w' := Go.Joins.tab_stays gPow h hk.below (Nat.le_refl _)
theorem itoa_any (n : Int) (w : World) (h0 : -9223372036854775808 ≤ n) (h1 : n ≤ 9223372036854775807) (hp : PowV w) : Calls Tryz.prog 36 #[.int .i64 n] w fun e w' => e = .returned (.string ⟨(Lib.itoa n).toArray⟩) ∧ K0 w w' := by
  refine (Tryz.strconv_Itoa n h0 h1 w hp).mono ?_
  rintro e w' ⟨rfl, k, os, rfl⟩
  exact ⟨rfl, Kp.of_below (Go.Lib.below_grow _ w (Nat.le_refl _) _ _)⟩
def spanL (c d : UInt8) : List UInt8 := digL [c] ++ 45 :: digL [d]
end Go.Proofs.YtobofhiakgohfaaGreatDoor

namespace Go.Proofs.YtobofhiakgohfaaGreatDoor
open Go.RowKit

/-- An item's value. -/
abbrev ival (x : ItemD) : Value := .agg #[.string x.nm, .int .i64 x.lo, .int .i64 x.hi, .int .i64 x.pl]
theorem empty_iff (s : ByteArray) : s.toList.isEmpty = true ↔ s.data.toList = [] := by rw [ByteArray.toList_eq]; simp
theorem ret_bool' {a b : Bool} (h : b = a) : Ending.returned (.bool a) = .returned (.bool b) := by rw [h]

set_option maxRecDepth 100000 in
set_option maxHeartbeats 2000000 in
theorem itemFits_any (x : ItemD) (w : World) (hs : x.nm.size ≤ 140737488355328) : Calls Tryz.prog 107 #[ival x] w fun e w' => e = .returned (.bool (fitB x)) ∧ K0 w w' := by
  obtain ⟨nm, lo, hi, pl⟩ := x
  simp only [] at hs
  have HN := Lib.hid (fun W => rname_any nm W hs)
  unfold ival
  by_cases h0 : nm.data.toList = []
  · have hF : fitB ⟨nm, lo, hi, pl⟩ = decide (0 ≤ lo ∧ lo ≤ hi ∧ hi ≤ 255) := by unfold fitB; rw [if_pos h0]
    rw [hF]
    have e0 : nm.toList.isEmpty = true := (empty_iff nm).2 h0
    clear h0 hF
    by_cases h1 : 0 ≤ lo
    · by_cases h2 : lo ≤ hi
      · go_enter Tryz.func107, Tryz.ntmps107
        go_wp2
        go_ret
        exact ⟨ret_bool' (by simp [h1, h2]), (Kp.refl _ _).alloc _⟩
      · go_enter Tryz.func107, Tryz.ntmps107
        go_wp2
        go_ret
        exact ⟨ret_bool' (by simp [h1]; omega), (Kp.refl _ _).alloc _⟩
    · go_enter Tryz.func107, Tryz.ntmps107
      go_wp2
      go_ret
      exact ⟨ret_bool' (by simp; omega), (Kp.refl _ _).alloc _⟩
  · have hF : fitB ⟨nm, lo, hi, pl⟩ = (nameB nm.data.toList && decide (lo = 0 ∧ hi = 0)) := by unfold fitB; rw [if_neg h0]
    rw [hF]
    have e0 : nm.toList.isEmpty = false := by
      cases h : nm.toList.isEmpty
      · rfl
      · exact absurd ((empty_iff nm).1 h) h0
    clear h0 hF
    cases hn : nameB nm.data.toList with
    | false =>
      rw [hn] at HN
      clear hn
      go_enter Tryz.func107, Tryz.ntmps107
      go_wp2_with (go_at_call 79; refine (HN.out _).mono ?_; rintro e w1 ⟨rfl, hk⟩)
      go_ret
      exact ⟨rfl, ((Kp.refl _ _).alloc _).trans hk⟩
    | true =>
      rw [hn] at HN
      clear hn
      have yb := fun (w1 : World) (hk : K0 (w.alloc (.cells #[.string nm, .int .i64 lo, .int .i64 hi, .int .i64 pl] 53)) w1) => (Blk.new w 53 #[.string nm, .int .i64 lo, .int .i64 hi, .int .i64 pl]).kp hk (fun h => h)
      have YB := Lib.hid yb
      clear yb
      by_cases h1 : lo = 0
      · subst h1
        go_enter Tryz.func107, Tryz.ntmps107
        go_wp2_with (go_at_call 79; refine (HN.out _).mono ?_; rintro e w1 ⟨rfl, hk⟩; have y1 := (YB.out _ hk).cell 1; have y2 := (YB.out _ hk).cell 2; simp at y1 y2)
        go_ret
        exact ⟨ret_bool' (by rw [Bool.eq_iff_iff]; simp), ((Kp.refl _ _).alloc _).trans hk⟩
      · have h1' : (lo == 0) = false := beq_eq_false_iff_ne.2 h1
        go_enter Tryz.func107, Tryz.ntmps107
        go_wp2_with (go_at_call 79; refine (HN.out _).mono ?_; rintro e w1 ⟨rfl, hk⟩; have y1 := (YB.out _ hk).cell 1; have y2 := (YB.out _ hk).cell 2; simp at y1 y2)
        go_ret
        exact ⟨ret_bool' (by simp [h1]), ((Kp.refl _ _).alloc _).trans hk⟩

theorem add_add_span (c d : UInt8) : (⟨(digL [c]).toArray⟩ ++ ⟨#[45]⟩ : ByteArray) ++ ⟨(digL [d]).toArray⟩ = ⟨(spanL c d).toArray⟩ := by
  refine ba_ext ?_
  simp [spanL]
theorem byte_of {v : Int} (h0 : 0 ≤ v) (h1 : v ≤ 255) : ∃ c : UInt8, v = (c.toNat : Int) ∧ byteOf v = c := ⟨byteOf v, by unfold byteOf; simp; omega, rfl⟩
/-- Digits of a new row of one byte. -/
theorem digits_lit (W : World) (b : Nat) (c : UInt8) (h : W.cell? ⟨b, 0, none⟩ = some (.int .u8 (c.toNat : Int))) : Calls Tryz.prog 91 #[.slice (some ⟨b, 0, none⟩) 1 1] W fun e w' => e = .returned (.string ⟨(digL [c]).toArray⟩) ∧ K0 W w' :=
  digits_any (some ⟨b, 0, none⟩) 1 [c] W ⟨rfl, fun _ => ⟨_, rfl, World.block_lt_of_cell? W _ h, fun j u hu => by
    cases j with
    | zero => cases hu; exact h
    | succ j => simp [bvs] at hu⟩⟩ (by simp)

set_option maxRecDepth 100000 in
set_option maxHeartbeats 4000000 in
theorem itemP_any (x : ItemD) (w : World) (hs : x.nm.size ≤ 140737488355328) : Calls Tryz.prog 68 #[ival x] w fun e w' => e = .returned (.string ⟨(txtP x).toArray⟩) ∧ K0 w w' := by
  obtain ⟨nm, lo, hi, pl⟩ := x
  simp only [] at hs
  have HN := Lib.hid (fun W => name_any nm W hs)
  unfold ival
  by_cases h0 : nm.data.toList = []
  · have hF : fitB ⟨nm, lo, hi, pl⟩ = decide (0 ≤ lo ∧ lo ≤ hi ∧ hi ≤ 255) := by unfold fitB; rw [if_pos h0]
    have e0 : nm.toList.isEmpty = true := (empty_iff nm).2 h0
    by_cases hfit : 0 ≤ lo ∧ lo ≤ hi ∧ hi ≤ 255
    · have hT : txtP ⟨nm, lo, hi, pl⟩ = digL [byteOf lo] ++ (if lo < hi then 45 :: digL [byteOf hi] else []) := by
        unfold txtP txtI
        rw [hF, decide_eq_true hfit, if_pos rfl, if_pos h0]
      rw [hT]
      obtain ⟨f1, f2, f3⟩ := hfit
      obtain ⟨cl, rfl, hcl⟩ := byte_of f1 (by omega)
      obtain ⟨ch, rfl, hch⟩ := byte_of (show 0 ≤ hi by omega) f3
      rw [hcl, hch]
      have hl := cl.toNat_lt
      have hh := ch.toNat_lt
      have hw1 : IntKind.u8.wrap (cl.toNat : Int) = (cl.toNat : Int) := IntWalk.u8_in _ (by omega)
      have hw2 : IntKind.u8.wrap (ch.toNat : Int) = (ch.toNat : Int) := IntWalk.u8_in _ (by omega)
      have DG := Lib.hid (fun W b c h => digits_lit W b c h)
      clear h0 hF hT hcl hch
      go_enter Tryz.func68, Tryz.ntmps68
      go_wp2
      obtain ⟨w0, hw0⟩ : ∃ w0, w0 = w.alloc (.cells #[.string nm, .int .i64 (cl.toNat : Int), .int .i64 (ch.toNat : Int), .int .i64 pl] 53) := ⟨_, rfl⟩
      have hkw : K0 w w0 := by rw [hw0]; exact (Kp.refl _ _).alloc _
      have yb : Blk w0 w.heap.size 53 #[.string nm, .int .i64 (cl.toNat : Int), .int .i64 (ch.toNat : Int), .int .i64 pl] := by rw [hw0]; exact Blk.new _ _ _
      have hlb := yb.lt
      have y1 := yb.cell 1
      have y2 := yb.cell 2
      simp at y1 y2
      have YC := Lib.hid (fun (W : World) (hk : K0 w0 W) => show W.cell? ⟨w.heap.size, 1, none⟩ = some (.int .i64 (cl.toNat : Int)) ∧ W.cell? ⟨w.heap.size, 2, none⟩ = some (.int .i64 (ch.toNat : Int)) from ⟨(hk.cell hlb (fun h => h)).trans y1, (hk.cell hlb (fun h => h)).trans y2⟩)
      rw [← hw0]
      have HW0 := Lib.hid hw0
      clear hw0
      have kk5 : K0 w0 w0 := Kp.refl _ _
      go_region_with (go_at_call 91; first
        | (refine (DG.out _ _ cl ?_).mono ?_; (focus (first | (simp; done) | (refine (Kp.cell hk5 ?_ (fun h => h)).trans ?_; (focus (simp <;> omega)); (focus (simp; done))))); rintro e w5 ⟨rfl, hk5⟩; have kk5 : K0 w0 w5 := Kp.trans (by repeat (first | exact kk5 | exact Kp.refl _ _ | refine Kp.alloc ?_ _ | refine Kp.drew ?_)) hk5; have y1 : w5.cell? ⟨w.heap.size, 1, none⟩ = some (.int .i64 (cl.toNat : Int)) := (YC.out w5 kk5).1; have y2 : w5.cell? ⟨w.heap.size, 2, none⟩ = some (.int .i64 (ch.toNat : Int)) := (YC.out w5 kk5).2; have hs5 := kk5.size)
        | (refine (DG.out _ _ ch ?_).mono ?_; (focus (first | (simp; done) | (refine (Kp.cell hk5 ?_ (fun h => h)).trans ?_; (focus (simp <;> omega)); (focus (simp; done))))); rintro e w5 ⟨rfl, hk5⟩; have kk5 : K0 w0 w5 := Kp.trans (by repeat (first | exact kk5 | exact Kp.refl _ _ | refine Kp.alloc ?_ _ | refine Kp.drew ?_)) hk5; have y1 : w5.cell? ⟨w.heap.size, 1, none⟩ = some (.int .i64 (cl.toNat : Int)) := (YC.out w5 kk5).1; have y2 : w5.cell? ⟨w.heap.size, 2, none⟩ = some (.int .i64 (ch.toNat : Int)) := (YC.out w5 kk5).2; have hs5 := kk5.size))
      all_goals
        have hkF : K0 w w5 := hkw.trans kk5
        clear kk5 hk5 DG YC
        by_cases hcc : cl = ch
        · subst hcc
          go_wp2
          go_ret
          refine ⟨?_, hkF⟩
          first | rfl | (refine Eq.trans (b := Ending.returned (.string ⟨(digL [cl]).toArray⟩)) rfl ?_; simp)
        · have hlt : ¬ (cl.toNat : Int) = (ch.toNat : Int) := fun e => hcc (UInt8.toNat_inj.1 (by omega))
          have hdd : ((⟨(digL [cl]).toArray⟩ : ByteArray).toList == (⟨(digL [ch]).toArray⟩ : ByteArray).toList) = false := by
            rw [beq_eq_false_iff_ne, ByteArray.toList_eq, ByteArray.toList_eq]
            intro e
            have e2 : digL [cl] = digL [ch] := e
            have h1 := hexR_digL [cl]
            rw [e2, hexR_digL] at h1
            exact hcc (by simpa using h1.symm)
          have hdl : (digL [cl] == digL [ch]) = false := by
            rw [beq_eq_false_iff_ne]
            intro e2
            have h1 := hexR_digL [cl]
            rw [e2, hexR_digL] at h1
            exact hcc (by simpa using h1.symm)
          go_wp2
          go_ret
          refine ⟨?_, hkF⟩
          refine Eq.trans (b := Ending.returned (.string ((⟨(digL [cl]).toArray⟩ ++ ⟨#[45]⟩ : ByteArray) ++ ⟨(digL [ch]).toArray⟩))) rfl ?_
          rw [add_add_span]
          first | rfl | (rw [if_pos (show (cl.toNat : Int) < (ch.toNat : Int) by omega)]; rfl) | (simp [spanL]; omega)
    · have hT : txtP ⟨nm, lo, hi, pl⟩ = [] := by
        unfold txtP
        rw [hF, decide_eq_false hfit]
        rfl
      rw [hT]
      clear h0 hF hT
      by_cases h1 : 0 ≤ lo
      · by_cases h2 : lo ≤ hi
        · have h3 : 255 < hi := by omega
          go_enter Tryz.func68, Tryz.ntmps68
          go_wp2
          go_ret
          exact ⟨rfl, (Kp.refl _ _).alloc _⟩
        · go_enter Tryz.func68, Tryz.ntmps68
          go_wp2
          go_ret
          exact ⟨rfl, (Kp.refl _ _).alloc _⟩
      · go_enter Tryz.func68, Tryz.ntmps68
        go_wp2
        go_ret
        exact ⟨rfl, (Kp.refl _ _).alloc _⟩
  · have hF : fitB ⟨nm, lo, hi, pl⟩ = (nameB nm.data.toList && decide (lo = 0 ∧ hi = 0)) := by unfold fitB; rw [if_neg h0]
    have hT : txtP ⟨nm, lo, hi, pl⟩ = if (nameB nm.data.toList && decide (lo = 0 ∧ hi = 0)) = true then nm.data.toList else [] := by
      unfold txtP txtI
      rw [hF, if_neg h0]
    rw [hT]
    have e0 : nm.toList.isEmpty = false := by
      cases h : nm.toList.isEmpty
      · rfl
      · exact absurd ((empty_iff nm).1 h) h0
    clear h0 hF hT
    cases hn : nameB nm.data.toList with
    | false =>
      rw [hn] at HN
      clear hn
      go_enter Tryz.func68, Tryz.ntmps68
      go_wp2_with (go_at_call 34; refine (HN.out _).mono ?_; rintro e w1 ⟨rfl, hk⟩)
      go_ret
      exact ⟨rfl, ((Kp.refl _ _).alloc _).trans hk⟩
    | true =>
      rw [hn] at HN
      clear hn
      have YB := Lib.hid (fun (w1 : World) (hk : K0 (w.alloc (.cells #[.string nm, .int .i64 lo, .int .i64 hi, .int .i64 pl] 53)) w1) => (Blk.new w 53 #[.string nm, .int .i64 lo, .int .i64 hi, .int .i64 pl]).kp hk (fun h => h))
      by_cases h1 : lo = 0
      · by_cases h2 : hi = 0
        · subst h1 h2
          go_enter Tryz.func68, Tryz.ntmps68
          go_wp2_with (go_at_call 34; refine (HN.out _).mono ?_; rintro e w1 ⟨rfl, hk⟩; have y0 := (YB.out _ hk).cell 0; have y1 := (YB.out _ hk).cell 1; have y2 := (YB.out _ hk).cell 2; simp at y0 y1 y2)
          go_ret
          exact ⟨rfl, ((Kp.refl _ _).alloc _).trans hk⟩
        · have h2' : (hi == 0) = false := beq_eq_false_iff_ne.2 h2
          have h2'' : (hi != 0) = true := by simp [h2]
          subst h1
          rw [show (if (true && decide ((0 : Int) = 0 ∧ hi = 0)) = true then nm.data.toList else []) = [] from if_neg (by simp [h2])]
          go_enter Tryz.func68, Tryz.ntmps68
          go_wp2_with (go_at_call 34; refine (HN.out _).mono ?_; rintro e w1 ⟨rfl, hk⟩; have y0 := (YB.out _ hk).cell 0; have y1 := (YB.out _ hk).cell 1; have y2 := (YB.out _ hk).cell 2; simp at y0 y1 y2)
          go_ret
          exact ⟨rfl, ((Kp.refl _ _).alloc _).trans hk⟩
      · have h1' : (lo == 0) = false := beq_eq_false_iff_ne.2 h1
        have h1'' : (lo != 0) = true := by simp [h1]
        rw [show (if (true && decide (lo = 0 ∧ hi = 0)) = true then nm.data.toList else []) = [] from if_neg (by simp [h1])]
        go_enter Tryz.func68, Tryz.ntmps68
        go_wp2_with (go_at_call 34; refine (HN.out _).mono ?_; rintro e w1 ⟨rfl, hk⟩; have y0 := (YB.out _ hk).cell 0; have y1 := (YB.out _ hk).cell 1; have y2 := (YB.out _ hk).cell 2; simp at y0 y1 y2)
        go_ret
        exact ⟨rfl, ((Kp.refl _ _).alloc _).trans hk⟩
end Go.Proofs.YtobofhiakgohfaaGreatDoor

namespace Go.Proofs.YtobofhiakgohfaaGreatDoor
open Go.RowKit

/-- The cells of a row of items. -/
def icell (x : ItemD) : List Value := [.string x.nm, .int .i64 x.lo, .int .i64 x.hi, .int .i64 x.pl]
def icells (l : List ItemD) : List Value := l.flatMap icell
theorem icells_length (l : List ItemD) : (icells l).length = l.length * 4 := by
  induction l with
  | nil => rfl
  | cons a t ih => simp only [icells, List.flatMap_cons, List.length_append, List.length_cons] at ih ⊢; rw [ih]; simp [icell]; omega
theorem icells_get : ∀ (l : List ItemD) (j : Nat) (t : ItemD), l[j]? = some t → (icells l)[j * 4]? = some (.string t.nm) ∧ (icells l)[j * 4 + 1]? = some (.int .i64 t.lo) ∧ (icells l)[j * 4 + 2]? = some (.int .i64 t.hi) ∧ (icells l)[j * 4 + 3]? = some (.int .i64 t.pl)
  | [], j, t, h => by simp at h
  | a :: r, 0, t, h => by simp at h; subst h; exact ⟨rfl, rfl, rfl, rfl⟩
  | a :: r, j + 1, t, h => by
    have ih := icells_get r j t (by simpa using h)
    have e : ∀ i, (icells (a :: r))[i + 4]? = (icells r)[i]? := fun i => by
      show (icell a ++ icells r)[i + 4]? = _
      rw [List.getElem?_append_right (by simp [icell])]
      simp [icell]
    rw [show (j + 1) * 4 = j * 4 + 4 by omega, show j * 4 + 4 + 1 = (j * 4 + 1) + 4 by omega, show j * 4 + 4 + 2 = (j * 4 + 2) + 4 by omega, show j * 4 + 4 + 3 = (j * 4 + 3) + 4 by omega, e, e, e, e]
    exact ih
theorem icells_one (l : List ItemD) : ∀ u ∈ icells l, u.oneCell' = true := by
  intro u hu
  simp only [icells, List.mem_flatMap, icell] at hu
  obtain ⟨t, _, h⟩ := hu
  simp at h
  rcases h with rfl | rfl | rfl | rfl <;> rfl
theorem add_three (a : Addr) : a.add 3 = ⟨a.block, a.off + 3, none⟩ := rfl
theorem Reads.item {w : World} {B : Nat} {A : Option Addr} {l : List ItemD} (h : Reads w B 4 A l.length (icells l)) {j : Nat} (hj : j < l.length) :
    ∃ ad, A = some ad ∧ ad.block < B ∧ w.cell? (ad.add (j * 4)) = some (.string l[j].nm) ∧ w.cell? ⟨(ad.add (j * 4)).block, (ad.add (j * 4)).off + 1, none⟩ = some (.int .i64 l[j].lo) ∧ w.cell? ⟨(ad.add (j * 4)).block, (ad.add (j * 4)).off + 2, none⟩ = some (.int .i64 l[j].hi) ∧ w.cell? ⟨(ad.add (j * 4)).block, (ad.add (j * 4)).off + 3, none⟩ = some (.int .i64 l[j].pl) := by
  obtain ⟨ad, e, hb, hc⟩ := h.2 (by omega)
  obtain ⟨h0, h1, h2, h3⟩ := icells_get l j _ (List.getElem?_eq_getElem hj)
  refine ⟨ad, e, hb, hc _ _ h0, ?_, ?_, ?_⟩
  · have := hc _ _ h1
    rw [← add_of_add, add_one] at this
    exact this
  · have := hc _ _ h2
    rw [← add_of_add, add_two] at this
    exact this
  · have := hc _ _ h3
    rw [← add_of_add, add_three] at this
    exact this

/-- A slice of items. -/
def ItemsV (w : World) (B : Nat) (v : Value) (l : List ItemD) : Prop :=
  ∃ A c, v = .slice A l.length c ∧ l.length ≤ c ∧ c ≤ 9223372036854775807 ∧ l.length ≤ 1048576 ∧ Reads w B 4 A l.length (icells l) ∧ ∀ x ∈ l, x.nm.size ≤ 1048576

set_option maxRecDepth 100000 in
set_option maxHeartbeats 4000000 in
theorem listFits_any (w : World) (B : Nat) (v : Value) (l : List ItemD) (hv : ItemsV w B v l) (hB : B ≤ w.heap.size) (most : Nat) (hm : most ≤ 1048576) :
    Calls Tryz.prog 80 #[v, .int .i64 (most : Int)] w fun e w' => e = .returned (.bool (fitsB most l)) ∧ K0 w w' := by
  obtain ⟨A, cp, rfl, hcp, hcp2, hl, hr, hnm⟩ := hv
  by_cases h1 : l.length < 1
  · have hF : fitsB most l = false := by unfold fitsB; rw [decide_eq_false (by omega)]; rfl
    rw [hF]
    clear hF
    go_enter Tryz.func80, Tryz.ntmps80
    go_wp2
    go_ret
    exact ⟨rfl, Kp.refl _ _⟩
  by_cases h2 : most < l.length
  · have hF : fitsB most l = false := by unfold fitsB; rw [decide_eq_false (show ¬ l.length ≤ most by omega), Bool.and_false]; rfl
    rw [hF]
    clear hF
    go_enter Tryz.func80, Tryz.ntmps80
    go_wp2
    go_ret
    exact ⟨rfl, Kp.refl _ _⟩
  have hF : fitsB most l = l.all fitB := by unfold fitsB; rw [decide_eq_true (by omega), decide_eq_true (by omega)]; rfl
  rw [hF]
  obtain ⟨R, hR⟩ : ∃ R, R = l.all fitB := ⟨_, rfl⟩
  rw [← hR]
  have HR := Lib.hid hR
  have HNM := Lib.hid hnm
  clear hF hR hnm
  go_enter Tryz.func80, Tryz.ntmps80
  go_wp2
  go_loopw [5] (fun i wr => ∃ q : Nat, q ≤ l.length ∧ i = .int .i64 (q : Int) ∧ K0 w wr ∧ Hid (∀ j (h : j < l.length), j < q → fitB l[j] = true)) (fun i wr => l.length - (intOf i).toNat)
  case atStart => exact ⟨0, by omega, rfl, Kp.refl _ _, Lib.hid (fun j h h' => absurd h' (by omega))⟩
  case round =>
    obtain ⟨q, hq, rfl, hk, hall⟩ := hrel
    by_cases hlt : q < l.length
    · obtain ⟨ad, rfl, hbl, r0, r1, r2, r3⟩ := (hr.k0 hB hk).item hlt
      have hx := HNM.out _ (List.getElem_mem hlt)
      obtain ⟨x, hxe⟩ : ∃ x, x = l[q] := ⟨_, rfl⟩
      rw [← hxe] at r0 r1 r2 r3 hx
      have IF := Lib.hid (fun W => itemFits_any x W (by omega))
      have HXE := Lib.hid hxe
      clear hxe
      cases hf : fitB x with
      | true =>
        rw [hf] at IF
        have hn := fun j (h : j < l.length) (h' : j < q + 1) => show fitB l[j] = true by
          by_cases hj : j < q
          · exact hall.out j h hj
          · obtain rfl : j = q := by omega
            rw [← HXE.out]; exact hf
        have HN := Lib.hid hn
        clear hn hf
        go_wp2_with (go_at_call 107; refine (IF.out _).mono ?_; rintro e w1 ⟨rfl, hk1⟩)
        exact ⟨⟨q + 1, by omega, by go_num, hk.trans hk1, HN⟩, by simp [intOf]; omega⟩
      | false =>
        rw [hf] at IF
        have hres : R = false := by
          rw [HR.out]
          cases hx2 : l.all fitB
          · rfl
          · have := List.all_eq_true.1 hx2 _ (List.getElem_mem hlt)
            rw [← HXE.out, hf] at this
            cases this
        subst hres
        clear hf
        go_wp2_with (go_at_call 107; refine (IF.out _).mono ?_; rintro e w1 ⟨rfl, hk1⟩)
        go_ret
        exact ⟨rfl, hk.trans hk1⟩
    · obtain rfl : q = l.length := by omega
      have hres : R = true := by
        rw [HR.out, List.all_eq_true]
        intro x hx
        obtain ⟨j, hj, rfl⟩ := List.getElem_of_mem hx
        exact hall.out j hj hj
      subst hres
      go_wp2
      go_ret
      exact ⟨rfl, hk⟩

theorem BdV.k0 {w w' : World} {B b : Nat} {l : List UInt8} (h : BdV w B b l) (hk : K0 w w') : BdV w' B b l := by
  rcases h with ⟨hB, v, hb, ho, hne⟩ | ⟨hB, v, hb, ho, hne⟩
  · exact .inl ⟨hB, v, Blk.kp hb hk (fun h => h), own_kp ho hk (fun _ _ h => h), hne⟩
  · exact .inr ⟨hB, v, Blk.kp hb hk (fun h => h), own_kp ho hk (fun _ _ h => h), hne⟩

set_option maxRecDepth 100000 in
set_option maxHeartbeats 8000000 in
theorem items_any (w : World) (B : Nat) (v : Value) (l : List ItemD) (hv : ItemsV w B v l) (hB : B ≤ w.heap.size) (most : Nat) (hm : most ≤ 1048576) :
    Calls Tryz.prog 33 #[v, .int .i64 (most : Int)] w fun e w' => e = .returned (.tuple #[.string ⟨(txtPs l).toArray⟩, .bool (fitsB most l)]) ∧ K0 w w' := by
  obtain ⟨A, cp, rfl, hcp, hcp2, hl, hr, hnm⟩ := hv
  rcases Nat.eq_zero_or_pos l.length with h1 | h1
  · obtain rfl : l = [] := List.eq_nil_of_length_eq_zero h1
    clear h1 hl hr hnm
    go_enter Tryz.func33, Tryz.ntmps33
    go_wp2
    go_loopw [7, 22] (fun ok i wr => i = .int .i64 0 ∧ ok = .bool false ∧ BdV wr w.heap.size w.heap.size [] ∧ Below w.heap.size w wr) (fun ok i wr => 0)
    case atStart => exact ⟨rfl, rfl, bd_new w _ (Nat.le_refl _), (Below.refl _ _).alloc (Nat.le_refl _) _⟩
    case round =>
      obtain ⟨rfl, rfl, hbd, hk⟩ := hrel
      go_wp2_with fail
      refine (Tryz.Builder_String_any _ _ _ _ hbd hk.size).mono ?_
      rintro e w2 ⟨rfl, hk2⟩
      go_wp2
      go_ret2
      exact ⟨rfl, Kp.of_below (hk.trans hk2)⟩
  obtain ⟨b0, hb0, hcase⟩ : ∃ b0, b0 = (decide (0 < l.length) && decide (l.length ≤ most)) ∧ ((b0 = true ∧ 0 < l.length ∧ decide (l.length ≤ most) = true) ∨ (b0 = false ∧ 0 < l.length ∧ decide (l.length ≤ most) = false)) := by
    refine ⟨_, rfl, ?_⟩
    by_cases h2 : l.length ≤ most
    · exact .inl ⟨by simp [h1, h2], h1, decide_eq_true h2⟩
    · exact .inr ⟨by simp [h2], h1, decide_eq_false h2⟩
  have hF : fitsB most l = (b0 && l.all fitB) := by unfold fitsB; rw [hb0]
  rw [hF]
  obtain ⟨R, hR⟩ : ∃ R, R = (b0 && l.all fitB) := ⟨_, rfl⟩
  rw [← hR]
  have HR := Lib.hid hR
  have HNM := Lib.hid hnm
  clear hF hR hnm hb0
  rcases hcase with ⟨rfl, c1, c2⟩ | ⟨rfl, c1, c2⟩
  all_goals
    go_enter Tryz.func33, Tryz.ntmps33
    go_wp2
    go_loopw [7, 22] (fun ok i wr => ∃ (q : Nat) (b : Bool), q ≤ l.length ∧ i = .int .i64 (q : Int) ∧ ok = .bool b ∧ Hid (R = (b && (l.drop q).all fitB)) ∧ BdV wr w.heap.size w.heap.size (txtPs (l.take q)) ∧ Below w.heap.size w wr) (fun ok i wr => l.length - (intOf i).toNat)
    case atStart => exact ⟨0, _, by omega, rfl, rfl, Lib.hid (by rw [List.drop_zero]; exact HR.out), bd_new w _ (Nat.le_refl _), (Below.refl _ _).alloc (Nat.le_refl _) _⟩
    case round =>
      obtain ⟨q, b, hq, rfl, rfl, hres, hbd, hk⟩ := hrel
      by_cases hlt : q < l.length
      · obtain ⟨ad, rfl, hbl, r0, r1, r2, r3⟩ := (hr.below (hk.mono hB)).item hlt
        have hx := HNM.out _ (List.getElem_mem hlt)
        have hd : l.drop q = l[q] :: l.drop (q + 1) := List.drop_eq_getElem_cons hlt
        have ht : txtPs (l.take (q + 1)) = txtPs (l.take q) ++ 32 :: txtP l[q] := by
          rw [List.take_add_one, List.getElem?_eq_getElem hlt]; exact txtPs_snoc _ _
        have hln : (txtPs (l.take q)).length ≤ 17 * 1048576 := by
          have := txtPs_len (l.take q); rw [List.length_take] at this; omega
        obtain ⟨x, hxe⟩ : ∃ x, x = l[q] := ⟨_, rfl⟩
        rw [← hxe] at r0 r1 r2 r3 hx hd ht
        have IF := Lib.hid (fun W => itemP_any x W (by omega))
        have hres2 : R = (b && fitB x && (l.drop (q + 1)).all fitB) := by
          rw [hres.out, hd, List.all_cons, Bool.and_assoc]
        have hxl := txtP_len x
        have hne : ((⟨(txtP x).toArray⟩ : ByteArray).toList.isEmpty) = !(fitB x) := by
          rw [ByteArray.toList_eq]
          cases hf : fitB x
          · have : txtP x = [] := by unfold txtP; rw [hf]; rfl
            rw [this]; rfl
          · have := (txtP_ne x).2 hf
            cases ht2 : txtP x with
            | nil => exact absurd ht2 this
            | cons a t => rfl
        obtain ⟨sx, hsx⟩ : ∃ sx : ByteArray, (⟨(txtP x).toArray⟩ : ByteArray) = sx := ⟨_, rfl⟩
        have hsl : sx.data.toList = txtP x := by rw [← hsx]
        rw [hsx] at IF hne
        obtain ⟨sy, hsy⟩ : ∃ sy : ByteArray, (⟨#[32]⟩ : ByteArray) ++ sx = sy := ⟨_, rfl⟩
        have hyl : sy.data.toList = 32 :: txtP x := by rw [← hsy, ← hsl]; simp
        have hyz : sy.size ≤ 17 := by
          have : sy.data.toList.length = sy.size := by simp
          rw [hyl, List.length_cons] at this; omega
        have hxz : sx.size ≤ 16 := by
          have : sx.data.toList.length = sx.size := by simp
          rw [hsl] at this; omega
        have HT := Lib.hid ht
        have HRS := Lib.hid hres2
        have HYL := Lib.hid hyl
        clear hres hres2 hd ht hxe hsl hsx hyl hxl
        cases b
        all_goals
          cases hf : fitB x
          all_goals
            rw [hf] at hne HRS
            clear hf
            go_wp2_with fail
            refine (IF.out _).mono ?_
            rintro e w1 ⟨rfl, hk1⟩
            have kA : K0 wr w1 := ((Kp.refl _ wr).alloc _).trans hk1
            have hbd1 := hbd.k0 kA
            go_wp2_with fail
            refine (writeString_any _ _ _ sy _ hbd1 (by omega)).mono ?_
            rintro e w2 ⟨rfl, hbd2, hk2⟩
            rw [HYL.out, ← HT.out] at hbd2
            go_wp2
            exact ⟨⟨q + 1, _, by omega, by go_num, rfl, Lib.hid HRS.out, hbd2, (hk.trans (kA.below.mono hk.size)).trans hk2⟩, by simp [intOf]; omega⟩
      · obtain rfl : q = l.length := by omega
        rw [List.take_length] at hbd
        have hfin := hres.out
        rw [List.drop_length, List.all_nil, Bool.and_true] at hfin
        subst hfin
        go_wp2_with fail
        refine (Tryz.Builder_String_any _ _ _ _ hbd hk.size).mono ?_
        rintro e w2 ⟨rfl, hk2⟩
        go_wp2
        go_ret2
        exact ⟨rfl, Kp.of_below (hk.trans hk2)⟩
end Go.Proofs.YtobofhiakgohfaaGreatDoor

namespace Go.Proofs.YtobofhiakgohfaaGreatDoor
open Go.RowKit

/-! ## Rows of three cells -/
def tris {α : Type} (f : α → Value × Value × Value) (l : List α) : List Value := l.flatMap fun x => [(f x).1, (f x).2.1, (f x).2.2]
theorem tris_length {α : Type} (f : α → Value × Value × Value) (l : List α) : (tris f l).length = l.length * 3 := by
  induction l with
  | nil => rfl
  | cons a t ih => simp only [tris, List.flatMap_cons, List.length_append, List.length_cons, List.length_nil] at ih ⊢; rw [ih]; omega
theorem tris_append {α : Type} (f : α → Value × Value × Value) (a b : List α) : tris f (a ++ b) = tris f a ++ tris f b := by simp [tris]
theorem tris_get {α : Type} (f : α → Value × Value × Value) : ∀ (l : List α) (j : Nat) (t : α), l[j]? = some t → (tris f l)[j * 3]? = some (f t).1 ∧ (tris f l)[j * 3 + 1]? = some (f t).2.1 ∧ (tris f l)[j * 3 + 2]? = some (f t).2.2
  | [], j, t, h => by simp at h
  | a :: r, 0, t, h => by simp at h; subst h; exact ⟨rfl, rfl, rfl⟩
  | a :: r, j + 1, t, h => by
    have ih := tris_get f r j t (by simpa using h)
    have e : ∀ i, (tris f (a :: r))[i + 3]? = (tris f r)[i]? := fun i => by
      show ([(f a).1, (f a).2.1, (f a).2.2] ++ tris f r)[i + 3]? = _
      rw [List.getElem?_append_right (by simp)]
      simp
    rw [show (j + 1) * 3 = j * 3 + 3 by omega, show j * 3 + 3 + 1 = (j * 3 + 1) + 3 by omega, show j * 3 + 3 + 2 = (j * 3 + 2) + 3 by omega, e, e, e]
    exact ih
theorem Reads.tri {α : Type} {f : α → Value × Value × Value} {w : World} {B : Nat} {A : Option Addr} {l : List α} (h : Reads w B 3 A l.length (tris f l)) {j : Nat} (hj : j < l.length) :
    ∃ ad, A = some ad ∧ ad.block < B ∧ w.cell? (ad.add (j * 3)) = some (f l[j]).1 ∧ w.cell? ⟨(ad.add (j * 3)).block, (ad.add (j * 3)).off + 1, none⟩ = some (f l[j]).2.1 ∧ w.cell? ⟨(ad.add (j * 3)).block, (ad.add (j * 3)).off + 2, none⟩ = some (f l[j]).2.2 := by
  obtain ⟨ad, e, hb, hc⟩ := h.2 (by omega)
  obtain ⟨h0, h1, h2⟩ := tris_get f l j _ (List.getElem?_eq_getElem hj)
  refine ⟨ad, e, hb, hc _ _ h0, ?_, ?_⟩
  · have := hc _ _ h1
    rw [← add_of_add, add_one] at this
    exact this
  · have := hc _ _ h2
    rw [← add_of_add, add_two] at this
    exact this

/-! ## Descriptions -/
def ctri (x : ClassD × Value) : Value × Value × Value := (.string x.1.nm, x.2, .int .i64 x.1.pl)
def stri (x : ShapeD × Value) : Value × Value × Value := (x.2, .int .i64 x.1.first, .int .i64 x.1.pl)
/-- A slice of classes. -/
def ClsV (w : World) (B : Nat) (v : Value) (l : List ClassD) : Prop :=
  ∃ (p : List (ClassD × Value)) (A : Option Addr) (c : Nat), p.map Prod.fst = l ∧ v = .slice A p.length c ∧ p.length ≤ c ∧ c ≤ 9223372036854775807 ∧ p.length ≤ 1048576 ∧ Reads w B 3 A p.length (tris ctri p) ∧ ∀ x ∈ p, ItemsV w B x.2 x.1.its ∧ x.1.nm.size ≤ 1048576
/-- A slice of shapes. -/
def ShsV (w : World) (B : Nat) (v : Value) (l : List ShapeD) : Prop :=
  ∃ (p : List (ShapeD × Value)) (A : Option Addr) (c : Nat), p.map Prod.fst = l ∧ v = .slice A p.length c ∧ p.length ≤ c ∧ c ≤ 9223372036854775807 ∧ p.length ≤ 1048576 ∧ Reads w B 3 A p.length (tris stri p) ∧ ∀ x ∈ p, ItemsV w B x.2 x.1.its ∧ -9223372036854775808 ≤ x.1.first ∧ x.1.first ≤ 9223372036854775807
/-- A description. -/
def DescV (w : World) (B : Nat) (v : Value) (d : DescD) : Prop := ∃ vc vs, v = .agg #[vc, vs] ∧ ClsV w B vc d.cls ∧ ShsV w B vs d.shs

theorem ItemsV.keep {w w' : World} {B B' : Nat} {v : Value} {l : List ItemD} (h : ItemsV w B v l) (hB : B ≤ B') (hk : ∀ p : Addr, p.block < B → w'.cell? p = w.cell? p) : ItemsV w' B' v l := by
  obtain ⟨A, c, e, h1, h2, h3, h4, h5⟩ := h
  exact ⟨A, c, e, h1, h2, h3, (h4.keep hk).more hB, h5⟩
theorem ClsV.keep {w w' : World} {B B' : Nat} {v : Value} {l : List ClassD} (h : ClsV w B v l) (hB : B ≤ B') (hk : ∀ p : Addr, p.block < B → w'.cell? p = w.cell? p) : ClsV w' B' v l := by
  obtain ⟨p, A, c, e0, e, h1, h2, h3, h4, h5⟩ := h
  exact ⟨p, A, c, e0, e, h1, h2, h3, (h4.keep hk).more hB, fun x hx => ⟨(h5 x hx).1.keep hB hk, (h5 x hx).2⟩⟩
theorem ShsV.keep {w w' : World} {B B' : Nat} {v : Value} {l : List ShapeD} (h : ShsV w B v l) (hB : B ≤ B') (hk : ∀ p : Addr, p.block < B → w'.cell? p = w.cell? p) : ShsV w' B' v l := by
  obtain ⟨p, A, c, e0, e, h1, h2, h3, h4, h5⟩ := h
  exact ⟨p, A, c, e0, e, h1, h2, h3, (h4.keep hk).more hB, fun x hx => ⟨(h5 x hx).1.keep hB hk, (h5 x hx).2⟩⟩
theorem DescV.keep {w w' : World} {B B' : Nat} {v : Value} {d : DescD} (h : DescV w B v d) (hB : B ≤ B') (hk : ∀ p : Addr, p.block < B → w'.cell? p = w.cell? p) : DescV w' B' v d := by
  obtain ⟨vc, vs, e, h1, h2⟩ := h
  exact ⟨vc, vs, e, h1.keep hB hk, h2.keep hB hk⟩
theorem ItemsV.below {w w' : World} {B : Nat} {v : Value} {l : List ItemD} (h : ItemsV w B v l) (hk : Below B w w') : ItemsV w' B v l := h.keep (Nat.le_refl _) fun _ hp => hk.cell hp
theorem ItemsV.k0 {w w' : World} {B : Nat} {v : Value} {l : List ItemD} (h : ItemsV w B v l) (hB : B ≤ w.heap.size) (hk : K0 w w') : ItemsV w' B v l := h.keep (Nat.le_refl _) fun _ hp => hk.cell (by omega) (fun h => h)
theorem DescV.k0 {w w' : World} {B : Nat} {v : Value} {d : DescD} (h : DescV w B v d) (hB : B ≤ w.heap.size) (hk : K0 w w') : DescV w' B v d := h.keep (Nat.le_refl _) fun _ hp => hk.cell (by omega) (fun h => h)
theorem DescV.below {w w' : World} {B : Nat} {v : Value} {d : DescD} (h : DescV w B v d) (hk : Below B w w') : DescV w' B v d := h.keep (Nat.le_refl _) fun _ hp => hk.cell hp

/-! ## Decimal -/
end Go.Proofs.YtobofhiakgohfaaGreatDoor
