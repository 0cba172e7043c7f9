/- Sets in memory: lists of pairs; one type's as another's. sets.Valid, sets.Size; a list as a set; sizes. The sort of pieces: what a row holds behind it. sets.Meet; the scalars' Meet. -/
import Derived.Test.YtobofhiakgohfaaGreatDoorZD
import Derived.Test.YtobofhiakgohfaaGreatDoorZE
import Derived.Test.YtobofhiakgohfaaGreatDoorZP
import Derived.Test.YtobofhiakgohfaaGreatDoorZX
import Derived.Shelf.SlSortCmp.WholeK
set_option linter.unusedVariables false
set_option linter.unusedSimpArgs false
namespace Go.Proofs.YtobofhiakgohfaaGreatDoor
open Go.RowKit

def spc (s : Sp) : List Value := [.int .i64 s.1, .int .i64 s.2]
def spcs (l : List Sp) : List Value := l.flatMap spc
theorem spcs_length (l : List Sp) : (spcs l).length = l.length * 2 := by
  induction l with
  | nil => rfl
  | cons a t ih => simp only [spcs, List.flatMap_cons, List.length_append, List.length_cons] at ih ⊢; rw [ih]; simp [spc]; omega
theorem spcs_append (a b : List Sp) : spcs (a ++ b) = spcs a ++ spcs b := by simp [spcs]
theorem spcs_get : ∀ (l : List Sp) (j : Nat) (t : Sp), l[j]? = some t → (spcs l)[j * 2]? = some (.int .i64 t.1) ∧ (spcs l)[j * 2 + 1]? = some (.int .i64 t.2)
  | [], j, t, h => by simp at h
  | a :: r, 0, t, h => by simp at h; subst h; exact ⟨rfl, rfl⟩
  | a :: r, j + 1, t, h => by
    have ih := spcs_get r j t (by simpa using h)
    have e : ∀ i, (spcs (a :: r))[i + 2]? = (spcs r)[i]? := fun i => by
      show (spc a ++ spcs r)[i + 2]? = _
      rw [List.getElem?_append_right (by simp [spc])]
      simp [spc]
    rw [show (j + 1) * 2 = j * 2 + 2 by omega, show j * 2 + 2 + 1 = (j * 2 + 1) + 2 by omega, e, e]
    exact ih
theorem spcs_one (l : List Sp) : ∀ u ∈ spcs l, u.oneCell' = true := by
  intro u hu
  simp only [spcs, List.mem_flatMap, spc] at hu
  obtain ⟨t, _, h⟩ := hu
  simp at h
  rcases h with rfl | rfl <;> rfl
theorem spcs_inj : ∀ {l m : List Sp}, spcs l = spcs m → l = m
  | [], [], _ => rfl
  | [], _ :: _, h => by simp [spcs, spc] at h
  | _ :: _, [], h => by simp [spcs, spc] at h
  | (a, b) :: l, (c, d) :: m, h => by
    simp only [spcs, List.flatMap_cons, spc, List.cons_append, List.nil_append, List.cons.injEq, Value.int.injEq, true_and] at h
    rw [h.1, h.2.1, spcs_inj h.2.2]
theorem Reads.sp {w : World} {B : Nat} {A : Option Addr} {l : List Sp} (h : Reads w B 2 A l.length (spcs l)) {j : Nat} (hj : j < l.length) :
    ∃ ad, A = some ad ∧ ad.block < B ∧ w.cell? (ad.add (j * 2)) = some (.int .i64 l[j].1) ∧ w.cell? ⟨(ad.add (j * 2)).block, (ad.add (j * 2)).off + 1, none⟩ = some (.int .i64 l[j].2) := by
  obtain ⟨ad, e, hb, hc⟩ := h.2 (by omega)
  obtain ⟨h0, h1⟩ := spcs_get l j _ (List.getElem?_eq_getElem hj)
  refine ⟨ad, e, hb, hc _ _ h0, ?_⟩
  have := hc _ _ h1
  rw [← add_of_add, add_one] at this
  exact this
theorem take_snocS (l : List Sp) {q : Nat} (h : q < l.length) : l.take (q + 1) = l.take q ++ [l[q]] := by rw [List.take_succ_eq_append_getElem h]
theorem info61 : (Tryz.prog.info? 61).map (fun i => (i.zero, i.size, i.bytes)) = some (some (.agg #[.int .i64 0, .int .i64 0]), 2, 16) := by kernel_rfl
theorem info107 : (Tryz.prog.info? 107).map (fun i => (i.zero, i.size, i.bytes)) = some (some (.agg #[.int .i64 0, .int .i64 0]), 2, 16) := by kernel_rfl
theorem info163 : (Tryz.prog.info? 163).map (fun i => (i.zero, i.size, i.bytes)) = some (some (.agg #[.int .i64 0, .int .i64 0]), 2, 16) := by kernel_rfl

/-- A list of pairs in memory of the call's own is answered. -/
def SpPost (t : TypeId) (l : List Sp) (w : World) (e : Ending) (w' : World) : Prop := ∃ A c, e = .returned (.slice A l.length c) ∧ w'.ownsRow w.heap.size t 2 (.slice A l.length c) l.length (spcs l) ∧ K0 w w'

set_option maxRecDepth 100000 in
set_option maxHeartbeats 2000000 in
theorem to_99 (w : World) (A : Option Addr) (c : Nat) (l : List Sp) (hr : Reads w w.heap.size 2 A l.length (spcs l)) (hl : l.length ≤ 4194304) :
    Calls Tryz.prog 99 #[.slice A l.length c] w (SpPost 163 l w) := by
  obtain ⟨i0, hi, hz0, hz1, hz2⟩ := info_parts info163
  have HR := Lib.hid hr
  clear hr
  go_enter Tryz.func99, Tryz.ntmps99
  go_wp2_with (at_make; refine wpList_make_own _ rfl _ _ 133 rfl w.heap.size 163 i0 _ 2 Tryz.underlying133 hi hz0 hz1 .i64 .i64 (l.length : Int) l.length rfl rfl rfl (by rw [hz2]; omega) (by simp only [maxLen]; omega) (Nat.le_refl _) ?_; intro w1 ho1 hg1)
  have hk1 : K0 w w1 := (Kp.refl _ _).grown hg1 (fun k h => by cases h)
  clear hg1
  go_loopw [3, 11] (fun out i wr => ∃ q : Nat, q ≤ l.length ∧ i = .int .i64 (q : Int) ∧ wr.ownsRow w.heap.size 163 2 out q (spcs (l.take q)) ∧ K0 w wr) (fun out i wr => l.length - (intOf i).toNat)
  case atStart => exact ⟨0, by omega, rfl, ho1, hk1⟩
  clear hk1
  case round =>
    obtain ⟨q, hq, rfl, ho, hk⟩ := hrel
    obtain ⟨Ao, co, rfl, _, _⟩ := own_form ho
    by_cases hlt : q < l.length
    · obtain ⟨ad, rfl, hb, x0, x1⟩ := (HR.out.k0 (Nat.le_refl _) hk).sp hlt
      have HT := Lib.hid (take_snocS l hlt)
      generalize l[q] = s at x0 x1 HT
      obtain ⟨lo, hi'⟩ := s
      simp only [] at x0 x1
      have hs := hk.size
      go_wp2_with (at_builtin; refine wpList_append_any _ rfl (.tmp 15) (.tmp 17) _ rfl w.heap.size 163 i0 _ 2 16 Tryz.underlying133 hi hz0 hz1 hz2 rfl (by omega) (.slice Ao q co) q (spcs (l.take q)) rfl (by exact (ho.alloc _).alloc _) (wr.heap.size + 1 + 1) (some ⟨wr.heap.size + 1, 0, none⟩) 1 1 [.int .i64 lo, .int .i64 hi'] rfl (by have := reads_new (wr.alloc (.cells #[.int .i64 lo, .int .i64 hi'] 61)) 163 #[.int .i64 lo, .int .i64 hi'] 1 2 rfl; simpa using this) (by simp [Value.oneCell']) (by simp only [maxLen]; omega) (by omega) (by simp; omega) ?_; intro v2 w2 ho2 hg2 hat2)
      refine ⟨⟨q + 1, by omega, by go_num, ?_, ?_⟩, by simp [intOf]; omega⟩
      · rw [HT.out, spcs_append]
        exact ho2
      · exact ((hk.alloc _).alloc _).grown hg2 (fun b hb => .inl (ho.lt b hb).1)
    · obtain rfl : q = l.length := by omega
      rw [List.take_length] at ho
      go_wp2
      go_ret
      exact ⟨_, _, rfl, ho, hk⟩

set_option maxRecDepth 100000 in
set_option maxHeartbeats 2000000 in
theorem to_132 (w : World) (A : Option Addr) (c : Nat) (l : List Sp) (hr : Reads w w.heap.size 2 A l.length (spcs l)) (hl : l.length ≤ 4194304) :
    Calls Tryz.prog 132 #[.slice A l.length c] w (SpPost 61 l w) := by
  obtain ⟨i0, hi, hz0, hz1, hz2⟩ := info_parts info61
  have HR := Lib.hid hr
  clear hr
  go_enter Tryz.func132, Tryz.ntmps132
  go_wp2_with (at_make; refine wpList_make_own _ rfl _ _ 62 rfl w.heap.size 61 i0 _ 2 Tryz.underlying62 hi hz0 hz1 .i64 .i64 (l.length : Int) l.length rfl rfl rfl (by rw [hz2]; omega) (by simp only [maxLen]; omega) (Nat.le_refl _) ?_; intro w1 ho1 hg1)
  have hk1 : K0 w w1 := (Kp.refl _ _).grown hg1 (fun k h => by cases h)
  clear hg1
  go_loopw [3, 11] (fun out i wr => ∃ q : Nat, q ≤ l.length ∧ i = .int .i64 (q : Int) ∧ wr.ownsRow w.heap.size 61 2 out q (spcs (l.take q)) ∧ K0 w wr) (fun out i wr => l.length - (intOf i).toNat)
  case atStart => exact ⟨0, by omega, rfl, ho1, hk1⟩
  clear hk1
  case round =>
    obtain ⟨q, hq, rfl, ho, hk⟩ := hrel
    obtain ⟨Ao, co, rfl, _, _⟩ := own_form ho
    by_cases hlt : q < l.length
    · obtain ⟨ad, rfl, hb, x0, x1⟩ := (HR.out.k0 (Nat.le_refl _) hk).sp hlt
      have HT := Lib.hid (take_snocS l hlt)
      generalize l[q] = s at x0 x1 HT
      obtain ⟨lo, hi'⟩ := s
      simp only [] at x0 x1
      have hs := hk.size
      go_wp2_with (at_builtin; refine wpList_append_any _ rfl (.tmp 15) (.tmp 17) _ rfl w.heap.size 61 i0 _ 2 16 Tryz.underlying62 hi hz0 hz1 hz2 rfl (by omega) (.slice Ao q co) q (spcs (l.take q)) rfl (by exact (ho.alloc _).alloc _) (wr.heap.size + 1 + 1) (some ⟨wr.heap.size + 1, 0, none⟩) 1 1 [.int .i64 lo, .int .i64 hi'] rfl (by have := reads_new (wr.alloc (.cells #[.int .i64 lo, .int .i64 hi'] 163)) 61 #[.int .i64 lo, .int .i64 hi'] 1 2 rfl; simpa using this) (by simp [Value.oneCell']) (by simp only [maxLen]; omega) (by omega) (by simp; omega) ?_; intro v2 w2 ho2 hg2 hat2)
      refine ⟨⟨q + 1, by omega, by go_num, ?_, ?_⟩, by simp [intOf]; omega⟩
      · rw [HT.out, spcs_append]
        exact ho2
      · exact ((hk.alloc _).alloc _).grown hg2 (fun b hb => .inl (ho.lt b hb).1)
    · obtain rfl : q = l.length := by omega
      rw [List.take_length] at ho
      go_wp2
      go_ret
      exact ⟨_, _, rfl, ho, hk⟩

set_option maxRecDepth 100000 in
set_option maxHeartbeats 2000000 in
theorem to_102 (w : World) (A : Option Addr) (c : Nat) (l : List Sp) (hr : Reads w w.heap.size 2 A l.length (spcs l)) (hl : l.length ≤ 4194304) :
    Calls Tryz.prog 102 #[.slice A l.length c] w (SpPost 107 l w) := by
  obtain ⟨i0, hi, hz0, hz1, hz2⟩ := info_parts info107
  have HR := Lib.hid hr
  clear hr
  go_enter Tryz.func102, Tryz.ntmps102
  go_wp2_with (at_make; refine wpList_make_own _ rfl _ _ 81 rfl w.heap.size 107 i0 _ 2 Tryz.underlying81 hi hz0 hz1 .i64 .i64 (l.length : Int) l.length rfl rfl rfl (by rw [hz2]; omega) (by simp only [maxLen]; omega) (Nat.le_refl _) ?_; intro w1 ho1 hg1)
  have hk1 : K0 w w1 := (Kp.refl _ _).grown hg1 (fun k h => by cases h)
  clear hg1
  go_loopw [3, 11] (fun out i wr => ∃ q : Nat, q ≤ l.length ∧ i = .int .i64 (q : Int) ∧ wr.ownsRow w.heap.size 107 2 out q (spcs (l.take q)) ∧ K0 w wr) (fun out i wr => l.length - (intOf i).toNat)
  case atStart => exact ⟨0, by omega, rfl, ho1, hk1⟩
  clear hk1
  case round =>
    obtain ⟨q, hq, rfl, ho, hk⟩ := hrel
    obtain ⟨Ao, co, rfl, _, _⟩ := own_form ho
    by_cases hlt : q < l.length
    · obtain ⟨ad, rfl, hb, x0, x1⟩ := (HR.out.k0 (Nat.le_refl _) hk).sp hlt
      have HT := Lib.hid (take_snocS l hlt)
      generalize l[q] = s at x0 x1 HT
      obtain ⟨lo, hi'⟩ := s
      simp only [] at x0 x1
      have hs := hk.size
      go_wp2_with (at_builtin; refine wpList_append_any _ rfl (.tmp 15) (.tmp 17) _ rfl w.heap.size 107 i0 _ 2 16 Tryz.underlying81 hi hz0 hz1 hz2 rfl (by omega) (.slice Ao q co) q (spcs (l.take q)) rfl (by exact (ho.alloc _).alloc _) (wr.heap.size + 1 + 1) (some ⟨wr.heap.size + 1, 0, none⟩) 1 1 [.int .i64 lo, .int .i64 hi'] rfl (by have := reads_new (wr.alloc (.cells #[.int .i64 lo, .int .i64 hi'] 163)) 107 #[.int .i64 lo, .int .i64 hi'] 1 2 rfl; simpa using this) (by simp [Value.oneCell']) (by simp only [maxLen]; omega) (by omega) (by simp; omega) ?_; intro v2 w2 ho2 hg2 hat2)
      refine ⟨⟨q + 1, by omega, by go_num, ?_, ?_⟩, by simp [intOf]; omega⟩
      · rw [HT.out, spcs_append]
        exact ho2
      · exact ((hk.alloc _).alloc _).grown hg2 (fun b hb => .inl (ho.lt b hb).1)
    · obtain rfl : q = l.length := by omega
      rw [List.take_length] at ho
      go_wp2
      go_ret
      exact ⟨_, _, rfl, ho, hk⟩

set_option maxRecDepth 100000 in
set_option maxHeartbeats 2000000 in
theorem to_103 (w : World) (A : Option Addr) (c : Nat) (l : List Sp) (hr : Reads w w.heap.size 2 A l.length (spcs l)) (hl : l.length ≤ 4194304) :
    Calls Tryz.prog 103 #[.slice A l.length c] w (SpPost 163 l w) := by
  obtain ⟨i0, hi, hz0, hz1, hz2⟩ := info_parts info163
  have HR := Lib.hid hr
  clear hr
  go_enter Tryz.func103, Tryz.ntmps103
  go_wp2_with (at_make; refine wpList_make_own _ rfl _ _ 133 rfl w.heap.size 163 i0 _ 2 Tryz.underlying133 hi hz0 hz1 .i64 .i64 (l.length : Int) l.length rfl rfl rfl (by rw [hz2]; omega) (by simp only [maxLen]; omega) (Nat.le_refl _) ?_; intro w1 ho1 hg1)
  have hk1 : K0 w w1 := (Kp.refl _ _).grown hg1 (fun k h => by cases h)
  clear hg1
  go_loopw [3, 11] (fun out i wr => ∃ q : Nat, q ≤ l.length ∧ i = .int .i64 (q : Int) ∧ wr.ownsRow w.heap.size 163 2 out q (spcs (l.take q)) ∧ K0 w wr) (fun out i wr => l.length - (intOf i).toNat)
  case atStart => exact ⟨0, by omega, rfl, ho1, hk1⟩
  clear hk1
  case round =>
    obtain ⟨q, hq, rfl, ho, hk⟩ := hrel
    obtain ⟨Ao, co, rfl, _, _⟩ := own_form ho
    by_cases hlt : q < l.length
    · obtain ⟨ad, rfl, hb, x0, x1⟩ := (HR.out.k0 (Nat.le_refl _) hk).sp hlt
      have HT := Lib.hid (take_snocS l hlt)
      generalize l[q] = s at x0 x1 HT
      obtain ⟨lo, hi'⟩ := s
      simp only [] at x0 x1
      have hs := hk.size
      go_wp2_with (at_builtin; refine wpList_append_any _ rfl (.tmp 15) (.tmp 17) _ rfl w.heap.size 163 i0 _ 2 16 Tryz.underlying133 hi hz0 hz1 hz2 rfl (by omega) (.slice Ao q co) q (spcs (l.take q)) rfl (by exact (ho.alloc _).alloc _) (wr.heap.size + 1 + 1) (some ⟨wr.heap.size + 1, 0, none⟩) 1 1 [.int .i64 lo, .int .i64 hi'] rfl (by have := reads_new (wr.alloc (.cells #[.int .i64 lo, .int .i64 hi'] 107)) 163 #[.int .i64 lo, .int .i64 hi'] 1 2 rfl; simpa using this) (by simp [Value.oneCell']) (by simp only [maxLen]; omega) (by omega) (by simp; omega) ?_; intro v2 w2 ho2 hg2 hat2)
      refine ⟨⟨q + 1, by omega, by go_num, ?_, ?_⟩, by simp [intOf]; omega⟩
      · rw [HT.out, spcs_append]
        exact ho2
      · exact ((hk.alloc _).alloc _).grown hg2 (fun b hb => .inl (ho.lt b hb).1)
    · obtain rfl : q = l.length := by omega
      rw [List.take_length] at ho
      go_wp2
      go_ret
      exact ⟨_, _, rfl, ho, hk⟩

end Go.Proofs.YtobofhiakgohfaaGreatDoor

namespace Go.Proofs.YtobofhiakgohfaaGreatDoor
open Go.RowKit

theorem drop_consS (l : List Sp) {q : Nat} (h : q < l.length) : l.drop q = l[q] :: l.drop (q + 1) := List.drop_eq_getElem_cons h

set_option maxRecDepth 100000 in
set_option maxHeartbeats 2000000 in
theorem validS_any (w : World) (A : Option Addr) (c : Nat) (l : List Sp) (top : Int) (hr : Reads w w.heap.size 2 A l.length (spcs l)) (hl : l.length ≤ 4194304) (ht0 : 0 ≤ top) (ht : top ≤ 1073741823) :
    Calls Tryz.prog 98 #[.slice A l.length c, .int .i64 top] w fun e w' => e = .returned (.bool (okS top l)) ∧ K0 w w' := by
  have HR := Lib.hid hr
  clear hr
  obtain ⟨B, hB⟩ : ∃ B, B = okS top l := ⟨_, rfl⟩
  have HB := Lib.hid hB
  rw [← hB]
  have hB2 := hB
  unfold okS at hB2
  have HB2 := Lib.hid hB2
  clear hB hB2
  go_enter Tryz.func98, Tryz.ntmps98
  go_wp2
  go_loopw [5, 10] (fun la i wr => ∃ (q : Nat) (lv : Int), q ≤ l.length ∧ i = .int .i64 (q : Int) ∧ la = .int .i64 lv ∧ -2 ≤ lv ∧ lv ≤ top ∧ Hid (B = okF top lv (l.drop q)) ∧ K0 w wr) (fun la i wr => l.length - (intOf i).toNat)
  case atStart => exact ⟨0, -2, by omega, rfl, rfl, by omega, by omega, HB2, Kp.refl _ _⟩
  case round =>
    obtain ⟨q, lv, hq, rfl, rfl, hv1, hv2, hB, hk⟩ := hrel
    by_cases hlt : q < l.length
    · obtain ⟨ad, rfl, hb, x0, x1⟩ := (HR.out.k0 (Nat.le_refl _) hk).sp hlt
      have HD := Lib.hid (drop_consS l hlt)
      generalize l[q] = s at x0 x1 HD
      obtain ⟨lo, hi⟩ := s
      simp only [] at x0 x1
      have HF : ∀ b, okF top lv ((lo, hi) :: l.drop (q + 1)) = b → B = b := fun b h => by rw [hB.out, HD.out]; exact h
      have HFH := Lib.hid HF
      clear HF
      have bad : (¬ (0 ≤ lo ∧ lo ≤ hi ∧ hi ≤ top ∧ lv < lo - 1)) → B = false := fun h => HFH.out _ (by rw [okF, decide_eq_false h, Bool.false_and])
      by_cases h1 : lo < 0
      · have d1 : decide (lo < 0) = true := decide_eq_true h1
        obtain rfl := bad (by show ¬ (0 ≤ lo ∧ _); omega)
        clear bad h1
        go_wp2
        go_ret
        exact ⟨rfl, hk.alloc _⟩
      · have d1 : decide (lo < 0) = false := decide_eq_false h1
        by_cases h2 : hi < lo
        · have d2 : decide (hi < lo) = true := decide_eq_true h2
          obtain rfl := bad (by show ¬ (0 ≤ lo ∧ lo ≤ hi ∧ _); omega)
          clear bad h1
          go_wp2
          go_ret
          exact ⟨rfl, hk.alloc _⟩
        · have d2 : decide (hi < lo) = false := decide_eq_false h2
          by_cases h3 : top < hi
          · have d3 : decide (top < hi) = true := decide_eq_true h3
            obtain rfl := bad (by show ¬ (0 ≤ lo ∧ lo ≤ hi ∧ hi ≤ top ∧ _); omega)
            clear bad
            go_wp2
            go_ret
            exact ⟨rfl, hk.alloc _⟩
          · have d3 : decide (top < hi) = false := decide_eq_false h3
            have b0 : 0 ≤ lo := by omega
            have b1 : lo ≤ 1073741823 := by omega
            by_cases h4 : lo - 1 ≤ lv
            · have d4 : decide (lo - 1 ≤ lv) = true := decide_eq_true h4
              have d5 : decide (lo ≤ lv + 1) = true := decide_eq_true (by omega)
              obtain rfl := bad (by show ¬ (0 ≤ lo ∧ lo ≤ hi ∧ hi ≤ top ∧ lv < lo - 1); omega)
              clear bad
              go_wp2
              go_ret
              exact ⟨rfl, hk.alloc _⟩
            · have d4 : decide (lo - 1 ≤ lv) = false := decide_eq_false h4
              have d5 : decide (lo ≤ lv + 1) = false := decide_eq_false (by omega)
              clear bad
              go_wp2
              refine ⟨⟨q + 1, hi, by omega, by go_num, rfl, by omega, by omega, Lib.hid ?_, hk.alloc _⟩, by simp [intOf]; omega⟩
              refine HFH.out _ ?_
              rw [okF, decide_eq_true (show 0 ≤ lo ∧ lo ≤ hi ∧ hi ≤ top ∧ lv < lo - 1 by omega), Bool.true_and]
    · obtain rfl : q = l.length := by omega
      have hB := hB.out
      rw [List.drop_length] at hB
      have hB : B = true := hB
      subst hB
      clear HB HB2 HR
      go_wp2
      go_ret
      exact ⟨rfl, hk⟩

set_option maxRecDepth 100000 in
set_option maxHeartbeats 2000000 in
theorem sizeS_any (w : World) (A : Option Addr) (c : Nat) (l : List Sp) (top : Int) (hr : Reads w w.heap.size 2 A l.length (spcs l)) (hl : l.length ≤ 4194304) (ht : top ≤ 1073741823) (hok : okS top l = true) :
    Calls Tryz.prog 100 #[.slice A l.length c] w fun e w' => e = .returned (.int .i64 (sizeL l)) ∧ K0 w w' := by
  have HR := Lib.hid hr
  have HO := Lib.hid hok
  clear hr hok
  go_enter Tryz.func100, Tryz.ntmps100
  go_wp2
  go_loopw [3, 8] (fun nv i wr => ∃ (q : Nat) (n lv : Int), q ≤ l.length ∧ i = .int .i64 (q : Int) ∧ nv = .int .i64 n ∧ 0 ≤ n ∧ n ≤ lv + 2 ∧ -2 ≤ lv ∧ lv ≤ 1073741823 ∧ Hid (okF top lv (l.drop q) = true) ∧ Hid (sizeL l = n + sizeL (l.drop q)) ∧ K0 w wr) (fun nv i wr => l.length - (intOf i).toNat)
  case atStart => exact ⟨0, 0, -2, by omega, rfl, rfl, by omega, by omega, by omega, by omega, HO, Lib.hid (by simp), Kp.refl _ _⟩
  case round =>
    obtain ⟨q, n, lv, hq, rfl, rfl, hn1, hn2, hv1, hv2, hok, hsz, hk⟩ := hrel
    by_cases hlt : q < l.length
    · obtain ⟨ad, rfl, hb, x0, x1⟩ := (HR.out.k0 (Nat.le_refl _) hk).sp hlt
      have hd := drop_consS l hlt
      have hok := hok.out
      have hsz := hsz.out
      rw [hd] at hok hsz
      rw [sizeL_cons] at hsz
      obtain ⟨⟨k1, k2, k3, k4⟩, k5⟩ := okF_cons.1 hok
      clear hd hok
      generalize l[q] = s at x0 x1 k1 k2 k3 k4 k5 hsz
      obtain ⟨lo, hi⟩ := s
      simp only [] at x0 x1 k1 k2 k3 k4 k5 hsz
      have HK := Lib.hid k5
      have HS := Lib.hid (show sizeL l = n + (hi - lo + 1) + sizeL (l.drop (q + 1)) by omega)
      clear k5 hsz
      go_wp2
      exact ⟨⟨q + 1, n + (hi - lo + 1), hi, by omega, by go_num, rfl, by omega, by omega, by omega, by omega, HK, HS, hk.alloc _⟩, by simp [intOf]; omega⟩
    · obtain rfl : q = l.length := by omega
      have hs := hsz.out
      rw [List.drop_length, sizeL_nil, Int.add_zero] at hs
      have HZ := Lib.hid hs
      clear hs hok hsz HR HO
      go_wp2
      go_ret
      exact ⟨by rw [HZ.out]; rfl, hk⟩

/-- A list as a set: of a list that is none the empty one. -/
def setD (top : Int) (l : List Sp) : List Sp := if okS top l = true then l else []
theorem setD_ok (top : Int) (l : List Sp) : okS top (setD top l) = true := by
  unfold setD
  split
  · assumption
  · rfl
theorem setD_len (top : Int) (l : List Sp) : (setD top l).length ≤ l.length := by
  unfold setD
  split <;> simp
theorem setD_of {top : Int} {l : List Sp} (h : okS top l = true) : setD top l = l := by unfold setD; rw [if_pos h]
theorem szB_set (l : List Sp) : sizeL (setD 255 l) = szB l := by
  unfold szB setD
  split <;> rfl

set_option maxRecDepth 100000 in
set_option maxHeartbeats 2000000 in
theorem spset_any (w : World) (A : Option Addr) (c : Nat) (l : List Sp) (hr : Reads w w.heap.size 2 A l.length (spcs l)) (hl : l.length ≤ 4194304) :
    Calls Tryz.prog 101 #[.slice A l.length c] w (SpPost 163 (setD 255 l) w) := by
  have T := Lib.hid (to_99 w A c l hr hl)
  unfold SpPost at T
  have V := Lib.hid (fun W A c (h : Reads W W.heap.size 2 A l.length (spcs l)) => validS_any W A c l 255 h hl (by omega) (by omega))
  have HS : ∀ b, okS 255 l = b → setD 255 l = if b = true then l else [] := by
    intro b hb
    unfold setD
    rw [hb]
  generalize okS 255 l = b at V HS
  have HS := Lib.hid (HS b rfl)
  unfold SpPost
  generalize setD 255 l = r at HS
  clear hr
  go_enter Tryz.func101, Tryz.ntmps101
  go_wp2_with fail
  refine T.out.mono ?_
  rintro e w1 ⟨A1, c1, rfl, ho1, hk1⟩
  have V1 := Lib.hid (V.out w1 A1 c1 (Reads.of_own ho1))
  cases b with
  | false =>
    obtain rfl : r = [] := HS.out
    go_wp2_with fail
    refine V1.out.mono ?_
    rintro e w2 ⟨rfl, hk2⟩
    go_wp2
    go_ret
    exact ⟨none, 0, rfl, World.ownsRow_nil _ _ _ _, hk1.trans hk2⟩
  | true =>
    obtain rfl : r = l := HS.out
    go_wp2_with fail
    refine V1.out.mono ?_
    rintro e w2 ⟨rfl, hk2⟩
    go_wp2
    go_ret
    exact ⟨_, _, rfl, own_far ho1 hk2 (fun _ _ h => h), hk1.trans hk2⟩

set_option maxRecDepth 100000 in
set_option maxHeartbeats 2000000 in
theorem scset_any (w : World) (A : Option Addr) (c : Nat) (l : List Sp) (hr : Reads w w.heap.size 2 A l.length (spcs l)) (hl : l.length ≤ 4194304) :
    Calls Tryz.prog 77 #[.slice A l.length c] w (SpPost 163 (setD 1073741823 l) w) := by
  have T := Lib.hid (to_103 w A c l hr hl)
  unfold SpPost at T
  have V := Lib.hid (fun W A c (h : Reads W W.heap.size 2 A l.length (spcs l)) => validS_any W A c l 1073741823 h hl (by omega) (by omega))
  have HS : ∀ b, okS 1073741823 l = b → setD 1073741823 l = if b = true then l else [] := by
    intro b hb
    unfold setD
    rw [hb]
  generalize okS 1073741823 l = b at V HS
  have HS := Lib.hid (HS b rfl)
  unfold SpPost
  generalize setD 1073741823 l = r at HS
  clear hr
  go_enter Tryz.func77, Tryz.ntmps77
  go_wp2_with fail
  refine T.out.mono ?_
  rintro e w1 ⟨A1, c1, rfl, ho1, hk1⟩
  have V1 := Lib.hid (V.out w1 A1 c1 (Reads.of_own ho1))
  cases b with
  | false =>
    obtain rfl : r = [] := HS.out
    go_wp2_with fail
    refine V1.out.mono ?_
    rintro e w2 ⟨rfl, hk2⟩
    go_wp2
    go_ret
    exact ⟨none, 0, rfl, World.ownsRow_nil _ _ _ _, hk1.trans hk2⟩
  | true =>
    obtain rfl : r = l := HS.out
    go_wp2_with fail
    refine V1.out.mono ?_
    rintro e w2 ⟨rfl, hk2⟩
    go_wp2
    go_ret
    exact ⟨_, _, rfl, own_far ho1 hk2 (fun _ _ h => h), hk1.trans hk2⟩

set_option maxRecDepth 100000 in
theorem spback_any (w : World) (A : Option Addr) (c : Nat) (l : List Sp) (hr : Reads w w.heap.size 2 A l.length (spcs l)) (hl : l.length ≤ 4194304) :
    Calls Tryz.prog 112 #[.slice A l.length c] w (SpPost 61 l w) := by
  have T := Lib.hid (to_132 w A c l hr hl)
  unfold SpPost at T ⊢
  clear hr
  go_enter Tryz.func112, Tryz.ntmps112
  go_wp2_with fail
  refine T.out.mono ?_
  rintro e w1 ⟨A1, c1, rfl, ho1, hk1⟩
  go_wp2
  go_ret
  exact ⟨_, _, rfl, ho1, hk1⟩

set_option maxRecDepth 100000 in
theorem scback_any (w : World) (A : Option Addr) (c : Nat) (l : List Sp) (hr : Reads w w.heap.size 2 A l.length (spcs l)) (hl : l.length ≤ 4194304) :
    Calls Tryz.prog 75 #[.slice A l.length c] w (SpPost 107 l w) := by
  have T := Lib.hid (to_102 w A c l hr hl)
  unfold SpPost at T ⊢
  clear hr
  go_enter Tryz.func75, Tryz.ntmps75
  go_wp2_with fail
  refine T.out.mono ?_
  rintro e w1 ⟨A1, c1, rfl, ho1, hk1⟩
  go_wp2
  go_ret
  exact ⟨_, _, rfl, ho1, hk1⟩

set_option maxRecDepth 100000 in
theorem spvalid_any (w : World) (A : Option Addr) (c : Nat) (l : List Sp) (hr : Reads w w.heap.size 2 A l.length (spcs l)) (hl : l.length ≤ 4194304) :
    Calls Tryz.prog 73 #[.slice A l.length c] w fun e w' => e = .returned (.bool (okS 255 l)) ∧ K0 w w' := by
  have T := Lib.hid (to_99 w A c l hr hl)
  unfold SpPost at T
  have V := Lib.hid (fun W A c (h : Reads W W.heap.size 2 A l.length (spcs l)) => validS_any W A c l 255 h hl (by omega) (by omega))
  generalize okS 255 l = b at V ⊢
  clear hr
  go_enter Tryz.func73, Tryz.ntmps73
  go_wp2_with fail
  refine T.out.mono ?_
  rintro e w1 ⟨A1, c1, rfl, ho1, hk1⟩
  have V1 := Lib.hid (V.out w1 A1 c1 (Reads.of_own ho1))
  go_wp2_with fail
  refine V1.out.mono ?_
  rintro e w2 ⟨rfl, hk2⟩
  go_wp2
  go_ret
  exact ⟨rfl, hk1.trans hk2⟩

set_option maxRecDepth 100000 in
theorem spsize_any (w : World) (A : Option Addr) (c : Nat) (l : List Sp) (hr : Reads w w.heap.size 2 A l.length (spcs l)) (hl : l.length ≤ 4194304) :
    Calls Tryz.prog 74 #[.slice A l.length c] w fun e w' => e = .returned (.int .i64 (szB l)) ∧ K0 w w' := by
  have T := Lib.hid (spset_any w A c l hr hl)
  unfold SpPost at T
  have Z := Lib.hid (fun W A c (h : Reads W W.heap.size 2 A (setD 255 l).length (spcs (setD 255 l))) => sizeS_any W A c (setD 255 l) 255 h (by have := setD_len 255 l; omega) (by omega) (setD_ok 255 l))
  rw [szB_set] at Z
  generalize szB l = z at Z ⊢
  generalize setD 255 l = r at T Z
  clear hr
  go_enter Tryz.func74, Tryz.ntmps74
  go_wp2_with fail
  refine T.out.mono ?_
  rintro e w1 ⟨A1, c1, rfl, ho1, hk1⟩
  have Z1 := Lib.hid (Z.out w1 A1 c1 (Reads.of_own ho1))
  go_wp2_with fail
  refine Z1.out.mono ?_
  rintro e w2 ⟨rfl, hk2⟩
  go_wp2
  go_ret
  exact ⟨rfl, hk1.trans hk2⟩
end Go.Proofs.YtobofhiakgohfaaGreatDoor

namespace Go.Proofs.YtobofhiakgohfaaGreatDoor
open Go.RowKit Go.Sort

theorem flat_get (d : Array Sp) : (flatK spc 2 d).toList = spcs d.toList := by
  apply List.ext_getElem?
  intro t
  by_cases ht : t < d.size * 2
  · have h1 := get_flatK spc 2 d t ht
    rw [getElem!_pos _ t (by simpa using ht)] at h1
    rw [Array.getElem?_toList, Array.getElem?_eq_getElem (by simpa using ht), h1]
    have hq : t / 2 < d.size := by omega
    have hd : d[t / 2]! = d[t / 2] := getElem!_pos d (t / 2) hq
    rw [hd]
    obtain ⟨g0, g1⟩ := spcs_get d.toList (t / 2) d[t / 2] (by rw [Array.getElem?_toList, Array.getElem?_eq_getElem hq])
    rcases Nat.mod_two_eq_zero_or_one t with h | h
    · have e : t = t / 2 * 2 := by omega
      rw [h]
      conv => rhs; rw [e]
      rw [g0]; rfl
    · have e : t = t / 2 * 2 + 1 := by omega
      rw [h]
      conv => rhs; rw [e]
      rw [g1]; rfl
  · rw [List.getElem?_eq_none (by simp; omega), List.getElem?_eq_none (by rw [spcs_length]; simp; omega)]

/-- A row that is owned is held, as the sort wants it. -/
theorem holds_own {w : World} {base g c : Nat} {l : List Sp} (h : w.ownsRow base 163 2 (.slice (some ⟨g, 0, none⟩) l.length c) l.length (spcs l)) : HoldsK spc 2 w g 0 l.toArray := by
  intro j hj
  have hj' : j < l.length * 2 := by simpa using hj
  have hc := h.cellAt j hj'
  have hf := h.frozenAt j
  rw [Nat.zero_add]
  refine ⟨?_, hf⟩
  rw [hc, ← flat_get l.toArray, Array.getElem?_toList, Array.getElem?_eq_getElem (by simpa using hj'), getElem!_pos _ j (by simpa using hj')]
  rfl

/-- Behind the sort the row is owned with what it holds then. -/
theorem sort_own {w : World} {base g c n : Nat} {l : List Sp} {d : Array Sp} {os : Array Obj} (h : w.ownsRow base 163 2 (.slice (some ⟨g, 0, none⟩) l.length c) l.length (spcs l)) (hd : d.size = l.length) :
    (sortWorldK spc 2 w g 0 n d os).ownsRow base 163 2 (.slice (some ⟨g, 0, none⟩) l.length c) l.length (spcs d.toList) ∧ Kp (fun k => k = g) w (sortWorldK spc 2 w g 0 n d os) := by
  rcases h.2 with ⟨h', _⟩ | ⟨g', cap, cur, hv, hg, hh, h1, h2, h3, h4⟩
  · cases h'
  · cases hv
    have hlt : g < w.heap.size := (Array.getElem?_eq_some_iff.1 hh).1
    have hblk : ∀ k, k < w.heap.size → (sortWorldK spc 2 w g 0 n d os).heap[k]? = if g = k then (w.heap[k]?).map (onCells (putCells id 0 (flatK spc 2 d))) else w.heap[k]? := by
      intro k hk
      unfold sortWorldK putRowK
      rw [heap_grow_old _ _ (by show k < (w.heap.modify g _).size; simpa using hk)]
      show (w.heap.modify g _)[k]? = _
      rw [Array.getElem?_modify]
    have hg' : (sortWorldK spc 2 w g 0 n d os).heap[g]? = some (.cells (putCells id 0 (flatK spc 2 d) cur) 163 (0, 0)) := by
      rw [hblk g hlt, if_pos rfl, hh]
      rfl
    refine ⟨⟨by rw [spcs_length]; simp [hd], .inr ⟨g, c, _, rfl, hg, hg', h1, h2, by simp [putCells]; exact h3, ?_⟩⟩, ⟨rfl, rfl, rfl, size_sortWorldK_c _ _ _ _ _ _ _ _, fun k hk hne => by rw [hblk k hk, if_neg (fun e => hne e.symm)]⟩⟩
    rw [← flat_get d]
    apply List.ext_getElem?
    intro t
    by_cases ht : t < l.length * 2
    · have hcs : l.length * 2 ≤ cur.size := by rw [h3]; exact Nat.mul_le_mul_right _ h1
      rw [List.getElem?_take, if_pos ht, Array.getElem?_toList, Array.getElem?_toList]
      have hf : t < (flatK spc 2 d).size := by simp [hd]; exact ht
      simp only [putCells, Array.getElem?_mapIdx]
      rw [Array.getElem?_eq_getElem (by omega), Array.getElem?_eq_getElem hf, Option.map_some, if_pos ⟨by omega, by omega⟩, Nat.sub_zero, getElem!_pos _ t hf]
      rfl
    · rw [List.getElem?_take, if_neg ht, List.getElem?_eq_none (by simp [hd]; omega)]

theorem perm_all {d d' : Array Sp} (h : PermIn 0 d.size d d') : d'.toList.Perm d.toList ∧ d'.size = d.size := by
  obtain ⟨h1, _, h3⟩ := h
  have e1 : d'.extract 0 d.size = d' := by rw [← h1]; simp
  have e2 : d.extract 0 d.size = d := by simp
  rw [e1, e2] at h3
  exact ⟨h3, h1⟩
theorem lt_lo (x y : Sp) : ltOf (fun x y : Sp => Lib.compareInt x.1 y.1) x y = decide (x.1 < y.1) := by
  unfold ltOf Lib.compareInt
  by_cases h1 : x.1 < y.1
  · simp [h1]
  · by_cases h2 : y.1 < x.1 <;> simp [h1, h2]
theorem swo_lo : SWO (ltOf fun x y : Sp => Lib.compareInt x.1 y.1) where
  irrefl x := by rw [lt_lo]; simp
  trans x y z h1 h2 := by rw [lt_lo] at *; simp at *; omega
  ntrans x y z h1 h2 := by rw [lt_lo] at *; simp at *; omega
theorem rising_of {d : Array Sp} {n : Nat} (hn : d.size = n) (h : SortedIn (ltOf fun x y : Sp => Lib.compareInt x.1 y.1) 0 n d) : risingS d.toList := by
  unfold risingS
  rw [List.pairwise_iff_getElem]
  intro i j hi hj hij
  have hi' : i < d.size := by simpa using hi
  have hj' : j < d.size := by simpa using hj
  have := h i j (by omega) hij (by omega)
  rw [lt_lo, getElem!_pos d i hi', getElem!_pos d j hj', decide_eq_false_iff_not] at this
  rw [Array.getElem_toList, Array.getElem_toList]
  omega
end Go.Proofs.YtobofhiakgohfaaGreatDoor

namespace Go.Proofs.YtobofhiakgohfaaGreatDoor
open Go.RowKit

def slenS (v : Value) : Nat := match v with | .slice _ n _ => n | _ => 0
/-- .s[1:].. -/
theorem slice_one {P : Program} (t : TypeId) (sz : Nat) (a : Option Addr) (len cap : Nat) (ht : P.underlying t = some (.slice (P.elem t))) (hs : ∀ W : World, (sizeOf (P.elem t)).run P W = .ok sz W) (h1 : 1 ≤ len) (h2 : len ≤ cap) :
    ∃ A', A' = (if cap = 1 then a else a.map (·.add (1 * sz))) ∧ ∀ W : World, (Instr.sliceAt t (.slice a len cap) (some (.int .i64 1)) none none).run P W = .ok (.slice A' (len - 1) (cap - 1)) W := by
  refine ⟨_, rfl, fun W => ?_⟩
  rw [run_sliceAt_slice (h := ht), run_slice_l (ht := ht) (h0 := by omega) (h1 := by omega), hs]
  rfl
theorem Reads.sp1 {w : World} {B c : Nat} {A A' : Option Addr} {x : Sp} {l : List Sp} (h : Reads w B 2 A (l.length + 1) (spcs (x :: l))) (hc : l.length + 1 ≤ c) (hA : A' = (if c = 1 then A else A.map (·.add (1 * 2)))) : Reads w B 2 A' l.length (spcs l) := by
  have := h.cut (k := 1) (cap := c) (by omega) hc
  subst hA
  exact this
theorem Reads.sp0 {w : World} {B : Nat} {A : Option Addr} {x : Sp} {l : List Sp} (h : Reads w B 2 A (l.length + 1) (spcs (x :: l))) :
    ∃ ad, A = some ad ∧ ad.block < B ∧ w.cell? ad = some (.int .i64 x.1) ∧ w.cell? ⟨ad.block, ad.off + 1, none⟩ = some (.int .i64 x.2) := by
  obtain ⟨ad, e, hb, hc⟩ := h.2 (by omega)
  exact ⟨ad, e, hb, hc 0 _ rfl, hc 1 _ rfl⟩

set_option maxRecDepth 100000 in
set_option maxHeartbeats 4000000 in
theorem meetS_any (w : World) (A A2 : Option Addr) (c c2 : Nat) (a b : List Sp) (ha : Reads w w.heap.size 2 A a.length (spcs a)) (hb : Reads w w.heap.size 2 A2 b.length (spcs b)) (hc : a.length ≤ c) (hc2 : b.length ≤ c2) (hm : c ≤ 9223372036854775807) (hm2 : c2 ≤ 9223372036854775807) (hl : a.length + b.length ≤ 4194304) :
    Calls Tryz.prog 76 #[.slice A a.length c, .slice A2 b.length c2] w (SpPost 163 (meetL a b) w) := by
  obtain ⟨i0, hi, hz0, hz1, hz2⟩ := info_parts info163
  have HM := Lib.hid (meetL_len a b)
  obtain ⟨M, hM⟩ : ∃ M, M = meetL a b := ⟨_, rfl⟩
  have HA := Lib.hid ha
  have HB := Lib.hid hb
  have HMM := Lib.hid hM
  have HMl := Lib.hid (show M.length ≤ 4194304 by rw [hM]; have := HM.out; omega)
  rw [← hM]
  clear hM HM ha hb
  unfold SpPost
  go_enter Tryz.func76, Tryz.ntmps76
  go_wp2
  go_loopw [0, 1, 5] (fun u v out wr => ∃ (a' b' o : List Sp) (A A2 : Option Addr) (c c2 : Nat), u = .slice A a'.length c ∧ v = .slice A2 b'.length c2 ∧ a'.length ≤ c ∧ b'.length ≤ c2 ∧ c ≤ 9223372036854775807 ∧ c2 ≤ 9223372036854775807 ∧ a'.length + b'.length ≤ 4194304 ∧ Hid (Reads wr w.heap.size 2 A a'.length (spcs a')) ∧ Hid (Reads wr w.heap.size 2 A2 b'.length (spcs b')) ∧
      Hid (M = o ++ meetL a' b') ∧ wr.ownsRow w.heap.size 163 2 out o.length (spcs o) ∧ K0 w wr) (fun u v out wr => slenS u + slenS v)
  case atStart => exact ⟨a, b, [], A, A2, c, c2, rfl, rfl, hc, hc2, hm, hm2, hl, HA, HB, HMM, World.ownsRow_nil _ _ _ _, Kp.refl _ _⟩
  clear HA HB HMM hc hc2 hm hm2 hl
  case round =>
    obtain ⟨a', b', o, A, A2, c, c2, rfl, rfl, hc, hc2, hm, hm2, hl, HA, HB, HMM, ho, hk⟩ := hrel
    obtain ⟨Ao, co, rfl, _, _⟩ := own_form ho
    cases a' with
    | nil =>
      have e := HMM.out
      rw [meetL, List.append_nil] at e
      subst e
      have d1 : (([] : List Sp).length : Int) = 0 := rfl
      simp only [List.length_nil]
      go_wp2
      go_ret
      exact ⟨_, _, rfl, ho, hk⟩
    | cons x ta =>
      cases b' with
      | nil =>
        have e := HMM.out
        rw [meetL, List.append_nil] at e
        subst e
        simp only [List.length_nil, List.length_cons]
        go_wp2
        go_ret
        exact ⟨_, _, rfl, ho, hk⟩
      | cons y tb =>
        simp only [List.length_cons] at hc hc2 hl HA HB ⊢
        obtain ⟨ad, rfl, hb1, x0, x1⟩ := Reads.sp0 HA.out
        obtain ⟨ad2, rfl, hb2, y0, y1⟩ := Reads.sp0 HB.out
        obtain ⟨A', hA', sl⟩ := slice_one (P := Tryz.prog) 133 2 (some ad) (ta.length + 1) c Tryz.underlying133 (fun _ => rfl) (by omega) hc
        obtain ⟨A2', hA2', sl2⟩ := slice_one (P := Tryz.prog) 133 2 (some ad2) (tb.length + 1) c2 Tryz.underlying133 (fun _ => rfl) (by omega) hc2
        have R1 := Lib.hid (Reads.sp1 HA.out hc hA')
        have R2 := Lib.hid (Reads.sp1 HB.out hc2 hA2')
        clear hA' hA2'
        have e := HMM.out
        rw [meetL] at e
        have HE := Lib.hid e
        clear e HMM
        obtain ⟨xl, xh⟩ := x
        obtain ⟨yl, yh⟩ := y
        simp only [] at x0 x1 y0 y1
        go_wp2
        go_quiet (fail)
        generalize max xl yl = lo at *
        generalize min xh yh = hi' at *
        generalize hwq : wr.drewN nq = W at *
        have hk' : K0 w W := by rw [← hwq]; exact hk.drewN _
        have ho' : W.ownsRow w.heap.size 163 2 (.slice Ao o.length co) o.length (spcs o) := by rw [← hwq]; exact ho
        have kW : K0 wr W := by rw [← hwq]; exact (Kp.refl _ _).drewN _
        have x1' : W.cell? ⟨ad.block, ad.off + 1, none⟩ = some (.int .i64 xh) := by rw [← hwq]; exact x1
        have y1' : W.cell? ⟨ad2.block, ad2.off + 1, none⟩ = some (.int .i64 yh) := by rw [← hwq]; exact y1
        have bw := hk'.size
        have hws := hk.size
        have bx : ad.block < W.heap.size := by omega
        have by_ : ad2.block < W.heap.size := by omega
        clear hwq ho hk x0 x1 y0 y1
        have hzo : o.length ≤ 4194304 := by
          have := HMl.out
          rw [HE.out] at this
          simp only [List.length_append] at this
          omega
        by_cases h1 : lo ≤ hi'
        · have e := HE.out
          rw [if_pos h1] at e
          have HE2 := Lib.hid e
          clear e HE
          go_wp2_with (at_builtin; refine wpList_append_any _ rfl (.tmp 37) (.tmp 41) _ rfl w.heap.size 163 i0 _ 2 16 Tryz.underlying133 hi hz0 hz1 hz2 rfl (by omega) (.slice Ao o.length co) o.length (spcs o) rfl (by exact ho'.alloc _) (W.heap.size + 1) (some ⟨W.heap.size, 0, none⟩) 1 1 [.int .i64 lo, .int .i64 hi'] rfl (by have := reads_new W 163 #[.int .i64 lo, .int .i64 hi'] 1 2 rfl; simpa using this) (by simp [Value.oneCell']) (by simp only [maxLen]; omega) (by omega) (by simp; omega) ?_; intro v2 w2 ho2 hg2 hat2)
          have k2 : K0 w w2 := (hk'.alloc _).grown hg2 (fun b hb => .inl (ho'.lt b hb).1)
          have kW2W : Kp (fun k => (Value.slice Ao o.length co).ownBlock = some k) W w2 := ((Kp.refl _ _).alloc _).grown hg2 (fun b hb => .inr hb)
          have kW2 : Kp (fun k => (Value.slice Ao o.length co).ownBlock = some k) wr w2 := (K0.kp kW).trans kW2W
          have hS : ∀ b, b < w.heap.size → ¬ (Value.slice Ao o.length co).ownBlock = some b := fun b hb e => by have := (ho'.lt b e).1; omega
          have q0 : w2.cell? ⟨ad.block, ad.off + 1, none⟩ = some (.int .i64 xh) := (kW2W.cell (p := ⟨ad.block, ad.off + 1, none⟩) bx (hS _ hb1)).trans x1'
          have q1 : w2.cell? ⟨ad2.block, ad2.off + 1, none⟩ = some (.int .i64 yh) := (kW2W.cell (p := ⟨ad2.block, ad2.off + 1, none⟩) by_ (hS _ hb2)).trans y1'
          have lx : ad.block < w2.heap.size := by have := k2.size; omega
          have ly : ad2.block < w2.heap.size := by have := k2.size; omega
          have ho3 : w2.ownsRow w.heap.size 163 2 v2 (o ++ [(lo, hi')]).length (spcs (o ++ [(lo, hi')])) := by rw [spcs_append, List.length_append]; exact ho2
          have r1 := Lib.hid (R1.out.kp hws kW2 hS)
          have r2 := Lib.hid (R2.out.kp hws kW2 hS)
          have rA := Lib.hid (HA.out.kp hws kW2 hS)
          have rB := Lib.hid (HB.out.kp hws kW2 hS)
          have HE3 := HE2.out
          rw [← List.append_assoc] at HE3
          have HE4 := Lib.hid HE3
          clear HE3 HE2
          by_cases h2 : xh < yh
          · go_wp2
            go_quiet (fail)
            go_wp2
            refine ⟨⟨ta, (yl, yh) :: tb, o ++ [(lo, hi')], A', some ad2, c - 1, c2, rfl, rfl, by omega, by simp only [List.length_cons]; omega, by omega, by omega, by simp only [List.length_cons]; omega, r1, rB, ?_, ho3, k2.drewN _⟩, ?_⟩
            · have := HE4.out; rw [if_pos h2] at this; exact Lib.hid this
            · simp only [slenS]; omega
          · go_wp2
            go_quiet (fail)
            go_wp2
            refine ⟨⟨(xl, xh) :: ta, tb, o ++ [(lo, hi')], some ad, A2', c, c2 - 1, rfl, rfl, by simp only [List.length_cons]; omega, by omega, by omega, by omega, by simp only [List.length_cons]; omega, rA, r2, ?_, ho3, k2.drewN _⟩, ?_⟩
            · have := HE4.out; rw [if_neg (by omega)] at this; exact Lib.hid this
            · simp only [slenS]; omega
        · have e := HE.out
          rw [if_neg h1, List.nil_append] at e
          have HE4 := Lib.hid e
          clear e HE
          have r1 := Lib.hid (R1.out.kp hws kW (fun _ _ h => h))
          have r2 := Lib.hid (R2.out.kp hws kW (fun _ _ h => h))
          have rA := Lib.hid (HA.out.kp hws kW (fun _ _ h => h))
          have rB := Lib.hid (HB.out.kp hws kW (fun _ _ h => h))
          by_cases h2 : xh < yh
          · go_wp2
            go_quiet (fail)
            go_wp2
            refine ⟨⟨ta, (yl, yh) :: tb, o, A', some ad2, c - 1, c2, rfl, rfl, by omega, by simp only [List.length_cons]; omega, by omega, by omega, by simp only [List.length_cons]; omega, r1, rB, ?_, ho', hk'.drewN _⟩, ?_⟩
            · have := HE4.out; rw [if_pos h2] at this; exact Lib.hid this
            · simp only [slenS]; omega
          · go_wp2
            go_quiet (fail)
            go_wp2
            refine ⟨⟨(xl, xh) :: ta, tb, o, some ad, A2', c, c2 - 1, rfl, rfl, by simp only [List.length_cons]; omega, by omega, by omega, by omega, by simp only [List.length_cons]; omega, rA, r2, ?_, ho', hk'.drewN _⟩, ?_⟩
            · have := HE4.out; rw [if_neg (by omega)] at this; exact Lib.hid this
            · simp only [slenS]; omega

set_option maxRecDepth 100000 in
theorem scmeet_any (w : World) (A A2 : Option Addr) (c c2 : Nat) (a b : List Sp) (ha : Reads w w.heap.size 2 A a.length (spcs a)) (hb : Reads w w.heap.size 2 A2 b.length (spcs b)) (hl : a.length + b.length ≤ 4194304) :
    Calls Tryz.prog 45 #[.slice A a.length c, .slice A2 b.length c2] w (SpPost 107 (meetL (setD 1073741823 a) (setD 1073741823 b)) w) := by
  have la := setD_len 1073741823 a
  have lb := setD_len 1073741823 b
  have T1 := Lib.hid (scset_any w A c a ha (by omega))
  have T2 := Lib.hid (fun W (h : Reads W w.heap.size 2 A2 b.length (spcs b)) (hs : w.heap.size ≤ W.heap.size) => scset_any W A2 c2 b (h.more hs) (by omega))
  generalize setD 1073741823 a = a1 at *
  generalize setD 1073741823 b = b1 at *
  have ML := meetL_len a1 b1
  have MT := Lib.hid (fun W A A2 c c2 h1 h2 h3 h4 h5 h6 => meetS_any W A A2 c c2 a1 b1 h1 h2 h3 h4 h5 h6 (by omega))
  generalize meetL a1 b1 = m at *
  have BK := Lib.hid (fun W A c h => scback_any W A c m h (by omega))
  have HB := Lib.hid hb
  unfold SpPost at *
  clear ha hb ML la lb
  go_enter Tryz.func45, Tryz.ntmps45
  go_wp2_with fail
  refine T1.out.mono ?_
  rintro e w1 ⟨A1, c1, rfl, ho1, hk1⟩
  obtain ⟨_, _, he, g1, g1'⟩ := own_form ho1
  cases he
  have X2 := Lib.hid (T2.out w1 (HB.out.k0 (Nat.le_refl _) hk1) hk1.size)
  go_wp2_with fail
  refine X2.out.mono ?_
  rintro e w2 ⟨A2', c2', rfl, ho2, hk2⟩
  obtain ⟨_, _, he, g2, g2'⟩ := own_form ho2
  cases he
  have X3 := Lib.hid (MT.out w2 A1 A2' c1 c2' ((Reads.of_own ho1).k0 (Nat.le_refl _) hk2 |>.more hk2.size) (Reads.of_own ho2) g1 g2 g1' g2')
  go_wp2_with fail
  refine X3.out.mono ?_
  rintro e w3 ⟨A3, c3, rfl, ho3, hk3⟩
  have X4 := Lib.hid (BK.out w3 A3 c3 (Reads.of_own ho3))
  go_wp2_with fail
  refine X4.out.mono ?_
  rintro e w4 ⟨A4, c4, rfl, ho4, hk4⟩
  go_wp2
  go_ret
  have k13 := (hk1.trans hk2).trans hk3
  exact ⟨_, _, rfl, own_mono ho4 k13.size, k13.trans hk4⟩
end Go.Proofs.YtobofhiakgohfaaGreatDoor
