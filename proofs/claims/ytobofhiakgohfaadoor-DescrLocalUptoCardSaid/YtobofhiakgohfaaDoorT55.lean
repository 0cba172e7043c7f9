/- The law's word; lines. -/
import Derived.Test.YtobofhiakgohfaaDoorT40
import Derived.Test.YtobofhiakgohfaaDoorP20
import Derived.Test.YtobofhiakgohfaaDoorT17
import Derived.Lib.SplitLaws
set_option linter.unusedVariables false
set_option linter.unusedSimpArgs false
namespace Go.Proofs.YtobofhiakgohfaaDoor
open Go.RowKit

theorem wordAt_drop (V : TVl) (p : Int) (q : Nat) (h : q < V.length) : wordAt (V.drop q) p = if V[q].2.2 = p ∧ V[q].1 = 1 then V[q].2.1 else wordAt (V.drop (q + 1)) p := by
  rw [List.drop_eq_getElem_cons h, wordAt]

set_option maxRecDepth 100000 in
set_option maxHeartbeats 2000000 in
theorem lword_any (A : Option Addr) (c : Nat) (V : TVl) (p : Int) (w : World) (hl : V.length ≤ 140737488355328) (ha : Reads w w.heap.size 3 A V.length (tcells V)) :
    Calls Tryd.prog 43 #[.slice A V.length c, .int .i64 p] w fun e w' => e = .returned (.string (wordAt V p)) ∧ K0 w w' := by
  obtain ⟨R, hR⟩ : ∃ R, R = wordAt V p := ⟨_, rfl⟩
  rw [← hR]
  have HR := Lib.hid (show R = wordAt (V.drop 0) p by rw [List.drop_zero]; exact hR)
  clear hR
  go_enter Tryd.func43, Tryd.ntmps43
  go_wp2
  go_loopw [9] (fun i wr => ∃ q : Nat, q ≤ V.length ∧ i = .int .i64 (q : Int) ∧ K0 w wr ∧ Hid (R = wordAt (V.drop q) p)) (fun i wr => V.length - (intOf i).toNat)
  case atStart => exact ⟨0, by omega, rfl, Kp.refl _ _, HR⟩
  case round =>
    obtain ⟨q, hq, rfl, hk, hres⟩ := hrel
    have hks := hk.size
    by_cases hlt : q < V.length
    · have hres2 := hres.out
      rw [wordAt_drop V p q hlt] at hres2
      obtain ⟨ad, rfl, hbl, x0, x1, x2⟩ := (ha.k0 (Nat.le_refl _) hk).tok hlt
      generalize V[q] = t at x0 x1 x2 hres2
      obtain ⟨k, tx, pp⟩ := t
      simp only [] at x0 x1 x2 hres2
      have HR2 := Lib.hid hres2
      clear hres hres2 HR
      have y := Blk.new wr 42 #[.int .i64 k, .string tx, .int .i64 pp]
      have y0 := y.cell 0
      have y1 := y.cell 1
      have y2 := y.cell 2
      simp at y0 y1 y2
      have ky : K0 w (wr.alloc (.cells #[.int .i64 k, .string tx, .int .i64 pp] 42)) := hk.alloc _
      by_cases hp : pp = p
      · subst hp
        by_cases hk1 : k = 1
        · subst hk1
          obtain rfl : R = tx := by have := HR2.out; rwa [if_pos ⟨rfl, rfl⟩] at this
          go_wp2
          go_ret
          exact ⟨rfl, ky⟩
        · have HR3 := Lib.hid (show R = wordAt (V.drop (q + 1)) pp by have := HR2.out; rwa [if_neg (fun h => hk1 h.2)] at this)
          have d1 : (k == 1) = false := beq_eq_false_iff_ne.2 hk1
          go_wp2
          exact ⟨⟨q + 1, by omega, by go_num, ky, HR3⟩, by simp [intOf]; omega⟩
      · have HR3 := Lib.hid (show R = wordAt (V.drop (q + 1)) p by have := HR2.out; rwa [if_neg (fun h => hp h.1)] at this)
        have d1 : (pp == p) = false := beq_eq_false_iff_ne.2 hp
        go_wp2
        exact ⟨⟨q + 1, by omega, by go_num, ky, HR3⟩, by simp [intOf]; omega⟩
    · obtain rfl : q = V.length := by omega
      have hfin := hres.out
      rw [List.drop_eq_nil_of_le (Nat.le_refl _), wordAt] at hfin
      subst hfin
      go_wp2
      go_ret
      exact ⟨rfl, hk⟩

theorem idx10 : ∀ l : List UInt8, (Lib.index l [10] = -1 ∧ (10 : UInt8) ∉ l) ∨ ∃ i : Nat, Lib.index l [10] = i ∧ l = l.take i ++ 10 :: l.drop (i + 1) ∧ (10 : UInt8) ∉ l.take i
  | [] => .inl ⟨rfl, by simp⟩
  | b :: l => by
    by_cases hb : b = 10
    · subst hb
      exact .inr ⟨0, by rw [Lib.index, if_pos (by rfl)]; rfl, rfl, by simp⟩
    · have hp : ¬ (([10] : List UInt8).isPrefixOf (b :: l) = true) := by
        simp only [List.isPrefixOf, Bool.and_eq_true, beq_iff_eq]
        exact fun h => hb h.1.symm
      rcases idx10 l with ⟨h1, h2⟩ | ⟨i, h1, h2, h3⟩
      · refine .inl ⟨by rw [Lib.index, if_neg hp, h1]; rfl, ?_⟩
        intro h
        rcases List.mem_cons.1 h with h | h
        · exact hb h.symm
        · exact h2 h
      · refine .inr ⟨i + 1, ?_, ?_, ?_⟩
        · rw [Lib.index, if_neg hp, h1, if_neg (by simp)]
          omega
        · rw [List.take_succ_cons, List.drop_succ_cons, List.cons_append, ← h2]
        · rw [List.take_succ_cons]
          intro h
          rcases List.mem_cons.1 h with h | h
          · exact hb h.symm
          · exact h3 h
theorem inter_cons (l : List UInt8) {L : List (List UInt8)} (h : L ≠ []) : inter (l :: L) = l ++ 10 :: inter L := by
  cases L with
  | nil => exact absurd rfl h
  | cons a L => rfl
theorem lines_of : ∀ (k : Nat) (s : ByteArray), Lib.countB s ⟨#[10]⟩ = k → ((Lib.splitB ⟨#[10]⟩ 0 k s).map (fun x => x.data.toList) ≠ []) ∧ (∀ l ∈ (Lib.splitB ⟨#[10]⟩ 0 k s).map (fun x => x.data.toList), (10 : UInt8) ∉ l) ∧ inter ((Lib.splitB ⟨#[10]⟩ 0 k s).map (fun x => x.data.toList)) = s.data.toList ∧ (∀ x ∈ Lib.splitB ⟨#[10]⟩ 0 k s, x.size ≤ s.size) := by
  intro k
  induction k with
  | zero =>
    intro s hk
    have e : Lib.splitB ⟨#[10]⟩ 0 0 s = [s] := rfl
    rw [e]
    refine ⟨by simp, fun l hl => ?_, rfl, fun x hx => by simp at hx; subst hx; exact Nat.le_refl _⟩
    simp only [List.map_cons, List.map_nil, List.mem_singleton] at hl
    subst hl
    rcases idx10 s.data.toList with ⟨_, h⟩ | ⟨i, h, _⟩
    · exact h
    · exfalso
      have := Lib.countB_hit s ⟨#[10]⟩ i (by decide) h
      omega
  | succ k ih =>
    intro s hk
    rcases idx10 s.data.toList with ⟨h, _⟩ | ⟨i, h, h2, h3⟩
    · exfalso
      have := Lib.countB_miss s ⟨#[10]⟩ h
      omega
    · have hc := Lib.countB_hit s ⟨#[10]⟩ i (by decide) h
      have hsz : (ByteArray.mk #[10]).size = 1 := rfl
      rw [Lib.splitB_hit ⟨#[10]⟩ 0 k s i h]
      have e1 : (s.extract 0 (i + 0)).data.toList = s.data.toList.take i := by rw [extract_list]; simp
      have e2 : (s.extract (i + (ByteArray.mk #[10]).size) s.size).data.toList = s.data.toList.drop (i + 1) := by
        rw [extract_list, hsz]
        exact List.take_of_length_le (by simp)
      obtain ⟨g1, g2, g3, g4⟩ := ih (s.extract (i + (ByteArray.mk #[10]).size) s.size) (by omega)
      refine ⟨by simp, fun l hl => ?_, ?_, fun x hx => ?_⟩
      · rw [List.map_cons] at hl
        rcases List.mem_cons.1 hl with rfl | hl
        · rw [e1]; exact h3
        · exact g2 l hl
      · rw [List.map_cons, inter_cons _ g1, g3, e1, e2]
        exact h2.symm
      · rcases List.mem_cons.1 hx with rfl | hx
        · rw [ByteArray.size_extract]; omega
        · have := g4 x hx
          rw [ByteArray.size_extract] at this
          omega
end Go.Proofs.YtobofhiakgohfaaDoor
