/- The document's way: find, Set, meet; plain Lean. -/
import Derived.Test.YtobofhiakgohfaaGreatDoorZW
set_option linter.unusedVariables false
set_option linter.unusedSimpArgs false
namespace Go.Proofs.YtobofhiakgohfaaGreatDoor

/-- The number of the first of a name. -/
def findI (l : List ByteArray) (nm : ByteArray) : Option Nat := l.findIdx? fun x => x.data.toList == nm.data.toList
def findN (l : List ByteArray) (nm : ByteArray) : Int := match findI l nm with | some k => (k : Int) | none => -1
theorem find_look (nm : ByteArray) : ∀ cl : ClsT, lookB cl nm = match findI (cl.map Prod.fst) nm with | none => none | some j => (cl[j]?).map Prod.snd
  | [] => rfl
  | a :: t => by
    have ih := find_look nm t
    unfold lookB findI at ih ⊢
    rw [List.find?_cons, List.map_cons, List.findIdx?_cons]
    cases h : a.1.data.toList == nm.data.toList with
    | true => simp
    | false =>
      simp only [Bool.false_eq_true, if_false]
      rw [ih]
      cases List.findIdx? (fun x : ByteArray => x.data.toList == nm.data.toList) (t.map Prod.fst) with
      | none => rfl
      | some j => simp
theorem findI_lt {l : List ByteArray} {nm : ByteArray} {j : Nat} (h : findI l nm = some j) : j < l.length := by
  unfold findI at h
  rw [List.findIdx?_eq_some_iff_findIdx_eq] at h
  exact h.1
theorem look_none {cl : ClsT} {nm : ByteArray} : lookB cl nm = none ↔ findN (cl.map Prod.fst) nm < 0 := by
  rw [find_look]
  unfold findN
  cases h : findI (cl.map Prod.fst) nm with
  | none => simp
  | some j =>
    have hj := findI_lt h
    simp only [List.length_map] at hj
    simp [List.getElem?_eq_getElem hj]
theorem look_some {cl : ClsT} {nm : ByteArray} (h : ¬ findN (cl.map Prod.fst) nm < 0) : ∃ j, ∃ hj : j < cl.length, findN (cl.map Prod.fst) nm = (j : Int) ∧ lookB cl nm = some cl[j].2 := by
  unfold findN at h ⊢
  rw [find_look]
  cases hf : findI (cl.map Prod.fst) nm with
  | none => rw [hf] at h; exact absurd (by decide) h
  | some j =>
    have hj := findI_lt hf
    simp only [List.length_map] at hj
    exact ⟨j, hj, rfl, by simp [List.getElem?_eq_getElem hj]⟩
/-- The search, step by step. -/
theorem findN_hit {l : List ByteArray} {nm : ByteArray} {q : Nat} (h0 : findN (l.take q) nm = -1) (hq : q < l.length) (he : l[q].data.toList = nm.data.toList) : findN l nm = (q : Int) := by
  have h1 : findI (l.take q) nm = none := by
    unfold findN at h0
    cases h : findI (l.take q) nm with
    | none => rfl
    | some k => rw [h] at h0; simp only [] at h0; omega
  have h2 : findI l nm = some q := by
    unfold findI at h1 ⊢
    have e : l = l.take q ++ l[q] :: l.drop (q + 1) := by rw [← List.drop_eq_getElem_cons hq, List.take_append_drop]
    rw [e, List.findIdx?_append, h1, List.findIdx?_cons]
    simp [he, Nat.min_eq_left (Nat.le_of_lt hq)]
  unfold findN
  rw [h2]
theorem findN_miss {l : List ByteArray} {nm : ByteArray} {q : Nat} (h0 : findN (l.take q) nm = -1) (hq : q < l.length) (he : l[q].data.toList ≠ nm.data.toList) : findN (l.take (q + 1)) nm = -1 := by
  have h1 : findI (l.take q) nm = none := by
    unfold findN at h0
    cases h : findI (l.take q) nm with
    | none => rfl
    | some k => rw [h] at h0; simp only [] at h0; omega
  have h2 : findI (l.take (q + 1)) nm = none := by
    unfold findI at h1 ⊢
    have hb : (l[q].data.toList == nm.data.toList) = false := beq_eq_false_iff_ne.2 he
    rw [List.take_succ_eq_append_getElem hq, List.findIdx?_append, h1, List.findIdx?_cons]
    simp only [hb]
    rfl
  unfold findN
  rw [h2]
theorem findN_zero (nm : ByteArray) : findN [] nm = -1 := rfl
theorem findN_lt (l : List ByteArray) (nm : ByteArray) : -1 ≤ findN l nm ∧ findN l nm < l.length := by
  unfold findN
  cases h : findI l nm with
  | none => simp; omega
  | some j => have := findI_lt h; simp only []; omega

/-- The names of the classes so far. -/
theorem class_names {cl cl' : ClsT} {c : ClassD} (h : classB cl c = .ok cl') : cl'.map Prod.fst = cl.map Prod.fst ++ [c.nm] := by
  unfold classB at h
  split at h
  · cases h
  · cases hi : itemsB cl c.its with
    | error e => rw [hi] at h; cases h
    | ok ss => rw [hi] at h; cases h; simp
theorem classes_names : ∀ {l : List ClassD} {cl cl' : ClsT}, classesB cl l = .ok cl' → cl'.map Prod.fst = cl.map Prod.fst ++ l.map ClassD.nm
  | [], cl, cl', h => by rw [classesB] at h; cases h; simp
  | c :: t, cl, cl', h => by
    rw [classesB] at h
    cases hc : classB cl c with
    | error e => rw [hc] at h; cases h
    | ok x =>
      rw [hc] at h
      rw [classes_names h, class_names hc]
      simp

/-! ## Set -/
def SetAt (m : Int → Bool) (o : List Sp) (x : Nat) : Prop :=
  (o = [] ∧ setM m 256 = mrg (sing m (x : Int) (256 - x)) ∧ ∀ y : Int, 0 ≤ y → y < x → m y = false) ∨
  ∃ pre c, o = pre ++ [c] ∧ setM m 256 = pre ++ mrg1 c (sing m (x : Int) (256 - x)) ∧ 0 ≤ c.2 ∧ c.2 < x ∧ (m ((x : Int) - 1) = true ↔ c.2 = x - 1)
theorem SetAt.zero (m : Int → Bool) : SetAt m [] 0 := .inl ⟨rfl, rfl, fun y h1 h2 => by omega⟩
theorem sing_step (m : Int → Bool) {x : Nat} (h : x < 256) : sing m (x : Int) (256 - x) = if m (x : Int) = true then ((x : Int), (x : Int)) :: sing m ((x + 1 : Nat) : Int) (256 - (x + 1)) else sing m ((x + 1 : Nat) : Int) (256 - (x + 1)) := by
  rw [show 256 - x = (256 - (x + 1)) + 1 by omega, sing]
  rfl
theorem SetAt.skip {m : Int → Bool} {o : List Sp} {x : Nat} (h : SetAt m o x) (hx : x < 256) (hm : m (x : Int) = false) : SetAt m o (x + 1) := by
  have hs := sing_step m hx
  rw [hm] at hs
  simp only [Bool.false_eq_true, if_false] at hs
  rcases h with ⟨rfl, h1, h2⟩ | ⟨pre, c, rfl, h1, h2, h3, h4⟩
  · refine .inl ⟨rfl, by rw [h1, hs], fun y h3 h4 => ?_⟩
    by_cases hy : y < x
    · exact h2 y h3 hy
    · obtain rfl : y = (x : Int) := by omega
      exact hm
  · refine .inr ⟨pre, c, rfl, by rw [h1, hs], h2, by omega, ?_⟩
    rw [show ((x + 1 : Nat) : Int) - 1 = (x : Int) by omega, hm]
    exact ⟨fun h => (by cases h), fun h => by omega⟩
theorem SetAt.grow {m : Int → Bool} {o : List Sp} {x : Nat} (h : SetAt m o x) (hx : x < 256) (hm : m (x : Int) = true) (hp : 0 < x ∧ m ((x : Int) - 1) = true) : ∃ pre c, o = pre ++ [c] ∧ SetAt m (pre ++ [(c.1, (x : Int))]) (x + 1) := by
  have hs := sing_step m hx
  rw [hm] at hs
  simp only [if_true] at hs
  rcases h with ⟨rfl, h1, h2⟩ | ⟨pre, c, rfl, h1, h2, h3, h4⟩
  · have := h2 ((x : Int) - 1) (by omega) (by omega)
    rw [hp.2] at this; cases this
  · have hc := h4.1 hp.2
    refine ⟨pre, c, rfl, .inr ⟨pre, _, rfl, ?_, by show 0 ≤ (x : Int); omega, by show (x : Int) < _; omega, ?_⟩⟩
    · rw [h1, hs, mrg1, if_pos (by show (x : Int) ≤ c.2 + 1; omega), show max c.2 (x : Int) = (x : Int) by omega]
    · rw [show ((x + 1 : Nat) : Int) - 1 = (x : Int) by omega, hm]
      exact ⟨fun _ => by show (x : Int) = _; omega, fun _ => rfl⟩
theorem SetAt.more {m : Int → Bool} {o : List Sp} {x : Nat} (h : SetAt m o x) (hx : x < 256) (hm : m (x : Int) = true) (hp : ¬ (0 < x ∧ m ((x : Int) - 1) = true)) : SetAt m (o ++ [((x : Int), (x : Int))]) (x + 1) := by
  have hs := sing_step m hx
  rw [hm] at hs
  simp only [if_true] at hs
  have hlast : m (((x + 1 : Nat) : Int) - 1) = true ↔ (((x : Int), (x : Int)) : Sp).2 = ((x + 1 : Nat) : Int) - 1 := by
    rw [show ((x + 1 : Nat) : Int) - 1 = (x : Int) by omega, hm]
    exact ⟨fun _ => rfl, fun _ => rfl⟩
  rcases h with ⟨rfl, h1, h2⟩ | ⟨pre, c, rfl, h1, h2, h3, h4⟩
  · exact .inr ⟨[], _, rfl, by rw [h1, hs]; rfl, by show 0 ≤ (x : Int); omega, by show (x : Int) < _; omega, hlast⟩
  · have hc : c.2 ≠ (x : Int) - 1 := fun e => hp ⟨by omega, h4.2 e⟩
    refine .inr ⟨pre ++ [c], _, rfl, ?_, by show 0 ≤ (x : Int); omega, by show (x : Int) < _; omega, hlast⟩
    rw [h1, hs, mrg1, if_neg (by show ¬ (x : Int) ≤ c.2 + 1; omega), List.append_assoc]
    rfl
theorem SetAt.fin {m : Int → Bool} {o : List Sp} (h : SetAt m o 256) : o = setM m 256 := by
  rcases h with ⟨rfl, h1, h2⟩ | ⟨pre, c, rfl, h1, h2, h3, h4⟩
  · rw [h1]; rfl
  · rw [h1]; rfl
theorem SetAt.len {m : Int → Bool} {o : List Sp} {x : Nat} (h : SetAt m o x) : True := trivial

/-! ## Valid, shape by shape; meet -/
theorem over_take (l : SchD) (p : ShpD) (q : Nat) (hq : q < l.length) : overB (l.take (q + 1)) p = (overB (l.take q) p || decide (p.first ≤ lastB l[q] ∧ l[q].first ≤ lastB p)) := by
  unfold overB
  rw [List.take_succ_eq_append_getElem hq, List.any_append]
  simp
theorem over_stop {l : SchD} {p : ShpD} {q : Nat} (hq : q < l.length) (h : p.first ≤ lastB l[q] ∧ l[q].first ≤ lastB p) : overB l p = true := by
  unfold overB
  exact List.any_eq_true.2 ⟨_, List.getElem_mem hq, decide_eq_true h⟩
end Go.Proofs.YtobofhiakgohfaaGreatDoor
