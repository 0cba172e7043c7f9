/- Descriptions that are too big: plain Lean. -/
import Derived.Test.YtobofhiakgohfaaDoorPE
import Derived.Lib.Repeat
set_option linter.unusedVariables false
set_option linter.unusedSimpArgs false
namespace Go.Proofs.YtobofhiakgohfaaDoor
open Go.RowKit

def i41 : ItemD := ⟨⟨#[]⟩, 65, 65, 0⟩
def c41 : ClassD := ⟨⟨#[99]⟩, [i41], 0⟩
def s41 (n : Nat) : ShapeD := ⟨List.replicate n i41, 7, 0⟩
def lineC : List UInt8 := [99, 108, 97, 115, 115, 32, 99, 32, 52, 49, 10]
def lineS (n : Nat) : List UInt8 := ([115, 104, 97, 112, 101] ++ Lib.repeatL [32, 52, 49] n) ++ [32, 97, 116, 32, 55, 10]
def wrongW : List UInt8 := [119, 114, 111, 110, 103]
theorem lineC_eq : txtIC c41 = lineC := by kernel_rfl
theorem txtI_41 : txtI i41 = [52, 49] := by kernel_rfl
theorem txtIs_41 : ∀ n, txtIs (List.replicate n i41) = Lib.repeatL [32, 52, 49] n
  | 0 => rfl
  | n + 1 => by
    have ih := txtIs_41 n
    unfold txtIs at ih ⊢
    rw [List.replicate_succ, List.flatMap_cons, ih, txtI_41]
    rfl
theorem lineS_eq (n : Nat) : txtIS (s41 n) = lineS n := by
  unfold txtIS lineS s41
  simp only []
  rw [txtIs_41, show kwS = [115, 104, 97, 112, 101] by rfl, show Lib.itoa 7 = [55] by kernel_rfl, show kwA = [32, 97, 116, 32] by rfl]
  simp
theorem rep_flat {α : Type} (f : α → List UInt8) (x : α) : ∀ n, Lib.repeatL (f x) n = (List.replicate n x).flatMap f
  | 0 => rfl
  | n + 1 => by
    rw [List.replicate_succ, List.flatMap_cons, ← rep_flat f x n]
    rfl
theorem all_rep {α : Type} (f : α → Bool) (x : α) (h : f x = true) (n : Nat) : (List.replicate n x).all f = true := by
  rw [List.all_eq_true]
  intro y hy
  rw [(List.mem_replicate.1 hy).2]
  exact h
theorem fit41 : fitB i41 = true := by kernel_rfl
theorem fitc41 : fitC c41 = true := by kernel_rfl
theorem fits41 {n : Nat} (h1 : 1 ≤ n) (h8 : n ≤ 8) : fitS (s41 n) = true := by
  have : n = 1 ∨ n = 2 ∨ n = 3 ∨ n = 4 ∨ n = 5 ∨ n = 6 ∨ n = 7 ∨ n = 8 := by omega
  rcases this with rfl | rfl | rfl | rfl | rfl | rfl | rfl | rfl
  all_goals (show fitS _ = true; rfl)

def bigT (nc ns it : Nat) (wr : Bool) : List UInt8 := (Lib.repeatL lineC nc ++ Lib.repeatL (lineS it) ns) ++ (if wr = true then wrongW else [])
/-- The classes. -/
theorem big_cls (nc : Nat) (r : List UInt8) (h : nc ≤ 32) : ∃ (l : List ClassD) (k : Nat), l.length = nc ∧ parseL (Lib.repeatL lineC nc ++ r) = runT ⟨l, []⟩ 0 (toksT false none k r) := by
  obtain ⟨l, a1, a2⟩ := run_cls (List.replicate nc c41) d0 0 r (all_rep _ _ fitc41 _) (by rw [List.length_replicate]; show 0 + nc ≤ 32; omega)
  refine ⟨l, 0 + ((List.replicate nc c41).flatMap txtIC).length, ?_, ?_⟩
  · have := congrArg List.length a1
    simpa using this
  · unfold parseL
    rw [← lineC_eq, rep_flat txtIC, a2]
    rfl
/-- Too many classes. -/
theorem big_cls_no (nc : Nat) (r : List UInt8) (h : 32 < nc) : ∃ p, parseL (Lib.repeatL lineC nc ++ r) = .error (p, 4) := by
  obtain ⟨m, rfl⟩ : ∃ m, nc = 32 + (m + 1) := ⟨nc - 33, by omega⟩
  rw [Lib.repeatL_add, List.append_assoc]
  obtain ⟨l, k, hl, he⟩ := big_cls 32 (Lib.repeatL lineC (m + 1) ++ r) (Nat.le_refl _)
  rw [he]
  have e : Lib.repeatL lineC (m + 1) ++ r = [99, 108, 97, 115, 115] ++ (32 :: ([99, 32, 52, 49, 10] ++ (Lib.repeatL lineC m ++ r))) := by simp [Lib.repeatL, lineC]
  have hs : stepW ⟨l, []⟩ 0 ⟨#[99, 108, 97, 115, 115]⟩ (k : Int) = .error 4 := by
    unfold stepW
    rw [if_pos rfl, if_pos (show (⟨#[99, 108, 97, 115, 115]⟩ : ByteArray).data.toList = bClass from rfl), if_pos hl]
  exact ⟨_, by rw [e, toksT_word k (by simp) (by decide) (wend_blank _)]; exact runT_bad hs⟩
/-- The shapes. -/
theorem big_shs (l : List ClassD) (ns it k : Nat) (r : List UInt8) (h : ns ≤ 32) (h1 : 1 ≤ it) (h8 : it ≤ 8) : ∃ (m : List ShapeD) (k' : Nat), m.length = ns ∧ runT ⟨l, []⟩ 0 (toksT false none k (Lib.repeatL (lineS it) ns ++ r)) = runT ⟨l, m⟩ 0 (toksT false none k' r) := by
  obtain ⟨m, a1, a2⟩ := run_shs (List.replicate ns (s41 it)) ⟨l, []⟩ k r (all_rep _ _ (fits41 h1 h8) _) (by rw [List.length_replicate]; show 0 + ns ≤ 32; omega)
  refine ⟨m, k + ((List.replicate ns (s41 it)).flatMap txtIS).length, ?_, ?_⟩
  · have := congrArg List.length a1
    simpa using this
  · rw [← lineS_eq, rep_flat txtIS, a2]
    rfl
theorem big_shs_no (l : List ClassD) (ns it k : Nat) (r : List UInt8) (h : 32 < ns) (h1 : 1 ≤ it) (h8 : it ≤ 8) : ∃ p, runT ⟨l, []⟩ 0 (toksT false none k (Lib.repeatL (lineS it) ns ++ r)) = .error (p, 4) := by
  obtain ⟨m, rfl⟩ : ∃ m, ns = 32 + (m + 1) := ⟨ns - 33, by omega⟩
  obtain ⟨i, rfl⟩ : ∃ i, it = i + 1 := ⟨it - 1, by omega⟩
  rw [Lib.repeatL_add, List.append_assoc]
  obtain ⟨s, k', hl, he⟩ := big_shs l 32 (i + 1) k (Lib.repeatL (lineS (i + 1)) (m + 1) ++ r) (Nat.le_refl _) h1 h8
  rw [he]
  obtain ⟨q, e⟩ : ∃ q, Lib.repeatL (lineS (i + 1)) (m + 1) ++ r = [115, 104, 97, 112, 101] ++ (32 :: q) := ⟨[52, 49] ++ (Lib.repeatL [32, 52, 49] i ++ ([32, 97, 116, 32, 55, 10] ++ (Lib.repeatL (lineS (i + 1)) m ++ r))), by
    conv => lhs; unfold Lib.repeatL
    conv => lhs; arg 1; arg 1; unfold lineS Lib.repeatL
    simp⟩
  have hs : stepW ⟨l, s⟩ 0 ⟨#[115, 104, 97, 112, 101]⟩ (k' : Int) = .error 4 := by
    unfold stepW
    rw [if_pos rfl, if_neg (by decide), if_pos (show (⟨#[115, 104, 97, 112, 101]⟩ : ByteArray).data.toList = bShape from rfl), if_pos hl]
  exact ⟨_, by rw [e, toksT_word k' (by simp) (by decide) (wend_blank _)]; exact runT_bad hs⟩
/-- A shape of too many items. -/
theorem big_its_no (l : List ClassD) (ns it k : Nat) (r : List UInt8) (h : 0 < ns) (h9 : 8 < it) : ∃ p, runT ⟨l, []⟩ 0 (toksT false none k (Lib.repeatL (lineS it) ns ++ r)) = .error (p, 4) := by
  obtain ⟨m, rfl⟩ : ∃ m, ns = m + 1 := ⟨ns - 1, by omega⟩
  obtain ⟨i, rfl⟩ : ∃ i, it = 8 + (i + 1) := ⟨it - 9, by omega⟩
  obtain ⟨R, hR⟩ : ∃ R, R = Lib.repeatL (lineS (8 + (i + 1))) m := ⟨_, rfl⟩
  have e : Lib.repeatL (lineS (8 + (i + 1))) (m + 1) ++ r = [115, 104, 97, 112, 101] ++ (txtIs (List.replicate 8 i41) ++ (32 :: ([52, 49] ++ (Lib.repeatL [32, 52, 49] i ++ ([32, 97, 116, 32, 55, 10] ++ (R ++ r)))))) := by
    show (lineS (8 + (i + 1)) ++ Lib.repeatL (lineS (8 + (i + 1))) m) ++ r = _
    rw [← hR, txtIs_41]
    unfold lineS
    rw [Lib.repeatL_add]
    show (([115, 104, 97, 112, 101] ++ (Lib.repeatL [32, 52, 49] 8 ++ ([32, 52, 49] ++ Lib.repeatL [32, 52, 49] i))) ++ [32, 97, 116, 32, 55, 10] ++ R) ++ r = _
    generalize Lib.repeatL [32, 52, 49] 8 = A
    generalize Lib.repeatL [32, 52, 49] i = B
    simp
  have hw : wend (Lib.repeatL [32, 52, 49] i ++ ([32, 97, 116, 32, 55, 10] ++ (R ++ r))) := by
    cases i with
    | zero => exact wend_blank _
    | succ i => exact wend_blank _
  have hs : stepW ⟨l, []⟩ 0 ⟨#[115, 104, 97, 112, 101]⟩ (k : Int) = .ok (⟨l, [⟨[], 0, 0⟩]⟩, 4) := by
    unfold stepW
    rw [if_pos rfl, if_neg (by decide), if_pos (show (⟨#[115, 104, 97, 112, 101]⟩ : ByteArray).data.toList = bShape from rfl), if_neg (by show ¬ 0 = 32; omega)]
    rfl
  obtain ⟨l', h1, h2⟩ := run_items_s l [] (List.replicate 8 i41) [] (k + 5) (32 :: ([52, 49] ++ (Lib.repeatL [32, 52, 49] i ++ ([32, 97, 116, 32, 55, 10] ++ (R ++ r))))) (all_rep _ _ fit41 _) (wend_blank _) (by simp)
  have hl8 : l'.length = 8 := by have := congrArg List.length h1; simpa using this
  simp only [List.nil_append] at h2
  rw [if_pos (by rfl), if_neg (by omega)] at h2
  have hs2 : ∀ p, stepW ⟨l, [⟨l', 0, 0⟩]⟩ 5 ⟨#[52, 49]⟩ p = .error 4 := fun p => by
    have hi : itemD ⟨#[52, 49]⟩ = some (erI i41) := by have := itemD_txt fit41; rw [txtI_41] at this; exact this
    unfold stepW
    rw [if_neg (by omega), if_neg (by omega), if_neg (by omega), if_neg (by rintro ⟨_, h⟩; exact absurd h (by decide)), if_pos (by omega), hi]
    simp only []
    rw [if_pos (show (its0 ShapeD.its [⟨l', 0, 0⟩]).length = 8 from hl8)]
  refine ⟨((k + 5 + (txtIs (List.replicate 8 i41)).length + 1 : Nat) : Int), ?_⟩
  rw [e, toksT_word k (by simp) (by decide) (wend_items _ _ (wend_blank _)), runT_word hs]
  show runT _ 4 (toksT false none (k + 5) _) = _
  rw [h2, toksT_blank, toksT_word _ (by simp) (by decide) hw]
  exact runT_bad (hs2 _)
/-- What the parse of the made text answers. -/
theorem big_parse (nc ns it : Nat) (wr : Bool) (h1 : 1 ≤ it) :
    ((32 < nc ∨ 32 < ns ∨ 0 < ns ∧ 8 < it) → ∃ p, parseL (bigT nc ns it wr) = .error (p, 4)) ∧
    (¬ (32 < nc ∨ 32 < ns ∨ 0 < ns ∧ 8 < it) → (wr = true → ∃ p, parseL (bigT nc ns it wr) = .error (p, 60)) ∧ (wr = false → ∃ d, parseL (bigT nc ns it wr) = .ok d ∧ d.cls.length = nc ∧ d.shs.length = ns)) := by
  unfold bigT
  rw [List.append_assoc]
  by_cases hc : 32 < nc
  · exact ⟨fun _ => big_cls_no nc _ hc, fun h => absurd (.inl hc) h⟩
  · obtain ⟨l, k, hl, he⟩ := big_cls nc (Lib.repeatL (lineS it) ns ++ (if wr = true then wrongW else [])) (by omega)
    rw [he]
    by_cases hi : 0 < ns ∧ 8 < it
    · exact ⟨fun _ => big_its_no l ns it k _ hi.1 hi.2, fun h => absurd (.inr (.inr hi)) h⟩
    · by_cases hs : 32 < ns
      · exact ⟨fun _ => big_shs_no l ns it k _ hs h1 (by omega), fun h => absurd (.inr (.inl hs)) h⟩
      · refine ⟨fun h => by omega, fun _ => ?_⟩
        have hrun : ∃ (m : List ShapeD) (k' : Nat), m.length = ns ∧ runT ⟨l, []⟩ 0 (toksT false none k (Lib.repeatL (lineS it) ns ++ (if wr = true then wrongW else []))) = runT ⟨l, m⟩ 0 (toksT false none k' (if wr = true then wrongW else [])) := by
          by_cases h0 : ns = 0
          · subst h0
            exact ⟨[], k, rfl, rfl⟩
          · exact big_shs l ns it k _ (by omega) h1 (by omega)
        obtain ⟨m, k', hm, hr⟩ := hrun
        rw [hr]
        refine ⟨fun hw => ?_, fun hw => ?_⟩
        · subst hw
          rw [if_pos rfl]
          have e : wrongW = wrongW ++ [] := by simp
          rw [e, toksT_word k' (by decide) (by decide) (.inl rfl)]
          exact ⟨_, runT_bad (by unfold stepW; rw [if_pos rfl, if_neg (by decide), if_neg (by decide)])⟩
        · subst hw
          rw [if_neg (by decide), toksT]
          exact ⟨⟨l, m⟩, by rw [runT_end (by omega) (by omega) (.inl rfl)]; rfl, hl, hm⟩
end Go.Proofs.YtobofhiakgohfaaDoor
