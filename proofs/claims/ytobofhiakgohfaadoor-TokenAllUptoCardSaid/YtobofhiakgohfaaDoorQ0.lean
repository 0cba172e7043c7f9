/- A region that draws its order and only reads, walked once, in a round of a loop over a function (where no operation of it is a defer). -/
import Derived.Sort.QuietIn
import Derived.OwnWalkIn
import Derived.OrdersIn
set_option linter.unusedVariables false
namespace Go.Proofs.YtobofhiakgohfaaDoor
open Go

def noDefer (o : Oper) : Bool := match o.op with
  | .defer _ => false
  | _ => true
theorem noDefer_ne {o : Oper} (h : noDefer o = true) : ∀ c, o.op ≠ .defer c := by
  intro c e
  unfold noDefer at h
  rw [e] at h
  cases h

section
variable {F : Fence} {n : Nat} {P : Program} {C : World → Prop} {ops : Array Oper} {md : Region.Mode}

theorem oper_round {o : Oper} {a : Act} {K : Act → Prop} {K' : Act → World → Prop} {Q' : Exit → Act → World → Prop} {w : World} (hnd : noDefer o = true) (hw : C w) (h : ∀ a w', C w' → K a → K' a w')
    (ha : o.askedIn F P a C) (hh : o.quietIn F n P a C K) : o.wpIn F n P a w K' Q' := by
  obtain ⟨v, h1, h2⟩ := hh
  have h3 := h1 w hw
  refine ⟨ha w hw, ?_⟩
  rw [Oper.semAt_plain F _ _ (noDefer_ne hnd)]
  unfold Oper.quietAtIn at h3
  revert h3
  cases (execOp a.eval o).run P w with
  | halt x w' => exact fun h3 => h3.elim
  | ok x w' =>
    cases x with
    | value u => rintro ⟨rfl, rfl⟩; exact h _ _ hw h2
    | skip => rintro ⟨rfl, rfl⟩; exact h _ _ hw h2
    | enter f args =>
      rintro ⟨rfl, hd, hc⟩
      exact ⟨hd, hc.mono fun e w2 he => by obtain ⟨rfl, hw2⟩ := he; exact h _ _ hw2 h2⟩
    | _ => exact fun h3 => h3.elim

theorem op_round {i : Nat} {a : Act} {K : Act → Prop} {K' : Act → World → Prop} {Q' : Exit → Act → World → Prop} {w : World} (hnd : ops.all noDefer = true) (hC : C w) (h : ∀ a w', C w' → K a → K' a w')
    (hh : qOpIn F n P ops C i K a) : wpOpIn F n P ops Q' i K' a w := by
  unfold qOpIn at hh
  unfold wpOpIn
  cases ho : ops[i]? with
  | none => rw [ho] at hh; exact h _ _ hC hh
  | some o =>
    rw [ho] at hh
    simp only at hh ⊢
    have hn : noDefer o = true := by
      obtain ⟨hi, e⟩ := Array.getElem?_eq_some_iff.1 ho
      exact e ▸ (Array.all_eq_true.1 hnd i hi)
    by_cases hw : Region.wanted o (yielded ops a.tmps) = true
    · simp only [hw, if_true] at hh ⊢
      exact oper_round hn hC h hh.1 hh.2
    · simp only [hw] at hh ⊢
      exact ⟨hh.1 w hC, h _ _ hC hh.2⟩

theorem any_round {Q : Act → Prop} {Q' : Exit → Act → World → Prop} (hnd : ops.all noDefer = true) (hQ : ∀ a w, C w → Q a → Q' .normal a w) : ∀ (fuel : Nat) (listed : Array Bool) (a : Act) (w : World), C w →
    wpAnyQIn F n P md ops C Q fuel listed a → wpAnyIn F n P md ops Q' fuel listed a w
  | 0, _, _, _, hw, h => ⟨h.1, hQ _ _ hw h.2⟩
  | fuel + 1, _, _, _, hw, h => ⟨fun h0 => hQ _ _ hw (h.1 h0), fun i hi => op_round hnd hw (fun a' w' hw' => any_round hnd hQ fuel _ a' w' hw') (h.2 i hi)⟩

/-- The region, in a round: its operations written out; what follows it is asked in each world that the draws may have left. -/
theorem region_round {id : Nat} {Q : Exit → Act → World → Prop} {a : Act} {w : World} {l : List Oper} (hnd : l.all noDefer = true) (hm : P.follows .mixedOrders = true) (hB : Region.lexB .any l.toArray = true)
    (h : wpQuietIn F n P l.toArray (fun w' => ∃ n, w' = w.drewN n) (fun a' => ∀ w', (∃ n, w' = w.drewN n) → Q .normal a' w') l a) : (Code.region id l.toArray true).wpIn F n P Q a w := by
  have hB2 := hB
  simp only [Region.lexB, Bool.and_eq_true] at hB2
  refine wpIn_region_any hm (any_round (C := fun w' => ∃ n, w' = w.drewN n) (Q := fun a' => ∀ w', (∃ n, w' = w.drewN n) → Q .normal a' w') (by simpa using hnd) (fun _ w' hw' h => h w' hw') _ _ _ _ ⟨1, rfl⟩ ?_)
  have := wpAnyQIn_lex (F := F) (n := n) (C := fun w' => ∃ n, w' = w.drewN n) (md := .any) hB2.1 l.toArray.toList 0 (Array.replicate l.toArray.size false) a (by simp) (by simpa using hB2.2) (by simpa using h)
  simpa using this
end
end Go.Proofs.YtobofhiakgohfaaDoor
