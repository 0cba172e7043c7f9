/- A region that draws its order and only reads, walked once, in a round of a loop over a function (where no operation of it is a defer). A region that draws its order, in a fence, a round's too: by an invariant over what has been carried out. -/
import Derived.Sort.QuietIn
import Derived.OwnWalkIn
import Derived.OrdersIn
import Derived.Still
set_option linter.unusedVariables false
namespace Go.Proofs.YtobofhiakgohfaaDoor
open Go

def noDefer (o : Oper) : Bool := match o.op with
  | .defer _ => false
  | _ => true
theorem noDefer_ne {o : Oper} (h : noDefer o = true) : ∀ c, o.op ≠ .defer c := by
  intro c e
  unfold noDefer at h
  rw [e] at h
  cases h

section
variable {F : Fence} {n : Nat} {P : Program} {C : World → Prop} {ops : Array Oper} {md : Region.Mode}

theorem oper_round {o : Oper} {a : Act} {K : Act → Prop} {K' : Act → World → Prop} {Q' : Exit → Act → World → Prop} {w : World} (hnd : noDefer o = true) (hw : C w) (h : ∀ a w', C w' → K a → K' a w')
    (ha : o.askedIn F P a C) (hh : o.quietIn F n P a C K) : o.wpIn F n P a w K' Q' := by
  obtain ⟨v, h1, h2⟩ := hh
  have h3 := h1 w hw
  refine ⟨ha w hw, ?_⟩
  rw [Oper.semAt_plain F _ _ (noDefer_ne hnd)]
  unfold Oper.quietAtIn at h3
  revert h3
  cases (execOp a.eval o).run P w with
  | halt x w' => exact fun h3 => h3.elim
  | ok x w' =>
    cases x with
    | value u => rintro ⟨rfl, rfl⟩; exact h _ _ hw h2
    | skip => rintro ⟨rfl, rfl⟩; exact h _ _ hw h2
    | enter f args =>
      rintro ⟨rfl, hd, hc⟩
      exact ⟨hd, hc.mono fun e w2 he => by obtain ⟨rfl, hw2⟩ := he; exact h _ _ hw2 h2⟩
    | _ => exact fun h3 => h3.elim

theorem op_round {i : Nat} {a : Act} {K : Act → Prop} {K' : Act → World → Prop} {Q' : Exit → Act → World → Prop} {w : World} (hnd : ops.all noDefer = true) (hC : C w) (h : ∀ a w', C w' → K a → K' a w')
    (hh : qOpIn F n P ops C i K a) : wpOpIn F n P ops Q' i K' a w := by
  unfold qOpIn at hh
  unfold wpOpIn
  cases ho : ops[i]? with
  | none => rw [ho] at hh; exact h _ _ hC hh
  | some o =>
    rw [ho] at hh
    simp only at hh ⊢
    have hn : noDefer o = true := by
      obtain ⟨hi, e⟩ := Array.getElem?_eq_some_iff.1 ho
      exact e ▸ (Array.all_eq_true.1 hnd i hi)
    by_cases hw : Region.wanted o (yielded ops a.tmps) = true
    · simp only [hw, if_true] at hh ⊢
      exact oper_round hn hC h hh.1 hh.2
    · simp only [hw] at hh ⊢
      exact ⟨hh.1 w hC, h _ _ hC hh.2⟩

theorem any_round {Q : Act → Prop} {Q' : Exit → Act → World → Prop} (hnd : ops.all noDefer = true) (hQ : ∀ a w, C w → Q a → Q' .normal a w) : ∀ (fuel : Nat) (listed : Array Bool) (a : Act) (w : World), C w →
    wpAnyQIn F n P md ops C Q fuel listed a → wpAnyIn F n P md ops Q' fuel listed a w
  | 0, _, _, _, hw, h => ⟨h.1, hQ _ _ hw h.2⟩
  | fuel + 1, _, _, _, hw, h => ⟨fun h0 => hQ _ _ hw (h.1 h0), fun i hi => op_round hnd hw (fun a' w' hw' => any_round hnd hQ fuel _ a' w' hw') (h.2 i hi)⟩

/-- The region, in a round: its operations written out; what follows it is asked in each world that the draws may have left. -/
theorem region_round {id : Nat} {Q : Exit → Act → World → Prop} {a : Act} {w : World} {l : List Oper} (hnd : l.all noDefer = true) (hm : P.follows .mixedOrders = true) (hB : Region.lexB .any l.toArray = true)
    (h : wpQuietIn F n P l.toArray (fun w' => ∃ n, w' = w.drewN n) (fun a' => ∀ w', (∃ n, w' = w.drewN n) → Q .normal a' w') l a) : (Code.region id l.toArray true).wpIn F n P Q a w := by
  have hB2 := hB
  simp only [Region.lexB, Bool.and_eq_true] at hB2
  refine wpIn_region_any hm (any_round (C := fun w' => ∃ n, w' = w.drewN n) (Q := fun a' => ∀ w', (∃ n, w' = w.drewN n) → Q .normal a' w') (by simpa using hnd) (fun _ w' hw' h => h w' hw') _ _ _ _ ⟨1, rfl⟩ ?_)
  have := wpAnyQIn_lex (F := F) (n := n) (C := fun w' => ∃ n, w' = w.drewN n) (md := .any) hB2.1 l.toArray.toList 0 (Array.replicate l.toArray.size false) a (by simp) (by simpa using hB2.2) (by simpa using h)
  simpa using this
end
end Go.Proofs.YtobofhiakgohfaaDoor

namespace Go.Proofs.YtobofhiakgohfaaDoor
open Go

/-- Operation i has been carried out. -/
def lst (listed : Array Bool) (i : Nat) : Prop := listed.getD i false = true
theorem lst_set {listed : Array Bool} {i j : Nat} (hi : i < listed.size) : lst (listed.setIfInBounds i true) j ↔ j = i ∨ lst listed j := by
  unfold lst
  by_cases h : j = i
  · subst h
    simp [hi]
  · simp only [Array.getD_eq_getD_getElem?, Array.getElem?_setIfInBounds, h, false_or]
    rw [if_neg (fun e => h e.symm)]
theorem lst_none (m i : Nat) : ¬ lst (Array.replicate m false) i := by
  unfold lst
  rcases Nat.lt_or_ge i m with h | h <;> simp [h]

section
variable {F : Fence} {n : Nat} {P : Program} {ops : Array Oper} {Q : Exit → Act → World → Prop} {md : Region.Mode}

/-- What an operation waits for has been carried out with it. -/
def Closed (md : Region.Mode) (ops : Array Oper) (listed : Array Bool) : Prop := ∀ j oj, ops[j]? = some oj → lst listed j → ∀ e ∈ oj.after, Region.binds md e = true → lst listed e.on

theorem ready_facts {listed : Array Bool} {i : Nat} (hs : listed.size = ops.size) (h : i ∈ Region.ready md ops listed) : i < ops.size ∧ ¬ lst listed i ∧ ∃ o, ops[i]? = some o ∧ ∀ e ∈ o.after, Region.binds md e = true → lst listed e.on := by
  obtain ⟨h1, o, h2, h3⟩ := mem_ready.1 h
  have hi : i < ops.size := (Array.getElem?_eq_some_iff.1 h2).1
  refine ⟨hi, ?_, o, h2, h3⟩
  unfold lst
  simp only [Array.getD_eq_getD_getElem?] at h1 ⊢
  rw [Array.getElem?_eq_getElem (by omega)] at h1 ⊢
  simpa using h1

theorem closed_set {listed : Array Bool} {i : Nat} (hs : listed.size = ops.size) (hc : Closed md ops listed) (h : i ∈ Region.ready md ops listed) : Closed md ops (listed.setIfInBounds i true) := by
  obtain ⟨hi, _, o, ho, ha⟩ := ready_facts hs h
  intro j oj hj hl e he hb
  rw [lst_set (by omega)] at hl ⊢
  rcases hl with rfl | hl
  · rw [ho] at hj
    cases hj
    exact .inr (ha e he hb)
  · exact .inr (hc j oj hj hl e he hb)

theorem count_set {listed : Array Bool} {i : Nat} (hi : i < listed.size) (h : ¬ lst listed i) : (listed.setIfInBounds i true).toList.count false + 1 = listed.toList.count false := by
  have hf : listed[i] = false := by
    unfold lst at h
    simp only [Array.getD_eq_getD_getElem?, Array.getElem?_eq_getElem hi, Option.getD_some] at h
    simpa using h
  have hm : false ∈ listed.toList := by
    rw [← hf]; exact Array.mem_toList_iff.2 (Array.getElem_mem hi)
  have hp := List.count_pos_iff.2 hm
  rw [Array.toList_setIfInBounds, List.count_set (by simpa using hi)]
  have e1 : (listed.toList[i]'(by simpa using hi) == false) = true := by simp [hf]
  rw [if_pos e1, if_neg (by decide)]
  omega

/-- By an invariant. -/
theorem any_inv (I : Array Bool → Act → World → Prop)
    (hstep : ∀ listed a w i, listed.size = ops.size → Closed md ops listed → I listed a w → i ∈ Region.ready md ops listed → wpOpIn F n P ops Q i (I (listed.setIfInBounds i true)) a w)
    (hend : ∀ listed a w, listed.size = ops.size → Closed md ops listed → I listed a w → Region.ready md ops listed = [] → Q .normal a w) :
    ∀ (fuel : Nat) (listed : Array Bool) (a : Act) (w : World), listed.size = ops.size → Closed md ops listed → listed.toList.count false ≤ fuel → I listed a w → wpAnyIn F n P md ops Q fuel listed a w
  | 0, listed, a, w, hs, hc, hn, hI => by
    have h0 : Region.ready md ops listed = [] := by
      refine List.eq_nil_iff_forall_not_mem.2 fun i hi => ?_
      obtain ⟨h1, h2, _⟩ := ready_facts hs hi
      have := count_set (by omega) h2
      omega
    exact ⟨h0, hend _ _ _ hs hc hI h0⟩
  | fuel + 1, listed, a, w, hs, hc, hn, hI => by
    refine ⟨fun h0 => hend _ _ _ hs hc hI h0, fun i hi => ?_⟩
    obtain ⟨h1, h2, _⟩ := ready_facts hs hi
    have hcs := count_set (by omega) h2
    exact wpOpIn_mono (fun a' w' h => any_inv I hstep hend fuel _ a' w' (by simpa using hs) (closed_set hs hc hi) (by omega) h) (hstep _ _ _ _ hs hc hI hi)

/-- The region. -/
theorem region_inv {id : Nat} {a : Act} {w : World} (I : Array Bool → Act → World → Prop) (hm : P.follows .mixedOrders = true)
    (h0 : I (Array.replicate ops.size false) a w.drew)
    (hstep : ∀ listed a w i, listed.size = ops.size → Closed .any ops listed → I listed a w → i ∈ Region.ready .any ops listed → wpOpIn F n P ops Q i (I (listed.setIfInBounds i true)) a w)
    (hend : ∀ listed a w, listed.size = ops.size → Closed .any ops listed → I listed a w → Region.ready .any ops listed = [] → Q .normal a w) : (Code.region id ops true).wpIn F n P Q a w :=
  wpIn_region_any hm (any_inv I hstep hend _ _ _ _ (by simp) (fun j oj hj hl => absurd hl (lst_none _ _)) (by simp) h0)

theorem lst_of_done {listed : Array Bool} {i : Nat} {o : Oper} (hs : listed.size = ops.size) (h0 : Region.ready md ops listed = []) (ho : ops[i]? = some o) (ha : ∀ e ∈ o.after, lst listed e.on) : lst listed i := by
  by_cases hn : lst listed i
  · exact hn
  · have hi : i < ops.size := (Array.getElem?_eq_some_iff.1 ho).1
    have : i ∈ Region.ready md ops listed := by
      refine mem_ready.2 ⟨?_, o, ho, fun e he _ => ha e he⟩
      unfold lst at hn
      simp only [Array.getD_eq_getD_getElem?] at hn ⊢
      rw [Array.getElem?_eq_getElem (by omega)] at hn ⊢
      simpa using hn
    rw [h0] at this
    cases this
theorem op_val {i : Nat} {o : Oper} {a : Act} {w w' : World} {v : Value} {K : Act → World → Prop} (hF : ∀ f, F.fn f) (ho : ops[i]? = some o) (hg : o.guard = none) (hnd : noDefer o = true) (hr : (execOp a.eval o).run P w = .ok (.value v) w') (hK : K (a.put o.dst v) w') : wpOpIn F n P ops Q i K a w := by
  unfold wpOpIn
  rw [ho]
  have hw : Region.wanted o (yielded ops a.tmps) = true := by simp [Region.wanted, hg]
  simp only [hw, if_true]
  refine ⟨fun f _ => hF f, ?_⟩
  rw [Oper.semAt_plain F _ _ (noDefer_ne hnd), hr]
  exact hK
theorem op_skip {i : Nat} {o : Oper} {a : Act} {w w' : World} {K : Act → World → Prop} (hF : ∀ f, F.fn f) (ho : ops[i]? = some o) (hg : o.guard = none) (hnd : noDefer o = true) (hr : (execOp a.eval o).run P w = .ok .skip w') (hK : K (a.put o.dst undef) w') : wpOpIn F n P ops Q i K a w := by
  unfold wpOpIn
  rw [ho]
  have hw : Region.wanted o (yielded ops a.tmps) = true := by simp [Region.wanted, hg]
  simp only [hw, if_true]
  refine ⟨fun f _ => hF f, ?_⟩
  rw [Oper.semAt_plain F _ _ (noDefer_ne hnd), hr]
  exact hK
theorem exec_append {o : Oper} {a : Act} {w w' : World} {s x : Operand} {t : TypeId} {vs vx v : Value} (ho : o.op = .call { callee := .builtin .append, args := #[s, x], argTypes := #[t, t] }) (hs : a.eval s = vs) (hx : a.eval x = vx)
    (hr : (Builtin.append_ #[t, t] o.type #[vs, vx]).run P w = .ok v w') : (execOp a.eval o).run P w = .ok (.value v) w' := by
  unfold execOp
  simp only [ho, resolve, invoke, builtin, Sem.run_bind, Sem.run_pure, Result.andThen_ok, List.map_toArray, List.map_cons, List.map_nil, hs, hx, hr]
end
end Go.Proofs.YtobofhiakgohfaaDoor
