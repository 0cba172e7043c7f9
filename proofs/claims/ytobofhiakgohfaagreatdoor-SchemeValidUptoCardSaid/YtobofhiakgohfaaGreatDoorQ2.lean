/- A region that draws its order, by an invariant over what has been carried out. -/
import Derived.Test.YtobofhiakgohfaaGreatDoorZO
set_option linter.unusedVariables false
set_option linter.unusedSimpArgs false
namespace Go.Proofs.YtobofhiakgohfaaGreatDoor
open Go Go.RowKit

section
variable {P : Program} {ops : Array Oper} {Q : Exit → Act → World → Prop} {md : Region.Mode}
theorem any_invW (I : Array Bool → Act → World → Prop)
    (hstep : ∀ listed a w i, listed.size = ops.size → Closed md ops listed → I listed a w → i ∈ Region.ready md ops listed → wpOp P ops Q i (I (listed.setIfInBounds i true)) a w)
    (hend : ∀ listed a w, listed.size = ops.size → Closed md ops listed → I listed a w → Region.ready md ops listed = [] → Q .normal a w) :
    ∀ (fuel : Nat) (listed : Array Bool) (a : Act) (w : World), listed.size = ops.size → Closed md ops listed → listed.toList.count false ≤ fuel → I listed a w → wpAny P md ops Q fuel listed a w
  | 0, listed, a, w, hs, hc, hn, hI => by
    have h0 : Region.ready md ops listed = [] := by
      refine List.eq_nil_iff_forall_not_mem.2 fun i hi => ?_
      obtain ⟨h1, h2, _⟩ := ready_facts hs hi
      have := count_set (by omega) h2
      omega
    exact ⟨h0, hend _ _ _ hs hc hI h0⟩
  | fuel + 1, listed, a, w, hs, hc, hn, hI => by
    refine ⟨fun h0 => hend _ _ _ hs hc hI h0, fun i hi => ?_⟩
    obtain ⟨h1, h2, _⟩ := ready_facts hs hi
    have hcs := count_set (by omega) h2
    exact wpOp_mono (fun a' w' h => any_invW I hstep hend fuel _ a' w' (by simpa using hs) (closed_set hs hc hi) (by omega) h) (hstep _ _ _ _ hs hc hI hi)
/-- The region. -/
theorem region_invW {id : Nat} {a : Act} {w : World} (I : Array Bool → Act → World → Prop) (hm : P.follows .mixedOrders = true)
    (h0 : I (Array.replicate ops.size false) a w.drew)
    (hstep : ∀ listed a w i, listed.size = ops.size → Closed .any ops listed → I listed a w → i ∈ Region.ready .any ops listed → wpOp P ops Q i (I (listed.setIfInBounds i true)) a w)
    (hend : ∀ listed a w, listed.size = ops.size → Closed .any ops listed → I listed a w → Region.ready .any ops listed = [] → Q .normal a w) : (Code.region id ops true).wp P Q a w :=
  wp_region_any hm (any_invW I hstep hend _ _ _ _ (by simp) (fun j oj hj hl => absurd hl (lst_none _ _)) (by simp) h0)
theorem opW_val {i : Nat} {o : Oper} {a : Act} {w w' : World} {v : Value} {K : Act → World → Prop} (ho : ops[i]? = some o) (hg : o.guard = none) (hr : (execOp a.eval o).run P w = .ok (.value v) w') (hK : K (a.put o.dst v) w') : wpOp P ops Q i K a w := by
  unfold wpOp
  rw [ho]
  have hw : Region.wanted o (yielded ops a.tmps) = true := by simp [Region.wanted, hg]
  simp only [hw, if_true]
  refine .inl ?_
  unfold Oper.wp
  rw [hr]
  exact hK
theorem opW_skip {i : Nat} {o : Oper} {a : Act} {w w' : World} {K : Act → World → Prop} (ho : ops[i]? = some o) (hg : o.guard = none) (hr : (execOp a.eval o).run P w = .ok .skip w') (hK : K (a.put o.dst undef) w') : wpOp P ops Q i K a w := by
  unfold wpOp
  rw [ho]
  have hw : Region.wanted o (yielded ops a.tmps) = true := by simp [Region.wanted, hg]
  simp only [hw, if_true]
  refine .inl ?_
  unfold Oper.wp
  rw [hr]
  exact hK
theorem opW_call {i : Nat} {o : Oper} {a : Act} {w w' : World} {f : FuncId} {args : Array Value} {K : Act → World → Prop} {post : Ending → World → Prop} (ho : ops[i]? = some o) (hg : o.guard = none) (hr : (execOp a.eval o).run P w = .ok (.enter f args) w')
    (hc : Calls P f args w' post) (hK : ∀ e w'', post e w'' → ∃ v, e = .returned v ∧ K (a.put o.dst v) w'') : wpOp P ops Q i K a w := by
  unfold wpOp
  rw [ho]
  have hw : Region.wanted o (yielded ops a.tmps) = true := by simp [Region.wanted, hg]
  simp only [hw, if_true]
  refine .inl ?_
  unfold Oper.wp
  rw [hr, Oper.upon_enter]
  refine hc.mono fun e w'' h => ?_
  obtain ⟨v, rfl, hk⟩ := hK e w'' h
  exact hk
end
end Go.Proofs.YtobofhiakgohfaaGreatDoor
