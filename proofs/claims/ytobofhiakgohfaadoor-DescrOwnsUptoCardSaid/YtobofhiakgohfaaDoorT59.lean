/- The walk of DescrOwns. -/
import Derived.Test.YtobofhiakgohfaaDoorT51
set_option linter.unusedVariables false
set_option linter.unusedSimpArgs false
namespace Go.Proofs.YtobofhiakgohfaaDoor
open Go.RowKit

/-- What Parse answers, in memory of the call's own. -/
def ParseO (s : ByteArray) (w : World) (e : Ending) (w' : World) : Prop :=
  ∃ A n c A2 n2 c2 pc ps, e = .returned (.tuple #[.agg #[.slice A n c, .slice A2 n2 c2], .int .i64 (parse3 s).2.1, .int .i64 (parse3 s).2.2]) ∧ PD w' w.heap.size (.slice A n c) (.slice A2 n2 c2) pc ps ∧ pc.map Prod.fst = (parse3 s).1.cls ∧ ps.map Prod.fst = (parse3 s).1.shs ∧ fitD (parse3 s).1 = true ∧ n = pc.length ∧ n2 = ps.length ∧ K0 w w'
theorem ParsePost.o {s : ByteArray} {w w' : World} {e : Ending} (h : ParsePost s w e w') : ParseO s w e w' := by
  rcases h with ⟨p, er, h1, h2, h3⟩ | ⟨d, vc, vs, pc, ps, h1, h2, h3, h4, h5, h6⟩
  · have e3 : parse3 s = (d0, p, er) := by unfold parse3; rw [h1]
    unfold ParseO
    rw [e3]
    exact ⟨none, 0, 0, none, 0, 0, [], [], h2, PD.nil w' _, rfl, rfl, fitD_zero, rfl, rfl, h3⟩
  · have e3 : parse3 s = (d, 0, 0) := by unfold parse3; rw [h1]
    unfold ParseO
    rw [e3]
    obtain ⟨A, c, rfl, _, _⟩ := own_form h3.oc
    obtain ⟨A2, c2, rfl, _, _⟩ := own_form h3.os
    exact ⟨A, _, c, A2, _, c2, pc, ps, h2, h3, h4, h5, parse_fit h1, rfl, rfl, h6⟩
theorem PD.kb {S : Nat → Prop} {w w' : World} {base : Nat} {vc vs : Value} {pc : List (ClassD × Value)} {ps : List (ShapeD × Value)} (h : PD w base vc vs pc ps) (hk : Kp S w w') (hs : ∀ g, base ≤ g → ¬ S g) : PD w' base vc vs pc ps :=
  ⟨own_kp h.oc hk hs, own_kp h.os hk hs, fun x hx => ⟨⟨own_kp (h.ci x hx).1.1 hk hs, (h.ci x hx).1.2⟩, (h.ci x hx).2⟩, fun x hx => ⟨⟨own_kp (h.si x hx).1.1 hk hs, (h.si x hx).1.2⟩, (h.si x hx).2⟩, h.ap⟩

/-- The lists of a description, with how long they are. -/
def rowsOf (pc : List (ClassD × Value)) (ps : List (ShapeD × Value)) : List (Value × Nat) := pc.map (fun x => (x.2, x.1.its.length)) ++ ps.map (fun x => (x.2, x.1.its.length))
theorem rowsOf_len (pc : List (ClassD × Value)) (ps : List (ShapeD × Value)) : (rowsOf pc ps).length = pc.length + ps.length := by simp [rowsOf]
theorem rowsOf_fst (pc : List (ClassD × Value)) (ps : List (ShapeD × Value)) : (rowsOf pc ps).map Prod.fst = pc.map Prod.snd ++ ps.map Prod.snd := by simp [rowsOf, Function.comp_def]
theorem PD.rows {w : World} {base : Nat} {vc vs : Value} {pc : List (ClassD × Value)} {ps : List (ShapeD × Value)} (h : PD w base vc vs pc ps) : ∀ r ∈ rowsOf pc ps, ∃ xs, w.ownsRow base 47 4 r.1 r.2 xs := by
  intro r hr
  rcases List.mem_append.1 hr with hr | hr
  · obtain ⟨x, hx, rfl⟩ := List.mem_map.1 hr
    exact ⟨_, (h.ci x hx).1.1⟩
  · obtain ⟨x, hx, rfl⟩ := List.mem_map.1 hr
    exact ⟨_, (h.si x hx).1.1⟩
theorem PD.rows_len {d : DescD} {pc : List (ClassD × Value)} {ps : List (ShapeD × Value)} (hf : fitD d = true) (hc : pc.map Prod.fst = d.cls) (hs : ps.map Prod.fst = d.shs) : (∀ r ∈ rowsOf pc ps, r.2 ≤ 32) ∧ pc.length ≤ 32 ∧ ps.length ≤ 32 := by
  unfold fitD at hf
  simp only [Bool.and_eq_true, decide_eq_true_eq, List.all_eq_true] at hf
  have l1 : pc.length = d.cls.length := by rw [← hc]; simp
  have l2 : ps.length = d.shs.length := by rw [← hs]; simp
  refine ⟨fun r hr => ?_, by omega, by omega⟩
  rcases List.mem_append.1 hr with hr | hr
  · obtain ⟨x, hx, rfl⟩ := List.mem_map.1 hr
    have := hf.1.2 x.1 (by rw [← hc]; exact List.mem_map.2 ⟨x, hx, rfl⟩)
    unfold fitC fitsB at this
    simp only [Bool.and_eq_true, decide_eq_true_eq] at this
    exact this.2.1.2
  · obtain ⟨x, hx, rfl⟩ := List.mem_map.1 hr
    have := hf.2 x.1 (by rw [← hs]; exact List.mem_map.2 ⟨x, hx, rfl⟩)
    unfold fitS fitsB at this
    simp only [Bool.and_eq_true, decide_eq_true_eq] at this
    have := this.2.1.2
    show x.1.its.length ≤ 32
    omega
theorem PD.rows_ap {w : World} {base : Nat} {vc vs : Value} {pc : List (ClassD × Value)} {ps : List (ShapeD × Value)} (h : PD w base vc vs pc ps) : (rowsOf pc ps).Pairwise fun a b => Apart a.1.ownBlock b.1.ownBlock := by
  have := h.ap
  have e : (pc.map fun x => x.2.ownBlock) ++ (ps.map fun x => x.2.ownBlock) = (rowsOf pc ps).map fun r => r.1.ownBlock := by simp [rowsOf, Function.comp_def]
  rw [e, List.pairwise_map] at this
  exact this

/-- A shorter value in the same row. -/
theorem own_prefixN {w w' : World} {b b' b'' : Nat} {e : TypeId} {sz n m : Nat} {v x : Value} {xs ys : List Value} (hv : w.ownsRow b e sz v n xs) (hx : w.ownsRow b' e sz x (n + m) (xs ++ ys)) (hb : x.ownBlock = v.ownBlock)
    (hx' : w'.ownsRow b'' e sz x (n + m) (xs ++ ys)) : w'.ownsRow b e sz v n xs := by
  refine ⟨hv.1, ?_⟩
  rcases hv.2 with h2 | ⟨g, cap, cur, rfl, hg, hh, h1, h2, h3, h4⟩
  · exact .inl h2
  · rcases hx.2 with ⟨rfl, _⟩ | ⟨g1, cap1, cur1, rfl, _, hh1, k1, k2, k3, k4⟩
    · simp [Value.ownBlock] at hb
    · simp [Value.ownBlock] at hb
      subst hb
      rw [hh] at hh1
      injection hh1 with hh1
      injection hh1 with hh1 _
      subst hh1
      rcases hx'.2 with ⟨h, _⟩ | ⟨g2, cap2, cur2, h, _, hh2, l1, l2, l3, l4⟩
      · cases h
      · cases h
        refine .inr ⟨g1, cap, cur2, rfl, hg, hh2, h1, h2, by rw [l3, ← k3, h3], ?_⟩
        have hl := hv.1
        have : cur2.toList.take (n * sz) = (cur2.toList.take ((n + m) * sz)).take (n * sz) := by
          rw [List.take_take]; congr 1
          have := Nat.mul_le_mul_right sz (show n ≤ n + m by omega)
          omega
        rw [this, l4, ← hl, List.take_left]

/-- The row v has the mark k at each of its n items. -/
def RowM (w : World) (v : Value) (n k : Nat) : Prop := ∃ xs, w.ownsRow 0 47 4 v n xs ∧ ∀ i, i < n → xs[i * 4 + 3]? = some (.int .i64 (-(k : Int) - 5))
/-- The grown row. -/
def RowG' (w : World) (v : Value) (n m k : Nat) : Prop := ∃ xs ys, w.ownsRow 0 47 4 v (n + m) (xs ++ ys) ∧ xs.length = n * 4 ∧ (∀ i, i < n → xs[i * 4 + 3]? = some (.int .i64 (-(k : Int) - 5))) ∧ ∀ i, i < m → ys[i * 4 + 3]? = some (.int .i64 ((k : Int) + 1))
theorem RowM.far {S : Nat → Prop} {w w' : World} {v : Value} {n k : Nat} (h : RowM w v n k) (hk : Kp S w w') (hs : ∀ g, v.ownBlock = some g → ¬ S g) : RowM w' v n k := by
  obtain ⟨xs, h1, h2⟩ := h
  exact ⟨xs, own_far h1 hk hs, h2⟩
theorem RowG'.far {S : Nat → Prop} {w w' : World} {v : Value} {n m k : Nat} (h : RowG' w v n m k) (hk : Kp S w w') (hs : ∀ g, v.ownBlock = some g → ¬ S g) : RowG' w' v n m k := by
  obtain ⟨xs, ys, h1, h2⟩ := h
  exact ⟨xs, ys, own_far h1 hk hs, h2⟩
end Go.Proofs.YtobofhiakgohfaaDoor
