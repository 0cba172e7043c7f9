/- A right text is right line by line: plain Lean. -/
import Derived.Test.YtobofhiakgohfaaDoorP19
namespace Go.Proofs.YtobofhiakgohfaaDoor
open Go.RowKit

/-- A token but for its place. -/
def eT (t : Int × ByteArray × Int) : Int × ByteArray := (t.1, t.2.1)
theorem eT_eq {t u : Int × ByteArray × Int} (h : eT t = eT u) : t.1 = u.1 ∧ t.2.1 = u.2.1 := by
  unfold eT at h
  exact Prod.mk.inj h
theorem toksT_shift : ∀ (l : List UInt8) (cm : Bool) (k k' : Nat), ((toksT cm none k l).map eT = (toksT cm none k' l).map eT) ∧ ∀ f f' w, (toksT cm (some (f, w)) k l).map eT = (toksT cm (some (f', w)) k' l).map eT
  | [], cm, k, k' => ⟨rfl, fun _ _ _ => rfl⟩
  | c :: t, cm, k, k' => by
    have A := fun cm => (toksT_shift t cm (k + 1) (k' + 1)).1
    have B := fun cm f f' w => (toksT_shift t cm (k + 1) (k' + 1)).2 f f' w
    have N : (toksT cm none k (c :: t)).map eT = (toksT cm none k' (c :: t)).map eT := by
      rw [toksT, toksT]
      split
      · rw [List.map_cons, List.map_cons, A]; rfl
      · split
        · exact A cm
        · split
          · exact A true
          · split
            · exact B cm _ _ _
            · rfl
    refine ⟨N, fun f f' w => ?_⟩
    by_cases hw : inWordB c = true
    · rw [toksT_more _ _ _ _ _ _ hw, toksT_more _ _ _ _ _ _ hw]
      exact B cm _ _ _
    · rw [toksT_stop _ _ _ _ _ _ (by simpa using hw), toksT_stop _ _ _ _ _ _ (by simpa using hw), List.map_cons, List.map_cons, N]
      rfl
/-- A line's tokens. -/
def LineToks (cm : Bool) (o : Option (Nat × List UInt8)) (k : Nat) (l : List UInt8) : Prop :=
  ∃ (B : TVl) (z : Int × ByteArray × Int), toksT cm o k l = B ++ [z] ∧ (∀ x ∈ B, x.1 = 1) ∧ ((z.1 = 3 ∧ ∀ r, ∃ e, e.1 = 2 ∧ toksT cm o k (l ++ 10 :: r) = B ++ e :: toksT false none (k + l.length + 1) r) ∨ (z.1 = 4 ∧ ∀ r, toksT cm o k (l ++ 10 :: r) = B ++ [z]))
theorem toksT_lines : ∀ (l : List UInt8) (cm : Bool) (k : Nat), (10 : UInt8) ∉ l → LineToks cm none k l ∧ ∀ f w, LineToks cm (some (f, w)) k l
  | [], cm, k, _ => by
    refine ⟨⟨[], _, rfl, by simp, .inl ⟨rfl, fun r => ⟨_, ?_, by rw [List.nil_append, toksT_nl]; rfl⟩⟩⟩, fun f w => ⟨[(1, ⟨w.toArray⟩, (f : Int))], _, rfl, by simp, .inl ⟨rfl, fun r => ⟨_, ?_, by rw [List.nil_append, toksT_stop _ _ _ _ _ _ (by decide), toksT_nl]; rfl⟩⟩⟩⟩
    · rfl
    · rfl
  | c :: t, cm, k, h => by
    have c10 : c ≠ 10 := fun e => h (by rw [e]; simp)
    have ht : (10 : UInt8) ∉ t := fun e => h (by simp [e])
    have A := fun cm => (toksT_lines t cm (k + 1) ht).1
    have B := fun cm f w => (toksT_lines t cm (k + 1) ht).2 f w
    have up : ∀ {o o' cm'}, LineToks cm' o' (k + 1) t → (∀ r, toksT cm o k (c :: r) = toksT cm' o' (k + 1) r) → LineToks cm o k (c :: t) := by
      rintro o o' cm' ⟨B, z, h1, h2, h3⟩ hr
      refine ⟨B, z, by rw [hr]; exact h1, h2, ?_⟩
      rcases h3 with ⟨h3, h4⟩ | ⟨h3, h4⟩
      · refine .inl ⟨h3, fun r => ?_⟩
        obtain ⟨e, e1, e2⟩ := h4 r
        exact ⟨e, e1, by rw [List.cons_append, hr, e2, List.length_cons, show k + 1 + t.length + 1 = k + (t.length + 1) + 1 by omega]⟩
      · exact .inr ⟨h3, fun r => by rw [List.cons_append, hr]; exact h4 r⟩
    have N : LineToks cm none k (c :: t) := by
      by_cases hcb : cm = true ∨ blankB c = true
      · exact up (A cm) (fun r => by rw [toksT, if_neg c10, if_pos hcb])
      · by_cases c35 : c = 35
        · exact up (A true) (fun r => by rw [toksT, if_neg c10, if_neg hcb, if_pos c35])
        · by_cases hw : inWordB c = true
          · exact up (B cm k [c]) (fun r => by rw [toksT, if_neg c10, if_neg hcb, if_neg c35, if_pos hw])
          · have hr : ∀ r, toksT cm none k (c :: r) = [(4, ⟨#[c]⟩, (k : Int))] := fun r => by rw [toksT, if_neg c10, if_neg hcb, if_neg c35, if_neg hw]
            exact ⟨[], _, hr _, by simp, .inr ⟨rfl, fun r => hr _⟩⟩
    refine ⟨N, fun f w => ?_⟩
    by_cases hw : inWordB c = true
    · exact up (B cm f (w ++ [c])) (fun r => toksT_more _ _ _ _ _ _ hw)
    · have hw : inWordB c = false := by simpa using hw
      obtain ⟨B, z, h1, h2, h3⟩ := N
      refine ⟨(1, ⟨w.toArray⟩, (f : Int)) :: B, z, by rw [toksT_stop _ _ _ _ _ _ hw, h1]; rfl, fun x hx => ?_, ?_⟩
      · rcases List.mem_cons.1 hx with rfl | hx
        · rfl
        · exact h2 x hx
      · rcases h3 with ⟨h3, h4⟩ | ⟨h3, h4⟩
        · refine .inl ⟨h3, fun r => ?_⟩
          obtain ⟨e, e1, e2⟩ := h4 r
          exact ⟨e, e1, by rw [List.cons_append] at e2 ⊢; rw [toksT_stop _ _ _ _ _ _ hw, e2]; rfl⟩
        · exact .inr ⟨h3, fun r => by have := h4 r; rw [List.cons_append] at this ⊢; rw [toksT_stop _ _ _ _ _ _ hw, this]; rfl⟩

/-- Items read out of the same words at other places. -/
theorem itemsR_shift {most : Nat} {endw : List UInt8} {e z : Int × ByteArray × Int} {T : TVl} (he : e.1 = 2) (hz : z.1 = 3) : ∀ (B B0 : TVl) (acc acc0 : List ItemD) {l : List ItemD} {T' : TVl}, B.map eT = B0.map eT → (∀ x ∈ B, x.1 = 1) → acc.length = acc0.length →
    itemsR most endw acc (B ++ e :: T) = .ok (l, T') → ∃ l0 B2 B02, l0.length = l.length ∧ T' = B2 ++ e :: T ∧ B2.map eT = B02.map eT ∧ (∀ x ∈ B2, x.1 = 1) ∧ itemsR most endw acc0 (B0 ++ [z]) = .ok (l0, B02 ++ [z])
  | [], B0, acc, acc0, l, T', hB, hk, ha, h => by
    have : B0 = [] := by
      cases B0 with
      | nil => rfl
      | cons b B0 => simp at hB
    subst this
    rw [List.nil_append, itemsR] at h
    rw [List.nil_append, itemsR]
    by_cases h0 : acc.length = 0
    · rw [if_pos (.inl h0), if_neg (by omega)] at h
      cases h
    · rw [if_neg (by rintro (h | h); exact h0 h; omega)] at h
      cases h
      rw [if_neg (by rintro (h | h); omega; omega)]
      exact ⟨acc0, [], [], ha.symm, rfl, rfl, by simp, rfl⟩
  | t :: B, B0, acc, acc0, l, T', hB, hk, ha, h => by
    cases B0 with
    | nil => simp at hB
    | cons t0 B0 =>
      simp only [List.map_cons, List.cons.injEq] at hB
      obtain ⟨e1, e2⟩ := eT_eq hB.1
      have h1 : t.1 = 1 := hk t (by simp)
      rw [List.cons_append, itemsR] at h
      rw [List.cons_append, itemsR, ← e1, ← e2, ← ha]
      split at h
      · rename_i hc
        rw [if_pos hc]
        try rw [if_pos h1]
        try rw [if_pos h1] at h
        cases hi : itemD t.2.1 with
        | none => rw [hi] at h; cases h
        | some x =>
          rw [hi] at h
          simp only [] at h ⊢
          split at h
          · cases h
          · rename_i hm
            rw [if_neg hm]
            exact itemsR_shift he hz B B0 _ _ hB.2 (fun x hx => hk x (by simp [hx])) (by simp [ha]) h
      · rename_i hc
        cases h
        rw [if_neg hc]
        exact ⟨acc0, t :: B, t0 :: B0, ha.symm, rfl, by simp only [List.map_cons, List.cons.injEq]; exact hB, hk, rfl⟩
/-- One line more, read alone. -/
theorem line_alone {d D : DescD} {B B0 T : TVl} {e z : Int × ByteArray × Int} (he : e.1 = 2) (hz : z.1 = 3) (hB : B.map eT = B0.map eT) (hk : ∀ x ∈ B, x.1 = 1) (hw : wft (B ++ e :: T)) (hw0 : wft (B0 ++ [z])) (h : runT d 0 (B ++ e :: T) = .ok D) :
    ∃ d' x, runT d' 0 T = .ok D ∧ runT d0 0 (B0 ++ [z]) = .ok x ∧ x.cls.length + x.shs.length ≤ 1 ∧ d'.cls.length = d.cls.length + x.cls.length ∧ d'.shs.length = d.shs.length + x.shs.length := by
  have ee : ∀ d' : DescD, runT d' 0 (e :: T) = runT d' 0 T := fun d' => by
    obtain ⟨k, s, p⟩ := e
    simp only [] at he
    exact runT_end (by omega) (by omega) (.inl rfl)
  have zz : ∀ d' : DescD, runT d' 0 [z] = .ok d' := fun d' => by
    obtain ⟨k, s, p⟩ := z
    simp only [] at hz
    exact runT_end (by omega) (by omega) (.inl rfl)
  cases B with
  | nil =>
    have : B0 = [] := by
      cases B0 with
      | nil => rfl
      | cons b B0 => simp at hB
    subst this
    rw [List.nil_append, ee] at h
    exact ⟨d, d0, h, zz d0, by decide, rfl, rfl⟩
  | cons t B =>
    cases B0 with
    | nil => simp at hB
    | cons t0 B0 =>
      have hB' := hB
      simp only [List.map_cons, List.cons.injEq] at hB
      obtain ⟨e1, e2⟩ := eT_eq hB.1
      have h1 : t.1 = 1 := hk t (by simp)
      rw [List.cons_append] at h hw hw0 ⊢
      rw [lineR_run hw rfl h1] at h
      rw [lineR_run hw0 rfl (by omega)]
      rw [lineR, if_pos h1] at h
      rw [lineR, if_pos (by omega), ← e2]
      have hk' : ∀ x ∈ B, x.1 = 1 := fun x hx => hk x (by simp [hx])
      have endz : ∀ d' : DescD, endR d' [z] = .ok (d', [z]) := fun d' => by rw [endR, if_pos (.inr hz)]
      have ende : ∀ {d' D' : DescD} {B2 T2 : TVl}, (∀ x ∈ B2, x.1 = 1) → endR d' (B2 ++ e :: T) = .ok (D', T2) → B2 = [] ∧ D' = d' ∧ T2 = e :: T := by
        intro d' D' B2 T2 hk2 hq
        cases B2 with
        | nil =>
          rw [List.nil_append, endR, if_pos (.inl he)] at hq
          cases hq
          exact ⟨rfl, rfl, rfl⟩
        | cons b B2 =>
          have := hk2 b (by simp)
          rw [List.cons_append, endR, if_neg (by omega)] at hq
          cases hq
      split at h
      · cases h
      · rename_i hno
        rw [if_neg (by rintro (h | h) <;> exact absurd h.2 (by decide))]
        by_cases hc : t.2.1.data.toList = bClass
        · rw [if_pos hc] at h ⊢
          cases hx : behind (classR d (B ++ e :: T)) with
          | error p => rw [hx] at h; cases h
          | ok y =>
            obtain ⟨d', T'⟩ := y
            rw [hx] at h
            have h : runT d' 0 T' = .ok D := h
            cases B with
            | nil =>
              have := behind_ok hx
              rw [List.nil_append, classR, if_neg (by rintro ⟨h, _⟩; omega)] at this
              cases this
            | cons t2 B =>
              cases B0 with
              | nil => simp at hB
              | cons t20 B0 =>
                simp only [List.map_cons, List.cons.injEq] at hB
                obtain ⟨f1, f2⟩ := eT_eq hB.2.1
                rw [List.cons_append, classR] at hx ⊢
                rw [← f1, ← f2]
                split at hx
                · rename_i hn
                  rw [if_pos hn]
                  cases hi : itemsR 32 [] [] (B ++ e :: T) with
                  | error p => rw [hi] at hx; cases hx
                  | ok q =>
                    obtain ⟨l, T2⟩ := q
                    rw [hi] at hx
                    obtain ⟨l0, B2, B02, g1, rfl, g3, g4, g5⟩ := itemsR_shift he hz B B0 [] [] hB.2.2 (fun x hx => hk' x (by simp [hx])) rfl hi
                    have hx : endR _ (B2 ++ e :: T) = _ := hx
                    obtain ⟨rfl, rfl, rfl⟩ := ende g4 hx
                    have : B02 = [] := by
                      cases B02 with
                      | nil => rfl
                      | cons b B0 => simp at g3
                    subst this
                    rw [g5]
                    have e5 : behind (.ok (⟨d0.cls ++ [⟨t2.2.1, l0, t20.2.2⟩], d0.shs⟩, [] ++ [z])) = .ok (⟨d0.cls ++ [⟨t2.2.1, l0, t20.2.2⟩], d0.shs⟩, [z]) := endz _
                    rw [ee] at h
                    refine ⟨_, ⟨d0.cls ++ [⟨t2.2.1, l0, t20.2.2⟩], d0.shs⟩, h, ?_, by simp [d0], by simp [d0], by simp [d0]⟩
                    simp only []
                    rw [e5]
                    exact zz _
                · cases hx
        · rw [if_neg hc] at h ⊢
          by_cases hs : t.2.1.data.toList = bShape
          · rw [if_pos hs] at h ⊢
            cases hx : behind (shapeR d (B ++ e :: T)) with
            | error p => rw [hx] at h; cases h
            | ok y =>
              obtain ⟨d', T'⟩ := y
              rw [hx] at h
              have h : runT d' 0 T' = .ok D := h
              unfold shapeR at hx ⊢
              cases hi : itemsR 8 bAt [] (B ++ e :: T) with
              | error p => rw [hi] at hx; cases hx
              | ok q =>
                obtain ⟨l, T2⟩ := q
                rw [hi] at hx
                obtain ⟨l0, B2, B02, g1, rfl, g3, g4, g5⟩ := itemsR_shift he hz B B0 [] [] hB.2 hk' rfl hi
                rw [g5]
                simp only [] at hx ⊢
                cases B2 with
                | nil =>
                  have := behind_ok hx
                  rw [List.nil_append, atR, if_neg (by rintro ⟨h, _⟩; omega)] at this
                  cases this
                | cons t3 B3 =>
                  cases B02 with
                  | nil => simp at g3
                  | cons t30 B03 =>
                    simp only [List.map_cons, List.cons.injEq] at g3
                    obtain ⟨f1, f2⟩ := eT_eq g3.1
                    rw [List.cons_append, atR] at hx ⊢
                    rw [← f1, ← f2]
                    split at hx
                    · rename_i hn
                      rw [if_pos hn]
                      cases B3 with
                      | nil =>
                        have := behind_ok hx
                        rw [List.nil_append, numTR, if_neg (by omega)] at this
                        cases this
                      | cons t4 B4 =>
                        cases B03 with
                        | nil => simp at g3
                        | cons t40 B04 =>
                          simp only [List.map_cons, List.cons.injEq] at g3
                          obtain ⟨p1, p2⟩ := eT_eq g3.2.1
                          rw [List.cons_append, numTR] at hx ⊢
                          rw [← p1, ← p2]
                          split at hx
                          · rename_i h4
                            rw [if_pos h4]
                            cases hnn : numR t4.2.1.data.toList with
                            | none => rw [hnn] at hx; cases hx
                            | some n =>
                              rw [hnn] at hx
                              simp only [] at hx ⊢
                              have hx : endR _ (B4 ++ e :: T) = _ := hx
                              obtain ⟨rfl, rfl, rfl⟩ := ende (fun x hx => g4 x (by simp [hx])) hx
                              have : B04 = [] := by
                                cases B04 with
                                | nil => rfl
                                | cons b B0 => simp at g3
                              subst this
                              have e5 : behind (.ok (⟨d0.cls, d0.shs ++ [⟨l0, (n : Int), t40.2.2⟩]⟩, [] ++ [z])) = .ok (⟨d0.cls, d0.shs ++ [⟨l0, (n : Int), t40.2.2⟩]⟩, [z]) := endz _
                              rw [ee] at h
                              refine ⟨_, ⟨d0.cls, d0.shs ++ [⟨l0, (n : Int), t40.2.2⟩]⟩, h, ?_, by simp [d0], by simp [d0], by simp [d0]⟩
                              rw [e5]
                              exact zz _
                          · cases hx
                    · cases hx
          · rw [if_neg hs] at h
            cases h

theorem wft_toksT (l : List UInt8) (k : Nat) : wft (toksT false none k l) := by
  have h : ∀ (A B : TVl), A.map eT = B.map eT → wft A → wft B := by
    intro A
    induction A with
    | nil => intro B _ h; exact h.elim
    | cons t A ih =>
      intro B hB h
      cases B with
      | nil => simp at hB
      | cons t0 B =>
        simp only [List.map_cons, List.cons.injEq] at hB
        obtain ⟨e1, e2⟩ := eT_eq hB.1
        rcases wft_cons h with ⟨rfl, h2⟩ | ⟨h2, h3⟩
        · have : B = [] := by
            cases B with
            | nil => rfl
            | cons b B => simp at hB
          subst this
          show t0.1 = 3 ∨ t0.1 = 4
          omega
        · exact wft_word (by rw [← e1, ← e2]; exact h2) (ih B hB.2 h3)
  refine h (toksT false none 0 l) _ (toksT_shift l false 0 k).1 ?_
  have := wft_toks ⟨l.toArray⟩
  unfold toks at this
  rw [(toksT_eq ⟨l.toArray⟩ l false 0 (by simp)).1] at this
  exact this
def inter : List (List UInt8) → List UInt8
  | [] => []
  | [l] => l
  | l :: r => l ++ 10 :: inter r
theorem lines_ok : ∀ (L : List (List UInt8)) (d D : DescD) (k : Nat), L ≠ [] → (∀ l ∈ L, (10 : UInt8) ∉ l) → runT d 0 (toksT false none k (inter L)) = .ok D →
    ∃ X : List DescD, X.length = L.length ∧ (∀ i (h : i < L.length) (h' : i < X.length), parseL L[i] = .ok X[i] ∧ X[i].cls.length + X[i].shs.length ≤ 1) ∧ D.cls.length = d.cls.length + (X.map fun x => x.cls.length).sum ∧ D.shs.length = d.shs.length + (X.map fun x => x.shs.length).sum
  | [], _, _, _, h, _, _ => absurd rfl h
  | [l], d, D, k, _, hL, h => by
    obtain ⟨B, z, h1, h2, h3⟩ := (toksT_lines l false k (hL l (by simp))).1
    obtain ⟨B0, z0, q1, q2, q3⟩ := (toksT_lines l false 0 (hL l (by simp))).1
    have hm := (toksT_shift l false k 0).1
    rw [h1, q1, List.map_append, List.map_append] at hm
    have hm2 := List.append_inj' hm rfl
    obtain ⟨e1, _⟩ := eT_eq (by simpa using hm2.2 : eT z = eT z0)
    have hz : z.1 = 3 := by
      rcases h3 with ⟨h3, _⟩ | ⟨h3, _⟩
      · exact h3
      · exfalso
        have h : runT d 0 (toksT false none k l) = .ok D := h
        rw [h1] at h
        have key : ∀ (B : TVl) (d : DescD) (st : Nat), runT d st (B ++ [z]) ≠ .ok D := by
          intro B
          induction B with
          | nil =>
            intro d st hh
            obtain ⟨a, s, p⟩ := z
            simp only [] at h3
            subst h3
            rw [List.nil_append, runT_four] at hh
            cases hh
          | cons b B ih =>
            intro d st hh
            rw [List.cons_append, runT] at hh
            split at hh
            · cases hh
            · exact ih _ _ hh
        exact key _ _ _ h
    -- the line with an end of its own
    have hw := wft_toksT l 0
    rw [q1] at hw
    have hwk := wft_toksT l k
    rw [h1] at hwk
    have h : runT d 0 (toksT false none k l) = .ok D := h
    rw [h1] at h
    have hw2 : wft (B ++ ((2 : Int), (⟨#[10]⟩ : ByteArray), (0 : Int)) :: [z]) := by
      have key : ∀ (B : TVl), (∀ x ∈ B, x.1 = 1) → wft (B ++ [z]) → wft (B ++ ((2 : Int), (⟨#[10]⟩ : ByteArray), (0 : Int)) :: [z]) := by
        intro B
        induction B with
        | nil => intro _ _; exact wft_word (.inr rfl) (.inl hz)
        | cons b B ih =>
          intro hb hq
          have := word_more hq (hb b (by simp))
          exact wft_word (.inl ⟨hb b (by simp), this.2⟩) (ih (fun x hx => hb x (by simp [hx])) this.1)
      exact key B h2 hwk
    have h' : runT d 0 (B ++ ((2 : Int), (⟨#[10]⟩ : ByteArray), (0 : Int)) :: [z]) = .ok D := by
      have key : ∀ (B : TVl) (d : DescD) (st : Nat), runT d st (B ++ [z]) = .ok D → runT d st (B ++ ((2 : Int), (⟨#[10]⟩ : ByteArray), (0 : Int)) :: [z]) = .ok D := by
        intro B
        induction B with
        | nil =>
          intro d st hh
          obtain ⟨a, s, p⟩ := z
          simp only [] at hz
          subst hz
          rw [List.nil_append] at hh ⊢
          by_cases hs : st = 0 ∨ st = 3 ∨ st = 7
          · rw [runT_end (by omega) (by omega) hs] at hh ⊢
            rw [runT_end (by omega) (by omega) (.inl rfl)]
            exact hh
          · rw [runT_wild (by omega) hs] at hh
            cases hh
        | cons b B ih =>
          intro d st hh
          rw [List.cons_append, runT] at hh ⊢
          cases hs : stepT d st b with
          | error e => rw [hs] at hh; cases hh
          | ok x =>
            obtain ⟨d', st'⟩ := x
            rw [hs] at hh
            exact ih d' st' hh
      exact key B d 0 h
    obtain ⟨d', x, r1, r2, r3, r4, r5⟩ := line_alone rfl (show z0.1 = 3 by omega) hm2.1 h2 hw2 hw h'
    have hD : runT d' 0 [z] = .ok d' := by
      obtain ⟨a, s, p⟩ := z
      simp only [] at hz
      exact runT_end (by omega) (by omega) (.inl rfl)
    rw [hD] at r1
    cases r1
    refine ⟨[x], rfl, fun i hi hi' => ?_, by simpa using r4, by simpa using r5⟩
    obtain rfl : i = 0 := by simp at hi; omega
    exact ⟨by show runT d0 0 (toksT false none 0 l) = _; rw [q1]; exact r2, r3⟩
  | l :: l2 :: L, d, D, k, _, hL, h => by
    obtain ⟨B, z, h1, h2, h3⟩ := (toksT_lines l false k (hL l (by simp))).1
    obtain ⟨B0, z0, q1, q2, q3⟩ := (toksT_lines l false 0 (hL l (by simp))).1
    have hm := (toksT_shift l false k 0).1
    rw [h1, q1, List.map_append, List.map_append] at hm
    have hm2 := List.append_inj' hm rfl
    obtain ⟨e1, _⟩ := eT_eq (by simpa using hm2.2 : eT z = eT z0)
    have h : runT d 0 (toksT false none k (l ++ 10 :: inter (l2 :: L))) = .ok D := h
    rcases h3 with ⟨hz, h3⟩ | ⟨h3, h4⟩
    · obtain ⟨e, he, h3⟩ := h3 (inter (l2 :: L))
      have hwk := wft_toksT (l ++ 10 :: inter (l2 :: L)) k
      rw [h3] at h hwk
      have hw := wft_toksT l 0
      rw [q1] at hw
      obtain ⟨d', x, r1, r2, r3, r4, r5⟩ := line_alone he (show z0.1 = 3 by omega) hm2.1 h2 hwk hw h
      obtain ⟨X, x1, x2, x3, x4⟩ := lines_ok (l2 :: L) d' D _ (by simp) (fun l hl => hL l (by simp only [List.mem_cons] at hl ⊢; exact .inr hl)) r1
      refine ⟨x :: X, by simp [x1], fun i hi hi' => ?_, by rw [List.map_cons, List.sum_cons]; omega, by rw [List.map_cons, List.sum_cons]; omega⟩
      cases i with
      | zero => exact ⟨by show runT d0 0 (toksT false none 0 l) = _; rw [q1]; exact r2, r3⟩
      | succ i => exact x2 i (by simpa using hi) (by simpa using hi')
    · exfalso
      rw [h4] at h
      have key : ∀ (B : TVl) (d : DescD) (st : Nat), runT d st (B ++ [z]) ≠ .ok D := by
        intro B
        induction B with
        | nil =>
          intro d st hh
          obtain ⟨a, s, p⟩ := z
          simp only [] at h3
          subst h3
          rw [List.nil_append, runT_four] at hh
          cases hh
        | cons b B ih =>
          intro d st hh
          rw [List.cons_append, runT] at hh
          split at hh
          · cases hh
          · exact ih _ _ hh
      exact key _ _ _ h
end Go.Proofs.YtobofhiakgohfaaDoor
