/- The builder's shape: the parts. The builder's shape. scheme.Build and scheme.Read. -/
import Derived.Test.YtobofhiakgohfaaGreatDoorSC
import Derived.Test.YtobofhiakgohfaaGreatDoorZV
set_option linter.unusedVariables false
set_option linter.unusedSimpArgs false
namespace Go.Proofs.YtobofhiakgohfaaGreatDoor
open Go.RowKit Go.Maps Go.WideMaps

/-- Two rows lie apart. -/
def Ap8 (a b : Option Nat) : Prop := ∀ g, a = some g → b ≠ some g
theorem info62 : (Tryz.prog.info? 62).map (fun i => (i.zero, i.size, i.bytes)) = some (some (.slice none 0 0), 1, 24) := by kernel_rfl
theorem info37 : (Tryz.prog.info? 37).map (fun i => (i.zero, i.size, i.bytes)) = some (some (.agg #[.slice none 0 0, .int .i64 0]), 2, 32) := by kernel_rfl

/-- Parts in memory of the call's own, each row apart from the others. -/
structure OParts (w : World) (base : Nat) (v : Value) (ps : List PartX) : Prop where
  row : w.ownsRow base 62 1 v ps.length (ps.map Prod.snd)
  prt : ∀ y ∈ ps, w.ownsRow base 61 2 y.2 y.1.length (spcs y.1) ∧ y.1.length ≤ 256
  ap : (ps.map fun y => y.2.ownBlock).Pairwise Ap8
theorem OParts.nil (w : World) (base : Nat) : OParts w base (.slice none 0 0) [] := ⟨World.ownsRow_nil _ _ _ _, (fun y hy => by cases hy), List.Pairwise.nil⟩
theorem OParts.kt {S : Nat → Prop} {w w' : World} {base : Nat} {v : Value} {ps : List PartX} (h : OParts w base v ps) (hk : Kp S w w') (h1 : ∀ g cs, Blk w g 62 cs → ¬ S g) (h2 : ∀ g cs, Blk w g 61 cs → ¬ S g) : OParts w' base v ps :=
  ⟨own_kt h.row hk h1, fun y hy => ⟨own_kt (h.prt y hy).1 hk h2, (h.prt y hy).2⟩, h.ap⟩
theorem OParts.mono {w : World} {b b' : Nat} {v : Value} {ps : List PartX} (h : OParts w b v ps) (hb : b' ≤ b) : OParts w b' v ps := ⟨own_mono h.row hb, fun y hy => ⟨own_mono (h.prt y hy).1 hb, (h.prt y hy).2⟩, h.ap⟩
/-- One part more. -/
theorem OParts.add {S : Nat → Prop} {w w' : World} {base B : Nat} {v v' : Value} {ps : List PartX} {y : PartX} (h : OParts w base v ps) (hk : Kp S w w') (h2 : ∀ g cs, Blk w g 61 cs → ¬ S g) (hr : w'.ownsRow base 62 1 v' (ps.length + 1) (ps.map Prod.snd ++ [y.2]))
    (hy : w'.ownsRow B 61 2 y.2 y.1.length (spcs y.1)) (hyl : y.1.length ≤ 256) (hB : base ≤ B) (hB2 : w.heap.size ≤ B) : OParts w' base v' (ps ++ [y]) := by
  refine ⟨by rw [List.length_append, List.map_append]; exact hr, fun z hz => ?_, ?_⟩
  · rcases List.mem_append.1 hz with hz | hz
    · exact ⟨own_kt (h.prt z hz).1 hk h2, (h.prt z hz).2⟩
    · simp only [List.mem_singleton] at hz
      subst hz
      exact ⟨own_mono hy hB, hyl⟩
  · rw [List.map_append, List.pairwise_append]
    refine ⟨h.ap, List.pairwise_singleton _ _, fun a ha b hb g hg e => ?_⟩
    obtain ⟨z, hz, rfl⟩ := List.mem_map.1 ha
    simp only [List.map_cons, List.map_nil, List.mem_singleton] at hb
    subst hb
    have := ((h.prt z hz).1.lt g hg).2
    have := (hy.lt g e).1
    omega
theorem OParts.partsV {w : World} {base : Nat} {v : Value} {ps : List PartX} (h : OParts w base v ps) (hl : ps.length ≤ 1048576) : PartsV w w.heap.size v ps := by
  obtain ⟨A, c, rfl, h1, h2⟩ := own_form h.row
  refine ⟨A, c, rfl, h1, h2, hl, Reads.of_own h.row, fun y hy => ?_⟩
  obtain ⟨ho, hyl⟩ := h.prt y hy
  obtain ⟨A2, c2, e, g1, g2⟩ := own_form ho
  rw [e] at ho ⊢
  exact ⟨A2, c2, rfl, g1, g2, by omega, Reads.of_own ho⟩

/-- What the loop over the parts leaves, or the fault. -/
def PartsAt (cl : List ClsX) (its : List ItemD) (w W1 : World) (b5 : Nat) (first : Int) (q : Nat) (ps : List PartX) (pv : Value) (wr : World) : Prop :=
  ps.length = q ∧ itemsB (cl.map ClsX.d) (its.take q) = .ok (ps.map Prod.fst) ∧ Blk wr b5 37 #[pv, .int .i64 first] ∧ OParts wr W1.heap.size pv ps ∧ Kp (fun k => k = b5) W1 wr
theorem PartsAt.step {cl : List ClsX} {its : List ItemD} {w W1 : World} {b5 : Nat} {first : Int} {q : Nat} {ps : List PartX} {pv pv' : Value} {wr w3 : World} {y : PartX} {S : Nat → Prop} (h : PartsAt cl its w W1 b5 first q ps pv wr) (hit : itemsB (cl.map ClsX.d) (its.take (q + 1)) = .ok (ps.map Prod.fst ++ [y.1]))
    (hb : Blk w3 b5 37 #[pv', .int .i64 first]) (hk : Kp S wr w3) (h2 : ∀ g cs, Blk wr g 61 cs → ¬ S g) (hr : w3.ownsRow W1.heap.size 62 1 pv' (ps.length + 1) (ps.map Prod.snd ++ [y.2])) (hy : w3.ownsRow wr.heap.size 61 2 y.2 y.1.length (spcs y.1)) (hyl : y.1.length ≤ 256)
    (hS : ∀ g, g < W1.heap.size → S g → g = b5) : PartsAt cl its w W1 b5 first (q + 1) (ps ++ [y]) pv' w3 := by
  obtain ⟨h1, hi, hbk, ho, hkp⟩ := h
  refine ⟨by simp [h1], by rw [hit, List.map_append]; rfl, hb, ho.add hk h2 hr hy hyl hkp.size (Nat.le_refl _), hkp.trans' hk (fun i hi h => hS i hi h)⟩
end Go.Proofs.YtobofhiakgohfaaGreatDoor

namespace Go.Proofs.YtobofhiakgohfaaGreatDoor
open Go.RowKit Go.Maps Go.WideMaps

/-- The shapes so far, in memory of the call's own. -/
structure OutB (w : World) (base : Nat) (v : Value) (out : List ShpX) : Prop where
  row : w.ownsRow base 37 2 v out.length (duos shduo out)
  shs : ∀ x ∈ out, OParts w base x.v x.ps ∧ x.ps.length ≤ 8 ∧ 0 ≤ x.first ∧ x.first ≤ 999999999
  aps : (out.flatMap fun x => x.ps.map fun y => y.2.ownBlock).Pairwise Ap8
  app : (out.map fun x => x.v.ownBlock).Pairwise Ap8
theorem OutB.nil (w : World) (base : Nat) : OutB w base (.slice none 0 0) [] := ⟨World.ownsRow_nil _ _ _ _, (fun y hy => by cases hy), List.Pairwise.nil, List.Pairwise.nil⟩
theorem OutB.kt {S : Nat → Prop} {w w' : World} {base : Nat} {v : Value} {out : List ShpX} (h : OutB w base v out) (hk : Kp S w w') (h1 : ∀ g cs, Blk w g 62 cs → ¬ S g) (h2 : ∀ g cs, Blk w g 61 cs → ¬ S g) (h3 : ∀ g cs, Blk w g 37 cs → ¬ (v.ownBlock = some g ∧ S g)) : OutB w' base v out :=
  ⟨own_far h.row hk (fun g hg hS => by obtain ⟨cs, hb⟩ := own_blk h.row g hg; exact h3 g cs hb ⟨hg, hS⟩), fun x hx => ⟨(h.shs x hx).1.kt hk h1 h2, (h.shs x hx).2⟩, h.aps, h.app⟩
theorem OutB.k0 {w w' : World} {base : Nat} {v : Value} {out : List ShpX} (h : OutB w base v out) (hk : K0 w w') : OutB w' base v out := h.kt hk (fun _ _ _ h => h) (fun _ _ _ h => h) (fun _ _ _ h => h.2)
/-- One shape more. -/
theorem OutB.add {S : Nat → Prop} {w w' : World} {base : Nat} {v v' : Value} {out : List ShpX} {x : ShpX} (h : OutB w base v out) (hk : Kp S w w') (h1 : ∀ g cs, Blk w g 62 cs → ¬ S g) (h2 : ∀ g cs, Blk w g 61 cs → ¬ S g)
    (hr : w'.ownsRow base 37 2 v' (out.length + 1) (duos shduo out ++ [x.v, .int .i64 x.first])) (hx : OParts w' w.heap.size x.v x.ps) (hb : base ≤ w.heap.size) (hl : x.ps.length ≤ 8) (h0 : 0 ≤ x.first) (h9 : x.first ≤ 999999999) : OutB w' base v' (out ++ [x]) := by
  have nb : ∀ z ∈ out, (∀ g, z.v.ownBlock = some g → g < w.heap.size) ∧ ∀ y ∈ z.ps, ∀ g, y.2.ownBlock = some g → g < w.heap.size := fun z hz =>
    ⟨fun g hg => ((h.shs z hz).1.row.lt g hg).2, fun y hy g hg => (((h.shs z hz).1.prt y hy).1.lt g hg).2⟩
  refine ⟨by rw [List.length_append, duos_append]; exact hr, fun z hz => ?_, ?_, ?_⟩
  · rcases List.mem_append.1 hz with hz | hz
    · exact ⟨(h.shs z hz).1.kt hk h1 h2, (h.shs z hz).2⟩
    · simp only [List.mem_singleton] at hz
      subst hz
      exact ⟨hx.mono hb, hl, h0, h9⟩
  · rw [List.flatMap_append, List.pairwise_append]
    refine ⟨h.aps, by simpa using hx.ap, fun a ha b hb g hg e => ?_⟩
    obtain ⟨z, hz, ha⟩ := List.mem_flatMap.1 ha
    obtain ⟨y, hy, rfl⟩ := List.mem_map.1 ha
    simp only [List.flatMap_cons, List.flatMap_nil, List.append_nil, List.mem_map] at hb
    obtain ⟨y2, hy2, rfl⟩ := hb
    have := (nb z hz).2 y hy g hg
    have := ((hx.prt y2 hy2).1.lt g e).1
    omega
  · rw [List.map_append, List.pairwise_append]
    refine ⟨h.app, List.pairwise_singleton _ _, fun a ha b hb g hg e => ?_⟩
    obtain ⟨z, hz, rfl⟩ := List.mem_map.1 ha
    simp only [List.map_cons, List.map_nil, List.mem_singleton] at hb
    subst hb
    have := (nb z hz).1 g hg
    have := (hx.row.lt g e).1
    omega
/-- The scalars that are taken. -/
def TkB (w : World) (base : Nat) (v : Value) (out : List ShpX) : Prop := ∃ A c, v = .slice A (takenOf (out.map ShpX.d)).length c ∧ w.ownsRow base 107 2 v (takenOf (out.map ShpX.d)).length (spcs (takenOf (out.map ShpX.d)))
theorem TkB.kt {S : Nat → Prop} {w w' : World} {base : Nat} {v : Value} {out : List ShpX} (h : TkB w base v out) (hk : Kp S w w') (h1 : ∀ g cs, Blk w g 107 cs → ¬ S g) : TkB w' base v out := by
  obtain ⟨A, c, e, ho⟩ := h
  exact ⟨A, c, e, own_kt ho hk h1⟩
theorem mrg1_len : ∀ (t : List Sp) (c : Sp), (mrg1 c t).length ≤ t.length + 1
  | [], c => by simp [mrg1]
  | r :: t, c => by
    rw [mrg1]
    split
    · have := mrg1_len t (c.1, max c.2 r.2); simp only [List.length_cons]; omega
    · have := mrg1_len t r; simp only [List.length_cons]; omega
theorem norm_len (l : List Sp) : (normS l).length ≤ l.length := by
  unfold normS
  have hl := (List.mergeSort_perm l fun a b : Sp => decide (a.1 ≤ b.1)).length_eq
  cases h : l.mergeSort fun a b : Sp => decide (a.1 ≤ b.1) with
  | nil => simp [mrg]
  | cons r t =>
    rw [h] at hl
    have := mrg1_len t r
    simp only [mrg, List.length_cons] at hl ⊢
    omega

theorem taken_len (D : SchD) : (takenOf D).length ≤ D.length := by
  have := norm_len (rngs D)
  unfold takenOf
  rw [show (rngs D).length = D.length from List.length_map ..] at this
  exact this

/-- What shape answers. -/
def ShapePost8 (base gb bm : Nat) (cl : List ClsX) (out : List ShpX) (vt vo : Value) (s : ShapeD) (w : World) (e : Ending) (w' : World) : Prop :=
  (∃ p er, shapeB (cl.map ClsX.d) (out.map ShpX.d) s = .error (p, er) ∧ e = .returned (faultV p er) ∧ K0 w w') ∨
  ∃ x vt' vo', shapeB (cl.map ClsX.d) (out.map ShpX.d) s = .ok ((out ++ [x]).map ShpX.d) ∧ e = .returned .nilIface ∧ Blk w' gb 83 #[.map (some bm), vt', vo'] ∧ TkB w' base vt' (out ++ [x]) ∧ OutB w' base vo' (out ++ [x]) ∧ goodP x.d ∧ Kp (fun k => k = gb ∨ vo.ownBlock = some k) w w'

set_option maxRecDepth 100000 in
set_option maxHeartbeats 16000000 in
theorem shape8_any (w : World) (base gb bm : Nat) (cl : List ClsX) (out : List ShpX) (vt vo : Value) (s : ShapeD) (v : Value) (hB : Blk w gb 83 #[.map (some bm), vt, vo]) (hC : ClsB w base bm cl) (hT : TkB w base vt out) (hO : OutB w base vo out) (hbase : base ≤ w.heap.size)
    (hg : goodC (cl.map ClsX.d)) (hf : fitS s = true) (hout : out.length < 32) (hgo : ∀ x ∈ out, goodP x.d) (hv : ItemsV w w.heap.size v s.its) :
    Calls Tryz.prog 67 #[.pointer (some ⟨gb, 0, none⟩), .agg #[v, .int .i64 s.first, .int .i64 s.pl]] w (ShapePost8 base gb bm cl out vt vo s w) := by
  obtain ⟨its, first, pl⟩ := s
  simp only [] at hv ⊢
  have hf2 := hf
  unfold fitS at hf2
  simp only [Bool.and_eq_true, decide_eq_true_eq] at hf2
  obtain ⟨hif, hine, hil⟩ := fitsB_all hf2.2
  have hil : its.length ≤ 8 := hil
  have hf0 : 0 ≤ first := hf2.1.1
  have hf9 : first ≤ 999999999 := hf2.1.2
  clear hf hf2
  obtain ⟨A, cp, rfl, hcp, hcp2, hl, hr, hnm⟩ := hv
  obtain ⟨i0, hi, hz0, hz1, hz2⟩ := info_parts info62
  obtain ⟨i1, hj, hy0, hy1, hy2⟩ := info_parts info37
  have HR := Lib.hid hr
  have HIF := Lib.hid hif
  have HNM := Lib.hid hnm
  obtain ⟨W0, hW0⟩ : ∃ W0, W0 = w.alloc (.cells #[.slice A its.length cp, .int .i64 first, .int .i64 pl] 90) := ⟨_, rfl⟩
  obtain ⟨W1, hW1⟩ : ∃ W1, W1 = W0.alloc (.cells #[.slice none 0 0, .int .i64 first] 37) := ⟨_, rfl⟩
  have s0 : W0.heap.size = w.heap.size + 1 := by rw [hW0]; simp
  have s1 : W1.heap.size = w.heap.size + 1 + 1 := by rw [hW1]; simp [s0]
  have k1 : K0 w W1 := by rw [hW1, hW0]; exact ((Kp.refl _ _).alloc _).alloc _
  have y3 : Blk W1 w.heap.size 90 #[.slice A its.length cp, .int .i64 first, .int .i64 pl] := by rw [hW1, hW0]; exact (Blk.new _ _ _).alloc _
  have y5 : Blk W1 (w.heap.size + 1) 37 #[.slice none 0 0, .int .i64 first] := by rw [hW1, ← s0]; exact Blk.new _ _ _
  have HW := Lib.hid (show W1 = (w.alloc (.cells #[.slice A its.length cp, .int .i64 first, .int .i64 pl] 90)).alloc (.cells #[.slice none 0 0, .int .i64 first] 37) by rw [hW1, hW0])
  clear hW1 hW0 s0 hr hif hnm W0
  have d0 := y3.cell 0
  have l3 := y3.lt
  simp at d0
  go_enter Tryz.func67, Tryz.ntmps67
  go_upto_region 2 with (fail)
  rw [← HW.out]
  go_wp2
  go_loopw [17] (fun i wr => ∃ (q : Nat) (ps : List PartX) (pv : Value), q ≤ its.length ∧ i = .int .i64 (q : Int) ∧ PartsAt cl its w W1 (w.heap.size + 1) first q ps pv wr) (fun i wr => its.length - (intOf i).toNat)
  case atStart => exact ⟨0, [], _, by omega, rfl, rfl, rfl, y5, OParts.nil _ _, Kp.refl _ _⟩
  clear d0 l3
  case round =>
    obtain ⟨q, ps, pv, hq, rfl, hps⟩ := hrel
    obtain ⟨hpl, hit, hb5, hop, hkp⟩ := id hps
    have hp8 : ps.length ≤ 8 := by omega
    have HPL := Lib.hid hpl
    clear hpl
    have kr : K0 w wr := k1.trans' hkp (fun i hi h => by omega)
    obtain ⟨Av, cv, rfl, _, _⟩ := own_form hop.row
    by_cases hlt : q < its.length
    · obtain ⟨ad, rfl, hb, x0, x1, x2, x3⟩ := (HR.out.k0 (Nat.le_refl _) kr).item hlt
      have hat := items_at hit hlt
      have hnq := HNM.out _ (List.getElem_mem hlt)
      have SET := Lib.hid (fun W (hk : K0 wr W) => set_any W base gb bm cl vt vo its[q] (hB.kp (kr.trans hk) (fun h => h)) (hC.k0 (kr.trans hk)) hnq)
      generalize its[q] = it at x0 x1 x2 x3 hat hnq SET
      obtain ⟨inm, ilo, ihi, ipl⟩ := it
      simp only [] at x0 x1 x2 x3 hnq SET
      have HAT := Lib.hid hat
      have HPS := Lib.hid hps
      have HIT := Lib.hid hit
      have HOP := Lib.hid hop
      clear hat hit hps hop
      go_wp2_with fail
      refine (SET.out _ ((Kp.refl _ _).alloc _)).mono ?_
      rintro e w2 h
      rcases h with ⟨hn, rfl, hk2⟩ | ⟨s, A2, c2, hs, hsl, rfl, ho2, hk2⟩
      · have HE : Hid (shapeB (cl.map ClsX.d) (out.map ShpX.d) ⟨its, first, pl⟩ = .error (ipl, 81)) := Lib.hid (by unfold shapeB; simp only []; rw [HAT.out.1 hn])
        have hq1 := fun W => fault_ne ipl 81 W
        unfold faultV at hq1 ⊢
        go_wp2
        go_ret
        exact .inl ⟨_, _, HE.out, rfl, (kr.alloc _).trans hk2⟩
      · have HS2 := Lib.hid (HAT.out.2 s hs)
        have hs2 := hk2.size
        have hsz := kr.size
        have hsp := hkp.size
        simp only [World.size_alloc] at hs2
        have kA : K0 wr w2 := ((Kp.refl _ wr).alloc (.cells #[.string inm, .int .i64 ilo, .int .i64 ihi, .int .i64 ipl] 53)).trans hk2
        have hrow := own_far HOP.out.row kA (fun _ _ h => h)
        have e5 := hb5.kp kA (fun h => h)
        have e50 := e5.cell 0
        have e51 := e5.cell 1
        have e5f := e5.frozen 0
        have e5l := e5.lt
        simp at e50 e51
        go_wp2_with (at_builtin; refine wpList_append_any _ rfl (.tmp 31) (.tmp 33) _ rfl W1.heap.size 62 i0 _ 1 24 Tryz.underlying34 hi hz0 hz1 hz2 rfl (by omega) (.slice Av ps.length cv) ps.length (ps.map Prod.snd) rfl (by exact hrow.alloc _) (w2.heap.size + 1) (some ⟨w2.heap.size, 0, none⟩) 1 1 [.slice A2 s.length c2] rfl (by have := reads_new w2 62 #[.slice A2 s.length c2] 1 1 rfl; simpa using this) (by simp [Value.oneCell']) (by simp only [maxLen]; omega) (by omega) (by simp; omega) ?_; intro v3 w3 ho3 hg3 hat3; obtain ⟨A5, c5, rfl, _, _⟩ := own_form ho3; have e6 := (e5.alloc (.cells #[.slice A2 s.length c2] 62)).grown hg3 (Ne.symm (own_blk_ne hrow e5 (by decide))); have e60 := e6.cell 0; have e6f := e6.frozen 0; have e6l := e6.lt; simp at e60)
        have K3 : Kp (fun k => k = w.heap.size + 1 ∨ (Value.slice Av ps.length cv).ownBlock = some k) wr (w3.setCell ⟨w.heap.size + 1, 0, none⟩ (.slice A5 (ps.length + 1) c5)) := (((K0.kp kA).alloc _).grown hg3 (fun b hb => .inr (.inr hb))).setCell (p := ⟨w.heap.size + 1, 0, none⟩) (.inr (.inl rfl)) _
        refine ⟨⟨q + 1, ps ++ [(s, .slice A2 s.length c2)], .slice A5 (ps.length + 1) c5, by omega, by go_num, HPS.out.step (HS2.out) ?_ K3 ?_ ?_ ?_ hsl ?_⟩, by simp [intOf]; omega⟩
        · have := e6.set_ 0 (.slice A5 (ps.length + 1) c5); simpa using this
        · rintro g cs hg (rfl | h)
          · exact hg.ne_ hb5 (by decide) rfl
          · exact own_blk_ne HOP.out.row hg (by decide) h
        · exact own_setCell (p := ⟨w.heap.size + 1, 0, none⟩) ho3 (own_blk_ne ho3 e6 (by decide))
        · have KK : Kp (fun k => k = w.heap.size + 1 ∨ (Value.slice Av ps.length cv).ownBlock = some k) w2 (w3.setCell ⟨w.heap.size + 1, 0, none⟩ (.slice A5 (ps.length + 1) c5)) := (((Kp.refl _ _).alloc _).grown hg3 (fun b hb => .inr (.inr hb))).setCell (p := ⟨w.heap.size + 1, 0, none⟩) (.inr (.inl rfl)) _
          refine own_mono (own_kt ho2 KK ?_) (by simp)
          rintro g cs hg (rfl | h)
          · exact hg.ne_ e5 (by decide) rfl
          · exact own_blk_ne hrow hg (by decide) h
        · rintro g hg (h | h)
          · exact h
          · have := (HOP.out.row.lt g h).1; omega
    · obtain rfl : q = its.length := by omega
      rw [List.take_length] at hit
      obtain ⟨hgs, hgl⟩ := itemsB_good hg HIF.out hit
      have hsz := kr.size
      have hPV := hop.partsV (by omega)
      have y3r := y3.kp hkp (fun h => by omega)
      have LA := Lib.hid (fun W (hk : K0 wr W) => last_any W (.slice Av ps.length cv) ps first (hPV.k0 (Nat.le_refl _) hk) hf0 (by omega))
      have HB1 : Hid (shapeB (cl.map ClsX.d) (out.map ShpX.d) ⟨its, first, pl⟩ = if 1073741823 < lastB ⟨ps.map Prod.fst, first⟩ then .error (pl, 82) else if overB (out.map ShpX.d) ⟨ps.map Prod.fst, first⟩ = true then .error (pl, 83) else .ok (out.map ShpX.d ++ [⟨ps.map Prod.fst, first⟩])) := Lib.hid (by unfold shapeB; simp only []; rw [hit])
      obtain ⟨X, hX⟩ : ∃ X : ShpD, X = ⟨ps.map Prod.fst, first⟩ := ⟨_, rfl⟩
      have hXf : X.first = first := by rw [hX]
      have hXp : ∀ s ∈ X.parts, goodS s := by rw [hX]; exact hgs
      have hlo : first ≤ lastB X := by have := cntP_pos hXp; unfold lastB; omega
      have hlh : lastB X ≤ 2147483648 := by have := (cntP_bd X.parts).2; unfold lastB; omega
      rw [← hX] at LA HB1
      have HX := Lib.hid hX
      have HXF := Lib.hid hXf
      have HXP := Lib.hid hXp
      clear hX hXf hXp hgs hgl hit
      obtain ⟨lb, hlb⟩ : ∃ lb, lb = lastB X := ⟨_, rfl⟩
      rw [← hlb] at LA HB1 hlo hlh
      have HLB := Lib.hid hlb
      clear hlb
      have c50 := hb5.cell 0
      have c51 := hb5.cell 1
      have l5 := hb5.lt
      simp at c50 c51
      go_wp2
      go_region_held3 (fun w' => w'.cell? ⟨w.heap.size + 1, 0, none⟩ = some (.slice Av ps.length cv) ∧ w'.cell? ⟨w.heap.size + 1, 1, none⟩ = some (.int .i64 first)) (go_keep) ((go_at_call 44; refine (LA.out _ (by first | exact (Kp.refl _ _).drew | exact ((Kp.refl _ _).drewN _))).mono ?_; rintro e w2 ⟨rfl, hk2⟩; have q0 := (hk2.cell (p := ⟨w.heap.size + 1, 0, none⟩) (by exact l5) (fun h => h)).trans (by exact c50); have q1 := (hk2.cell (p := ⟨w.heap.size + 1, 1, none⟩) (by exact l5) (fun h => h)).trans (by exact c51)))
      have k2 : K0 wr w2 := (Kp.refl _ _).drew.trans hk2
      have kw2 : K0 w w2 := kr.trans k2
      have yr := Blk.new w2 107 #[.int .i64 first, .int .i64 lb]
      have kA : K0 w (w2.alloc (.cells #[.int .i64 first, .int .i64 lb] 107)) := kw2.alloc _
      have kA2 : K0 wr (w2.alloc (.cells #[.int .i64 first, .int .i64 lb] 107)) := k2.alloc _
      obtain ⟨gr, hgr⟩ : ∃ gr, gr = w2.heap.size := ⟨_, rfl⟩
      rw [← hgr] at yr ⊢
      have hgw : w.heap.size < gr := by rw [hgr]; have := kw2.size; have := k2.size; have := hkp.size; omega
      generalize w2.alloc (.cells #[.int .i64 first, .int .i64 lb] 107) = W2 at *
      clear q0 q1 hgr hk2 k2 kw2 c50 c51 l5
      have y3w := y3r.kp kA2 (fun h => h)
      have y5w := hb5.kp kA2 (fun h => h)
      have hOP2 := hop.kt kA2 (fun _ _ _ h => h) (fun _ _ _ h => h)
      have hBw := hB.kp kA (fun h => h)
      have p2 := y3w.cell 2
      have pl3 := y3w.lt
      have r1 := yr.cell 1
      have rl := yr.lt
      simp at p2 r1
      by_cases hbig : 1073741823 < lb
      · have HB2 := HB1.out
        rw [if_pos hbig] at HB2
        have HB3 := Lib.hid HB2
        have e1 : decide (1073741823 < lb) = true := decide_eq_true hbig
        clear HB2 HB1
        go_wp2
        go_ret
        exact .inl ⟨_, _, HB3.out, rfl, kA⟩
      · have HB2 := HB1.out
        rw [if_neg hbig] at HB2
        have HB3 := Lib.hid HB2
        have e1 : decide (1073741823 < lb) = false := decide_eq_false hbig
        clear HB2 HB1
        have hgX : goodP X := ⟨by rw [HXF.out]; exact hf0, by rw [HXF.out, ← HLB.out]; exact hlo, by rw [← HLB.out]; omega⟩
        have hgo2 : ∀ p ∈ out.map ShpX.d, goodP p := fun p hp => by obtain ⟨x, hx, rfl⟩ := List.mem_map.1 hp; exact hgo x hx
        have hone := one_ok hgX
        have htok := taken_ok hgo2
        have hmt := taken_meet hgo2 hgX
        have hts := taken_snoc hgo2 hgX
        rw [HXF.out, ← HLB.out] at hone hmt hts
        have htl : (takenOf (out.map ShpX.d)).length ≤ 32 := by have := taken_len (out.map ShpX.d); rw [List.length_map] at this; omega
        have htl2 : (takenOf (out.map ShpX.d ++ [X])).length ≤ 33 := by have := taken_len (out.map ShpX.d ++ [X]); rw [List.length_append, List.length_map, List.length_singleton] at this; omega
        obtain ⟨At, ct, hvt, hot⟩ := hT
        have hotw := own_far hot kA (fun _ _ h => h)
        have RT := Reads.of_own (hvt ▸ hotw)
        have RR : Reads W2 W2.heap.size 2 (some ⟨gr, 0, none⟩) [(first, lb)].length (spcs [(first, lb)]) := ⟨rfl, fun _ => ⟨_, rfl, rl, World.news_of_block (cs := #[.int .i64 first, .int .i64 lb]) (t := 107) (fr := (0, 0)) yr⟩⟩
        have ME := Lib.hid (scmeet_any W2 At (some ⟨gr, 0, none⟩) ct 1 (takenOf (out.map ShpX.d)) [(first, lb)] RT RR (by simp; omega))
        rw [setD_of htok, setD_of hone] at ME
        have UN := Lib.hid (fun W (hk : K0 W2 W) => scunion_any W At (some ⟨gr, 0, none⟩) ct 1 (takenOf (out.map ShpX.d)) [(first, lb)] (RT.k0 (Nat.le_refl _) hk |>.more hk.size) (RR.k0 (Nat.le_refl _) hk |>.more hk.size) (by simp; omega) htok hone (by simp) (by rw [hts]; omega))
        rw [hts] at UN
        have HMT := Lib.hid hmt
        unfold SpPost at ME UN
        generalize meetL (takenOf (out.map ShpX.d)) [(first, lb)] = M at ME HMT
        generalize hTT : takenOf (out.map ShpX.d ++ [X]) = TT at UN htl2
        have HTT := Lib.hid hTT
        subst hvt
        have c1 := hBw.cell 1
        have lg := hBw.lt
        simp at c1
        clear hmt hts htok hone hTT RT RR htl hot hotw
        go_wp2_with fail
        refine ME.out.mono ?_
        rintro e w3 ⟨A3, c3, rfl, ho3, hk3⟩
        cases hov : overB (out.map ShpX.d) X with
        | true =>
          have hM : M ≠ [] := HMT.out.2 hov
          have hMl : 0 < M.length := List.length_pos_iff.2 hM
          have e2 : decide (0 < (M.length : Int)) = true := decide_eq_true (by omega)
          have HB4 := HB3.out
          rw [hov, if_pos rfl] at HB4
          have HB5 := Lib.hid HB4
          have y3v := y3w.kp hk3 (fun h => h)
          have p3 := y3v.cell 2
          have pl4 := y3v.lt
          simp at p3
          clear hov HB4 HB3 hM p2
          go_wp2
          go_ret
          exact .inl ⟨_, _, HB5.out, rfl, kA.trans hk3⟩
        | false =>
          have hM : M = [] := by
            cases hM : M with
            | nil => rfl
            | cons a t => have := HMT.out.1 (by rw [hM]; simp); rw [hov] at this; cases this
          subst hM
          have HB4 := HB3.out
          rw [hov, if_neg (by simp)] at HB4
          have HB5 := Lib.hid HB4
          have U1 := Lib.hid (UN.out w3 hk3)
          have hb3s : base ≤ w3.heap.size := by have := kA.size; have := hk3.size; omega
          have hB3 := hBw.kp hk3 (fun h => h)
          have c1' := hB3.cell 1
          have lg' := hB3.lt
          simp at c1'
          simp only [List.length_nil]
          clear hov HB4 HB3
          go_wp2_with fail
          refine U1.out.mono ?_
          rintro e w4 ⟨A4, c4, rfl, ho4, hk4⟩
          have hB4 := hB3.kp hk4 (fun h => h)
          have f1 := hB4.frozen 1
          have c1'' := hB4.cell 1
          have lg'' := hB4.lt
          have hB5 := hB4.set_ 1 (.slice A4 TT.length c4)
          simp at c1'' hB5
          have k24 : K0 W2 w4 := hk3.trans hk4
          obtain ⟨W5, hW5⟩ : ∃ W5, W5 = w4.setCell ⟨gb, 1, none⟩ (.slice A4 TT.length c4) := ⟨_, rfl⟩
          have k5 : Kp (fun k => k = gb) w4 W5 := by rw [hW5]; exact (Kp.refl (fun k => k = gb) w4).setCell (p := ⟨gb, 1, none⟩) (.inr rfl) _
          rw [← hW5] at hB5
          have kw5 : Kp (fun k => k = gb) w W5 := (K0.kp (kA.trans k24)).trans k5
          have k25 : Kp (fun k => k = gb) W2 W5 := (K0.kp k24).trans k5
          have HW5 := Lib.hid hW5
          have e2 : Blk W5 gb 83 #[.map (some bm), .slice A4 TT.length c4, vo] := hB5
          have o2 := e2.cell 2
          have lg5 := e2.lt
          have f2 := e2.frozen 2
          simp at o2
          have hgl := hB.lt
          have y5v := y5w.kp k25 (fun h => by omega)
          have z0 := y5v.cell 0
          have z1 := y5v.cell 1
          have zl := y5v.lt
          simp at z0 z1
          obtain ⟨Ao, co, hvo, _, _⟩ := own_form hO.row
          have hO5 : OutB W5 base vo out := hO.kt kw5 (fun g cs h e => by subst e; exact h.ne_ hB (by decide) rfl) (fun g cs h e => by subst e; exact h.ne_ hB (by decide) rfl) (fun g cs h e => by have e := e.2; subst e; exact h.ne_ hB (by decide) rfl)
          have hP5 : OParts W5 W1.heap.size (.slice Av ps.length cv) ps := hOP2.kt k25 (fun g cs h e => by subst e; exact h.ne_ hBw (by decide) rfl) (fun g cs h e => by subst e; exact h.ne_ hBw (by decide) rfl)
          have ho45 : W5.ownsRow w3.heap.size 107 2 (.slice A4 TT.length c4) TT.length (spcs TT) := own_kt ho4 k5 (fun g cs h e => by subst e; exact h.ne_ hB4 (by decide) rfl)
          subst hvo
          have hrow5 := hO5.row
          have HO0 := Lib.hid hO
          have hco : (out.map ShpX.d ++ [X]) = (out ++ [(⟨ps, .slice Av ps.length cv, first⟩ : ShpX)]).map ShpX.d := by rw [List.map_append, HX.out]; rfl
          have HCO := Lib.hid hco
          clear hco
          have HP5 := Lib.hid hP5
          have s5 := kw5.size
          clear hW5 hO5 hP5 hO hOP2 hB5 hB3 c1' c1 hop hgo hgo2 k24 e1 p2 r1
          go_wp2
          rw [← HW5.out]
          go_region_law (refine step_append_lies _ rfl (.tmp 80) (.tmp 82) 23 rfl base 37 i1 _ 2 32 Tryz.underlying23 hj hy0 hy1 hy2 rfl (by omega) (.slice Ao out.length co) out.length (duos shduo out) (by simp [Act.eval, Act.put]) (by exact hrow5.alloc _) ⟨W5.heap.size, 0, none⟩ 1 1 [.slice Av ps.length cv, .int .i64 first] (by simp [Act.eval, Act.put]) rfl (by exact World.news_of_block (cs := #[.slice Av ps.length cv, .int .i64 first]) (t := 37) (fr := (0, 0)) (heap_alloc_new W5 _)) (by simp [Value.oneCell']) (by omega) (by simp only [maxLen]; omega) (by omega) (by simp; omega) (W5.heap.size + 1) (by simp) ?_; intro g8 cap8 w8 hown8 hg8 hat8 hlt8; have d8 := (e2.alloc (.cells #[.slice Av ps.length cv, .int .i64 first] 37)).drew.grown hg8 (Ne.symm (own_blk_ne hrow5 e2 (by decide))); have d80 := d8.cell 2; have d8f := d8.frozen 2; have d8l := d8.lt; simp at d80)
          all_goals
            have K8 : Kp (fun k => (Value.slice Ao out.length co).ownBlock = some k) W5 w8 := ((Kp.refl _ W5).alloc _).drew.grown hg8 (fun k hk => .inr hk)
            have KF : Kp (fun k => k = gb ∨ (Value.slice Ao out.length co).ownBlock = some k) W5 (w8.setCell ⟨gb, 2, none⟩ (.slice (some ⟨g8, 0, none⟩) (out.length + 1) cap8)) := (K8.mono (fun _ h => .inr h)).setCell (p := ⟨gb, 2, none⟩) (.inr (.inl rfl)) _
            have KT := (kw5.mono (fun _ h => (.inl h : _ = gb ∨ (Value.slice Ao out.length co).ownBlock = some _))).trans KF
            have hown9 := own_setCell (p := ⟨gb, 2, none⟩) (u := .slice (some ⟨g8, 0, none⟩) (out.length + 1) cap8) hown8 (own_blk_ne hown8 d8 (by decide))
            have d9 := d8.set_ 2 (.slice (some ⟨g8, 0, none⟩) (out.length + 1) cap8)
            have avo : ∀ t, t ≠ 83 → t ≠ 37 → ∀ g cs, Blk w g t cs → ¬ (g = gb ∨ (Value.slice Ao out.length co).ownBlock = some g) := by
              rintro t h1 h2 g cs h (e | e)
              · subst e; exact h.ne_ hB h1 rfl
              · exact own_blk_ne HO0.out.row h (Ne.symm h2) e
            have avo5 : ∀ t, t ≠ 83 → t ≠ 37 → ∀ g cs, Blk W5 g t cs → ¬ (g = gb ∨ (Value.slice Ao out.length co).ownBlock = some g) := by
              rintro t h1 h2 g cs h (e | e)
              · subst e; exact h.ne_ e2 h1 rfl
              · exact own_blk_ne hrow5 h (Ne.symm h2) e
            go_wp2
            go_ret
            refine .inr ⟨⟨ps, .slice Av ps.length cv, first⟩, .slice A4 TT.length c4, _, ?_, rfl, by simpa using d9, ?_, HO0.out.add KT (avo 62 (by decide) (by decide)) (avo 61 (by decide) (by decide)) hown9 ((HP5.out.kt KF (avo5 62 (by decide) (by decide)) (avo5 61 (by decide) (by decide))).mono (by omega)) hbase hp8 hf0 hf9, ?_, KT⟩
            · rw [HB5.out, HCO.out]
            · unfold TkB
              rw [← HCO.out, HTT.out]
              exact ⟨A4, c4, rfl, own_mono (own_kt ho45 KF (avo5 107 (by decide) (by decide))) (by omega)⟩
            · have : X = ShpX.d ⟨ps, .slice Av ps.length cv, first⟩ := HX.out
              rw [← this]
              exact hgX
end Go.Proofs.YtobofhiakgohfaaGreatDoor

namespace Go.Proofs.YtobofhiakgohfaaGreatDoor
open Go.RowKit Go.Maps Go.WideMaps

theorem classes_snoc (c : ClassD) : ∀ (l : List ClassD) (cl : ClsT), classesB cl (l ++ [c]) = match classesB cl l with | .error e => .error e | .ok cl' => classB cl' c
  | [], cl => by
    rw [List.nil_append, classesB, classesB]
    simp only []
    cases classB cl c with
    | error e => rfl
    | ok x => simp [classesB]
  | y :: t, cl => by
    rw [List.cons_append, classesB, classesB]
    cases classB cl y with
    | error e => rfl
    | ok x => exact classes_snoc c t x
theorem classes_stop {e : Int × Int} : ∀ {l : List ClassD} {cl : ClsT} (t : List ClassD), classesB cl l = .error e → classesB cl (l ++ t) = .error e
  | [], cl, t, h => by rw [classesB] at h; cases h
  | y :: r, cl, t, h => by
    rw [List.cons_append, classesB]
    rw [classesB] at h
    cases hx : classB cl y with
    | error e' => rw [hx] at h; exact h
    | ok x => rw [hx] at h; exact classes_stop t h
theorem classes_at {l : List ClassD} {q : Nat} {cl cl' : ClsT} (h : classesB cl (l.take q) = .ok cl') (hq : q < l.length) : (∀ e, classB cl' l[q] = .error e → classesB cl l = .error e) ∧ ∀ c2, classB cl' l[q] = .ok c2 → classesB cl (l.take (q + 1)) = .ok c2 := by
  have e : l.take (q + 1) = l.take q ++ [l[q]] := by rw [List.take_succ_eq_append_getElem hq]
  have h1 := classes_snoc l[q] (l.take q) cl
  rw [h] at h1
  simp only [] at h1
  refine ⟨fun x hx => ?_, fun s hs => by rw [e, h1, hs]⟩
  rw [hx] at h1
  have h2 := classes_stop (l.drop (q + 1)) h1
  rw [← e, List.take_append_drop] at h2
  exact h2
theorem shapes_snoc (cl : ClsT) (c : ShapeD) : ∀ (l : List ShapeD) (o : SchD), shapesB cl o (l ++ [c]) = match shapesB cl o l with | .error e => .error e | .ok o' => shapeB cl o' c
  | [], o => by
    rw [List.nil_append, shapesB, shapesB]
    simp only []
    cases shapeB cl o c with
    | error e => rfl
    | ok x => simp [shapesB]
  | y :: t, o => by
    rw [List.cons_append, shapesB, shapesB]
    cases shapeB cl o y with
    | error e => rfl
    | ok x => exact shapes_snoc cl c t x
theorem shapes_stop {cl : ClsT} {e : Int × Int} : ∀ {l : List ShapeD} {o : SchD} (t : List ShapeD), shapesB cl o l = .error e → shapesB cl o (l ++ t) = .error e
  | [], o, t, h => by rw [shapesB] at h; cases h
  | y :: r, o, t, h => by
    rw [List.cons_append, shapesB]
    rw [shapesB] at h
    cases hx : shapeB cl o y with
    | error e' => rw [hx] at h; exact h
    | ok x => rw [hx] at h; exact shapes_stop t h
theorem shapes_at {cl : ClsT} {l : List ShapeD} {q : Nat} {o o' : SchD} (h : shapesB cl o (l.take q) = .ok o') (hq : q < l.length) : (∀ e, shapeB cl o' l[q] = .error e → shapesB cl o l = .error e) ∧ ∀ c2, shapeB cl o' l[q] = .ok c2 → shapesB cl o (l.take (q + 1)) = .ok c2 := by
  have e : l.take (q + 1) = l.take q ++ [l[q]] := by rw [List.take_succ_eq_append_getElem hq]
  have h1 := shapes_snoc cl l[q] (l.take q) o
  rw [h] at h1
  simp only [] at h1
  refine ⟨fun x hx => ?_, fun s hs => by rw [e, h1, hs]⟩
  rw [hx] at h1
  have h2 := shapes_stop (l.drop (q + 1)) h1
  rw [← e, List.take_append_drop] at h2
  exact h2

theorem cls_atK {S : Nat → Prop} {w W : World} {B : Nat} {A : Option Addr} {p : List (ClassD × Value)} (hr : Reads w B 3 A p.length (tris ctri p)) (hit : ∀ x ∈ p, ItemsV w B x.2 x.1.its ∧ x.1.nm.size ≤ 1048576) (hB : B ≤ w.heap.size) (hk : Kp S w W) (hs : ∀ b, b < B → ¬ S b) {q : Nat} (hlt : q < p.length) :
    ∃ ad, A = some ad ∧ ad.block < B ∧ W.cell? (ad.add (q * 3)) = some (.string p[q].1.nm) ∧ W.cell? ⟨(ad.add (q * 3)).block, (ad.add (q * 3)).off + 1, none⟩ = some p[q].2 ∧ W.cell? ⟨(ad.add (q * 3)).block, (ad.add (q * 3)).off + 2, none⟩ = some (.int .i64 p[q].1.pl) ∧ ItemsV W W.heap.size p[q].2 p[q].1.its := by
  obtain ⟨ad, e, hb, r0, r1, r2⟩ := (hr.kp hB hk hs).tri hlt
  exact ⟨ad, e, hb, r0, r1, r2, (hit _ (List.getElem_mem hlt)).1.keep (Nat.le_trans hB hk.size) fun pp hp => hk.cell (by omega) (hs _ hp)⟩
theorem shs_atK {S : Nat → Prop} {w W : World} {B : Nat} {A : Option Addr} {p : List (ShapeD × Value)} (hr : Reads w B 3 A p.length (tris stri p)) (hit : ∀ x ∈ p, ItemsV w B x.2 x.1.its ∧ -9223372036854775808 ≤ x.1.first ∧ x.1.first ≤ 9223372036854775807) (hB : B ≤ w.heap.size) (hk : Kp S w W) (hs : ∀ b, b < B → ¬ S b) {q : Nat} (hlt : q < p.length) :
    ∃ ad, A = some ad ∧ ad.block < B ∧ W.cell? (ad.add (q * 3)) = some p[q].2 ∧ W.cell? ⟨(ad.add (q * 3)).block, (ad.add (q * 3)).off + 1, none⟩ = some (.int .i64 p[q].1.first) ∧ W.cell? ⟨(ad.add (q * 3)).block, (ad.add (q * 3)).off + 2, none⟩ = some (.int .i64 p[q].1.pl) ∧ ItemsV W W.heap.size p[q].2 p[q].1.its := by
  obtain ⟨ad, e, hb, r0, r1, r2⟩ := (hr.kp hB hk hs).tri hlt
  exact ⟨ad, e, hb, r0, r1, r2, (hit _ (List.getElem_mem hlt)).1.keep (Nat.le_trans hB hk.size) fun pp hp => hk.cell (by omega) (hs _ hp)⟩

theorem TkB.nil (w : World) (base : Nat) : TkB w base (.slice none 0 0) [] := by
  have e : takenOf (([] : List ShpX).map ShpX.d) = [] := by simp [takenOf, rngs, normS, mrg]
  refine ⟨none, 0, ?_, ?_⟩
  · rw [e]; rfl
  · rw [e]; exact World.ownsRow_nil _ _ _ _
/-- What all answers. -/
def AllPost (gb bm : Nat) (d : DescD) (w : World) (e : Ending) (w' : World) : Prop :=
  (∃ p er, buildR d = .error (p, er) ∧ e = .returned (faultV p er) ∧ Kp (fun k => k = gb ∨ k = bm) w w') ∨
  ∃ out vt vo, buildR d = .ok (out.map ShpX.d) ∧ e = .returned .nilIface ∧ Blk w' gb 83 #[.map (some bm), vt, vo] ∧ OutB w' w.heap.size vo out ∧ out.length ≤ 32 ∧ Kp (fun k => k = gb ∨ k = bm) w w'

set_option maxRecDepth 100000 in
set_option maxHeartbeats 16000000 in
theorem all8_any (w : World) (gb bm : Nat) (v : Value) (d : DescD) (hB : Blk w gb 83 #[.map (some bm), .slice none 0 0, .slice none 0 0]) (hM : w.ownsMap Tryz.prog 9 heldR bm 0 (.map [])) (B : Nat) (hv : DescV w B v d) (hB0 : B ≤ w.heap.size) (hB1 : B ≤ gb) (hB2 : B ≤ bm) (hP : PowV w) :
    Calls Tryz.prog 32 #[.pointer (some ⟨gb, 0, none⟩), v] w (AllPost gb bm d w) := by
  obtain ⟨cls, shs⟩ := d
  have hv0 := hv
  obtain ⟨vc, vs, rfl, ⟨p, A, c, rfl, rfl, hc1, hc2, hc3, hcr, hci⟩, ⟨s, A2, c2, rfl, rfl, hs1, hs2, hs3, hsr, hsi⟩⟩ := hv
  have hkA : K0 w (w.alloc (.cells #[.slice A p.length c, .slice A2 s.length c2] 42)) := (Kp.refl _ _).alloc _
  have PR := Lib.hid (print_any (w.alloc (.cells #[.slice A p.length c, .slice A2 s.length c2] 42)) B _ ⟨p.map Prod.fst, s.map Prod.fst⟩ (hv0.k0 hB0 hkA) (by simp; omega) (hP.k0 hkA))
  have y0 := Blk.new w 42 #[.slice A p.length c, .slice A2 s.length c2]
  have hgb := hB.lt
  have hbm := hM.lt
  have hgm : ¬ gb = bm := map_ne_blk hM hB
  cases hf : fitD ⟨p.map Prod.fst, s.map Prod.fst⟩ with
  | false =>
    have hR : buildR ⟨p.map Prod.fst, s.map Prod.fst⟩ = .error (0, 70) := by unfold buildR; rw [if_pos hf]
    have hp : printR ⟨p.map Prod.fst, s.map Prod.fst⟩ = ([], 70) := by unfold printR; rw [hf]; rfl
    rw [hp] at PR
    have HR := Lib.hid hR
    clear hf hR hp
    go_enter Tryz.func32, Tryz.ntmps32
    go_wp2_with fail
    refine PR.out.mono ?_
    rintro e w1 ⟨rfl, hk1⟩
    go_wp2
    go_ret
    exact .inl ⟨_, _, HR.out, rfl, K0.kp (hkA.trans hk1)⟩
  | true =>
    rw [printR_fit hf] at PR
    have hf2 := hf
    unfold fitD at hf2
    simp only [Bool.and_eq_true, decide_eq_true_eq, List.all_eq_true, List.length_map] at hf2
    have hR : buildR ⟨p.map Prod.fst, s.map Prod.fst⟩ = match classesB [] (p.map Prod.fst) with | .error e => .error e | .ok cl => shapesB cl [] (s.map Prod.fst) := by
      unfold buildR
      rw [hf]
      simp only [Bool.true_eq_false, if_false]
      cases classesB [] (p.map Prod.fst) <;> rfl
    have hp32 : p.length ≤ 32 := hf2.1.1.1
    have hs32 : s.length ≤ 32 := hf2.1.1.2
    have HFC : Hid (∀ (q : Nat) (h : q < p.length), fitC p[q].1 = true) := Lib.hid (fun q h => hf2.1.2 _ (List.mem_map.2 ⟨_, List.getElem_mem h, rfl⟩))
    have HFC2 : Hid (∀ c ∈ p.map Prod.fst, fitC c = true) := Lib.hid (fun c hc => hf2.1.2 c hc)
    have HFS : Hid (∀ (q : Nat) (h : q < s.length), fitS s[q].1 = true) := Lib.hid (fun q h => hf2.2 _ (List.mem_map.2 ⟨_, List.getElem_mem h, rfl⟩))
    have HR := Lib.hid hR
    have HCl := Lib.hid (fun W (hk : Kp (fun k => k = gb ∨ k = bm) w W) q hlt => cls_atK (W := W) (q := q) hcr hci hB0 hk (fun b hb h => by omega) hlt)
    have HSh := Lib.hid (fun W (hk : Kp (fun k => k = gb ∨ k = bm) w W) q hlt => shs_atK (W := W) (q := q) hsr hsi hB0 hk (fun b hb h => by omega) hlt)
    clear hf hf2 hR hv0
    go_enter Tryz.func32, Tryz.ntmps32
    go_wp2_with fail
    refine PR.out.mono ?_
    rintro e w1 ⟨rfl, hk1⟩
    have k01 := hkA.trans hk1
    have y1 := y0.kp hk1 (fun h => h)
    have HY := Lib.hid y1
    have c0 := y1.cell 0
    have c1 := y1.cell 1
    have l0 := y1.lt
    simp at c0 c1
    go_wp2
    clear c0 c1 l0 y0 y1
    have s01 := k01.size
    go_loopw [26] (fun i wr => ∃ (q : Nat) (cl : List ClsX), q ≤ p.length ∧ i = .int .i64 (q : Int) ∧ cl.length = q ∧ Hid (classesB [] ((p.map Prod.fst).take q) = .ok (cl.map ClsX.d)) ∧ Hid (goodC (cl.map ClsX.d)) ∧ Hid (ClsB wr w.heap.size bm cl) ∧ Kp (fun k => k = bm) w1 wr) (fun i wr => p.length - (intOf i).toNat)
    case atStart => exact ⟨0, [], by omega, rfl, rfl, Lib.hid rfl, Lib.hid (fun p hp => by cases hp), Lib.hid ⟨⟨_, own_kmap hM k01 (fun h => h), MapOk.nil⟩, (fun x hx => by cases hx), by simp⟩, Kp.refl _ _⟩
    case round =>
      obtain ⟨q, cl, hq, rfl, hcq, hcl, hgc, hC, hk⟩ := hrel
      have HCQ := Lib.hid hcq
      have hcl32 : cl.length ≤ 32 := by omega
      have kw : Kp (fun k => k = gb ∨ k = bm) w wr := (K0.kp k01).trans (hk.mono (fun _ h => .inr h))
      have hBr := hB.kp ((K0.kp k01).trans hk) hgm
      by_cases hlt : q < p.length
      · have hcl32' : cl.length < 32 := by omega
        clear hcq
        obtain ⟨ad, rfl, hbk, r0, r1, r2, hit⟩ := HCl.out wr kw q hlt
        have hat := classes_at hcl.out (by simpa using hlt)
        have hfc := HFC.out q hlt
        have eg : (p.map Prod.fst)[q]'(by simpa using hlt) = p[q].1 := by simp
        rw [eg] at hat
        clear eg
        generalize p[q] = x at r0 r1 r2 hit hat hfc
        obtain ⟨⟨nm, its, pl⟩, vi⟩ := x
        simp only [] at r0 r1 r2 hit hat hfc
        have ybc := Blk.new wr 51 #[.string nm, vi, .int .i64 pl]
        have kb : K0 wr (wr.alloc (.cells #[.string nm, vi, .int .i64 pl] 51)) := (Kp.refl _ _).alloc _
        have CL := Lib.hid (class8_any (wr.alloc (.cells #[.string nm, vi, .int .i64 pl] 51)) w.heap.size gb bm cl (.slice none 0 0) (.slice none 0 0) ⟨nm, its, pl⟩ vi (hBr.kp kb (fun h => h)) (hC.out.k0 kb) (by have := kw.size; simp; omega) hgc.out hfc hcl32' (hit.keep (by simp) (fun pp hp => kb.cell hp (fun h => h))))
        obtain ⟨A3, c3, hvi, _⟩ := hit
        subst hvi
        have HAT := Lib.hid hat
        have HFC1 := Lib.hid hfc
        clear hat hfc
        go_wp2_with fail
        refine CL.out.mono ?_
        rintro e w2 h
        rcases h with ⟨pp, er, hE, rfl, hk2⟩ | ⟨x, hE, rfl, hC2, hk2⟩
        · have HE := Lib.hid (HAT.out.1 _ hE)
          have hq1 := fun W => fault_ne pp er W
          unfold faultV at hq1 ⊢
          go_wp2
          go_ret
          exact .inl ⟨_, _, by rw [HR.out, HE.out], rfl, kw.trans (K0.kp (kb.trans hk2))⟩
        · have HE := Lib.hid (HAT.out.2 _ hE)
          have hg2 := classB_good hgc.out HFC1.out hE
          go_wp2
          exact ⟨⟨q + 1, cl ++ [x], by omega, by go_num, by rw [List.length_append, HCQ.out]; rfl, HE, Lib.hid hg2, Lib.hid hC2, hk.trans ((K0.kp kb).trans hk2)⟩, by simp [intOf]; omega⟩
      · obtain rfl : q = p.length := by omega
        have hcc := hcl.out
        rw [show (p.map Prod.fst).take p.length = p.map Prod.fst by rw [List.take_of_length_le]; simp] at hcc
        have HR2 : Hid (buildR ⟨p.map Prod.fst, s.map Prod.fst⟩ = shapesB (cl.map ClsX.d) [] (s.map Prod.fst)) := Lib.hid (by rw [HR.out, hcc])
        have HG := Lib.hid hgc.out
        have HC0 := Lib.hid hC.out
        have y1 := HY.out.kp hk (fun h => by omega)
        have c0 := y1.cell 0
        have c1 := y1.cell 1
        have l0 := y1.lt
        simp at c0 c1
        obtain ⟨wm, hwm⟩ : ∃ wm, wm = wr := ⟨_, rfl⟩
        rw [← hwm] at hk kw hBr y1 c0 c1 l0 HC0 ⊢
        clear hwm hcc hcl hgc hC HR HCl hcq HCQ hlt
        have swm := kw.size
        go_wp2
        clear c0 c1 l0
        go_loopw [40] (fun i wr => ∃ (q : Nat) (out : List ShpX) (vt vo : Value), q ≤ s.length ∧ i = .int .i64 (q : Int) ∧ out.length = q ∧ Hid (shapesB (cl.map ClsX.d) [] ((s.map Prod.fst).take q) = .ok (out.map ShpX.d)) ∧ Hid (∀ x ∈ out, goodP x.d) ∧ Hid (Blk wr gb 83 #[.map (some bm), vt, vo]) ∧ Hid (ClsB wr w.heap.size bm cl) ∧ Hid (TkB wr w.heap.size vt out) ∧ Hid (OutB wr w.heap.size vo out) ∧ Kp (fun k => k = gb ∨ k = bm) w wr) (fun i wr => s.length - (intOf i).toNat)
        case atStart => exact ⟨0, [], _, _, by omega, rfl, rfl, Lib.hid rfl, Lib.hid (fun p hp => by cases hp), Lib.hid hBr, HC0, Lib.hid (TkB.nil _ _), Lib.hid (OutB.nil _ _), kw⟩
        case round =>
          obtain ⟨q, out, vt, vo, hq, rfl, hoq, hso, hgo, hBq, hC, hT, hO, hkq⟩ := hrel
          have HOQ := Lib.hid hoq
          have hout32 : out.length ≤ 32 := by omega
          have kq : Kp (fun k => k = gb ∨ k = bm) w wr := hkq
          by_cases hlt : q < s.length
          · have hout : out.length < 32 := by omega
            clear hoq
            obtain ⟨ad, rfl, hbk, r0, r1, r2, hit⟩ := HSh.out wr kq q hlt
            have hat := shapes_at hso.out (by simpa using hlt)
            have hfc := HFS.out q hlt
            have eg : (s.map Prod.fst)[q]'(by simpa using hlt) = s[q].1 := by simp
            rw [eg] at hat
            clear eg
            generalize s[q] = x at r0 r1 r2 hit hat hfc
            obtain ⟨⟨its, first, pl⟩, vi⟩ := x
            simp only [] at r0 r1 r2 hit hat hfc
            have kb : K0 wr (wr.alloc (.cells #[vi, .int .i64 first, .int .i64 pl] 90)) := (Kp.refl _ _).alloc _
            have SL := Lib.hid (shape8_any (wr.alloc (.cells #[vi, .int .i64 first, .int .i64 pl] 90)) w.heap.size gb bm cl out vt vo ⟨its, first, pl⟩ vi (hBq.out.kp kb (fun h => h)) (hC.out.k0 kb) (hT.out.kt kb (fun _ _ _ h => h)) (hO.out.k0 kb) (by have := kq.size; simp; omega) HG.out hfc hout hgo.out (hit.keep (by simp) (fun pp hp => kb.cell hp (fun h => h))))
            obtain ⟨A3, c3, hvi, _⟩ := hit
            subst hvi
            have HAT := Lib.hid hat
            clear hat hfc
            go_wp2_with fail
            refine SL.out.mono ?_
            rintro e w2 h
            rcases h with ⟨pp, er, hE, rfl, hk2⟩ | ⟨x, vt', vo', hE, rfl, hB2, hT2, hO2, hg2, hk2⟩
            · have HE := Lib.hid (HAT.out.1 _ hE)
              have hq1 := fun W => fault_ne pp er W
              unfold faultV at hq1 ⊢
              go_wp2
              go_ret
              exact .inl ⟨_, _, by rw [HR2.out, HE.out], rfl, kq.trans (K0.kp (kb.trans hk2))⟩
            · have HE := Lib.hid (HAT.out.2 _ hE)
              have hBb := hBq.out
              have hC2 : ClsB w2 w.heap.size bm cl := (hC.out.k0 kb).kt hk2 (fun g cs h e => by
                rcases e with e | e
                · subst e; exact h.ne_ (hBb.kp kb (fun h => h)) (by decide) rfl
                · exact own_blk_ne (hO.out.k0 kb).row h (by decide) e) (fun e => by
                rcases e with e | e
                · exact hgm e.symm
                · have := ((hO.out.k0 kb).row.lt bm e).1; omega)
              have k2 : Kp (fun k => k = gb ∨ k = bm) w w2 := (kq.trans (K0.kp kb)).trans' hk2 (fun i hi h => by
                rcases h with h | h
                · exact .inl h
                · have := (hO.out.row.lt i h).1; omega)
              go_wp2
              exact ⟨⟨q + 1, out ++ [x], vt', vo', by omega, by go_num, by rw [List.length_append, HOQ.out]; rfl, HE, Lib.hid (fun y hy => by
                rcases List.mem_append.1 hy with hy | hy
                · exact hgo.out y hy
                · simp only [List.mem_singleton] at hy; subst hy; exact hg2), Lib.hid hB2, Lib.hid hC2, Lib.hid hT2, Lib.hid hO2, k2⟩, by simp [intOf]; omega⟩
          · obtain rfl : q = s.length := by omega
            have hcc := hso.out
            rw [show (s.map Prod.fst).take s.length = s.map Prod.fst by rw [List.take_of_length_le]; simp] at hcc
            have HR3 : Hid (buildR ⟨p.map Prod.fst, s.map Prod.fst⟩ = .ok (out.map ShpX.d)) := Lib.hid (by rw [HR2.out, hcc])
            go_wp2
            go_ret
            exact .inr ⟨out, vt, vo, HR3.out, rfl, hBq.out, hO.out, hout32, kq⟩
end Go.Proofs.YtobofhiakgohfaaGreatDoor
