/- Schemes of the call's own, however great: the document's CopyShape and Copy. The document's Copy of a scheme. scheme.Copy. -/
import Derived.Test.YtobofhiakgohfaaGreatDoorSH
import Derived.Test.YtobofhiakgohfaaGreatDoorSF
set_option linter.unusedVariables false
set_option linter.unusedSimpArgs false
namespace Go.Proofs.YtobofhiakgohfaaGreatDoor
open Go.RowKit Go.Maps Go.WideMaps

/-- Parts in memory of the call's own, each row apart from the others. -/
structure OPL (w : World) (base : Nat) (v : Value) (ps : List PartX) : Prop where
  row : w.ownsRow base 62 1 v ps.length (ps.map Prod.snd)
  prt : ∀ y ∈ ps, w.ownsRow base 61 2 y.2 y.1.length (spcs y.1) ∧ y.1.length ≤ 1048576
  ap : (ps.map fun y => y.2.ownBlock).Pairwise Ap8
theorem OPL.nil (w : World) (base : Nat) : OPL w base (.slice none 0 0) [] := ⟨World.ownsRow_nil _ _ _ _, (fun y hy => by cases hy), List.Pairwise.nil⟩
theorem OParts.opl {w : World} {base : Nat} {v : Value} {ps : List PartX} (h : OParts w base v ps) : OPL w base v ps := ⟨h.row, fun y hy => ⟨(h.prt y hy).1, by have := (h.prt y hy).2; omega⟩, h.ap⟩
theorem OPL.kt {S : Nat → Prop} {w w' : World} {base : Nat} {v : Value} {ps : List PartX} (h : OPL w base v ps) (hk : Kp S w w') (h1 : ∀ g cs, Blk w g 62 cs → ¬ S g) (h2 : ∀ g cs, Blk w g 61 cs → ¬ S g) : OPL w' base v ps :=
  ⟨own_kt h.row hk h1, fun y hy => ⟨own_kt (h.prt y hy).1 hk h2, (h.prt y hy).2⟩, h.ap⟩
theorem OPL.k0 {w w' : World} {base : Nat} {v : Value} {ps : List PartX} (h : OPL w base v ps) (hk : K0 w w') : OPL w' base v ps := h.kt hk (fun _ _ _ h => h) (fun _ _ _ h => h)
theorem OPL.mono {w : World} {b b' : Nat} {v : Value} {ps : List PartX} (h : OPL w b v ps) (hb : b' ≤ b) : OPL w b' v ps := ⟨own_mono h.row hb, fun y hy => ⟨own_mono (h.prt y hy).1 hb, (h.prt y hy).2⟩, h.ap⟩
/-- One part more. -/
theorem OPL.add {S : Nat → Prop} {w w' : World} {base B : Nat} {v v' : Value} {ps : List PartX} {y : PartX} (h : OPL w base v ps) (hk : Kp S w w') (h2 : ∀ g cs, Blk w g 61 cs → ¬ S g) (hr : w'.ownsRow base 62 1 v' (ps.length + 1) (ps.map Prod.snd ++ [y.2]))
    (hy : w'.ownsRow B 61 2 y.2 y.1.length (spcs y.1)) (hyl : y.1.length ≤ 1048576) (hB : base ≤ B) (hB2 : w.heap.size ≤ B) : OPL w' base v' (ps ++ [y]) := by
  refine ⟨by rw [List.length_append, List.map_append]; exact hr, fun z hz => ?_, ?_⟩
  · rcases List.mem_append.1 hz with hz | hz
    · exact ⟨own_kt (h.prt z hz).1 hk h2, (h.prt z hz).2⟩
    · simp only [List.mem_singleton] at hz
      subst hz
      exact ⟨own_mono hy hB, hyl⟩
  · rw [List.map_append, List.pairwise_append]
    refine ⟨h.ap, List.pairwise_singleton _ _, fun a ha b hb g hg e => ?_⟩
    obtain ⟨z, hz, rfl⟩ := List.mem_map.1 ha
    simp only [List.map_cons, List.map_nil, List.mem_singleton] at hb
    subst hb
    have := ((h.prt z hz).1.lt g hg).2
    have := (hy.lt g e).1
    omega
theorem OPL.partsV {w : World} {base : Nat} {v : Value} {ps : List PartX} (h : OPL w base v ps) (hl : ps.length ≤ 1048576) : PartsV w w.heap.size v ps := by
  obtain ⟨A, c, rfl, h1, h2⟩ := own_form h.row
  refine ⟨A, c, rfl, h1, h2, hl, Reads.of_own h.row, fun y hy => ?_⟩
  obtain ⟨ho, hyl⟩ := h.prt y hy
  obtain ⟨A2, c2, e, g1, g2⟩ := own_form ho
  rw [e] at ho ⊢
  exact ⟨A2, c2, rfl, g1, g2, hyl, Reads.of_own ho⟩
/-- A scheme of the call's own. -/
structure OSL (w : World) (base : Nat) (v : Value) (out : List ShpX) : Prop where
  row : w.ownsRow base 37 2 v out.length (duos shduo out)
  shs : ∀ x ∈ out, OPL w base x.v x.ps ∧ x.ps.length ≤ 1048576 ∧ -9223372036854775808 ≤ x.first ∧ x.first ≤ 9223372036854775807
  aps : (out.flatMap fun x => x.ps.map fun y => y.2.ownBlock).Pairwise Ap8
  app : (out.map fun x => x.v.ownBlock).Pairwise Ap8
theorem OSL.nil (w : World) (base : Nat) : OSL w base (.slice none 0 0) [] := ⟨World.ownsRow_nil _ _ _ _, (fun y hy => by cases hy), List.Pairwise.nil, List.Pairwise.nil⟩
theorem OutB.osl {w : World} {base : Nat} {v : Value} {out : List ShpX} (h : OutB w base v out) : OSL w base v out := ⟨h.row, fun x hx => ⟨(h.shs x hx).1.opl, by have := (h.shs x hx).2.1; omega, by have := (h.shs x hx).2.2; omega, by have := (h.shs x hx).2.2; omega⟩, h.aps, h.app⟩
theorem OSL.kt {S : Nat → Prop} {w w' : World} {base : Nat} {v : Value} {out : List ShpX} (h : OSL w base v out) (hk : Kp S w w') (h1 : ∀ g cs, Blk w g 62 cs → ¬ S g) (h2 : ∀ g cs, Blk w g 61 cs → ¬ S g) (h3 : ∀ g cs, Blk w g 37 cs → ¬ (v.ownBlock = some g ∧ S g)) : OSL w' base v out :=
  ⟨own_far h.row hk (fun g hg hS => by obtain ⟨cs, hb⟩ := own_blk h.row g hg; exact h3 g cs hb ⟨hg, hS⟩), fun x hx => ⟨(h.shs x hx).1.kt hk h1 h2, (h.shs x hx).2⟩, h.aps, h.app⟩
theorem OSL.k0 {w w' : World} {base : Nat} {v : Value} {out : List ShpX} (h : OSL w base v out) (hk : K0 w w') : OSL w' base v out := h.kt hk (fun _ _ _ h => h) (fun _ _ _ h => h) (fun _ _ _ h => h.2)
theorem OSL.mono {w : World} {b b' : Nat} {v : Value} {out : List ShpX} (h : OSL w b v out) (hb : b' ≤ b) : OSL w b' v out := ⟨own_mono h.row hb, fun x hx => ⟨(h.shs x hx).1.mono hb, (h.shs x hx).2⟩, h.aps, h.app⟩
/-- One shape more. -/
theorem OSL.add {S : Nat → Prop} {w w' : World} {base : Nat} {v v' : Value} {out : List ShpX} {x : ShpX} (h : OSL w base v out) (hk : Kp S w w') (h1 : ∀ g cs, Blk w g 62 cs → ¬ S g) (h2 : ∀ g cs, Blk w g 61 cs → ¬ S g)
    (hr : w'.ownsRow base 37 2 v' (out.length + 1) (duos shduo out ++ [x.v, .int .i64 x.first])) (hx : OPL w' w.heap.size x.v x.ps) (hb : base ≤ w.heap.size) (hl : x.ps.length ≤ 1048576) (h0 : -9223372036854775808 ≤ x.first) (h9 : x.first ≤ 9223372036854775807) : OSL w' base v' (out ++ [x]) := by
  have nb : ∀ z ∈ out, (∀ g, z.v.ownBlock = some g → g < w.heap.size) ∧ ∀ y ∈ z.ps, ∀ g, y.2.ownBlock = some g → g < w.heap.size := fun z hz =>
    ⟨fun g hg => ((h.shs z hz).1.row.lt g hg).2, fun y hy g hg => (((h.shs z hz).1.prt y hy).1.lt g hg).2⟩
  refine ⟨by rw [List.length_append, duos_append]; exact hr, fun z hz => ?_, ?_, ?_⟩
  · rcases List.mem_append.1 hz with hz | hz
    · exact ⟨(h.shs z hz).1.kt hk h1 h2, (h.shs z hz).2⟩
    · simp only [List.mem_singleton] at hz
      subst hz
      exact ⟨hx.mono hb, hl, h0, h9⟩
  · rw [List.flatMap_append, List.pairwise_append]
    refine ⟨h.aps, by simpa using hx.ap, fun a ha b hb g hg e => ?_⟩
    obtain ⟨z, hz, ha⟩ := List.mem_flatMap.1 ha
    obtain ⟨y, hy, rfl⟩ := List.mem_map.1 ha
    simp only [List.flatMap_cons, List.flatMap_nil, List.append_nil, List.mem_map] at hb
    obtain ⟨y2, hy2, rfl⟩ := hb
    have := (nb z hz).2 y hy g hg
    have := ((hx.prt y2 hy2).1.lt g e).1
    omega
  · rw [List.map_append, List.pairwise_append]
    refine ⟨h.app, List.pairwise_singleton _ _, fun a ha b hb g hg e => ?_⟩
    obtain ⟨z, hz, rfl⟩ := List.mem_map.1 ha
    simp only [List.map_cons, List.map_nil, List.mem_singleton] at hb
    subst hb
    have := (nb z hz).1 g hg
    have := (hx.row.lt g e).1
    omega
theorem OSL.shpsV {w : World} {base : Nat} {v : Value} {out : List ShpX} (h : OSL w base v out) (hl : out.length ≤ 1048576) : ShpsV w w.heap.size v out := by
  obtain ⟨A, c, rfl, h1, h2⟩ := own_form h.row
  exact ⟨A, c, rfl, h1, h2, hl, Reads.of_own h.row, fun x hx => ⟨(h.shs x hx).1.partsV (h.shs x hx).2.1, (h.shs x hx).2.2⟩⟩

/-- What a copied shape is. -/
def CShape (ps : List PartX) (first : Int) (w : World) (e : Ending) (w' : World) : Prop := ∃ v out, e = .returned (.agg #[v, .int .i64 first]) ∧ out.map Prod.fst = ps.map Prod.fst ∧ OPL w' w.heap.size v out ∧ K0 w w'

set_option maxRecDepth 100000 in
set_option maxHeartbeats 16000000 in
theorem cshape54_any (w : World) (v : Value) (ps : List PartX) (first : Int) (hv : PartsV w w.heap.size v ps) :
    Calls Tryz.prog 54 #[.agg #[v, .int .i64 first]] w (CShape ps first w) := by
  obtain ⟨A, c, rfl, hc1, hc2, hl, hr, hp⟩ := hv
  obtain ⟨i0, hi, hz0, hz1, hz2⟩ := info_parts info61
  obtain ⟨i1, hj, hy0, hy1, hy2⟩ := info_parts info62
  obtain ⟨wa, hwa⟩ : ∃ wa, wa = w.alloc (.cells #[.slice A ps.length c, .int .i64 first] 37) := ⟨_, rfl⟩
  have ka : K0 w wa := by rw [hwa]; exact (Kp.refl _ _).alloc _
  have sa : wa.heap.size = w.heap.size + 1 := by rw [hwa]; simp
  obtain ⟨wb, hwb⟩ : ∃ wb, wb = wa.alloc (.cells #[.slice none 0 0, .int .i64 0] 37) := ⟨_, rfl⟩
  have kab : K0 wa wb := by rw [hwb]; exact (Kp.refl _ _).alloc _
  have sb : wb.heap.size = w.heap.size + 1 + 1 := by rw [hwb]; simp [sa]
  obtain ⟨wc, hwc⟩ : ∃ wc, wc = wb.alloc (.cells #[.slice none 0 0, .int .i64 first] 37) := ⟨_, rfl⟩
  have kbc : K0 wb wc := by rw [hwc]; exact (Kp.refl _ _).alloc _
  have sc : wc.heap.size = w.heap.size + 1 + 1 + 1 := by rw [hwc]; simp [sb]
  have y0 : Blk wc w.heap.size 37 #[.slice A ps.length c, .int .i64 first] := by have := Blk.new w 37 #[.slice A ps.length c, .int .i64 first]; rw [← hwa] at this; exact (this.kp kab (fun h => h)).kp kbc (fun h => h)
  have y1 : Blk wc (w.heap.size + 1) 37 #[.slice none 0 0, .int .i64 0] := by have := Blk.new wa 37 #[.slice none 0 0, .int .i64 0]; rw [← hwb, sa] at this; exact this.kp kbc (fun h => h)
  have y2 : Blk wc (w.heap.size + 1 + 1) 37 #[.slice none 0 0, .int .i64 first] := by have := Blk.new wb 37 #[.slice none 0 0, .int .i64 first]; rw [← hwc, sb] at this; exact this
  have kc : K0 w wc := (ka.trans kab).trans kbc
  have HA := Lib.hid (fun W (hk : K0 w W) q hlt => part_at (W := W) (q := q) hr hp (Nat.le_refl _) hk hlt)
  have HW := Lib.hid (show wc = ((w.alloc (.cells #[.slice A ps.length c, .int .i64 first] 37)).alloc (.cells #[.slice none 0 0, .int .i64 0] 37)).alloc (.cells #[.slice none 0 0, .int .i64 first] 37) by rw [hwc, hwb, hwa])
  have HTK := Lib.hid (fun (q : Nat) (hq : q < ps.length) (l : List PartX) (h : l.map Prod.fst = (ps.map Prod.fst).take q) (y : PartX) (hy : y.1 = ps[q].1) => show (l ++ [y]).map Prod.fst = (ps.map Prod.fst).take (q + 1) by
    rw [List.take_succ_eq_append_getElem (by simpa using hq), List.map_append, h]
    simp [hy])
  have HFN := Lib.hid (show (ps.map Prod.fst).take ps.length = ps.map Prod.fst by rw [List.take_of_length_le]; simp)
  clear hwa hwb hwc ka kab kbc sa sb hr hp wa wb
  go_enter Tryz.func54, Tryz.ntmps54
  go_wp2
  rw [← HW.out]
  go_loopw [4] (fun i wr => ∃ (q : Nat) (out : List PartX) (pv : Value), q ≤ ps.length ∧ i = .int .i64 (q : Int) ∧ Hid (out.map Prod.fst = (ps.map Prod.fst).take q) ∧ out.length = q ∧ Blk wr w.heap.size 37 #[.slice A ps.length c, .int .i64 first] ∧ Blk wr (w.heap.size + 1) 37 #[.slice none 0 0, .int .i64 0] ∧ Blk wr (w.heap.size + 1 + 1) 37 #[pv, .int .i64 first] ∧ Hid (OPL wr wc.heap.size pv out) ∧ Kp (fun k => k = w.heap.size + 1 + 1) wc wr) (fun i wr => ps.length - (intOf i).toNat)
  case atStart => exact ⟨0, [], _, by omega, rfl, Lib.hid rfl, rfl, y0, y1, y2, Lib.hid (OPL.nil _ _), Kp.refl _ _⟩
  clear y0 y1 y2
  case round =>
    obtain ⟨q, out, pv, hq, rfl, hT, hol, y0, y1, y2, hO, hk⟩ := hrel
    have kr : K0 w wr := kc.trans' hk (fun i hi h => by omega)
    have c0 := y0.cell 0
    have l0 := y0.lt
    simp at c0
    obtain ⟨Av, cv, rfl, _, _⟩ := own_form hO.out.row
    have e0 := y2.cell 0
    have e1 := y2.cell 1
    have f0 := y2.frozen 0
    have l2 := y2.lt
    simp at e0 e1
    by_cases hlt : q < ps.length
    · obtain ⟨ad, rfl, hb, x0, hpq⟩ := HA.out wr kr q hlt
      have HTK1 := Lib.hid (fun l h y hy => HTK.out q hlt l h y hy)
      generalize ps[q] = p at x0 hpq HTK1
      obtain ⟨pl, pv⟩ := p
      simp only [] at x0 hpq HTK1
      obtain ⟨A3, c3, rfl, h33, h34, hl3, hr3⟩ := hpq
      have HOL := Lib.hid hol
      have hol2 : out.length ≤ 1048576 := by omega
      have hrow := hO.out.row
      have hsz := hk.size
      have M0 := World.ownsRow_made (base := wr.heap.size) (e := 61) (size := 2) wr #[] 0 (Nat.le_refl _) (Nat.zero_le _) rfl
      have m0 : (ad.add q).block < wr.heap.size := by rw [add_blk]; exact Nat.lt_of_lt_of_le hb (Nat.le_trans kc.size hsz)
      have RD := Lib.hid (fun W (hk2 : Kp (fun k => (Value.slice Av out.length cv).ownBlock = some k) wr W) => show W.cell? ⟨w.heap.size, 0, none⟩ = some (.slice (some ad) ps.length c) ∧ W.cell? ⟨w.heap.size + 1 + 1, 0, none⟩ = some (.slice Av out.length cv) ∧ W.cell? (ad.add q) = some (.slice A3 pl.length c3) from
        ⟨(hk2.cell (p := ⟨w.heap.size, 0, none⟩) l0 (own_blk_ne hrow y0 (by decide))).trans c0, (hk2.cell (p := ⟨w.heap.size + 1 + 1, 0, none⟩) l2 (own_blk_ne hrow y2 (by decide))).trans e0, (hk2.cell m0 (fun e => by have := (hrow.lt _ e).1; rw [add_blk] at this; have := kc.size; omega)).trans x0⟩)
      have m0w := m0
      rw [add_blk] at m0w
      have HOO := Lib.hid hO.out
      clear hol
      go_wp2
      go_region_law (first
          | (refine step_append_lies _ (by rfl) (.tmp 16) (.tmp 24) _ (by rfl) wc.heap.size 62 i1 _ 1 24 Tryz.underlying34 hj hy0 hy1 hy2 rfl (by omega) (.slice Av out.length cv) out.length (out.map Prod.snd) (by rfl) (by exact (own_far hrow kA1 (fun _ _ h => h)).alloc _) ⟨w1.heap.size, 0, none⟩ 1 1 [.slice A5 pl.length c5] (by rfl) (by rfl) (World.news_of_block (cs := #[.slice A5 pl.length c5]) (t := 62) (fr := (0, 0)) (heap_alloc_new _ _)) (by simp [Value.oneCell']) (by omega) (by simp only [maxLen]; omega) (by omega) (by have := kA1.size; simp only [World.size_alloc]; omega) (w1.heap.size + 1) (by simp) ?_; intro g2 cap2 w2 hown2 hgrow2 hat2 hlt2; have kk2 : Kp (fun k => (Value.slice Av out.length cv).ownBlock = some k) wr w2 := ((K0.kp kA1).alloc _).grown hgrow2 (fun k hk => .inr hk); have z2 := y2.kp kk2 (own_blk_ne hrow y2 (by decide)); have zc := z2.cell 0; have zf := z2.frozen 0; have zl := z2.lt; simp at zc)
          | (refine step_append_any _ (by rfl) (.tmp 17) (.tmp 22) _ (by rfl) wr.heap.size 61 i0 _ 2 16 Tryz.underlying62 hi hz0 hz1 hz2 rfl (by omega) (.slice (some ⟨wr.heap.size, 0, none⟩) 0 0) 0 [] (by rfl) (by exact M0) wr.heap.size A3 pl.length c3 (spcs pl) (by rfl) (by exact hr3.alloc (Nat.le_refl _) _) (spcs_one pl) (by simp only [maxLen]; omega) (by omega) (by simp) ?_; intro v1 w1 hown1 hgrow1 hat1; obtain ⟨A5, c5, rfl, _, _⟩ := own_form hown1; rw [Nat.zero_add, List.nil_append] at hown1; have kA1 : K0 wr w1 := ((Kp.refl _ wr).drew.alloc _).grown hgrow1 (fun b hb => by simp [Value.ownBlock] at hb; exact .inl (by omega)); obtain ⟨c0', e0', x0'⟩ := RD.out w1 (K0.kp kA1); have sz1 := kA1.size; have l0' : w.heap.size < w1.heap.size := (by omega); have l2' : w.heap.size + 1 + 1 < w1.heap.size := (by omega); have e0'' := fun o => (World.cell?_alloc_lt w1 o ⟨w.heap.size + 1 + 1, 0, none⟩ l2').trans e0'))
      all_goals
        have KK : Kp (fun k => k = w.heap.size + 1 + 1 ∨ (Value.slice Av out.length cv).ownBlock = some k) wr (w2.setCell ⟨w.heap.size + 1 + 1, 0, none⟩ (.slice (some ⟨g2, 0, none⟩) (out.length + 1) cap2)) := (kk2.mono (fun _ h => .inr h)).setCell (p := ⟨w.heap.size + 1 + 1, 0, none⟩) (.inr (.inl rfl)) _
        have K1 : Kp (fun k => k = w.heap.size + 1 + 1 ∨ (Value.slice Av out.length cv).ownBlock = some k) w1 (w2.setCell ⟨w.heap.size + 1 + 1, 0, none⟩ (.slice (some ⟨g2, 0, none⟩) (out.length + 1) cap2)) := (((Kp.refl _ w1).alloc _).grown hgrow2 (fun k hk => .inr (.inr hk))).setCell (p := ⟨w.heap.size + 1 + 1, 0, none⟩) (.inr (.inl rfl)) _
        have z9 := z2.set_ 0 (.slice (some ⟨g2, 0, none⟩) (out.length + 1) cap2)
        have r9 := own_setCell (p := ⟨w.heap.size + 1 + 1, 0, none⟩) (u := .slice (some ⟨g2, 0, none⟩) (out.length + 1) cap2) hown2 (own_blk_ne hown2 z2 (by decide))
        have hy9 := own_kt hown1 K1 (fun g cs hg h => by
          rcases h with rfl | h
          · exact hg.ne_ (y2.kp kA1 (fun h => h)) (by decide) rfl
          · exact own_blk_ne (own_far hrow kA1 (fun _ _ h => h)) hg (by decide) h)
        have O9 := Lib.hid (HOO.out.add (y := (pl, .slice A5 pl.length c5)) KK (fun g cs hg h => by
          rcases h with rfl | h
          · exact hg.ne_ y2 (by decide) rfl
          · exact own_blk_ne hrow hg (by decide) h) r9 hy9 hl3 hsz (Nat.le_refl _))
        have Y0 := y0.kp KK (fun h => by
          rcases h with h | h
          · omega
          · exact own_blk_ne hrow y0 (by decide) h)
        have Y1 := y1.kp KK (fun h => by
          rcases h with h | h
          · omega
          · exact own_blk_ne hrow y1 (by decide) h)
        have K9 : Kp (fun k => k = w.heap.size + 1 + 1) wc (w2.setCell ⟨w.heap.size + 1 + 1, 0, none⟩ (.slice (some ⟨g2, 0, none⟩) (out.length + 1) cap2)) := hk.trans' KK (fun i hi h => by
          rcases h with h | h
          · exact h
          · have := (hrow.lt i h).1; omega)
        have T9 := Lib.hid (HTK1.out out hT.out (pl, .slice A5 pl.length c5) rfl)
        simp at z9
        have L9 : (out ++ [((pl, .slice A5 pl.length c5) : PartX)]).length = q + 1 := by rw [List.length_append, HOL.out]; rfl
        clear z2 zc zf zl hown2 hgrow2 hown1 hgrow1 c0' e0' x0' r9 hy9 y0 y1 y2 KK K1 kk2 kA1
        go_wp2
        exact ⟨⟨q + 1, out ++ [(pl, .slice A5 pl.length c5)], _, by omega, by go_num, T9, L9, Y0, Y1, z9, O9, K9⟩, by simp [intOf]; omega⟩
    · obtain rfl : q = ps.length := by omega
      have hT2 := hT.out
      rw [HFN.out] at hT2
      have f1 := y1.frozen 0
      have f2 := y1.frozen 1
      have g0 := y1.cell 0
      have g1 := y1.cell 1
      have l1 := y1.lt
      simp at g0 g1
      have HO := Lib.hid hO.out
      have HT2 := Lib.hid hT2
      clear hT2 hT hO hol
      go_wp2
      have y9 := (y1.set_ 0 (.slice Av out.length cv)).set_ 1 (.int .i64 first)
      have d0 := y9.cell 0
      have d1 := y9.cell 1
      simp at d0 d1
      refine bodyPost_ret (v := .agg #[.slice Av out.length cv, .int .i64 first]) ?_ rfl ?_
      · simp [results, Tryz.f54, go_sem, d0, d1]
      · have KE : Kp (fun k => k = w.heap.size + 1) wr ((wr.setCell ⟨w.heap.size + 1, 0, none⟩ (.slice Av out.length cv)).setCell ⟨w.heap.size + 1, 1, none⟩ (.int .i64 first)) := ((Kp.refl (fun k => k = w.heap.size + 1) wr).setCell (p := ⟨w.heap.size + 1, 0, none⟩) (.inr rfl) _).setCell (p := ⟨w.heap.size + 1, 1, none⟩) (.inr rfl) _
        refine ⟨_, out, rfl, HT2.out, (HO.out.kt KE (fun g cs hg h => ?_) (fun g cs hg h => ?_)).mono (by omega), kr.trans' KE (fun i hi h => by omega)⟩
        · subst h; exact hg.ne_ y1 (by decide) rfl
        · subst h; exact hg.ne_ y1 (by decide) rfl
end Go.Proofs.YtobofhiakgohfaaGreatDoor

namespace Go.Proofs.YtobofhiakgohfaaGreatDoor
open Go.RowKit Go.Maps Go.WideMaps

/-- What a copied scheme is. -/
def CScheme (ss : List ShpX) (w : World) (e : Ending) (w' : World) : Prop := ∃ v out, e = .returned (.agg #[v]) ∧ out.map ShpX.d = ss.map ShpX.d ∧ OSL w' w.heap.size v out ∧ K0 w w'

set_option maxRecDepth 100000 in
set_option maxHeartbeats 16000000 in
theorem copy23_any (w : World) (v : Value) (ss : List ShpX) (hv : ShpsV w w.heap.size v ss) :
    Calls Tryz.prog 23 #[.agg #[v]] w (CScheme ss w) := by
  obtain ⟨A, c, rfl, hc1, hc2, hl, hr, hp⟩ := hv
  obtain ⟨i1, hj, hy0, hy1, hy2⟩ := info_parts info37
  obtain ⟨wa, hwa⟩ : ∃ wa, wa = w.alloc (.cells #[.slice A ss.length c] 25) := ⟨_, rfl⟩
  have ka : K0 w wa := by rw [hwa]; exact (Kp.refl _ _).alloc _
  have sa : wa.heap.size = w.heap.size + 1 := by rw [hwa]; simp
  obtain ⟨wb, hwb⟩ : ∃ wb, wb = wa.alloc (.cells #[.slice none 0 0] 25) := ⟨_, rfl⟩
  have kab : K0 wa wb := by rw [hwb]; exact (Kp.refl _ _).alloc _
  have sb : wb.heap.size = w.heap.size + 1 + 1 := by rw [hwb]; simp [sa]
  obtain ⟨wc, hwc⟩ : ∃ wc, wc = wb.alloc (.cells #[.slice none 0 0] 25) := ⟨_, rfl⟩
  have kbc : K0 wb wc := by rw [hwc]; exact (Kp.refl _ _).alloc _
  have sc : wc.heap.size = w.heap.size + 1 + 1 + 1 := by rw [hwc]; simp [sb]
  have y0 : Blk wc w.heap.size 25 #[.slice A ss.length c] := by have := Blk.new w 25 #[.slice A ss.length c]; rw [← hwa] at this; exact (this.kp kab (fun h => h)).kp kbc (fun h => h)
  have y1 : Blk wc (w.heap.size + 1) 25 #[.slice none 0 0] := by have := Blk.new wa 25 #[.slice none 0 0]; rw [← hwb, sa] at this; exact this.kp kbc (fun h => h)
  have y2 : Blk wc (w.heap.size + 1 + 1) 25 #[.slice none 0 0] := by have := Blk.new wb 25 #[.slice none 0 0]; rw [← hwc, sb] at this; exact this
  have kc : K0 w wc := (ka.trans kab).trans kbc
  have HA := Lib.hid (fun W (hk : K0 w W) q hlt => shp_at (W := W) (q := q) hr hp (Nat.le_refl _) hk hlt)
  have HFB := Lib.hid (fun q (hlt : q < ss.length) => (hp _ (List.getElem_mem hlt)).2)
  have HW := Lib.hid (show wc = ((w.alloc (.cells #[.slice A ss.length c] 25)).alloc (.cells #[.slice none 0 0] 25)).alloc (.cells #[.slice none 0 0] 25) by rw [hwc, hwb, hwa])
  have HTK := Lib.hid (fun (q : Nat) (hq : q < ss.length) (l : List ShpX) (h : l.map ShpX.d = (ss.map ShpX.d).take q) (y : ShpX) (hy : y.d = ss[q].d) => show (l ++ [y]).map ShpX.d = (ss.map ShpX.d).take (q + 1) by
    rw [List.take_succ_eq_append_getElem (by simpa using hq), List.map_append, h]
    simp [hy])
  have HFN := Lib.hid (show (ss.map ShpX.d).take ss.length = ss.map ShpX.d by rw [List.take_of_length_le]; simp)
  clear hwa hwb hwc ka kab kbc sa sb hr hp wa wb
  go_enter Tryz.func23, Tryz.ntmps23
  go_wp2
  rw [← HW.out]
  go_loopw [4] (fun i wr => ∃ (q : Nat) (out : List ShpX) (pv : Value), q ≤ ss.length ∧ i = .int .i64 (q : Int) ∧ Hid (out.map ShpX.d = (ss.map ShpX.d).take q) ∧ out.length = q ∧ Blk wr w.heap.size 25 #[.slice A ss.length c] ∧ Blk wr (w.heap.size + 1) 25 #[.slice none 0 0] ∧ Blk wr (w.heap.size + 1 + 1) 25 #[pv] ∧ Hid (OSL wr wc.heap.size pv out) ∧ Kp (fun k => k = w.heap.size + 1 + 1) wc wr) (fun i wr => ss.length - (intOf i).toNat)
  case atStart => exact ⟨0, [], _, by omega, rfl, Lib.hid rfl, rfl, y0, y1, y2, Lib.hid (OSL.nil _ _), Kp.refl _ _⟩
  clear y0 y1 y2
  case round =>
    obtain ⟨q, out, pv, hq, rfl, hT, hol, y0, y1, y2, hO, hk⟩ := hrel
    have kr : K0 w wr := kc.trans' hk (fun i hi h => by omega)
    have c0 := y0.cell 0
    have l0 := y0.lt
    simp at c0
    obtain ⟨Av, cv, rfl, _, _⟩ := own_form hO.out.row
    have e0 := y2.cell 0
    have f0 := y2.frozen 0
    have l2 := y2.lt
    simp at e0
    by_cases hlt : q < ss.length
    · obtain ⟨ad, rfl, hb, x0, x1, hpq⟩ := HA.out wr kr q hlt
      have HTK1 := Lib.hid (fun l h y hy => HTK.out q hlt l h y hy)
      have hfb := HFB.out q hlt
      generalize ss[q] = p at x0 x1 hpq HTK1 hfb
      obtain ⟨pl, pv, pf⟩ := p
      simp only [] at x0 x1 hpq HTK1 hfb
      have CS := Lib.hid (fun W (hk2 : K0 wr W) => cshape54_any W pv pl pf (hpq.k0 (Nat.le_refl _) hk2))
      unfold CShape at CS
      obtain ⟨A3, c3, rfl, _, _, hl3, _⟩ := hpq
      have HOL := Lib.hid hol
      have hol2 : out.length ≤ 1048576 := by omega
      have hrow := hO.out.row
      have hsz := hk.size
      have m0 : (ad.add (q * 2)).block < wr.heap.size := by rw [add_blk]; exact Nat.lt_of_lt_of_le hb (Nat.le_trans kc.size hsz)
      have HOO := Lib.hid hO.out
      clear hol
      go_wp2
      go_region_law (first
          | (refine step_append_lies _ (by rfl) (.tmp 14) (.tmp 21) _ (by rfl) wc.heap.size 37 i1 _ 2 32 Tryz.underlying23 hj hy0 hy1 hy2 rfl (by omega) (.slice Av out.length cv) out.length (duos shduo out) (by rfl) (by exact (own_far hrow kA1 (fun _ _ h => h)).alloc _) ⟨w1.heap.size, 0, none⟩ 1 1 [.slice A5 o1.length c5, .int .i64 pf] (by rfl) (by rfl) (World.news_of_block (cs := #[.slice A5 o1.length c5, .int .i64 pf]) (t := 37) (fr := (0, 0)) (heap_alloc_new _ _)) (by simp [Value.oneCell']) (by omega) (by simp only [maxLen]; omega) (by omega) (by have := kA1.size; simp only [World.size_alloc]; omega) (w1.heap.size + 1) (by simp) ?_; intro g2 cap2 w2 hown2 hgrow2 hat2 hlt2; have kk2 : Kp (fun k => (Value.slice Av out.length cv).ownBlock = some k) wr w2 := ((K0.kp kA1).alloc _).grown hgrow2 (fun k hk => .inr hk); have z2 := y2.kp kk2 (own_blk_ne hrow y2 (by decide)); have zc := z2.cell 0; have zf := z2.frozen 0; have zl := z2.lt; simp at zc)
          | (go_simp; go_at_call 54; refine (CS.out _ (by first | exact (Kp.refl _ _).drew | exact ((Kp.refl _ _).drewN _))).mono ?_; rintro e w1 ⟨v1, o1, rfl, h1, ho1, hk1⟩; have kA1 : K0 wr w1 := ((Kp.refl _ wr).drew).trans hk1; obtain ⟨A5, c5, rfl, _, _⟩ := own_form ho1.row; have sz1 := kA1.size; have l2' : w.heap.size + 1 + 1 < w1.heap.size := (by omega); have e0' := (hk1.cell (p := ⟨w.heap.size + 1 + 1, 0, none⟩) (by exact l2) (fun h => h)).trans (by exact e0); have e0'' := fun o => (World.cell?_alloc_lt w1 o ⟨w.heap.size + 1 + 1, 0, none⟩ l2').trans e0'))
      all_goals
        have KK : Kp (fun k => k = w.heap.size + 1 + 1 ∨ (Value.slice Av out.length cv).ownBlock = some k) wr (w2.setCell ⟨w.heap.size + 1 + 1, 0, none⟩ (.slice (some ⟨g2, 0, none⟩) (out.length + 1) cap2)) := (kk2.mono (fun _ h => .inr h)).setCell (p := ⟨w.heap.size + 1 + 1, 0, none⟩) (.inr (.inl rfl)) _
        have K1 : Kp (fun k => k = w.heap.size + 1 + 1 ∨ (Value.slice Av out.length cv).ownBlock = some k) w1 (w2.setCell ⟨w.heap.size + 1 + 1, 0, none⟩ (.slice (some ⟨g2, 0, none⟩) (out.length + 1) cap2)) := (((Kp.refl _ w1).alloc _).grown hgrow2 (fun k hk => .inr (.inr hk))).setCell (p := ⟨w.heap.size + 1 + 1, 0, none⟩) (.inr (.inl rfl)) _
        have z9 := z2.set_ 0 (.slice (some ⟨g2, 0, none⟩) (out.length + 1) cap2)
        have r9 := own_setCell (p := ⟨w.heap.size + 1 + 1, 0, none⟩) (u := .slice (some ⟨g2, 0, none⟩) (out.length + 1) cap2) hown2 (own_blk_ne hown2 z2 (by decide))
        have av1 : ∀ t, t ≠ 25 → t ≠ 37 → ∀ g cs, Blk w1 g t cs → ¬ (g = w.heap.size + 1 + 1 ∨ (Value.slice Av out.length cv).ownBlock = some g) := by
          rintro t h1 h2 g cs hg (rfl | h)
          · exact hg.ne_ (y2.kp kA1 (fun h => h)) h1 rfl
          · exact own_blk_ne (own_far hrow kA1 (fun _ _ h => h)) hg (Ne.symm h2) h
        have avr : ∀ t, t ≠ 25 → t ≠ 37 → ∀ g cs, Blk wr g t cs → ¬ (g = w.heap.size + 1 + 1 ∨ (Value.slice Av out.length cv).ownBlock = some g) := by
          rintro t h1 h2 g cs hg (rfl | h)
          · exact hg.ne_ y2 h1 rfl
          · exact own_blk_ne hrow hg (Ne.symm h2) h
        have hy9 := (ho1.kt K1 (av1 62 (by decide) (by decide)) (av1 61 (by decide) (by decide))).mono (b' := wr.heap.size) (by exact Nat.le_refl _)
        have ho1l : o1.length = pl.length := by have := congrArg List.length h1; simpa using this
        have O9 := Lib.hid (HOO.out.add (x := ⟨o1, .slice A5 o1.length c5, pf⟩) KK (avr 62 (by decide) (by decide)) (avr 61 (by decide) (by decide)) r9 hy9 hsz (by show o1.length ≤ _; omega) hfb.1 hfb.2)
        have Y0 := y0.kp KK (fun h => by
          rcases h with h | h
          · omega
          · exact own_blk_ne hrow y0 (by decide) h)
        have Y1 := y1.kp KK (fun h => by
          rcases h with h | h
          · omega
          · exact own_blk_ne hrow y1 (by decide) h)
        have K9 : Kp (fun k => k = w.heap.size + 1 + 1) wc (w2.setCell ⟨w.heap.size + 1 + 1, 0, none⟩ (.slice (some ⟨g2, 0, none⟩) (out.length + 1) cap2)) := hk.trans' KK (fun i hi h => by
          rcases h with h | h
          · exact h
          · have := (hrow.lt i h).1; omega)
        have T9 := Lib.hid (HTK1.out out hT.out ⟨o1, .slice A5 o1.length c5, pf⟩ (by unfold ShpX.d; simp only []; rw [h1]))
        simp at z9
        have L9 : (out ++ [(⟨o1, .slice A5 o1.length c5, pf⟩ : ShpX)]).length = q + 1 := by rw [List.length_append, HOL.out]; rfl
        clear z2 zc zf zl hown2 hgrow2 e0' e0'' r9 hy9 y0 y1 y2 KK K1 kk2 kA1 hk1 av1 avr
        go_wp2
        exact ⟨⟨q + 1, out ++ [⟨o1, .slice A5 o1.length c5, pf⟩], _, by omega, by go_num, T9, L9, Y0, Y1, z9, O9, K9⟩, by simp [intOf]; omega⟩
    · obtain rfl : q = ss.length := by omega
      have hT2 := hT.out
      rw [HFN.out] at hT2
      have f1 := y1.frozen 0
      have g0 := y1.cell 0
      have l1 := y1.lt
      simp at g0
      have HO := Lib.hid hO.out
      have HT2 := Lib.hid hT2
      clear hT2 hT hO hol
      go_wp2
      have y9 := y1.set_ 0 (.slice Av out.length cv)
      have d0 := y9.cell 0
      simp at d0
      refine bodyPost_ret (v := .agg #[.slice Av out.length cv]) ?_ rfl ?_
      · simp [results, Tryz.f23, go_sem, d0]
      · have KE : Kp (fun k => k = w.heap.size + 1) wr (wr.setCell ⟨w.heap.size + 1, 0, none⟩ (.slice Av out.length cv)) := (Kp.refl (fun k => k = w.heap.size + 1) wr).setCell (p := ⟨w.heap.size + 1, 0, none⟩) (.inr rfl) _
        refine ⟨_, out, rfl, HT2.out, (HO.out.kt KE (fun g cs hg h => ?_) (fun g cs hg h => ?_) (fun g cs hg h => ?_)).mono (by omega), kr.trans' KE (fun i hi h => by omega)⟩
        · subst h; exact hg.ne_ y1 (by decide) rfl
        · subst h; exact hg.ne_ y1 (by decide) rfl
        · have h := h.2; subst h; exact hg.ne_ y1 (by decide) rfl
end Go.Proofs.YtobofhiakgohfaaGreatDoor

namespace Go.Proofs.YtobofhiakgohfaaGreatDoor
open Go.RowKit Go.Maps Go.WideMaps

set_option maxRecDepth 100000 in
set_option maxHeartbeats 16000000 in
theorem copy13_any (w : World) (v : Value) (ss : List ShpX) (hv : ShpsV w w.heap.size v ss) :
    Calls Tryz.prog 13 #[.agg #[v]] w (CScheme ss w) := by
  obtain ⟨A, c, rfl, hc1, hc2, hl, hr, hp⟩ := hv
  obtain ⟨i1, hj, hy0, hy1, hy2⟩ := info_parts info37
  obtain ⟨i2, hi, hz0, hz1, hz2⟩ := info_parts info62
  obtain ⟨wa, hwa⟩ : ∃ wa, wa = w.alloc (.cells #[.slice A ss.length c] 25) := ⟨_, rfl⟩
  have ka : K0 w wa := by rw [hwa]; exact (Kp.refl _ _).alloc _
  have sa : wa.heap.size = w.heap.size + 1 := by rw [hwa]; simp
  obtain ⟨wb, hwb⟩ : ∃ wb, wb = wa.alloc (.cells #[.slice none 0 0] 25) := ⟨_, rfl⟩
  have kab : K0 wa wb := by rw [hwb]; exact (Kp.refl _ _).alloc _
  have sb : wb.heap.size = w.heap.size + 1 + 1 := by rw [hwb]; simp [sa]
  obtain ⟨wc, hwc⟩ : ∃ wc, wc = wb.alloc (.cells #[.slice none 0 0] 25) := ⟨_, rfl⟩
  have kbc : K0 wb wc := by rw [hwc]; exact (Kp.refl _ _).alloc _
  have sc : wc.heap.size = w.heap.size + 1 + 1 + 1 := by rw [hwc]; simp [sb]
  have y0 : Blk wc w.heap.size 25 #[.slice A ss.length c] := by have := Blk.new w 25 #[.slice A ss.length c]; rw [← hwa] at this; exact (this.kp kab (fun h => h)).kp kbc (fun h => h)
  have y1 : Blk wc (w.heap.size + 1) 25 #[.slice none 0 0] := by have := Blk.new wa 25 #[.slice none 0 0]; rw [← hwb, sa] at this; exact this.kp kbc (fun h => h)
  have y2 : Blk wc (w.heap.size + 1 + 1) 25 #[.slice none 0 0] := by have := Blk.new wb 25 #[.slice none 0 0]; rw [← hwc, sb] at this; exact this
  have kc : K0 w wc := (ka.trans kab).trans kbc
  have HA := Lib.hid (fun W (hk : K0 w W) q hlt => shp_at (W := W) (q := q) hr hp (Nat.le_refl _) hk hlt)
  have HFB := Lib.hid (fun q (hlt : q < ss.length) => (hp _ (List.getElem_mem hlt)).2)
  have HW := Lib.hid (show wc = ((w.alloc (.cells #[.slice A ss.length c] 25)).alloc (.cells #[.slice none 0 0] 25)).alloc (.cells #[.slice none 0 0] 25) by rw [hwc, hwb, hwa])
  have HTK := Lib.hid (fun (q : Nat) (hq : q < ss.length) (l : List ShpX) (h : l.map ShpX.d = (ss.map ShpX.d).take q) (y : ShpX) (hy : y.d = ss[q].d) => show (l ++ [y]).map ShpX.d = (ss.map ShpX.d).take (q + 1) by
    rw [List.take_succ_eq_append_getElem (by simpa using hq), List.map_append, h]
    simp [hy])
  have HFN := Lib.hid (show (ss.map ShpX.d).take ss.length = ss.map ShpX.d by rw [List.take_of_length_le]; simp)
  have c0 := y0.cell 0
  have l0 := y0.lt
  simp at c0
  clear hwa hwb hwc ka kab kbc sa sb hr hp wa wb
  go_enter Tryz.func13, Tryz.ntmps13
  go_wp2
  rw [← HW.out]
  clear c0 l0
  go_loopw [12] (fun i wr => ∃ (q : Nat) (out : List ShpX) (pv : Value), q ≤ ss.length ∧ i = .int .i64 (q : Int) ∧ Hid (out.map ShpX.d = (ss.map ShpX.d).take q) ∧ out.length = q ∧ Blk wr (w.heap.size + 1) 25 #[.slice none 0 0] ∧ Blk wr (w.heap.size + 1 + 1) 25 #[pv] ∧ Hid (OSL wr wc.heap.size pv out) ∧ Kp (fun k => k = w.heap.size + 1 + 1) wc wr) (fun i wr => ss.length - (intOf i).toNat)
  case atStart => exact ⟨0, [], _, by omega, rfl, Lib.hid rfl, rfl, y1, y2, Lib.hid (OSL.nil _ _), Kp.refl _ _⟩
  clear y0 y1 y2
  case round =>
    obtain ⟨q, out, pv, hq, rfl, hT, hol, y1, y2, hO, hk⟩ := hrel
    obtain ⟨wo, rfl⟩ : ∃ wo : World, wo = wr := ⟨_, rfl⟩
    have kr : K0 w wo := kc.trans' hk (fun i hi h => by omega)
    obtain ⟨Av, cv, rfl, _, _⟩ := own_form hO.out.row
    by_cases hlt : q < ss.length
    · obtain ⟨ad, rfl, hb, x0, x1, hpq⟩ := HA.out wo kr q hlt
      have HTK1 := Lib.hid (fun l h y hy => HTK.out q hlt l h y hy)
      have hfb := HFB.out q hlt
      generalize ss[q] = p at x0 x1 hpq HTK1 hfb
      obtain ⟨pl, pv, pf⟩ := p
      simp only [] at x0 x1 hpq HTK1 hfb
      obtain ⟨A3, c3, rfl, hc31, hc32, hl3, hr3, hp3⟩ := hpq
      have HOL := Lib.hid hol
      have hol2 : out.length ≤ 1048576 := by omega
      have hsz := hk.size
      have HOO := Lib.hid hO.out
      obtain ⟨wd, hwd⟩ : ∃ wd, wd = wo.alloc (.cells #[.slice A3 pl.length c3, .int .i64 pf] 37) := ⟨_, rfl⟩
      have krd : K0 wo wd := by rw [hwd]; exact (Kp.refl _ _).alloc _
      have sd : wd.heap.size = wo.heap.size + 1 := by rw [hwd]; simp
      obtain ⟨we, hwe⟩ : ∃ we, we = wd.alloc (.cells #[.slice none 0 0, .int .i64 pf] 37) := ⟨_, rfl⟩
      have kde : K0 wd we := by rw [hwe]; exact (Kp.refl _ _).alloc _
      have se : we.heap.size = wo.heap.size + 1 + 1 := by rw [hwe]; simp [sd]
      have kre : K0 wo we := krd.trans kde
      have y5 : Blk we wo.heap.size 37 #[.slice A3 pl.length c3, .int .i64 pf] := by have := Blk.new wo 37 #[.slice A3 pl.length c3, .int .i64 pf]; rw [← hwd] at this; exact this.kp kde (fun h => h)
      have y6 : Blk we (wo.heap.size + 1) 37 #[.slice none 0 0, .int .i64 pf] := by have := Blk.new wd 37 #[.slice none 0 0, .int .i64 pf]; rw [← hwe, sd] at this; exact this
      have HWE := Lib.hid (show we = (wo.alloc (.cells #[.slice A3 pl.length c3, .int .i64 pf] 37)).alloc (.cells #[.slice none 0 0, .int .i64 pf] 37) by rw [hwe, hwd])
      have HA3 := Lib.hid (fun W (hk : K0 wo W) q hlt => part_at (W := W) (q := q) hr3 hp3 (Nat.le_refl _) hk hlt)
      have HTK3 := Lib.hid (fun (q : Nat) (hq : q < pl.length) (l : List PartX) (h : l.map Prod.fst = (pl.map Prod.fst).take q) (y : PartX) (hy : y.1 = pl[q].1) => show (l ++ [y]).map Prod.fst = (pl.map Prod.fst).take (q + 1) by
        rw [List.take_succ_eq_append_getElem (by simpa using hq), List.map_append, h]
        simp [hy])
      have HFN3 := Lib.hid (show (pl.map Prod.fst).take pl.length = pl.map Prod.fst by rw [List.take_of_length_le]; simp)
      clear hol hwd hwe sd krd kde hr3 hp3 wd
      go_wp2
      rw [← HWE.out]
      go_loopw [22] (fun i wz => ∃ (j : Nat) (o : List PartX) (ov : Value), j ≤ pl.length ∧ i = .int .i64 (j : Int) ∧ Hid (o.map Prod.fst = (pl.map Prod.fst).take j) ∧ o.length = j ∧ Blk wz (wo.heap.size + 1) 37 #[ov, .int .i64 pf] ∧ Hid (OPL wz we.heap.size ov o) ∧ Kp (fun k => k = wo.heap.size + 1) we wz) (fun i wz => pl.length - (intOf i).toNat)
      case atStart => exact ⟨0, [], _, by omega, rfl, Lib.hid rfl, rfl, y6, Lib.hid (OPL.nil _ _), Kp.refl _ _⟩
      clear y5 y6
      case round =>
        obtain ⟨j, o, ov, hjl, rfl, hTo, hoj, y6, hOo, hkz⟩ := hrel
        have krz : K0 wo wr := kre.trans' hkz (fun i hi h => by omega)
        have szz := krz.size
        have szz2 := hkz.size
        obtain ⟨Au, cu, rfl, _, _⟩ := own_form hOo.out.row
        have e0 := y6.cell 0
        have e1 := y6.cell 1
        have f0 := y6.frozen 0
        have l6 := y6.lt
        simp at e0 e1
        by_cases hlj : j < pl.length
        · obtain ⟨ad3, rfl, hb3, u0, hpj⟩ := HA3.out wr krz j hlj
          have HTK4 := Lib.hid (fun l h y hy => HTK3.out j hlj l h y hy)
          generalize pl[j] = pj at u0 hpj HTK4
          obtain ⟨yl, yv⟩ := pj
          simp only [] at u0 hpj HTK4
          obtain ⟨A4, c4, rfl, _, _, hl4, hr4⟩ := hpj
          have CL := Lib.hid (fun W (h : K0 wr W) => clone_any W A4 c4 yl (hr4.k0 (Nat.le_refl _) h |>.more h.size) (by omega))
          unfold SpPost at CL
          have HOJ := Lib.hid hoj
          have hoj2 : o.length ≤ 1048576 := by omega
          have hrow := hOo.out.row
          have HOP := Lib.hid hOo.out
          clear hoj
          go_wp2
          go_region_law (first
            | (refine step_append_lies _ (by rfl) (.tmp 27) (.tmp 30) _ (by rfl) we.heap.size 62 i2 _ 1 24 Tryz.underlying34 hi hz0 hz1 hz2 rfl (by omega) (.slice Au o.length cu) o.length (o.map Prod.snd) (by rfl) (by exact (own_far hrow kA1 (fun _ _ h => h)).alloc _) ⟨w1.heap.size, 0, none⟩ 1 1 [.slice A5 yl.length c5] (by rfl) (by rfl) (World.news_of_block (cs := #[.slice A5 yl.length c5]) (t := 62) (fr := (0, 0)) (heap_alloc_new _ _)) (by simp [Value.oneCell']) (by omega) (by simp only [maxLen]; omega) (by omega) (by have := kA1.size; simp only [World.size_alloc]; omega) (w1.heap.size + 1) (by simp) ?_; intro g2 cap2 w2 hown2 hgrow2 hat2 hlt2; have kk2 : Kp (fun k => (Value.slice Au o.length cu).ownBlock = some k) wr w2 := ((K0.kp kA1).alloc _).grown hgrow2 (fun k hk => .inr hk); have z2 := y6.kp kk2 (own_blk_ne hrow y6 (by decide)); have zc := z2.cell 0; have zf := z2.frozen 0; have zl := z2.lt; simp at zc)
            | (go_simp; go_at_call 27; refine (CL.out _ (by first | exact (Kp.refl _ _).drew | exact ((Kp.refl _ _).drewN _))).mono ?_; rintro e w1 ⟨A5, c5, rfl, hown1, hk1⟩; have kA1 : K0 wr w1 := ((Kp.refl _ wr).drew).trans hk1; have sz1 := kA1.size; have l2' : wo.heap.size + 1 < w1.heap.size := (by omega); have e0' := (hk1.cell (p := ⟨wo.heap.size + 1, 0, none⟩) (by exact l6) (fun h => h)).trans (by exact e0); have e0'' := fun o => (World.cell?_alloc_lt w1 o ⟨wo.heap.size + 1, 0, none⟩ l2').trans e0'))
          all_goals
            have KK : Kp (fun k => k = wo.heap.size + 1 ∨ (Value.slice Au o.length cu).ownBlock = some k) wr (w2.setCell ⟨wo.heap.size + 1, 0, none⟩ (.slice (some ⟨g2, 0, none⟩) (o.length + 1) cap2)) := (kk2.mono (fun _ h => .inr h)).setCell (p := ⟨wo.heap.size + 1, 0, none⟩) (.inr (.inl rfl)) _
            have K1 : Kp (fun k => k = wo.heap.size + 1 ∨ (Value.slice Au o.length cu).ownBlock = some k) w1 (w2.setCell ⟨wo.heap.size + 1, 0, none⟩ (.slice (some ⟨g2, 0, none⟩) (o.length + 1) cap2)) := (((Kp.refl _ w1).alloc _).grown hgrow2 (fun k hk => .inr (.inr hk))).setCell (p := ⟨wo.heap.size + 1, 0, none⟩) (.inr (.inl rfl)) _
            have z9 := z2.set_ 0 (.slice (some ⟨g2, 0, none⟩) (o.length + 1) cap2)
            have r9 := own_setCell (p := ⟨wo.heap.size + 1, 0, none⟩) (u := .slice (some ⟨g2, 0, none⟩) (o.length + 1) cap2) hown2 (own_blk_ne hown2 z2 (by decide))
            have hy9 := own_kt (own_mono (b' := wr.heap.size) hown1 (by exact Nat.le_refl _)) K1 (fun g cs hg h => by
              rcases h with rfl | h
              · exact hg.ne_ (y6.kp kA1 (fun h => h)) (by decide) rfl
              · exact own_blk_ne (own_far hrow kA1 (fun _ _ h => h)) hg (by decide) h)
            have O9 := Lib.hid (HOP.out.add (y := (yl, .slice A5 yl.length c5)) KK (fun g cs hg h => by
              rcases h with rfl | h
              · exact hg.ne_ y6 (by decide) rfl
              · exact own_blk_ne hrow hg (by decide) h) r9 hy9 hl4 szz2 (Nat.le_refl _))
            have K9 : Kp (fun k => k = wo.heap.size + 1) we (w2.setCell ⟨wo.heap.size + 1, 0, none⟩ (.slice (some ⟨g2, 0, none⟩) (o.length + 1) cap2)) := hkz.trans' KK (fun i hi h => by
              rcases h with h | h
              · exact h
              · have := (hrow.lt i h).1; omega)
            have T9 := Lib.hid (HTK4.out o hTo.out (yl, .slice A5 yl.length c5) rfl)
            simp at z9
            have L9 : (o ++ [((yl, .slice A5 yl.length c5) : PartX)]).length = j + 1 := by rw [List.length_append, HOJ.out]; rfl
            clear z2 zc zf zl hown2 hgrow2 hown1 e0' e0'' r9 hy9 y6 KK K1 kk2 kA1 hk1
            go_wp2
            exact ⟨⟨j + 1, o ++ [(yl, .slice A5 yl.length c5)], _, by omega, by go_num, T9, L9, z9, O9, K9⟩, by simp [intOf]; omega⟩
        · obtain rfl : j = pl.length := by omega
          have hTo2 := hTo.out
          rw [HFN3.out] at hTo2
          have kz : Kp (fun k => k = wo.heap.size + 1) wo wr := (K0.kp kre).trans hkz
          have y1z := y1.kp kz (fun h => by have := y1.lt; omega)
          have y2z := y2.kp kz (fun h => by have := y2.lt; omega)
          have g0 := y2z.cell 0
          have l2 := y2z.lt
          simp at g0
          have hOz := HOO.out.kt kz (fun g cs hg h => by have := hg.lt; omega) (fun g cs hg h => by have := hg.lt; omega) (fun g cs hg h => by have := hg.lt; have := h.2; omega)
          have hrowz := hOz.row
          have HPX := Lib.hid hOo.out
          have HTO := Lib.hid hTo2
          have HOJ := Lib.hid hoj
          clear hTo2 hoj hTo hOo
          go_wp2_with (at_builtin; refine wpList_append_any _ rfl (.tmp 35) (.tmp 37) _ rfl wc.heap.size 37 i1 _ 2 32 Tryz.underlying23 hj hy0 hy1 hy2 rfl (by omega) (.slice Av out.length cv) out.length (duos shduo out) rfl (by exact hrowz.alloc _) (wr.heap.size + 1) (some ⟨wr.heap.size, 0, none⟩) 1 1 [.slice Au o.length cu, .int .i64 pf] rfl (by have := reads_new wr 37 #[.slice Au o.length cu, .int .i64 pf] 1 2 rfl; simpa using this) (by simp [Value.oneCell']) (by simp only [maxLen]; omega) (by omega) (by simp; omega) ?_; intro v3 w3 ho3 hg3 hat3; obtain ⟨A7, c7, rfl, _, _⟩ := own_form ho3; have z2 := (y2z.alloc (.cells #[.slice Au o.length cu, .int .i64 pf] 37)).grown hg3 (Ne.symm (own_blk_ne hrowz y2z (by decide))); have zc := z2.cell 0; have zf := z2.frozen 0; have zl := z2.lt; simp at zc)
          have KA : Kp (fun k => (Value.slice Av out.length cv).ownBlock = some k) wr w3 := ((Kp.refl _ wr).alloc _).grown hg3 (fun k hk => .inr hk)
          have KK : Kp (fun k => k = w.heap.size + 1 + 1 ∨ (Value.slice Av out.length cv).ownBlock = some k) wr (w3.setCell ⟨w.heap.size + 1 + 1, 0, none⟩ (.slice A7 (out.length + 1) c7)) := (KA.mono (fun _ h => .inr h)).setCell (p := ⟨w.heap.size + 1 + 1, 0, none⟩) (.inr (.inl rfl)) _
          have z9 := z2.set_ 0 (.slice A7 (out.length + 1) c7)
          have r9 := own_setCell (p := ⟨w.heap.size + 1 + 1, 0, none⟩) (u := .slice A7 (out.length + 1) c7) ho3 (own_blk_ne ho3 z2 (by decide))
          have avr : ∀ t, t ≠ 25 → t ≠ 37 → ∀ g cs, Blk wr g t cs → ¬ (g = w.heap.size + 1 + 1 ∨ (Value.slice Av out.length cv).ownBlock = some g) := by
            rintro t h1 h2 g cs hg (rfl | h)
            · exact hg.ne_ y2z h1 rfl
            · exact own_blk_ne hrowz hg (Ne.symm h2) h
          have KW : Kp (fun k => k = wo.heap.size + 1 ∨ k = w.heap.size + 1 + 1 ∨ (Value.slice Av out.length cv).ownBlock = some k) wo (w3.setCell ⟨w.heap.size + 1 + 1, 0, none⟩ (.slice A7 (out.length + 1) c7)) := (kz.mono (fun _ h => .inl h)).trans (KK.mono (fun _ h => .inr h))
          have avo : ∀ t, t ≠ 25 → t ≠ 37 → ∀ g cs, Blk wo g t cs → ¬ (g = wo.heap.size + 1 ∨ g = w.heap.size + 1 + 1 ∨ (Value.slice Av out.length cv).ownBlock = some g) := by
            rintro t h1 h2 g cs hg (h | rfl | h)
            · have := hg.lt; omega
            · exact hg.ne_ y2 h1 rfl
            · exact own_blk_ne HOO.out.row hg (Ne.symm h2) h
          have hx9 := ((HPX.out.kt KK (avr 62 (by decide) (by decide)) (avr 61 (by decide) (by decide)))).mono (b' := wo.heap.size) (by omega)
          have hol9 : o.length = pl.length := HOJ.out
          have O9 := Lib.hid (HOO.out.add (x := ⟨o, .slice Au o.length cu, pf⟩) KW (avo 62 (by decide) (by decide)) (avo 61 (by decide) (by decide)) r9 hx9 hsz (by show o.length ≤ _; omega) hfb.1 hfb.2)
          have Y1 := y1z.kp KK (fun h => by
            rcases h with h | h
            · omega
            · exact own_blk_ne hrowz y1z (by decide) h)
          have K9 : Kp (fun k => k = w.heap.size + 1 + 1) wc (w3.setCell ⟨w.heap.size + 1 + 1, 0, none⟩ (.slice A7 (out.length + 1) c7)) := hk.trans' KW (fun i hi h => by
            rcases h with h | h | h
            · omega
            · exact h
            · have := (HOO.out.row.lt i h).1; omega)
          have T9 := Lib.hid (HTK1.out out hT.out ⟨o, .slice Au o.length cu, pf⟩ (by unfold ShpX.d; simp only []; rw [HTO.out]))
          simp at z9
          have L9 : (out ++ [(⟨o, .slice Au o.length cu, pf⟩ : ShpX)]).length = q + 1 := by rw [List.length_append, HOL.out]; rfl
          clear z2 zc zf zl hg3 ho3 r9 hx9 y1 y2 y1z y2z KK KW KA avr avo hOz hrowz
          go_wp2
          exact ⟨⟨q + 1, out ++ [⟨o, .slice Au o.length cu, pf⟩], _, by omega, by go_num, T9, L9, Y1, z9, O9, K9⟩, by simp [intOf]; omega⟩
    · obtain rfl : q = ss.length := by omega
      have hT2 := hT.out
      rw [HFN.out] at hT2
      have f1 := y1.frozen 0
      have g0 := y1.cell 0
      have l1 := y1.lt
      have g2 := y2.cell 0
      have l2 := y2.lt
      simp at g0 g2
      have HO := Lib.hid hO.out
      have HT2 := Lib.hid hT2
      clear hT2 hT hO hol
      go_wp2
      have y9 := y1.set_ 0 (.slice Av out.length cv)
      have d0 := y9.cell 0
      simp at d0
      refine bodyPost_ret (v := .agg #[.slice Av out.length cv]) ?_ rfl ?_
      · simp [results, Tryz.f13, go_sem, d0]
      · have KE : Kp (fun k => k = w.heap.size + 1) wo (wo.setCell ⟨w.heap.size + 1, 0, none⟩ (.slice Av out.length cv)) := (Kp.refl (fun k => k = w.heap.size + 1) wo).setCell (p := ⟨w.heap.size + 1, 0, none⟩) (.inr rfl) _
        refine ⟨_, out, rfl, HT2.out, (HO.out.kt KE (fun g cs hg h => ?_) (fun g cs hg h => ?_) (fun g cs hg h => ?_)).mono (by omega), kr.trans' KE (fun i hi h => by omega)⟩
        · subst h; exact hg.ne_ y1 (by decide) rfl
        · subst h; exact hg.ne_ y1 (by decide) rfl
        · have h := h.2; subst h; exact hg.ne_ y1 (by decide) rfl
end Go.Proofs.YtobofhiakgohfaaGreatDoor
