/- The document's Build: what its loops hold. The document's Build. -/
import Derived.Test.YtobofhiakgohfaaGreatDoorSH
import Derived.Test.YtobofhiakgohfaaGreatDoorSI
set_option linter.unusedVariables false
set_option linter.unusedSimpArgs false
namespace Go.Proofs.YtobofhiakgohfaaGreatDoor
open Go.RowKit Go.Maps Go.WideMaps

/-- The sets so far, in memory of the call's own. -/
structure SetsB (w : World) (base : Nat) (v : Value) (cl : List ClsX) : Prop where
  row : w.ownsRow base 62 1 v cl.length (cl.map ClsX.v)
  rows : ∀ x ∈ cl, w.ownsRow base 61 2 x.v x.s.length (spcs x.s) ∧ x.s.length ≤ 256
theorem SetsB.nil (w : World) (base : Nat) : SetsB w base (.slice none 0 0) [] := ⟨World.ownsRow_nil _ _ _ _, fun x hx => by cases hx⟩
theorem SetsB.kt {S : Nat → Prop} {w w' : World} {base : Nat} {v : Value} {cl : List ClsX} (h : SetsB w base v cl) (hk : Kp S w w') (h1 : ∀ g cs, Blk w g 62 cs → ¬ (v.ownBlock = some g ∧ S g)) (h2 : ∀ g cs, Blk w g 61 cs → ¬ S g) : SetsB w' base v cl :=
  ⟨own_far h.row hk (fun g hg hS => by obtain ⟨cs, hb⟩ := own_blk h.row g hg; exact h1 g cs hb ⟨hg, hS⟩), fun x hx => ⟨own_kt (h.rows x hx).1 hk h2, (h.rows x hx).2⟩⟩
theorem SetsB.k0 {w w' : World} {base : Nat} {v : Value} {cl : List ClsX} (h : SetsB w base v cl) (hk : K0 w w') : SetsB w' base v cl := h.kt hk (fun _ _ _ h => h.2) (fun _ _ _ h => h)
/-- One set more. -/
theorem SetsB.add {S : Nat → Prop} {w w' : World} {base B : Nat} {v v' : Value} {cl : List ClsX} {x : ClsX} (h : SetsB w base v cl) (hk : Kp S w w') (h2 : ∀ g cs, Blk w g 61 cs → ¬ S g) (hr : w'.ownsRow base 62 1 v' (cl.length + 1) (cl.map ClsX.v ++ [x.v]))
    (hx : w'.ownsRow B 61 2 x.v x.s.length (spcs x.s)) (hl : x.s.length ≤ 256) (hB : base ≤ B) : SetsB w' base v' (cl ++ [x]) := by
  refine ⟨by rw [List.length_append, List.map_append]; exact hr, fun z hz => ?_⟩
  rcases List.mem_append.1 hz with hz | hz
  · exact ⟨own_kt (h.rows z hz).1 hk h2, (h.rows z hz).2⟩
  · simp only [List.mem_singleton] at hz
    subst hz
    exact ⟨own_mono hx hB, hl⟩
/-- The set of a number. -/
theorem sets_at {w : World} {base : Nat} {v : Value} {cl : List ClsX} (h : SetsB w base v cl) {j : Nat} (hj : j < cl.length) :
    ∃ ad c A c2, v = .slice (some ad) cl.length c ∧ ad.block < w.heap.size ∧ v.ownBlock = some ad.block ∧ cl[j].v = .slice A cl[j].s.length c2 ∧ w.cell? (ad.add j) = some (.slice A cl[j].s.length c2) ∧ Reads w w.heap.size 2 A cl[j].s.length (spcs cl[j].s) ∧ cl[j].s.length ≤ 256 := by
  obtain ⟨ho, hl⟩ := h.rows _ (List.getElem_mem hj)
  obtain ⟨A, c2, e, _, _⟩ := own_form ho
  have hr := h.row
  obtain ⟨A1, c, e1, _, _⟩ := own_form hr
  have hr2 := hr
  rw [e1] at hr2
  obtain ⟨ad, u, rfl, hb, hu, hc⟩ := (Reads.of_own hr2).at_ hj
  rw [List.getElem?_map, List.getElem?_eq_getElem hj] at hu
  cases hu
  obtain ⟨g, cap, he, _, _⟩ := hr2.form (by omega)
  injection he with he; injection he with he; subst he
  rw [e] at hc ho
  exact ⟨_, c, A, c2, e1, hb, by rw [e1]; rfl, e, hc, Reads.of_own ho, hl⟩

theorem arr_setb (m : Int → Bool) {k : Nat} (h : k < 256) (b : Bool) : (arrM m).setIfInBounds k (.bool b) = arrM fun x => if x = (k : Int) then b else m x := by
  refine Array.ext_getElem? fun i => ?_
  rw [Array.getElem?_setIfInBounds]
  by_cases hi : i < 256
  · rw [arr_get _ hi, arr_get _ hi, arr_size]
    by_cases hk : k = i
    · subst hk; simp [h]
    · rw [if_neg hk, if_neg (by omega)]
  · have h1 : ∀ m : Int → Bool, (arrM m)[i]? = none := fun m => Array.getElem?_eq_none (by rw [arr_size]; omega)
    rw [h1, h1, if_neg (by omega)]
/-- One set laid over another, as far as k. -/
def orM (m n : Int → Bool) (k : Nat) : Int → Bool := fun y => m y || (decide (y < (k : Int)) && n y)
theorem orM_zero (m n : Int → Bool) : arrM (orM m n 0) = arrM m := arr_ext fun k hk => by unfold orM; rw [decide_eq_false (by omega)]; simp
theorem orM_end (m n : Int → Bool) : arrM (orM m n 256) = arrM fun y => m y || n y := arr_ext fun k hk => by unfold orM; rw [decide_eq_true (by omega)]; simp
theorem orM_at (m n : Int → Bool) (k : Nat) : orM m n k (k : Int) = m (k : Int) := by unfold orM; rw [decide_eq_false (by omega)]; simp
theorem orM_step (m n : Int → Bool) {k : Nat} (hk : k < 256) {b : Bool} (hb : b = (m (k : Int) || n (k : Int))) : (arrM (orM m n k)).setIfInBounds k (.bool b) = arrM (orM m n (k + 1)) := by
  rw [arr_setb _ hk]
  refine arr_ext fun i hi => ?_
  unfold orM
  by_cases e : i = k
  · subst e
    rw [if_pos rfl, hb, decide_eq_true (by omega)]; simp
  · rw [if_neg (by omega), decide_eq_decide.2 (show (i : Int) < (k : Int) ↔ (i : Int) < ((k + 1 : Nat) : Int) by omega)]
theorem mem_snoc (ss : List (List Sp)) (s : List Sp) : (fun x => (ss ++ [s]).any fun s => memB s x) = fun y => (fun x => ss.any fun s => memB s x) y || memB s y := funext fun x => any_snoc x
theorem mem_none : arrM (fun x => ([] : List (List Sp)).any fun s => memB s x) = arrM noneM := rfl
/-- The names of the classes so far, as the search sees them. -/
theorem names_take {p : List (ClassD × Value)} {cl : List ClsX} {q : Nat} (h : classesB [] ((p.map Prod.fst).take q) = .ok (cl.map ClsX.d)) : (p.map (fun x => x.1.nm)).take q = (cl.map ClsX.d).map Prod.fst := by
  have := classes_names h
  rw [List.map_nil, List.nil_append] at this
  rw [this, List.map_take, List.map_map]
  rfl
/-- The search for a class among those so far. -/
theorem find_none {cl : List ClsX} {nm : ByteArray} {l : List ByteArray} (hl : l = (cl.map ClsX.d).map Prod.fst) (h : findN l nm < 0) : lookB (cl.map ClsX.d) nm = none := by
  subst hl; exact look_none.2 h
theorem find_some {cl : List ClsX} {nm : ByteArray} {l : List ByteArray} (hl : l = (cl.map ClsX.d).map Prod.fst) (h : ¬ findN l nm < 0) : ∃ j, ∃ hj : j < cl.length, findN l nm = (j : Int) ∧ lookB (cl.map ClsX.d) nm = some cl[j].s := by
  subst hl
  obtain ⟨j, hj, h1, h2⟩ := look_some h
  simp only [List.length_map] at hj
  exact ⟨j, hj, h1, by rw [h2]; simp [ClsX.d]⟩
theorem class_twice {cl : ClsT} {c : ClassD} (h : (lookB cl c.nm).isSome = true) : classB cl c = .error (c.pl, 80) := by unfold classB; rw [if_pos h]
theorem class_stop {cl : ClsT} {c : ClassD} {e : Int × Int} (h : lookB cl c.nm = none) (hi : itemsB cl c.its = .error e) : classB cl c = .error e := by unfold classB; rw [h, hi]; rfl
theorem class_done {cl : ClsT} {c : ClassD} {ss : List (List Sp)} (h : lookB cl c.nm = none) (hi : itemsB cl c.its = .ok ss) : classB cl c = .ok (cl ++ [(c.nm, normS ss.flatten)]) := by unfold classB; rw [h, hi]; rfl
theorem setI_none {cl : ClsT} {x : ItemD} (h : x.nm.data.toList ≠ []) : setI cl x = lookB cl x.nm := by unfold setI; rw [if_neg h]
theorem setI_span {cl : ClsT} {lo hi pl : Int} : setI cl ⟨⟨#[]⟩, lo, hi, pl⟩ = some [(lo, hi)] := by unfold setI; rw [if_pos rfl]
theorem shape_big {cl : ClsT} {out : SchD} {s : ShapeD} {ss : List (List Sp)} (hi : itemsB cl s.its = .ok ss) (h : 1073741823 < lastB ⟨ss, s.first⟩) : shapeB cl out s = .error (s.pl, 82) := by unfold shapeB; rw [hi]; simp only []; rw [if_pos h]
theorem shape_over {cl : ClsT} {out : SchD} {s : ShapeD} {ss : List (List Sp)} (hi : itemsB cl s.its = .ok ss) (h : ¬ 1073741823 < lastB ⟨ss, s.first⟩) (ho : overB out ⟨ss, s.first⟩ = true) : shapeB cl out s = .error (s.pl, 83) := by unfold shapeB; rw [hi]; simp only []; rw [if_neg h, if_pos ho]
theorem shape_done {cl : ClsT} {out : SchD} {s : ShapeD} {ss : List (List Sp)} (hi : itemsB cl s.its = .ok ss) (h : ¬ 1073741823 < lastB ⟨ss, s.first⟩) (ho : overB out ⟨ss, s.first⟩ = false) : shapeB cl out s = .ok (out ++ [⟨ss, s.first⟩]) := by unfold shapeB; rw [hi]; simp only []; rw [if_neg h, if_neg (by rw [ho]; decide)]
theorem shape_stop {cl : ClsT} {out : SchD} {s : ShapeD} {e : Int × Int} (hi : itemsB cl s.its = .error e) : shapeB cl out s = .error e := by unfold shapeB; rw [hi]
theorem own_sing (w : World) (lo hi : Int) : (w.alloc (.cells #[.int .i64 lo, .int .i64 hi] 61)).ownsRow w.heap.size 61 2 (.slice (some ⟨w.heap.size, 0, none⟩) 1 1) 1 (spcs [(lo, hi)]) :=
  ⟨rfl, .inr ⟨w.heap.size, 1, _, rfl, Nat.le_refl _, by simpa [Blk] using Blk.new w 61 #[.int .i64 lo, .int .i64 hi], by simp, by simp [maxLen], rfl, rfl⟩⟩
/-- meet, of the last shape. -/
theorem meet_last (w : World) (base : Nat) (A : Option Addr) (c : Nat) (out : List ShpX) (X : ShpX) (hO : OSL w base (.slice A (out.length + 1) c) (out ++ [X])) (hf : ∀ x ∈ out ++ [X], 0 ≤ x.first ∧ x.first ≤ 1073741823) (hl : out.length ≤ 1000) {q : Nat} (hq : out.length = q) :
    Calls Tryz.prog 52 #[.slice A (out.length + 1) c, .int .i64 (q : Int)] w fun e w' => e = .returned (.bool (overB (out.map ShpX.d) X.d)) ∧ K0 w w' := by
  subst hq
  obtain ⟨A', c', e, _, _, hl2, hr, hp⟩ := hO.shpsV (by simp; omega)
  injection e with e1 e2 e3
  subst e1
  subst e3
  have := meet52_any w A c (out ++ [X]) out.length (by simp) hl2 hr hp (fun j hj _ => hf _ (List.getElem_mem hj))
  rw [show overB (((out ++ [X]).map ShpX.d).take out.length) (out ++ [X])[out.length].d = overB (out.map ShpX.d) X.d by simp, show (out ++ [X]).length = out.length + 1 by simp] at this
  exact this
/-- What Build answers, as the document has it. -/
def RBPost (R : SchD × Int × Int) (w : World) (e : Ending) (w' : World) : Prop :=
  ∃ vo out, out.map ShpX.d = R.1 ∧ e = .returned (.tuple #[.agg #[vo], .int .i64 R.2.1, .int .i64 R.2.2]) ∧ OSL w' w.heap.size vo out ∧ out.length ≤ 32 ∧ K0 w w'
end Go.Proofs.YtobofhiakgohfaaGreatDoor

namespace Go.Proofs.YtobofhiakgohfaaGreatDoor
open Go.RowKit Go.Maps Go.WideMaps

set_option maxRecDepth 100000 in
set_option maxHeartbeats 64000000 in
theorem rbuild_any (w : World) (B : Nat) (v : Value) (d : DescD) (hv : DescV w B v d) (hB : B ≤ w.heap.size) :
    Calls Tryz.prog 21 #[v] w (RBPost (schR d) w) := by
  obtain ⟨cls, shs⟩ := d
  have hv0 := hv
  obtain ⟨vc, vs, rfl, ⟨p, A, c, rfl, rfl, hc1, hc2, hc3, hcr, hci⟩, ⟨s, A2, c2, rfl, rfl, hs1, hs2, hs3, hsr, hsi⟩⟩ := hv
  obtain ⟨i0, hi, hz0, hz1, hz2⟩ := info_parts info61
  obtain ⟨i1, hj, hy0, hy1, hy2⟩ := info_parts info62
  obtain ⟨i2, hl, hx0, hx1, hx2⟩ := info_parts info37
  obtain ⟨wa, hwa⟩ : ∃ wa, wa = (w.alloc (.cells #[.slice A p.length c, .slice A2 s.length c2] 42)).alloc (.cells #[.slice none 0 0] 25) := ⟨_, rfl⟩
  have ka : K0 w wa := by rw [hwa]; exact ((Kp.refl _ _).alloc _).alloc _
  have y0 : Blk wa w.heap.size 42 #[.slice A p.length c, .slice A2 s.length c2] := by rw [hwa]; exact (Blk.new _ _ _).alloc _
  have y1 : Blk wa (w.heap.size + 1) 25 #[.slice none 0 0] := by rw [hwa]; have := Blk.new (w.alloc (.cells #[.slice A p.length c, .slice A2 s.length c2] 42)) 25 #[.slice none 0 0]; rw [World.size_alloc] at this; exact this
  have FT := Lib.hid (fits_any wa B _ ⟨p.map Prod.fst, s.map Prod.fst⟩ (hv0.k0 hB ka) (by have := ka.size; omega))
  cases hf : fitD ⟨p.map Prod.fst, s.map Prod.fst⟩ with
  | false =>
    rw [hf] at FT
    have hR : schR ⟨p.map Prod.fst, s.map Prod.fst⟩ = ([], 0, 70) := by unfold schR buildR; rw [if_pos hf]
    rw [hR]
    clear hf hR
    go_enter Tryz.func21, Tryz.ntmps21
    go_wp2_with fail
    rw [← hwa]
    clear hwa
    refine FT.out.mono ?_
    rintro e w1 ⟨rfl, hk1⟩
    have z1 := y1.kp hk1 (fun h => h)
    have c1 := z1.cell 0
    have f1 := z1.frozen 0
    have l1 := z1.lt
    simp at c1
    go_wp2
    refine bodyPost_ret (v := .tuple #[.agg #[.slice none 0 0], .int .i64 0, .int .i64 70]) ?_ rfl ?_
    · have z2 := z1.set_ 0 (.slice none 0 0)
      have c2 := z2.cell 0
      simp at c2
      simp [results, Tryz.f21, go_sem, c2]
    · exact ⟨.slice none 0 0, [], rfl, rfl, OSL.nil _ _, by simp, (ka.trans hk1).setCell (p := ⟨w.heap.size + 1, 0, none⟩) (.inl (by simp)) _⟩
  | true =>
    rw [hf] at FT
    have hf2 := hf
    unfold fitD at hf2
    simp only [Bool.and_eq_true, decide_eq_true_eq, List.all_eq_true, List.length_map] at hf2
    have hR : buildR ⟨p.map Prod.fst, s.map Prod.fst⟩ = match classesB [] (p.map Prod.fst) with | .error e => .error e | .ok cl => shapesB cl [] (s.map Prod.fst) := by
      unfold buildR
      rw [hf]
      simp only [Bool.true_eq_false, if_false]
      cases classesB [] (p.map Prod.fst) <;> rfl
    have hp32 : p.length ≤ 32 := hf2.1.1.1
    have hs32 : s.length ≤ 32 := hf2.1.1.2
    have HFC : Hid (∀ (q : Nat) (h : q < p.length), fitC p[q].1 = true) := Lib.hid (fun q h => hf2.1.2 _ (List.mem_map.2 ⟨_, List.getElem_mem h, rfl⟩))
    have HFS : Hid (∀ (q : Nat) (h : q < s.length), fitS s[q].1 = true) := Lib.hid (fun q h => hf2.2 _ (List.mem_map.2 ⟨_, List.getElem_mem h, rfl⟩))
    have HRE : Hid (∀ pp er, buildR ⟨p.map Prod.fst, s.map Prod.fst⟩ = .error (pp, er) → schR ⟨p.map Prod.fst, s.map Prod.fst⟩ = ([], pp, er)) := Lib.hid (fun pp er h => by unfold schR; rw [h])
    have HRO : Hid (∀ o, buildR ⟨p.map Prod.fst, s.map Prod.fst⟩ = .ok o → schR ⟨p.map Prod.fst, s.map Prod.fst⟩ = (o, 0, 0)) := Lib.hid (fun o h => by unfold schR; rw [h])
    generalize schR ⟨p.map Prod.fst, s.map Prod.fst⟩ = RS at HRE HRO ⊢
    generalize buildR ⟨p.map Prod.fst, s.map Prod.fst⟩ = BR at HRE HRO hR
    have HR := Lib.hid hR
    have HCl := Lib.hid (fun W (hk : K0 w W) q hlt => cls_atK (W := W) (q := q) hcr hci hB hk (fun b hb h => h) hlt)
    have HSh := Lib.hid (fun W (hk : K0 w W) q hlt => shs_atK (W := W) (q := q) hsr hsi hB hk (fun b hb h => h) hlt)
    have HFD := Lib.hid (fun W (hk : K0 w W) (n : Nat) (nm : ByteArray) (hn : n ≤ p.length) => find_any W A c p n nm hn ((hcr.k0 hB hk).more (Nat.le_trans hB hk.size)) hc3)
    clear hf hf2 hR hv0 hcr hci hsr hsi
    go_enter Tryz.func21, Tryz.ntmps21
    go_wp2_with fail
    rw [← hwa]
    clear hwa
    refine FT.out.mono ?_
    rintro e w1 ⟨rfl, hk1⟩
    have k01 := ka.trans hk1
    have HY0 := Lib.hid (y0.kp hk1 (fun h => h))
    have HY1 := Lib.hid (y1.kp hk1 (fun h => h))
    clear y0 y1 FT ka hk1
    go_wp2
    go_loopw [5, 6] (fun sv i wk => ∃ (q : Nat) (cl : List ClsX), q ≤ p.length ∧ i = .int .i64 (q : Int) ∧ cl.length = q ∧ Hid (classesB [] ((p.map Prod.fst).take q) = .ok (cl.map ClsX.d)) ∧ Hid (goodC (cl.map ClsX.d)) ∧ Hid (SetsB wk w1.heap.size sv cl) ∧ K0 w1 wk) (fun sv i wk => p.length - (intOf i).toNat)
    case atStart => exact ⟨0, [], by omega, rfl, rfl, Lib.hid rfl, Lib.hid (fun p hp => by cases hp), Lib.hid (SetsB.nil _ _), Kp.refl _ _⟩
    case round =>
      obtain ⟨wk, rfl⟩ : ∃ wk : World, wk = wr := ⟨_, rfl⟩
      obtain ⟨q, cl, hq, rfl, hcq, hcl, hgc, hS, hk⟩ := hrel
      have kw : K0 w wk := k01.trans hk
      have z0 := HY0.out.kp hk (fun h => h)
      have c0 := z0.cell 0
      have c00 := z0.cell 1
      have l0 := z0.lt
      simp at c0 c00
      obtain ⟨Av, cv, rfl, _, _⟩ := own_form hS.out.row
      have HCQ := Lib.hid hcq
      have hwr : w.heap.size + 1 < wk.heap.size := (HY1.out.kp hk (fun h => h)).lt
      have hcl32 : cl.length ≤ 32 := by omega
      by_cases hlt : q < p.length
      · clear c00
        have hcl32' : cl.length < 32 := by omega
        clear hcq
        obtain ⟨ad, rfl, hbk, r0, r1, r2, hit⟩ := HCl.out wk kw q hlt
        have hat := classes_at hcl.out (by simpa using hlt)
        have eg : (p.map Prod.fst)[q]'(by simpa using hlt) = p[q].1 := by simp
        rw [eg] at hat
        have hfc := HFC.out q hlt
        clear eg
        have NT := Lib.hid (names_take hcl.out)
        have FD0 := HFD.out
        generalize p[q] = x at r0 r1 r2 hit hat hfc
        obtain ⟨⟨nm, its, pl⟩, vi⟩ := x
        simp only [] at r0 r1 r2 hit hat hfc
        have HAT := Lib.hid hat
        have hfc2 := hfc
        unfold fitC at hfc2
        rw [Bool.and_eq_true] at hfc2
        obtain ⟨hif, hine, hil⟩ := fitsB_all hfc2.2
        have hil : its.length ≤ 32 := hil
        have HIF := Lib.hid hif
        have HFC1 := Lib.hid hfc
        have HNE := Lib.hid hine
        clear hat hfc hfc2 hif hine
        obtain ⟨Ai, ci, rfl, hi1, hi2, hi3, hir, hin⟩ := hit
        obtain ⟨wb, hwb⟩ : ∃ wb, wb = wk.alloc (.cells #[.string nm, .slice Ai its.length ci, .int .i64 pl] 51) := ⟨_, rfl⟩
        have kb : K0 wk wb := by rw [hwb]; exact (Kp.refl _ _).alloc _
        have yc : Blk wb wk.heap.size 51 #[.string nm, .slice Ai its.length ci, .int .i64 pl] := by rw [hwb]; exact Blk.new _ _ _
        have FD := Lib.hid (FD0 wb (kw.trans kb) q nm hq)
        have FD2 := Lib.hid (fun W (hk2 : K0 wb W) nm2 => FD0 W ((kw.trans kb).trans hk2) q nm2 hq)
        have HF1 := Lib.hid (fun (h : findN ((p.map (fun x => x.1.nm)).take q) nm < 0) => find_none NT.out h)
        have HF2 := Lib.hid (fun (h : ¬ findN ((p.map (fun x => x.1.nm)).take q) nm < 0) => show classesB [] (p.map Prod.fst) = .error (pl, 80) from HAT.out.1 _ (class_twice (by obtain ⟨j, hj, _, e⟩ := find_some NT.out h; rw [e]; rfl)))
        have HRW := Lib.hid (fun W (hk2 : K0 wk W) x (hx : x < its.length) => (hir.k0 (Nat.le_refl _) hk2).item hx)
        have HIN := Lib.hid hin
        clear hir hin FD0 HFD
        generalize findN ((p.map (fun x => x.1.nm)).take q) nm = F at FD HF1 HF2
        go_wp2_with fail
        rw [← hwb]
        clear hwb
        refine FD.out.mono ?_
        rintro e w2 ⟨rfl, n2, hw2⟩
        have k2 : K0 wb w2 := by rw [hw2]; exact (Kp.refl _ _).drewN _
        have yc2 := yc.kp k2 (fun h => h)
        clear hw2 yc FD n2
        have z2 := (z0.kp kb (fun h => h)).kp k2 (fun h => h)
        have b0 := z2.cell 0
        have b00 := z2.lt
        have d1 := yc2.cell 1
        have d2 := yc2.cell 2
        have dl := yc2.lt
        simp at b0 d1 d2
        by_cases hF : 0 ≤ F
        · have e0 : decide (0 ≤ F) = true := decide_eq_true hF
          have HE := Lib.hid (HF2.out (by omega))
          have z3 := ((HY1.out.kp hk (fun h => h)).kp kb (fun h => h)).kp k2 (fun h => h)
          have c3 := z3.cell 0
          have f3 := z3.frozen 0
          have l3 := z3.lt
          simp at c3
          go_wp2
          go_region
          all_goals
            go_wp2
            refine bodyPost_ret (v := .tuple #[.agg #[.slice none 0 0], .int .i64 pl, .int .i64 80]) ?_ rfl ?_
            · have z4 := z3.set_ 0 (.slice none 0 0)
              have c4 := z4.cell 0
              simp at c4
              simp [results, Tryz.f21, go_sem, c4]
            · have hrs := HRE.out pl 80 (by rw [HR.out, HE.out])
              rw [hrs]
              exact ⟨.slice none 0 0, [], rfl, rfl, OSL.nil _ _, by simp, (((kw.trans kb).trans k2).setCell (p := ⟨w.heap.size + 1, 0, none⟩) (.inl (by simp)) _).drew⟩
        · have e0 : decide (0 ≤ F) = false := decide_eq_false hF
          have HLN := Lib.hid (HF1.out (by omega))
          clear HF1 HF2
          have hz : Tryz.zeroCells110 = arrM noneM := by kernel_rfl
          have ha := alloc110 w2
          obtain ⟨wm, hwm⟩ : ∃ wm, wm = w2.alloc (.cells (arrM noneM) 110) := ⟨_, rfl⟩
          have ym : Blk wm w2.heap.size 110 (arrM noneM) := by rw [hwm]; exact Blk.new _ _ _
          have km : K0 w2 wm := by rw [hwm]; exact (Kp.refl _ _).alloc _
          have HWM := Lib.hid hwm
          clear hwm
          go_wp2
          rw [← HWM.out]
          clear HWM
          have HYC := Lib.hid (yc2.kp km (fun h => h))
          have HZ := Lib.hid (z2.kp km (fun h => h))
          have HZ1 := Lib.hid ((((HY1.out.kp hk (fun h => h)).kp kb (fun h => h)).kp k2 (fun h => h)).kp km (fun h => h))
          have HS := Lib.hid (((hS.out.k0 kb).k0 k2).k0 km)
          have k2m : K0 wk wm := (kb.trans k2).trans km
          have kbm : K0 wb wm := k2.trans km
          have hgm : w2.heap.size < wm.heap.size := ym.lt
          have hgr : wk.heap.size < w2.heap.size := dl
          have SR := Lib.hid hk.size
          have SB := Lib.hid k2.size
          have HMM := Lib.hid ym
          clear z2 yc2 ym b0 b00 d1 d2 dl e0 hF z0 c0 l0 r0 r1 r2 hS kb k2 km
          go_loopw [9] (fun k wz => ∃ (x : Nat) (ss : List (List Sp)), x ≤ its.length ∧ k = .int .i64 (x : Int) ∧ Hid (itemsB (cl.map ClsX.d) (its.take x) = .ok ss) ∧ Hid (Blk wz w2.heap.size 110 (arrM fun y => ss.any fun s => memB s y)) ∧ Kp (fun k => k = w2.heap.size) wm wz) (fun k wz => its.length - (intOf k).toNat)
          case atStart => exact ⟨0, [], by omega, rfl, Lib.hid rfl, Lib.hid (by rw [mem_none]; exact HMM.out), Kp.refl _ _⟩
          case round =>
            obtain ⟨wz, rfl⟩ : ∃ wz : World, wz = wr := ⟨_, rfl⟩
            obtain ⟨x, ss, hx, rfl, hss, hM, kz⟩ := hrel
            have kwz : K0 wk wz := k2m.trans' kz (fun i hi h => by omega)
            have yc := HYC.out.kp kz (fun h => by omega)
            have u1 := yc.cell 1
            have ul := yc.lt
            simp at u1
            by_cases hlx : x < its.length
            · obtain ⟨ai, rfl, hbi, x0, x1, x2, x3⟩ := HRW.out wz kwz x hlx
              have hai := items_at hss.out hlx
              have hnx := HIN.out _ (List.getElem_mem hlx)
              generalize its[x] = it at x0 x1 x2 x3 hai hnx
              obtain ⟨inm, ilo, ihi, ipl⟩ := it
              simp only [] at x0 x1 x2 x3 hai hnx
              have HAI := Lib.hid hai
              clear hai hss
              obtain ⟨M0, hM0⟩ : ∃ M0 : Int → Bool, M0 = fun y => ss.any fun s => memB s y := ⟨_, rfl⟩
              rw [← hM0] at hM
              have HM0 := Lib.hid hM0
              clear hM0
              have hbi2 : (ai.add (x * 4)).block < wz.heap.size := by rw [add_blk]; exact Nat.lt_of_lt_of_le hbi kwz.size
              obtain ⟨wy, hwy⟩ : ∃ wy, wy = (wz.alloc (.cells #[.int .i64 ilo, .int .i64 ihi] 61)).drew := ⟨_, rfl⟩
              have ky : K0 wz wy := by rw [hwy]; exact ((Kp.refl _ _).alloc _).drew
              have RN : Reads wy wy.heap.size 2 (some ⟨wz.heap.size, 0, none⟩) 1 (spcs [(ilo, ihi)]) := by rw [hwy]; have := (reads_new wz 61 #[.int .i64 ilo, .int .i64 ihi] 1 2 rfl).k0 (by simp) ((Kp.refl _ _).drew); simpa [spcs, spc] using this
              have HWY := Lib.hid hwy
              clear hwy
              by_cases hnm : inm.data.toList = []
              · obtain rfl : inm = ⟨#[]⟩ := ba_ext hnm
                have HI2 := Lib.hid (HAI.out.2 _ setI_span)
                clear HAI hnm
                go_wp2
                go_region_held3 (fun w' => w'.cell? ⟨wk.heap.size, 1, none⟩ = some (.slice (some ai) its.length ci) ∧ w'.cell? ⟨(ai.add (x * 4)).block, (ai.add (x * 4)).off + 1, none⟩ = some (.int .i64 ilo) ∧ w'.cell? ⟨(ai.add (x * 4)).block, (ai.add (x * 4)).off + 2, none⟩ = some (.int .i64 ihi)) (go_keep) (fail)
                rw [← HWY.out]
                clear HWY
                have v1 := (yc.kp ky (fun h => h)).cell 1
                have vl := (yc.kp ky (fun h => h)).lt
                simp at v1
                have t0 := (ky.cell (p := ai.add (x * 4)) hbi2 (fun h => h)).trans x0
                obtain ⟨sl, hsl⟩ : ∃ sl : List Sp, sl = [(ilo, ihi)] := ⟨_, rfl⟩
                rw [← hsl] at RN HI2
                have hl1 : sl.length = 1 := by rw [hsl]; rfl
                have hRS : Reads wy wy.heap.size 2 (some ⟨wz.heap.size, 0, none⟩) sl.length (spcs sl) := by rw [hl1]; exact RN
                clear hsl RN
                have hgmy : w2.heap.size < wy.heap.size := by have := kz.size; have := ky.size; omega
                have kmy : Kp (fun k => k = w2.heap.size) wm wy := kz.trans (K0.kp ky)
                have hym := Lib.hid (hM.out.kp ky (fun h => h))
                have hll : sl.length ≤ 256 := by omega
                have ME := Lib.hid (members_any wy (some ⟨wz.heap.size, 0, none⟩) 1 sl hRS (by omega))
                obtain ⟨M, hMM⟩ : ∃ M : Int → Bool, M = memB sl := ⟨_, rfl⟩
                rw [show (fun x => okS 255 sl && sl.any fun r => decide (r.1 ≤ x ∧ x ≤ r.2)) = M by rw [hMM]; rfl] at ME
                have HMS := Lib.hid hMM
                have HLL := Lib.hid hll
                clear hRS hMM hll
                rw [hl1] at ME
                clear hl1
                go_wp2_with fail
                refine ME.out.mono ?_
                rintro e w5 ⟨rfl, hk5⟩
                have y5 := Blk.new w5 110 (arrM noneM)
                have hst := storeArr (m := M) y5 (arr_size _)
                have ha5 := alloc110 w5
                have y6 := y5.setRow (arrM M)
                have k6 : K0 w5 ((w5.alloc (.cells (arrM noneM) 110)).setRow w5.heap.size (arrM M)) := ((Kp.refl _ w5).alloc _).setRow (.inl (Nat.le_refl _)) _
                have hg5 : w2.heap.size < w5.heap.size := by have := hk5.size; omega
                obtain ⟨w6, hw6⟩ : ∃ w6, w6 = (w5.alloc (.cells (arrM noneM) 110)).setRow w5.heap.size (arrM M) := ⟨_, rfl⟩
                have hst2 : (storeCells ⟨w5.heap.size, 0, none⟩ (arrM M).toList).run Tryz.prog (w5.alloc (.cells (arrM noneM) 110)) = .ok () w6 := by rw [hw6]; exact hst
                rw [← hw6] at y6 k6
                clear hst hw6 y5
                have ym6 := Lib.hid ((hym.out.kp hk5 (fun h => h)).kp k6 (fun h => h))
                have km6 := (kmy.trans (K0.kp hk5)).trans (K0.kp k6)
                go_wp2
                clear hst2 ha5
                go_loopw [13] (fun i wx => ∃ y : Nat, y ≤ 256 ∧ i = .int .i64 (y : Int) ∧ Hid (Blk wx w2.heap.size 110 (arrM (orM M0 M y))) ∧ Hid (Blk wx w5.heap.size 110 (arrM M)) ∧ Kp (fun k => k = w2.heap.size) w6 wx) (fun i wx => 256 - (intOf i).toNat)
                case atStart => exact ⟨0, by omega, rfl, Lib.hid (by rw [orM_zero]; exact ym6.out), Lib.hid y6, Kp.refl _ _⟩
                case round =>
                  obtain ⟨wx, rfl⟩ : ∃ wx : World, wx = wr := ⟨_, rfl⟩
                  obtain ⟨y, hy, rfl, hO, hN, kx⟩ := hrel
                  by_cases hly : y < 256
                  · have g0 := hO.out.cell y
                    rw [arr_get _ hly, orM_at] at g0
                    have g1 := hN.out.cell y
                    rw [arr_get _ hly] at g1
                    have gf := hO.out.frozen y
                    have gl := hO.out.lt
                    have gl2 := hN.out.lt
                    have d9 : decide ((y : Int) < 256) = true := decide_eq_true (by omega)
                    have hyi : (y : Int) < 256 := by omega
                    have hyz : 0 ≤ (y : Int) := by omega
                    obtain ⟨b, hb⟩ : ∃ b, b = M0 (y : Int) := ⟨_, rfl⟩
                    rw [← hb] at g0
                    obtain ⟨b2, hb2⟩ : ∃ b2, b2 = M (y : Int) := ⟨_, rfl⟩
                    rw [← hb2] at g1
                    have HB1 := Lib.hid hb
                    have HB2 := Lib.hid hb2
                    clear hb hb2
                    cases b with
                    | true =>
                      go_wp2
                      refine ⟨⟨y + 1, by omega, by go_num, Lib.hid ?_, Lib.hid (hN.out.far (p := ⟨w2.heap.size, y, none⟩) (by dsimp only; omega) _), kx.setCell (p := ⟨w2.heap.size, y, none⟩) (.inr rfl) _⟩, by simp [intOf]; omega⟩
                      have := hO.out.set_ y (.bool true)
                      rw [orM_step _ _ hly (by rw [← HB1.out]; rfl)] at this
                      exact this
                    | false =>
                      go_wp2
                      refine ⟨⟨y + 1, by omega, by go_num, Lib.hid ?_, Lib.hid (hN.out.far (p := ⟨w2.heap.size, y, none⟩) (by dsimp only; omega) _), kx.setCell (p := ⟨w2.heap.size, y, none⟩) (.inr rfl) _⟩, by simp [intOf]; omega⟩
                      have := hO.out.set_ y (.bool b2)
                      rw [orM_step _ _ hly (by rw [← HB1.out, ← HB2.out]; rfl)] at this
                      exact this
                  · obtain rfl : y = 256 := by omega
                    have d9 : decide ((256 : Int) < 256) = false := by decide
                    go_wp2
                    refine ⟨⟨x + 1, ss ++ [sl], by omega, by go_num, HI2, Lib.hid ?_, km6.trans kx⟩, by simp [intOf]; omega⟩
                    have := hO.out
                    rw [orM_end, HM0.out, HMS.out, ← mem_snoc] at this
                    exact this
              · have hne : (inm.toList == []) = false := by rw [ByteArray.toList_eq]; exact beq_eq_false_iff_ne.2 hnm
                have HSN := Lib.hid (setI_none (cl := cl.map ClsX.d) (x := ⟨inm, ilo, ihi, ipl⟩) hnm)
                have HG1 := Lib.hid (fun (h : findN ((p.map (fun x => x.1.nm)).take q) inm < 0) => find_none NT.out h)
                have HG2 := Lib.hid (fun (h : ¬ findN ((p.map (fun x => x.1.nm)).take q) inm < 0) => find_some NT.out h)
                have FDW := Lib.hid (fun W (hk2 : K0 wy W) => FD2.out W ((kbm.trans' kz (fun i hi h => by have := SB.out; omega)).trans (ky.trans hk2)) inm)
                generalize findN ((p.map (fun x => x.1.nm)).take q) inm = G at FDW HG1 HG2
                have HNM := Lib.hid hnm
                clear hnm
                have y9 := yc.kp ky (fun h => h)
                have v1 := y9.cell 1
                have vl := y9.lt
                simp at v1
                have t0 := (ky.cell (p := ai.add (x * 4)) hbi2 (fun h => h)).trans x0
                have t3 := (ky.cell (p := ⟨(ai.add (x * 4)).block, (ai.add (x * 4)).off + 3, none⟩) hbi2 (fun h => h)).trans x3
                have z9 := (HZ.out.kp kz (fun h => by omega)).kp ky (fun h => h)
                have b0 := z9.cell 0
                have bl := z9.lt
                simp at b0
                by_cases hG : G < 0
                · have d0 : decide (G < 0) = true := decide_eq_true hG
                  have HE := Lib.hid (HAT.out.1 _ (class_stop HLN.out (HAI.out.1 (by rw [HSN.out]; exact HG1.out hG))))
                  have z3 := (HZ1.out.kp kz (fun h => by omega)).kp ky (fun h => h)
                  have c3 := z3.cell 0
                  have f3 := z3.frozen 0
                  have l3 := z3.lt
                  simp at c3
                  go_wp2
                  go_region_held3 (fun w' => w'.cell? ⟨wk.heap.size, 1, none⟩ = some (.slice (some ai) its.length ci) ∧ w'.cell? ⟨(ai.add (x * 4)).block, (ai.add (x * 4)).off + 1, none⟩ = some (.int .i64 ilo) ∧ w'.cell? ⟨(ai.add (x * 4)).block, (ai.add (x * 4)).off + 2, none⟩ = some (.int .i64 ihi)) (go_keep) (fail)
                  rw [← HWY.out]
                  clear HWY
                  go_wp2
                  go_quiet ((go_at_call 48; exact Calls.quiet_of (FDW.out _ (by first | exact (Kp.refl _ _) | exact (Kp.refl _ _).drew | exact ((Kp.refl _ _).drewN _)))))
                  go_wp2
                  go_region
                  all_goals
                    go_wp2
                    refine bodyPost_ret (v := .tuple #[.agg #[.slice none 0 0], .int .i64 ipl, .int .i64 81]) ?_ rfl ?_
                    · have c4 := fun n => ((show Blk (wy.drewN n) (w.heap.size + 1) 25 #[.slice none 0 0] from z3).set_ 0 (.slice none 0 0)).cell 0
                      simp at c4
                      simp [results, Tryz.f21, go_sem, c4]
                    · have hrs := HRE.out ipl 81 (by rw [HR.out, HE.out])
                      rw [hrs]
                      refine ⟨.slice none 0 0, [], rfl, rfl, OSL.nil _ _, by simp, ?_⟩
                      have kk : K0 w wy := (kw.trans kwz).trans ky
                      exact (kk.drewN _).setCell (p := ⟨w.heap.size + 1, 0, none⟩) (.inl (by simp)) _
                · have d0 : decide (G < 0) = false := decide_eq_false hG
                  obtain ⟨j, hj2, hGj, hlk⟩ := HG2.out hG
                  subst hGj
                  have HI2 := Lib.hid (HAI.out.2 cl[j].s (by rw [HSN.out]; exact hlk))
                  clear HG1 HG2 HAI HSN hlk
                  obtain ⟨asx, ca, As, cs2, hva, hab, hao, hvj, hcj, hRj, hlj⟩ := sets_at ((HS.out.kt kz (fun g cs hg h => by
                    obtain ⟨_, h⟩ := h; subst h; exact hg.ne_ HMM.out (by decide) rfl) (fun g cs hg h => by subst h; exact hg.ne_ HMM.out (by decide) rfl)).k0 ky) hj2
                  cases hva
                  generalize cl[j].s = sl at HI2 hcj hRj hlj
                  have hj3 : (j : Int) < (cl.length : Int) := by omega
                  have hj0 : 0 ≤ (j : Int) := by omega
                  have hcj' := fun n => (((Kp.refl (fun _ => False) wy).drewN n).cell (p := asx.add j) (by rw [add_blk]; exact hab) (fun h => h)).trans hcj
                  go_wp2
                  go_region_held3 (fun w' => w'.cell? ⟨wk.heap.size, 1, none⟩ = some (.slice (some ai) its.length ci) ∧ w'.cell? ⟨(ai.add (x * 4)).block, (ai.add (x * 4)).off + 1, none⟩ = some (.int .i64 ilo) ∧ w'.cell? ⟨(ai.add (x * 4)).block, (ai.add (x * 4)).off + 2, none⟩ = some (.int .i64 ihi)) (go_keep) (fail)
                  rw [← HWY.out]
                  clear HWY
                  go_wp2
                  go_quiet ((go_at_call 48; exact Calls.quiet_of (FDW.out _ (by first | exact (Kp.refl _ _) | exact (Kp.refl _ _).drew | exact ((Kp.refl _ _).drewN _)))))
                  have hRS : Reads (wy.drewN nq) (wy.drewN nq).heap.size 2 As sl.length (spcs sl) := hRj.drewN nq
                  have ky' : K0 wz (wy.drewN nq) := ky.drewN nq
                  clear FDW
                  obtain ⟨wq, hwq⟩ : ∃ wq, wq = wy.drewN nq := ⟨_, rfl⟩
                  have hcj2 := hcj' nq
                  rw [← hwq] at hRS ky' hcj2 ⊢
                  clear hcj' t0 t3 v1 vl y9 b0 bl hcj hRj hwq ky
                  have hgmy : w2.heap.size < wq.heap.size := by have := kz.size; have := ky'.size; omega
                  have kmy : Kp (fun k => k = w2.heap.size) wm wq := kz.trans (K0.kp ky')
                  have hym := Lib.hid (hM.out.kp ky' (fun h => h))
                  have hll := hlj
                  have ME := Lib.hid (members_any wq As cs2 sl hRS (by omega))
                  obtain ⟨M, hMM⟩ : ∃ M : Int → Bool, M = memB sl := ⟨_, rfl⟩
                  rw [show (fun x => okS 255 sl && sl.any fun r => decide (r.1 ≤ x ∧ x ≤ r.2)) = M by rw [hMM]; rfl] at ME
                  have HMS := Lib.hid hMM
                  have HLL := Lib.hid hll
                  clear hRS hMM hll

                  go_wp2_with fail
                  refine ME.out.mono ?_
                  rintro e w5 ⟨rfl, hk5⟩
                  have y5 := Blk.new w5 110 (arrM noneM)
                  have hst := storeArr (m := M) y5 (arr_size _)
                  have ha5 := alloc110 w5
                  have y6 := y5.setRow (arrM M)
                  have k6 : K0 w5 ((w5.alloc (.cells (arrM noneM) 110)).setRow w5.heap.size (arrM M)) := ((Kp.refl _ w5).alloc _).setRow (.inl (Nat.le_refl _)) _
                  have hg5 : w2.heap.size < w5.heap.size := by have := hk5.size; omega
                  obtain ⟨w6, hw6⟩ : ∃ w6, w6 = (w5.alloc (.cells (arrM noneM) 110)).setRow w5.heap.size (arrM M) := ⟨_, rfl⟩
                  have hst2 : (storeCells ⟨w5.heap.size, 0, none⟩ (arrM M).toList).run Tryz.prog (w5.alloc (.cells (arrM noneM) 110)) = .ok () w6 := by rw [hw6]; exact hst
                  rw [← hw6] at y6 k6
                  clear hst hw6 y5
                  have ym6 := Lib.hid ((hym.out.kp hk5 (fun h => h)).kp k6 (fun h => h))
                  have km6 := (kmy.trans (K0.kp hk5)).trans (K0.kp k6)
                  go_wp2
                  clear hst2 ha5
                  go_loopw [13] (fun i wx => ∃ y : Nat, y ≤ 256 ∧ i = .int .i64 (y : Int) ∧ Hid (Blk wx w2.heap.size 110 (arrM (orM M0 M y))) ∧ Hid (Blk wx w5.heap.size 110 (arrM M)) ∧ Kp (fun k => k = w2.heap.size) w6 wx) (fun i wx => 256 - (intOf i).toNat)
                  case atStart => exact ⟨0, by omega, rfl, Lib.hid (by rw [orM_zero]; exact ym6.out), Lib.hid y6, Kp.refl _ _⟩
                  case round =>
                    obtain ⟨wx, rfl⟩ : ∃ wx : World, wx = wr := ⟨_, rfl⟩
                    obtain ⟨y, hy, rfl, hO, hN, kx⟩ := hrel
                    by_cases hly : y < 256
                    · have g0 := hO.out.cell y
                      rw [arr_get _ hly, orM_at] at g0
                      have g1 := hN.out.cell y
                      rw [arr_get _ hly] at g1
                      have gf := hO.out.frozen y
                      have gl := hO.out.lt
                      have gl2 := hN.out.lt
                      have d9 : decide ((y : Int) < 256) = true := decide_eq_true (by omega)
                      have hyi : (y : Int) < 256 := by omega
                      have hyz : 0 ≤ (y : Int) := by omega
                      obtain ⟨b, hb⟩ : ∃ b, b = M0 (y : Int) := ⟨_, rfl⟩
                      rw [← hb] at g0
                      obtain ⟨b2, hb2⟩ : ∃ b2, b2 = M (y : Int) := ⟨_, rfl⟩
                      rw [← hb2] at g1
                      have HB1 := Lib.hid hb
                      have HB2 := Lib.hid hb2
                      clear hb hb2
                      cases b with
                      | true =>
                        go_wp2
                        refine ⟨⟨y + 1, by omega, by go_num, Lib.hid ?_, Lib.hid (hN.out.far (p := ⟨w2.heap.size, y, none⟩) (by dsimp only; omega) _), kx.setCell (p := ⟨w2.heap.size, y, none⟩) (.inr rfl) _⟩, by simp [intOf]; omega⟩
                        have := hO.out.set_ y (.bool true)
                        rw [orM_step _ _ hly (by rw [← HB1.out]; rfl)] at this
                        exact this
                      | false =>
                        go_wp2
                        refine ⟨⟨y + 1, by omega, by go_num, Lib.hid ?_, Lib.hid (hN.out.far (p := ⟨w2.heap.size, y, none⟩) (by dsimp only; omega) _), kx.setCell (p := ⟨w2.heap.size, y, none⟩) (.inr rfl) _⟩, by simp [intOf]; omega⟩
                        have := hO.out.set_ y (.bool b2)
                        rw [orM_step _ _ hly (by rw [← HB1.out, ← HB2.out]; rfl)] at this
                        exact this
                    · obtain rfl : y = 256 := by omega
                      have d9 : decide ((256 : Int) < 256) = false := by decide
                      go_wp2
                      refine ⟨⟨x + 1, ss ++ [sl], by omega, by go_num, HI2, Lib.hid ?_, km6.trans kx⟩, by simp [intOf]; omega⟩
                      have := hO.out
                      rw [orM_end, HM0.out, HMS.out, ← mem_snoc] at this
                      exact this
            · obtain rfl : x = its.length := by omega
              have hs0 := hss.out
              rw [List.take_length] at hs0
              have hgs := itemsB_good hgc.out HIF.out hs0
              obtain ⟨MM, hMM⟩ : ∃ MM : Int → Bool, MM = fun y => ss.any fun s => memB s y := ⟨_, rfl⟩
              have hsf := set_flat hgs.1
              rw [← hMM] at hM hsf
              have hcd : classesB [] ((p.map Prod.fst).take (q + 1)) = .ok (cl.map ClsX.d ++ [(nm, normS ss.flatten)]) := HAT.out.2 _ (class_done HLN.out hs0)
              have hgd : goodC (cl.map ClsX.d ++ [(nm, normS ss.flatten)]) := classB_good hgc.out HFC1.out (class_done HLN.out hs0)
              rw [← hsf] at hcd hgd
              have HCD := Lib.hid hcd
              have HGD := Lib.hid hgd
              have S50 := Lib.hid (fun W => set50_any W MM)
              have ymz := hM.out
              clear hgs hMM hsf hcd hgd hs0 hss
              generalize setM MM 256 = R at HCD HGD S50
              go_wp2
              refine wp_load_row 110 (.tmp 8) rfl w2.heap.size rfl 110 (arrM MM) (0, 0) _ ymz Tryz.underlying110 rfl (by rw [info110, arr_size]) ?_
              go_wp2_with fail
              refine (S50.out _).mono ?_
              rintro e w7 ⟨A7, c7, rfl, ho7, hl7, hk7⟩
              have hS7 := ((HS.out.kt kz (fun g cs hg h => by
                obtain ⟨_, h⟩ := h; subst h; exact hg.ne_ HMM.out (by decide) rfl) (fun g cs hg h => by subst h; exact hg.ne_ HMM.out (by decide) rfl)).k0 hk7)
              have hrow7 := hS7.row
              have HO7 := Lib.hid ho7
              have HS7 := Lib.hid hS7
              have sw7 := Lib.hid (show w1.heap.size ≤ w7.heap.size by have := SR.out; have := kwz.size; have := hk7.size; omega)
              clear ho7 hS7
              go_wp2_with (at_builtin; refine wpList_append_any _ rfl (.tmp 114) (.tmp 117) _ rfl w1.heap.size 62 i1 _ 1 24 Tryz.underlying34 hj hy0 hy1 hy2 rfl (by omega) (.slice Av cl.length cv) cl.length (cl.map ClsX.v) rfl (by exact hrow7.alloc _) (w7.heap.size + 1) (some ⟨w7.heap.size, 0, none⟩) 1 1 [.slice A7 R.length c7] rfl (by have := reads_new w7 62 #[.slice A7 R.length c7] 1 1 rfl; simpa using this) (by simp [Value.oneCell']) (by simp only [maxLen]; omega) (by omega) (by have := sw7.out; simp only [World.size_alloc]; omega) ?_; intro v8 w8 ho8 hg8 hat8)
              have K8 : Kp (fun k => (Value.slice Av cl.length cv).ownBlock = some k) w7 w8 := ((Kp.refl _ w7).alloc _).grown hg8 (fun b hb => .inr hb)
              have hb61 : ∀ g cs, Blk w7 g 61 cs → ¬ (Value.slice Av cl.length cv).ownBlock = some g := fun g cs hg h => own_blk_ne hrow7 hg (by decide) h
              refine ⟨⟨q + 1, cl ++ [⟨nm, R, .slice A7 R.length c7⟩], by omega, by go_num, by rw [List.length_append, HCQ.out]; rfl, Lib.hid (by rw [HCD.out, List.map_append]; rfl), Lib.hid (by rw [List.map_append]; exact HGD.out), Lib.hid (HS7.out.add (x := ⟨nm, R, .slice A7 R.length c7⟩) K8 hb61 ho8 (own_kt HO7.out K8 hb61) hl7 (by have := SR.out; have := kwz.size; omega)), ?_⟩, by simp [intOf]; omega⟩
              exact (hk.trans ((k2m.trans' kz (fun i hi h => by omega)).trans hk7)).trans' K8 (fun i hi h => by
                have := (HS7.out.row.lt i h).1; omega)
      · obtain rfl : q = p.length := by omega
        have NT := Lib.hid (names_take hcl.out)
        have hcc := hcl.out
        rw [show (p.map Prod.fst).take p.length = p.map Prod.fst by rw [List.take_of_length_le]; simp] at hcc
        have HR2 : Hid (BR = shapesB (cl.map ClsX.d) [] (s.map Prod.fst)) := Lib.hid (by rw [HR.out, hcc])
        have FDA := Lib.hid (fun W (hk2 : K0 w W) nm => HFD.out W hk2 p.length nm (Nat.le_refl _))
        have HG1 := Lib.hid (fun nm (h : findN ((p.map (fun x => x.1.nm)).take p.length) nm < 0) => find_none NT.out h)
        have HG2 := Lib.hid (fun nm (h : ¬ findN ((p.map (fun x => x.1.nm)).take p.length) nm < 0) => find_some NT.out h)
        obtain ⟨wm, hwm⟩ : ∃ wm, wm = wk := ⟨_, rfl⟩
        rw [← hwm] at hk kw hS z0 c0 c00 l0 hwr ⊢
        have HYM := Lib.hid (HY1.out.kp hk (fun h => h))
        obtain ⟨wo, hwo⟩ : ∃ wo, wo = wm.alloc (.cells #[.slice none 0 0] 25) := ⟨_, rfl⟩
        have ko : K0 wm wo := by rw [hwo]; exact (Kp.refl _ _).alloc _
        have yo : Blk wo wm.heap.size 25 #[.slice none 0 0] := by rw [hwo]; exact Blk.new _ _ _
        have HWO := Lib.hid hwo
        clear hwo hwm hlt hcq
        go_wp2
        rw [← HWO.out]
        clear HWO
        have kwo := kw.trans ko
        have HS := Lib.hid (hS.out.k0 ko)
        have HZ := Lib.hid (z0.kp ko (fun h => h))
        have HZ1 := Lib.hid (HYM.out.kp ko (fun h => h))
        have hmo : wm.heap.size < wo.heap.size := yo.lt
        have HYO := Lib.hid yo
        clear hcc hcl hgc hS z0 c0 c00 l0 hk kw HCl HFC HFD HR HY0 HY1 HYM yo ko hq
        go_loopw [15] (fun i wj => ∃ (q : Nat) (out : List ShpX) (vo : Value), q ≤ s.length ∧ i = .int .i64 (q : Int) ∧ out.length = q ∧ Hid (shapesB (cl.map ClsX.d) [] ((s.map Prod.fst).take q) = .ok (out.map ShpX.d)) ∧ Hid (∀ x ∈ out, 0 ≤ x.first ∧ x.first ≤ 999999999) ∧ Hid (Blk wj wm.heap.size 25 #[vo]) ∧ Hid (OSL wj wo.heap.size vo out) ∧ Kp (fun k => k = wm.heap.size) wo wj) (fun i wj => s.length - (intOf i).toNat)
        case atStart => exact ⟨0, [], _, by omega, rfl, rfl, Lib.hid rfl, Lib.hid (fun p hp => by cases hp), HYO, Lib.hid (OSL.nil _ _), Kp.refl _ _⟩
        case round =>
          obtain ⟨wj, rfl⟩ : ∃ wj : World, wj = wr := ⟨_, rfl⟩
          obtain ⟨q, out, vo, hq, rfl, hoq, hso, hfo, hBo, hO, ko⟩ := hrel
          have kr : K0 w wj := kwo.trans' ko (fun i hi h => by omega)
          have z0 := HZ.out.kp ko (fun h => by omega)
          have c0 := z0.cell 0
          have c00 := z0.cell 1
          have l0 := z0.lt
          simp at c0 c00
          have HY1 := Lib.hid (HZ1.out.kp ko (fun h => by omega))
          obtain ⟨Ao, co, rfl, _, _⟩ := own_form hO.out.row
          have HOQ := Lib.hid hoq
          have ho32 : out.length ≤ 32 := by omega
          by_cases hlt2 : q < s.length
          · have ho32' : out.length < 32 := by omega
            clear hoq c0
            obtain ⟨ad, rfl, hbk, r0, r1, r2, hit⟩ := HSh.out wj kr q hlt2
            have hat := shapes_at hso.out (by simpa using hlt2)
            have hfs := HFS.out q hlt2
            have eg : (s.map Prod.fst)[q]'(by simpa using hlt2) = s[q].1 := by simp
            rw [eg] at hat
            clear eg
            generalize s[q] = x at r0 r1 r2 hit hat hfs
            obtain ⟨⟨its, first, pl⟩, vi⟩ := x
            simp only [] at r0 r1 r2 hit hat hfs
            have HAT := Lib.hid hat
            unfold fitS at hfs
            simp only [Bool.and_eq_true, decide_eq_true_eq] at hfs
            obtain ⟨hif, hine, hil⟩ := fitsB_all hfs.2
            have hil : its.length ≤ 8 := hil
            have hf0 : 0 ≤ first := hfs.1.1
            have hf9 : first ≤ 999999999 := hfs.1.2
            clear hat hfs hif hine
            obtain ⟨Ai, ci, rfl, hi1, hi2, hi3, hir, hin⟩ := hit
            obtain ⟨wb0, hwb0⟩ : ∃ wb0, wb0 = wj.alloc (.cells #[.slice Ai its.length ci, .int .i64 first, .int .i64 pl] 90) := ⟨_, rfl⟩
            have kb0 : K0 wj wb0 := by rw [hwb0]; exact (Kp.refl _ _).alloc _
            have y160 : Blk wb0 wj.heap.size 90 #[.slice Ai its.length ci, .int .i64 first, .int .i64 pl] := by rw [hwb0]; exact Blk.new _ _ _
            have sb0 : wb0.heap.size = wj.heap.size + 1 := by rw [hwb0]; simp
            have g1 := y160.cell 1
            have gl := y160.lt
            simp at g1
            obtain ⟨wb, hwb⟩ : ∃ wb, wb = wb0.alloc (.cells #[.slice none 0 0, .int .i64 first] 37) := ⟨_, rfl⟩
            have kb1 : K0 wb0 wb := by rw [hwb]; exact (Kp.refl _ _).alloc _
            have y17 : Blk wb (wj.heap.size + 1) 37 #[.slice none 0 0, .int .i64 first] := by rw [hwb, ← sb0]; exact Blk.new _ _ _
            have y16 := y160.kp kb1 (fun h => h)
            have kb := kb0.trans kb1
            have hb1 : wj.heap.size + 1 < wb.heap.size := y17.lt
            have HRW := Lib.hid (fun W (hk2 : K0 wj W) x (hx : x < its.length) => (hir.k0 (Nat.le_refl _) hk2).item hx)
            have HIN := Lib.hid hin
            have HW0 := Lib.hid hwb0
            have HW1 := Lib.hid (show wb = (wj.alloc (.cells #[.slice Ai its.length ci, .int .i64 first, .int .i64 pl] 90)).alloc (.cells #[.slice none 0 0, .int .i64 first] 37) by rw [hwb, hwb0])
            clear hir hin hwb hwb0 y160 sb0 kb1 g1 gl kb0
            go_wp2
            rw [← HW1.out]
            clear HW1 HW0
            have kwb : K0 w wb := kr.trans kb
            have HZb := Lib.hid (z0.kp kb (fun h => h))
            have HY1b := Lib.hid (HY1.out.kp kb (fun h => h))
            have HSb := Lib.hid ((HS.out.kt ko (fun g cs hg h => by
              obtain ⟨_, h⟩ := h; subst h; exact hg.ne_ HYO.out (by decide) rfl) (fun g cs hg h => by subst h; exact hg.ne_ HYO.out (by decide) rfl)).k0 kb)
            have HY16 := Lib.hid y16
            have HY17 := Lib.hid y17
            have hwr2 : w.heap.size + 1 < wj.heap.size := HY1.out.lt
            have SRM := Lib.hid hBo.out.lt
            clear y16 y17 z0 c00 l0 r0 r1 r2
            go_loopw [18] (fun k wz => ∃ (x : Nat) (ps : List PartX) (pv : Value), x ≤ its.length ∧ k = .int .i64 (x : Int) ∧ ps.length = x ∧ Hid (itemsB (cl.map ClsX.d) (its.take x) = .ok (ps.map Prod.fst)) ∧ Hid (Blk wz (wj.heap.size + 1) 37 #[pv, .int .i64 first]) ∧ Hid (OPL wz wb.heap.size pv ps) ∧ Kp (fun k => k = wj.heap.size + 1) wb wz) (fun k wz => its.length - (intOf k).toNat)
            case atStart => exact ⟨0, [], _, by omega, rfl, rfl, Lib.hid rfl, HY17, Lib.hid (OPL.nil _ _), Kp.refl _ _⟩
            case round =>
              obtain ⟨wz, rfl⟩ : ∃ wz : World, wz = wr := ⟨_, rfl⟩
              obtain ⟨x, ps, pv, hx, rfl, hpl, hss, hP7, hOP, kz⟩ := hrel
              have kwz : K0 wj wz := kb.trans' kz (fun i hi h => by omega)
              have yc := HY16.out.kp kz (fun h => by omega)
              have u1 := yc.cell 0
              have ul := yc.lt
              simp at u1
              obtain ⟨Ap, cp, rfl, _, _⟩ := own_form hOP.out.row
              have hp8 : ps.length ≤ 8 := by omega
              have HPL := Lib.hid hpl
              by_cases hlx : x < its.length
              · have hp8' : ps.length < 8 := by omega
                have hll : True := trivial
                obtain ⟨ai, rfl, hbi, x0, x1, x2, x3⟩ := HRW.out wz kwz x hlx
                have hai := items_at hss.out hlx
                have hnx := HIN.out _ (List.getElem_mem hlx)
                generalize its[x] = it at x0 x1 x2 x3 hai hnx
                obtain ⟨inm, ilo, ihi, ipl⟩ := it
                simp only [] at x0 x1 x2 x3 hai hnx
                have HAI := Lib.hid hai
                clear hai hss hll hpl
                have hbi2 : (ai.add (x * 4)).block < wz.heap.size := by rw [add_blk]; exact Nat.lt_of_lt_of_le hbi kwz.size
                obtain ⟨wy, hwy⟩ : ∃ wy, wy = (wz.alloc (.cells #[.int .i64 ilo, .int .i64 ihi] 61)).drew := ⟨_, rfl⟩
                have ky : K0 wz wy := by rw [hwy]; exact ((Kp.refl _ _).alloc _).drew
                have ROW : wy.ownsRow wz.heap.size 61 2 (.slice (some ⟨wz.heap.size, 0, none⟩) 1 1) 1 (spcs [(ilo, ihi)]) := by rw [hwy]; exact own_kt (own_sing wz ilo ihi) (Kp.refl (fun _ => False) _).drew (fun _ _ _ h => h)
                have HWY := Lib.hid hwy
                clear hwy
                have y9 := yc.kp ky (fun h => h)
                have v1 := y9.cell 0
                have vl := y9.lt
                simp at v1
                have t0 := (ky.cell (p := ai.add (x * 4)) hbi2 (fun h => h)).trans x0
                by_cases hnm : inm.data.toList = []
                · obtain rfl : inm = ⟨#[]⟩ := ba_ext hnm
                  have HI2 := Lib.hid (HAI.out.2 _ setI_span)
                  clear HAI hnm
                  go_wp2
                  go_region_held3 (fun w' => w'.cell? ⟨wj.heap.size, 0, none⟩ = some (.slice (some ai) its.length ci) ∧ w'.cell? ⟨(ai.add (x * 4)).block, (ai.add (x * 4)).off + 1, none⟩ = some (.int .i64 ilo) ∧ w'.cell? ⟨(ai.add (x * 4)).block, (ai.add (x * 4)).off + 2, none⟩ = some (.int .i64 ihi)) (go_keep) (fail)
                  rw [← HWY.out]
                  clear HWY
                  have hll : ([(ilo, ihi)] : List Sp).length ≤ 256 := by simp
                  have e5 := hP7.out.kp ky (fun h => h)
                  have e50 := e5.cell 0
                  have e51 := e5.cell 1
                  have e5f := e5.frozen 0
                  have e5l := e5.lt
                  simp at e50 e51
                  have hrow := own_far hOP.out.row ky (fun _ _ h => h)
                  have hbW : wb.heap.size ≤ wy.heap.size := by have := kz.size; have := ky.size; omega
                  have ROW2 := Lib.hid ROW
                  clear ROW
                  go_wp2_with (at_builtin; refine wpList_append_any _ rfl (.tmp 191) (.tmp 193) _ rfl wb.heap.size 62 i1 _ 1 24 Tryz.underlying34 hj hy0 hy1 hy2 rfl (by omega) (.slice Ap ps.length cp) ps.length (ps.map Prod.snd) rfl (by exact hrow.alloc _) (wy.heap.size + 1) (some ⟨wy.heap.size, 0, none⟩) 1 1 [.slice (some ⟨wz.heap.size, 0, none⟩) 1 1] rfl (by have := reads_new wy 62 #[.slice (some ⟨wz.heap.size, 0, none⟩) 1 1] 1 1 rfl; simpa using this) (by simp [Value.oneCell']) (by simp only [maxLen]; omega) (by omega) (by simp only [World.size_alloc]; omega) ?_; intro v3 w3 ho3 hg3 hat3; obtain ⟨A5, c5, rfl, _, _⟩ := own_form ho3; have e6 := (e5.alloc (.cells #[.slice (some ⟨wz.heap.size, 0, none⟩) 1 1] 62)).grown hg3 (Ne.symm (own_blk_ne hrow e5 (by decide))); have e60 := e6.cell 0; have e6f := e6.frozen 0; have e6l := e6.lt; simp at e60)
                  have KK : Kp (fun k => k = wj.heap.size + 1 ∨ (Value.slice Ap ps.length cp).ownBlock = some k) wy (w3.setCell ⟨wj.heap.size + 1, 0, none⟩ (.slice A5 (ps.length + 1) c5)) := (((Kp.refl _ _).alloc _).grown hg3 (fun b hb => .inr (.inr hb))).setCell (p := ⟨wj.heap.size + 1, 0, none⟩) (.inr (.inl rfl)) _
                  have K3 : Kp (fun k => k = wj.heap.size + 1 ∨ (Value.slice Ap ps.length cp).ownBlock = some k) wz (w3.setCell ⟨wj.heap.size + 1, 0, none⟩ (.slice A5 (ps.length + 1) c5)) := (K0.kp ky).trans KK
                  have h61 : ∀ g cs, Blk wz g 61 cs → ¬ (g = wj.heap.size + 1 ∨ (Value.slice Ap ps.length cp).ownBlock = some g) := fun g cs hg h => by
                    rcases h with h | h
                    · subst h; exact hg.ne_ hP7.out (by decide) rfl
                    · exact own_blk_ne hOP.out.row hg (by decide) h
                  have h61' : ∀ g cs, Blk wy g 61 cs → ¬ (g = wj.heap.size + 1 ∨ (Value.slice Ap ps.length cp).ownBlock = some g) := fun g cs hg h => by
                    rcases h with h | h
                    · subst h; exact hg.ne_ e5 (by decide) rfl
                    · exact own_blk_ne hrow hg (by decide) h
                  refine ⟨⟨x + 1, ps ++ [([(ilo, ihi)], .slice (some ⟨wz.heap.size, 0, none⟩) 1 1)], .slice A5 (ps.length + 1) c5, by omega, by go_num, by rw [List.length_append, HPL.out]; rfl, Lib.hid (by rw [HI2.out, List.map_append]; rfl), Lib.hid ?_, Lib.hid (hOP.out.add (y := ([(ilo, ihi)], .slice (some ⟨wz.heap.size, 0, none⟩) 1 1)) K3 h61 (own_setCell (p := ⟨wj.heap.size + 1, 0, none⟩) ho3 (own_blk_ne ho3 e6 (by decide))) (own_kt ROW2.out KK h61') (Nat.le_trans hll (by decide)) kz.size (Nat.le_refl _)), kz.trans' K3 (fun i hi h => ?_)⟩, by simp [intOf]; omega⟩
                  · have := e6.set_ 0 (.slice A5 (ps.length + 1) c5)
                    simpa using this
                  · rcases h with h | h
                    · exact h
                    · have := (hOP.out.row.lt i h).1; omega
                · have hne : (inm.toList == []) = false := by rw [ByteArray.toList_eq]; exact beq_eq_false_iff_ne.2 hnm
                  have HSN := Lib.hid (setI_none (cl := cl.map ClsX.d) (x := ⟨inm, ilo, ihi, ipl⟩) hnm)
                  have HG1 := Lib.hid (HG1.out inm)
                  have HG2 := Lib.hid (HG2.out inm)
                  have FDW := Lib.hid (fun W (hk2 : K0 wy W) => FDA.out W (((kwb.trans' kz (fun i hi h => by omega)).trans ky).trans hk2) inm)
                  generalize findN ((p.map (fun x => x.1.nm)).take p.length) inm = G at FDW HG1 HG2
                  clear hnm ROW
                  have t3 := (ky.cell (p := ⟨(ai.add (x * 4)).block, (ai.add (x * 4)).off + 3, none⟩) hbi2 (fun h => h)).trans x3
                  have z9 := (HZb.out.kp kz (fun h => by omega)).kp ky (fun h => h)
                  have b0 := z9.cell 0
                  have bl := z9.lt
                  simp at b0
                  by_cases hG : G < 0
                  · have d0 : decide (G < 0) = true := decide_eq_true hG
                    have HE := Lib.hid (HAT.out.1 _ (shape_stop (HAI.out.1 (by rw [HSN.out]; exact HG1.out hG))))
                    have z3 := (HY1b.out.kp kz (fun h => by omega)).kp ky (fun h => h)
                    have c3 := z3.cell 0
                    have f3 := z3.frozen 0
                    have l3 := z3.lt
                    simp at c3
                    go_wp2
                    go_region_held3 (fun w' => w'.cell? ⟨wj.heap.size, 0, none⟩ = some (.slice (some ai) its.length ci) ∧ w'.cell? ⟨(ai.add (x * 4)).block, (ai.add (x * 4)).off + 1, none⟩ = some (.int .i64 ilo) ∧ w'.cell? ⟨(ai.add (x * 4)).block, (ai.add (x * 4)).off + 2, none⟩ = some (.int .i64 ihi)) (go_keep) (fail)
                    rw [← HWY.out]
                    clear HWY
                    go_wp2
                    go_quiet ((go_at_call 48; exact Calls.quiet_of (FDW.out _ (by first | exact (Kp.refl _ _) | exact (Kp.refl _ _).drew | exact ((Kp.refl _ _).drewN _)))))
                    go_wp2
                    go_region
                    all_goals
                      go_wp2
                      refine bodyPost_ret (v := .tuple #[.agg #[.slice none 0 0], .int .i64 ipl, .int .i64 81]) ?_ rfl ?_
                      · have c4 := fun n => ((show Blk (wy.drewN n) (w.heap.size + 1) 25 #[.slice none 0 0] from z3).set_ 0 (.slice none 0 0)).cell 0
                        simp at c4
                        simp [results, Tryz.f21, go_sem, c4]
                      · have hrs := HRE.out ipl 81 (by rw [HR2.out, HE.out])
                        rw [hrs]
                        refine ⟨.slice none 0 0, [], rfl, rfl, OSL.nil _ _, by simp, ?_⟩
                        have kk : K0 w wy := ((kr.trans kwz).trans ky)
                        exact (kk.drewN _).setCell (p := ⟨w.heap.size + 1, 0, none⟩) (.inl (by simp)) _
                  · have d0 : decide (G < 0) = false := decide_eq_false hG
                    obtain ⟨j, hj2, hGj, hlk⟩ := HG2.out (by omega)
                    subst hGj
                    have HI2 := Lib.hid (HAI.out.2 cl[j].s (by rw [HSN.out]; exact hlk))
                    clear HG1 HG2 HAI HSN hlk
                    obtain ⟨asx, ca, As, cs2, hva, hab, hao, hvj, hcj, hRj, hll⟩ := sets_at ((HSb.out.kt kz (fun g cs hg h => by
                      obtain ⟨_, h⟩ := h; subst h; exact hg.ne_ HY17.out (by decide) rfl) (fun g cs hg h => by subst h; exact hg.ne_ HY17.out (by decide) rfl)).k0 ky) hj2
                    cases hva
                    generalize cl[j].s = sl at HI2 hcj hRj hll hvj
                    clear hvj hao
                    have hj3 : (j : Int) < (cl.length : Int) := by omega
                    have hj0 : 0 ≤ (j : Int) := by omega
                    go_wp2
                    go_region_held3 (fun w' => w'.cell? ⟨wj.heap.size, 0, none⟩ = some (.slice (some ai) its.length ci) ∧ w'.cell? ⟨(ai.add (x * 4)).block, (ai.add (x * 4)).off + 1, none⟩ = some (.int .i64 ilo) ∧ w'.cell? ⟨(ai.add (x * 4)).block, (ai.add (x * 4)).off + 2, none⟩ = some (.int .i64 ihi)) (go_keep) (fail)
                    rw [← HWY.out]
                    clear HWY
                    go_wp2
                    go_quiet ((go_at_call 48; exact Calls.quiet_of (FDW.out _ (by first | exact (Kp.refl _ _) | exact (Kp.refl _ _).drew | exact ((Kp.refl _ _).drewN _)))))
                    have hRq := hRj.drewN nq
                    have kyq : K0 wz (wy.drewN nq) := ky.drewN nq
                    have hcq2 : (wy.drewN nq).cell? (asx.add j) = some (.slice As sl.length cs2) := hcj
                    have haq : (asx.add j).block < (wy.drewN nq).heap.size := by rw [add_blk]; exact hab
                    clear FDW hcj hRj
                    have hRq2 : Reads (wy.drewN nq) (wy.drewN nq).heap.size 2 As sl.length (spcs sl) := hRq
                    obtain ⟨wq, hwq⟩ : ∃ wq, wq = wy.drewN nq := ⟨_, rfl⟩
                    rw [← hwq] at hRq2 kyq hcq2 haq ⊢
                    clear hwq hRq t0 t3 v1 vl y9 b0 bl z9 ky
                    have M0 := World.ownsRow_made (base := wq.heap.size) (e := 61) (size := 2) wq #[] 0 (Nat.le_refl _) (Nat.zero_le _) rfl
                    go_wp2_with (at_builtin; first | (refine wpList_append_any _ rfl (.tmp 184) (.tmp 188) _ rfl wq.heap.size 61 i0 _ 2 16 Tryz.underlying62 hi hz0 hz1 hz2 rfl (by omega) (.slice (some ⟨wq.heap.size, 0, none⟩) 0 0) 0 [] rfl (by simpa using M0) wq.heap.size As sl.length cs2 (spcs sl) rfl (by exact hRq2.alloc (Nat.le_refl _) _) (spcs_one sl) (by simp only [maxLen]; omega) (by omega) (by simp) ?_; intro v2 w2 ho2 hg2 hat2; obtain ⟨A7, c7, rfl, _, _⟩ := own_form ho2; rw [Nat.zero_add, List.nil_append] at ho2; have kq2 : K0 wq w2 := ((Kp.refl _ _).alloc _).grown hg2 (fun b hb => by simp [Value.ownBlock] at hb; exact .inl (by omega)); have kyw : K0 wz w2 := kyq.trans kq2; have ROW2 : Hid (w2.ownsRow wz.heap.size 61 2 (.slice A7 sl.length c7) sl.length (spcs sl)) := Lib.hid (own_mono ho2 kyq.size); have e5 := hP7.out.kp kyw (fun h => h); have e50 := e5.cell 0; have e51 := e5.cell 1; have e5f := e5.frozen 0; have e5l := e5.lt; simp at e50 e51; have hrow := own_far hOP.out.row kyw (fun _ _ h => h); have hbW : wb.heap.size ≤ w2.heap.size := (Nat.le_trans kz.size kyw.size); clear ho2 hg2 hat2) | (refine wpList_append_any _ rfl (.tmp 191) (.tmp 193) _ rfl wb.heap.size 62 i1 _ 1 24 Tryz.underlying34 hj hy0 hy1 hy2 rfl (by omega) (.slice Ap ps.length cp) ps.length (ps.map Prod.snd) rfl (by exact hrow.alloc _) (w2.heap.size + 1) (some ⟨w2.heap.size, 0, none⟩) 1 1 [.slice A7 sl.length c7] rfl (by have := reads_new w2 62 #[.slice A7 sl.length c7] 1 1 rfl; simpa using this) (by simp [Value.oneCell']) (by simp only [maxLen]; omega) (by omega) (by simp only [World.size_alloc]; omega) ?_; intro v3 w3 ho3 hg3 hat3; obtain ⟨A5, c5, rfl, _, _⟩ := own_form ho3; have e6 := (e5.alloc (.cells #[.slice A7 sl.length c7] 62)).grown hg3 (Ne.symm (own_blk_ne hrow e5 (by decide))); have e60 := e6.cell 0; have e6f := e6.frozen 0; have e6l := e6.lt; simp at e60))
                    have KK : Kp (fun k => k = wj.heap.size + 1 ∨ (Value.slice Ap ps.length cp).ownBlock = some k) w2 (w3.setCell ⟨wj.heap.size + 1, 0, none⟩ (.slice A5 (ps.length + 1) c5)) := (((Kp.refl _ _).alloc _).grown hg3 (fun b hb => .inr (.inr hb))).setCell (p := ⟨wj.heap.size + 1, 0, none⟩) (.inr (.inl rfl)) _
                    have K3 : Kp (fun k => k = wj.heap.size + 1 ∨ (Value.slice Ap ps.length cp).ownBlock = some k) wz (w3.setCell ⟨wj.heap.size + 1, 0, none⟩ (.slice A5 (ps.length + 1) c5)) := (K0.kp kyw).trans KK
                    have h61 : ∀ g cs, Blk wz g 61 cs → ¬ (g = wj.heap.size + 1 ∨ (Value.slice Ap ps.length cp).ownBlock = some g) := fun g cs hg h => by
                      rcases h with h | h
                      · subst h; exact hg.ne_ hP7.out (by decide) rfl
                      · exact own_blk_ne hOP.out.row hg (by decide) h
                    have h61' : ∀ g cs, Blk w2 g 61 cs → ¬ (g = wj.heap.size + 1 ∨ (Value.slice Ap ps.length cp).ownBlock = some g) := fun g cs hg h => by
                      rcases h with h | h
                      · subst h; exact hg.ne_ e5 (by decide) rfl
                      · exact own_blk_ne hrow hg (by decide) h
                    refine ⟨⟨x + 1, ps ++ [(sl, .slice A7 sl.length c7)], .slice A5 (ps.length + 1) c5, by omega, by go_num, by rw [List.length_append, HPL.out]; rfl, Lib.hid (by rw [HI2.out, List.map_append]; rfl), Lib.hid ?_, Lib.hid (hOP.out.add (y := (sl, .slice A7 sl.length c7)) K3 h61 (own_setCell (p := ⟨wj.heap.size + 1, 0, none⟩) ho3 (own_blk_ne ho3 e6 (by decide))) (own_kt ROW2.out KK h61') (Nat.le_trans hll (by decide)) kz.size (Nat.le_refl _)), kz.trans' K3 (fun i hi h => ?_)⟩, by simp [intOf]; omega⟩
                    · have := e6.set_ 0 (.slice A5 (ps.length + 1) c5)
                      simpa using this
                    · rcases h with h | h
                      · exact h
                      · have := (hOP.out.row.lt i h).1; omega
              · obtain rfl : x = its.length := by omega
                have hs0 := hss.out
                rw [List.take_length] at hs0
                have hsl : ps.length ≤ 8 := by omega
                obtain ⟨PS, hPS⟩ : ∃ PS, PS = ps.map Prod.fst := ⟨_, rfl⟩
                rw [← hPS] at hs0
                have hPV := hOP.out.partsV (by omega)
                have CT := Lib.hid (fun W (hk : K0 wz W) => count51_any W (.slice Ap ps.length cp) ps first (hPV.k0 (Nat.le_refl _) hk))
                rw [← hPS] at CT
                have hcb := cntP_bd PS
                have HE2 := Lib.hid (fun (h : 1073741823 < first + cntP PS - 1) => show shapesB (cl.map ClsX.d) [] (s.map Prod.fst) = .error (pl, 82) from HAT.out.1 _ (shape_big hs0 h))
                have HE3 := Lib.hid (fun (h : ¬ 1073741823 < first + cntP PS - 1) (ho : overB (out.map ShpX.d) ⟨PS, first⟩ = true) => show shapesB (cl.map ClsX.d) [] (s.map Prod.fst) = .error (pl, 83) from HAT.out.1 _ (shape_over hs0 h ho))
                have HOK := Lib.hid (fun (h : ¬ 1073741823 < first + cntP PS - 1) (ho : overB (out.map ShpX.d) ⟨PS, first⟩ = false) => show shapesB (cl.map ClsX.d) [] ((s.map Prod.fst).take (q + 1)) = .ok (out.map ShpX.d ++ [⟨PS, first⟩]) from HAT.out.2 _ (shape_done hs0 h ho))
                have HPS := Lib.hid hPS
                clear hs0 hss hPV hPS hpl
                generalize cntP PS = C at hcb CT HE2 HE3 HOK
                have e7 := hP7.out
                have q0' := e7.cell 0
                have q1' := e7.cell 1
                have ql := e7.lt
                simp at q0' q1'
                have wr1 : IntKind.i64.wrap (first + C) = first + C := IntWalk.i64_in _ (by omega)
                have wr2 : IntKind.i64.wrap (first + C - 1) = first + C - 1 := IntWalk.i64_in _ (by omega)
                by_cases hbig : 1073741823 < first + C - 1
                · have d1 : decide (1073741823 < first + C - 1) = true := decide_eq_true hbig
                  have HE := Lib.hid (HE2.out hbig)
                  go_wp2
                  go_region_held3 (fun w' => w'.cell? ⟨wj.heap.size + 1, 0, none⟩ = some (.slice Ap ps.length cp) ∧ w'.cell? ⟨wj.heap.size + 1, 1, none⟩ = some (.int .i64 first)) (go_keep) ((go_at_call 51; refine (CT.out _ (by first | exact (Kp.refl _ _).drew | exact ((Kp.refl _ _).drewN _))).mono ?_; rintro e w2 ⟨rfl, hk2⟩; have q0 := (hk2.cell (p := ⟨wj.heap.size + 1, 0, none⟩) (by exact ql) (fun h => h)).trans (by exact q0'); have q1 := (hk2.cell (p := ⟨wj.heap.size + 1, 1, none⟩) (by exact ql) (fun h => h)).trans (by exact q1')))
                  have k2 : K0 wz w2 := (Kp.refl _ _).drew.trans hk2
                  have z3 := (HY1b.out.kp kz (fun h => by omega)).kp k2 (fun h => h)
                  have c3 := z3.cell 0
                  have f3 := z3.frozen 0
                  have l3 := z3.lt
                  simp at c3
                  have p0 := (yc.kp k2 (fun h => h)).cell 2
                  have pl0 := (yc.kp k2 (fun h => h)).lt
                  simp at p0
                  clear q0 q1
                  go_wp2
                  go_region
                  all_goals
                    go_wp2
                    refine bodyPost_ret (v := .tuple #[.agg #[.slice none 0 0], .int .i64 pl, .int .i64 82]) ?_ rfl ?_
                    · have z4 := z3.set_ 0 (.slice none 0 0)
                      have c4 := z4.cell 0
                      simp at c4
                      simp [results, Tryz.f21, go_sem, c4]
                    · have hrs := HRE.out pl 82 (by rw [HR2.out, HE.out])
                      rw [hrs]
                      refine ⟨.slice none 0 0, [], rfl, rfl, OSL.nil _ _, by simp, ?_⟩
                      have kk : K0 w w2 := ((kr.trans kwz).trans k2)
                      exact (kk.setCell (p := ⟨w.heap.size + 1, 0, none⟩) (.inl (by simp)) _).drew
                · have d1 : decide (1073741823 < first + C - 1) = false := decide_eq_false hbig
                  have HE4 := Lib.hid (HE3.out hbig)
                  have HOK4 := Lib.hid (HOK.out hbig)
                  clear HE2 HE3 HOK
                  go_wp2
                  go_region_held3 (fun w' => w'.cell? ⟨wj.heap.size + 1, 0, none⟩ = some (.slice Ap ps.length cp) ∧ w'.cell? ⟨wj.heap.size + 1, 1, none⟩ = some (.int .i64 first)) (go_keep) ((go_at_call 51; refine (CT.out _ (by first | exact (Kp.refl _ _).drew | exact ((Kp.refl _ _).drewN _))).mono ?_; rintro e w2 ⟨rfl, hk2⟩; have q0 := (hk2.cell (p := ⟨wj.heap.size + 1, 0, none⟩) (by exact ql) (fun h => h)).trans (by exact q0'); have q1 := (hk2.cell (p := ⟨wj.heap.size + 1, 1, none⟩) (by exact ql) (fun h => h)).trans (by exact q1')))
                  have k2 : K0 wz w2 := (Kp.refl _ _).drew.trans hk2
                  have k2r : K0 wj w2 := kwz.trans k2
                  have y7 := hP7.out.kp k2 (fun h => h)
                  have g0 := y7.cell 0
                  have g1 := y7.cell 1
                  have gl := y7.lt
                  simp at g0 g1
                  have bo := hBo.out.kp k2r (fun h => h)
                  have b0 := bo.cell 0
                  have bl := bo.lt
                  simp at b0
                  have hrowO := own_far hO.out.row k2r (fun _ _ h => h)
                  have s2r := k2r.size
                  have swo := ko.size
                  clear q0 q1 q0' q1' ql d1 CT
                  go_wp2_with (at_builtin; refine wpList_append_any _ rfl (.tmp 207) (.tmp 209) _ rfl wo.heap.size 37 i2 _ 2 32 Tryz.underlying23 hl hx0 hx1 hx2 rfl (by omega) (.slice Ao out.length co) out.length (duos shduo out) rfl (by exact hrowO.alloc _) (w2.heap.size + 1) (some ⟨w2.heap.size, 0, none⟩) 1 1 [.slice Ap ps.length cp, .int .i64 first] rfl (by have := reads_new w2 37 #[.slice Ap ps.length cp, .int .i64 first] 1 2 rfl; simpa using this) (by simp [Value.oneCell']) (by simp only [maxLen]; omega) (by omega) (by simp only [World.size_alloc]; omega) ?_; intro v3 w3 ho3 hg3 hat3; obtain ⟨A6, c6, rfl, _, _⟩ := own_form ho3; have d8 := (bo.alloc (.cells #[.slice Ap ps.length cp, .int .i64 first] 37)).grown hg3 (Ne.symm (own_blk_ne hrowO bo (by decide))); have d80 := d8.cell 0; have d8f := d8.frozen 0; have d8l := d8.lt; simp at d80)
                  have KF : Kp (fun k => k = wm.heap.size ∨ (Value.slice Ao out.length co).ownBlock = some k) w2 (w3.setCell ⟨wm.heap.size, 0, none⟩ (.slice A6 (out.length + 1) c6)) := (((Kp.refl _ w2).alloc _).grown hg3 (fun k hk => .inr (.inr hk))).setCell (p := ⟨wm.heap.size, 0, none⟩) (.inr (.inl rfl)) _
                  have KT : Kp (fun k => k = wm.heap.size ∨ (Value.slice Ao out.length co).ownBlock = some k) wj (w3.setCell ⟨wm.heap.size, 0, none⟩ (.slice A6 (out.length + 1) c6)) := (K0.kp k2r).trans KF
                  have hown9 := own_setCell (p := ⟨wm.heap.size, 0, none⟩) (u := .slice A6 (out.length + 1) c6) ho3 (own_blk_ne ho3 d8 (by decide))
                  have d9 := d8.set_ 0 (.slice A6 (out.length + 1) c6)
                  have avo : ∀ t, t ≠ 25 → t ≠ 37 → ∀ g cs, Blk wj g t cs → ¬ (g = wm.heap.size ∨ (Value.slice Ao out.length co).ownBlock = some g) := by
                    rintro t h1 h2 g cs h (e | e)
                    · subst e; exact h.ne_ hBo.out h1 rfl
                    · exact own_blk_ne hO.out.row h (Ne.symm h2) e
                  have avo2 : ∀ t, t ≠ 25 → t ≠ 37 → ∀ g cs, Blk w2 g t cs → ¬ (g = wm.heap.size ∨ (Value.slice Ao out.length co).ownBlock = some g) := by
                    rintro t h1 h2 g cs h (e | e)
                    · subst e; exact h.ne_ bo h1 rfl
                    · exact own_blk_ne hrowO h (Ne.symm h2) e
                  have hO9 := hO.out.add (x := ⟨ps, .slice Ap ps.length cp, first⟩) KT (avo 62 (by decide) (by decide)) (avo 61 (by decide) (by decide)) hown9 (((hOP.out.k0 k2).kt KF (avo2 62 (by decide) (by decide)) (avo2 61 (by decide) (by decide))).mono (by omega)) (by omega) (by show ps.length ≤ 1048576; omega) (by show -9223372036854775808 ≤ first; omega) (by show first ≤ 9223372036854775807; omega)
                  have hf9' : ∀ x ∈ out ++ [(⟨ps, .slice Ap ps.length cp, first⟩ : ShpX)], 0 ≤ x.first ∧ x.first ≤ 999999999 := fun x hx => by
                    rcases List.mem_append.1 hx with hx | hx
                    · exact hfo.out x hx
                    · simp only [List.mem_singleton] at hx; subst hx; exact ⟨hf0, hf9⟩
                  have MT := Lib.hid (meet_last _ wo.heap.size A6 c6 out ⟨ps, .slice Ap ps.length cp, first⟩ hO9 (fun x hx => ⟨(hf9' x hx).1, by have := (hf9' x hx).2; omega⟩) (by omega) HOQ.out)
                  have y16b := (yc.kp k2 (fun h => h)).kp KF (fun h => by
                    rcases h with h | h
                    · have := SRM.out; omega
                    · exact own_blk_ne hrowO (yc.kp k2 (fun h => h)) (by decide) h)
                  have z3 := ((HY1b.out.kp kz (fun h => by omega)).kp k2 (fun h => h)).kp KF (fun h => by
                    rcases h with h | h
                    · omega
                    · exact own_blk_ne hrowO ((HY1b.out.kp kz (fun h => by omega)).kp k2 (fun h => h)) (by decide) h)
                  have HO9 := Lib.hid hO9
                  have HF9 := Lib.hid hf9'
                  simp at d9
                  have HB9 := Lib.hid d9
                  have hXd : ShpX.d ⟨ps, .slice Ap ps.length cp, first⟩ = ⟨PS, first⟩ := by rw [HPS.out]; rfl
                  rw [hXd] at MT
                  have KT9 : Kp (fun k => k = wm.heap.size) wo (w3.setCell ⟨wm.heap.size, 0, none⟩ (.slice A6 (out.length + 1) c6)) := ko.trans' KT (fun i hi h => by
                    rcases h with h | h
                    · exact h
                    · have := (hO.out.row.lt i h).1; omega)
                  have KW9 : K0 w (w3.setCell ⟨wm.heap.size, 0, none⟩ (.slice A6 (out.length + 1) c6)) := kwo.trans' KT9 (fun i hi h => by omega)
                  clear hO9 hf9' d9 KT KF hown9 avo avo2 d8 d80 d8f d8l ho3 hg3 hat3 g0 g1 gl b0 bl bo hrowO y7 e7
                  generalize w3.setCell ⟨wm.heap.size, 0, none⟩ (.slice A6 (out.length + 1) c6) = W9 at *
                  have b0 := HB9.out.cell 0
                  have bl := HB9.out.lt
                  simp at b0
                  generalize overB (out.map ShpX.d) ⟨PS, first⟩ = OV at MT HE4 HOK4
                  refine MT.out.mono ?_
                  rintro e w5 ⟨rfl, hk5⟩
                  cases OV with
                  | true =>
                    have HE := Lib.hid (HE4.out rfl)
                    have z3 := z3.kp hk5 (fun h => h)
                    have c3 := z3.cell 0
                    have f3 := z3.frozen 0
                    have l3 := z3.lt
                    simp at c3
                    have p0 := (y16b.kp hk5 (fun h => h)).cell 2
                    have pl0 := (y16b.kp hk5 (fun h => h)).lt
                    simp at p0
                    go_wp2
                    go_region
                    all_goals
                      go_wp2
                      refine bodyPost_ret (v := .tuple #[.agg #[.slice none 0 0], .int .i64 pl, .int .i64 83]) ?_ rfl ?_
                      · have z4 := z3.set_ 0 (.slice none 0 0)
                        have c4 := z4.cell 0
                        simp at c4
                        simp [results, Tryz.f21, go_sem, c4]
                      · have hrs := HRE.out pl 83 (by rw [HR2.out, HE.out])
                        rw [hrs]
                        refine ⟨.slice none 0 0, [], rfl, rfl, OSL.nil _ _, by simp, ?_⟩
                        have kk : K0 w w5 := KW9.trans hk5
                        exact (kk.setCell (p := ⟨w.heap.size + 1, 0, none⟩) (.inl (by simp)) _).drew
                  | false =>
                    have HN := Lib.hid (HOK4.out rfl)
                    go_wp2
                    refine ⟨⟨q + 1, out ++ [⟨ps, .slice Ap ps.length cp, first⟩], .slice A6 (out.length + 1) c6, by omega, by go_num, by rw [List.length_append, HOQ.out]; rfl, Lib.hid (by rw [HN.out, List.map_append, ← hXd]; rfl), HF9, Lib.hid (HB9.out.kp hk5 (fun h => h)), Lib.hid (HO9.out.k0 hk5), KT9.trans (K0.kp hk5)⟩, by simp [intOf]; omega⟩
          · obtain rfl : q = s.length := by omega
            have hcc := hso.out
            rw [show (s.map Prod.fst).take s.length = s.map Prod.fst by rw [List.take_of_length_le]; simp] at hcc
            have HRS := Lib.hid (HRO.out _ (by rw [HR2.out, hcc]))
            have b0 := hBo.out.cell 0
            have bl := hBo.out.lt
            simp at b0
            have z3 := HY1.out
            have c3 := z3.cell 0
            have f3 := z3.frozen 0
            have l3 := z3.lt
            simp at c3
            clear hcc hoq
            go_wp2
            refine bodyPost_ret (v := .tuple #[.agg #[.slice Ao out.length co], .int .i64 0, .int .i64 0]) ?_ rfl ?_
            · have z4 := z3.set_ 0 (.slice Ao out.length co)
              have c4 := z4.cell 0
              simp at c4
              simp [results, Tryz.f21, go_sem, c4]
            · have hrs := HRS.out
              rw [hrs]
              have KE : Kp (fun k => k = w.heap.size + 1) wj (wj.setCell ⟨w.heap.size + 1, 0, none⟩ (.slice Ao out.length co)) := (Kp.refl (fun k => k = w.heap.size + 1) wj).setCell (p := ⟨w.heap.size + 1, 0, none⟩) (.inr rfl) _
              refine ⟨.slice Ao out.length co, out, rfl, rfl, (hO.out.kt KE (fun g cs hg h => ?_) (fun g cs hg h => ?_) (fun g cs hg h => ?_)).mono (by omega), ho32, kr.setCell (p := ⟨w.heap.size + 1, 0, none⟩) (.inl (by simp)) _⟩
              · subst h; exact hg.ne_ z3 (by decide) rfl
              · subst h; exact hg.ne_ z3 (by decide) rfl
              · obtain ⟨_, h⟩ := h; subst h; exact hg.ne_ z3 (by decide) rfl
end Go.Proofs.YtobofhiakgohfaaGreatDoor
