/- Descriptions of the call's own; the document's Copy. The document's sameItems. The document's Same. -/
import Derived.Test.YtobofhiakgohfaaGreatDoorZH
set_option linter.unusedVariables false
set_option linter.unusedSimpArgs false
namespace Go.Proofs.YtobofhiakgohfaaGreatDoor
open Go.RowKit

theorem info47 : (Tryz.prog.info? 53).map (fun i => (i.zero, i.size, i.bytes)) = some (some (.agg #[.string ⟨#[]⟩, .int .i64 0, .int .i64 0, .int .i64 0]), 4, 40) := by kernel_rfl
theorem info47' : ∃ i0, Tryz.prog.info? 53 = some i0 ∧ i0.zero = some (.agg #[.string ⟨#[]⟩, .int .i64 0, .int .i64 0, .int .i64 0]) ∧ i0.size = 4 ∧ i0.bytes = 40 := by
  obtain ⟨i0, hi, hz0, hz1, hz2⟩ := info_parts info47
  exact ⟨i0, hi, hz0, hz1, hz2⟩
theorem info71 : (Tryz.prog.info? 51).map (fun i => (i.zero, i.size, i.bytes)) = some (some (.agg #[.string ⟨#[]⟩, .slice none 0 0, .int .i64 0]), 3, 48) := by kernel_rfl
theorem info71' : ∃ i0, Tryz.prog.info? 51 = some i0 ∧ i0.zero = some (.agg #[.string ⟨#[]⟩, .slice none 0 0, .int .i64 0]) ∧ i0.size = 3 ∧ i0.bytes = 48 := by
  obtain ⟨i0, hi, hz0, hz1, hz2⟩ := info_parts info71
  exact ⟨i0, hi, hz0, hz1, hz2⟩
theorem info73 : (Tryz.prog.info? 90).map (fun i => (i.zero, i.size, i.bytes)) = some (some (.agg #[.slice none 0 0, .int .i64 0, .int .i64 0]), 3, 40) := by kernel_rfl
theorem info73' : ∃ i0, Tryz.prog.info? 90 = some i0 ∧ i0.zero = some (.agg #[.slice none 0 0, .int .i64 0, .int .i64 0]) ∧ i0.size = 3 ∧ i0.bytes = 40 := by
  obtain ⟨i0, hi, hz0, hz1, hz2⟩ := info_parts info73
  exact ⟨i0, hi, hz0, hz1, hz2⟩

/-! ## Of the call's own -/
def OItemsV (w : World) (base : Nat) (v : Value) (l : List ItemD) : Prop := w.ownsRow base 53 4 v l.length (icells l) ∧ l.length ≤ 1048576 ∧ ∀ x ∈ l, x.nm.size ≤ 1048576
def OClsV (w : World) (base : Nat) (v : Value) (l : List ClassD) : Prop :=
  ∃ p : List (ClassD × Value), p.map Prod.fst = l ∧ w.ownsRow base 51 3 v p.length (tris ctri p) ∧ p.length ≤ 1048576 ∧ ∀ x ∈ p, OItemsV w base x.2 x.1.its ∧ x.1.nm.size ≤ 1048576
def OShsV (w : World) (base : Nat) (v : Value) (l : List ShapeD) : Prop :=
  ∃ p : List (ShapeD × Value), p.map Prod.fst = l ∧ w.ownsRow base 90 3 v p.length (tris stri p) ∧ p.length ≤ 1048576 ∧ ∀ x ∈ p, OItemsV w base x.2 x.1.its ∧ -9223372036854775808 ≤ x.1.first ∧ x.1.first ≤ 9223372036854775807
def ODescV (w : World) (base : Nat) (v : Value) (d : DescD) : Prop := ∃ vc vs, v = .agg #[vc, vs] ∧ OClsV w base vc d.cls ∧ OShsV w base vs d.shs

theorem OItemsV.kt {S : Nat → Prop} {w w' : World} {base : Nat} {v : Value} {l : List ItemD} (h : OItemsV w base v l) (hk : Kp S w w') (hs : ∀ g cs, Blk w g 53 cs → ¬ S g) : OItemsV w' base v l := ⟨own_kt h.1 hk hs, h.2⟩
theorem OClsV.kt {S : Nat → Prop} {w w' : World} {base : Nat} {v : Value} {l : List ClassD} (h : OClsV w base v l) (hk : Kp S w w') (hs : ∀ g cs, Blk w g 53 cs → ¬ S g) (hs2 : ∀ g cs, Blk w g 51 cs → ¬ S g) : OClsV w' base v l := by
  obtain ⟨p, e, h1, h2, h3⟩ := h
  exact ⟨p, e, own_kt h1 hk hs2, h2, fun x hx => ⟨(h3 x hx).1.kt hk hs, (h3 x hx).2⟩⟩
theorem OShsV.kt {S : Nat → Prop} {w w' : World} {base : Nat} {v : Value} {l : List ShapeD} (h : OShsV w base v l) (hk : Kp S w w') (hs : ∀ g cs, Blk w g 53 cs → ¬ S g) (hs2 : ∀ g cs, Blk w g 90 cs → ¬ S g) : OShsV w' base v l := by
  obtain ⟨p, e, h1, h2, h3⟩ := h
  exact ⟨p, e, own_kt h1 hk hs2, h2, fun x hx => ⟨(h3 x hx).1.kt hk hs, (h3 x hx).2⟩⟩
theorem OItemsV.it {w : World} {base : Nat} {v : Value} {l : List ItemD} (h : OItemsV w base v l) : ItemsV w w.heap.size v l := by
  obtain ⟨h1, h2, h3⟩ := h
  obtain ⟨A, c, rfl, hc1, hc2⟩ := own_form h1
  exact ⟨A, c, rfl, hc1, hc2, h2, Reads.of_own h1, h3⟩
theorem OClsV.it {w : World} {base : Nat} {v : Value} {l : List ClassD} (h : OClsV w base v l) : ClsV w w.heap.size v l := by
  obtain ⟨p, e, h1, h2, h3⟩ := h
  obtain ⟨A, c, rfl, hc1, hc2⟩ := own_form h1
  exact ⟨p, A, c, e, rfl, hc1, hc2, h2, Reads.of_own h1, fun x hx => ⟨(h3 x hx).1.it, (h3 x hx).2⟩⟩
theorem OShsV.it {w : World} {base : Nat} {v : Value} {l : List ShapeD} (h : OShsV w base v l) : ShsV w w.heap.size v l := by
  obtain ⟨p, e, h1, h2, h3⟩ := h
  obtain ⟨A, c, rfl, hc1, hc2⟩ := own_form h1
  exact ⟨p, A, c, e, rfl, hc1, hc2, h2, Reads.of_own h1, fun x hx => ⟨(h3 x hx).1.it, (h3 x hx).2⟩⟩
theorem ODescV.it {w : World} {base : Nat} {v : Value} {d : DescD} (h : ODescV w base v d) : DescV w w.heap.size v d := by
  obtain ⟨vc, vs, e, h1, h2⟩ := h
  exact ⟨vc, vs, e, h1.it, h2.it⟩
theorem OClsV.nil (w : World) (base : Nat) : OClsV w base (.slice none 0 0) [] := ⟨[], rfl, World.ownsRow_nil _ _ _ _, by simp, by simp⟩
theorem OShsV.nil (w : World) (base : Nat) : OShsV w base (.slice none 0 0) [] := ⟨[], rfl, World.ownsRow_nil _ _ _ _, by simp, by simp⟩

set_option maxRecDepth 100000 in
set_option maxHeartbeats 16000000 in
theorem copy_any (w : World) (B : Nat) (v : Value) (d : DescD) (hv : DescV w B v d) (hB : B ≤ w.heap.size) :
    Calls Tryz.prog 17 #[v] w fun e w' => ∃ v', e = .returned v' ∧ ODescV w' w.heap.size v' d ∧ K0 w w' := by
  obtain ⟨cls, shs⟩ := d
  obtain ⟨vc, vs, rfl, ⟨p, A, c, rfl, rfl, hc1, hc2, hc3, hcr, hci⟩, ⟨s, A2, c2, rfl, rfl, hs1, hs2, hs3, hsr, hsi⟩⟩ := hv
  obtain ⟨i0, hi, hz0, hz1, hz2⟩ := info47'
  obtain ⟨i1, hj, hy0, hy1, hy2⟩ := info71'
  obtain ⟨i2, hm, hx0, hx1, hx2⟩ := info73'
  have HC := Lib.hid (fun W hk q hlt => cls_at (W := W) (q := q) hcr hci hB hk hlt)
  have HS := Lib.hid (fun W hk q hlt => shs_at (W := W) (q := q) hsr hsi hB hk hlt)
  clear hcr hci hsr hsi
  go_enter Tryz.func17, Tryz.ntmps17
  go_wp2
  have z0 := ((Blk.new w 42 #[.slice A p.length c, .slice A2 s.length c2]).alloc (.cells #[.slice none 0 0, .slice none 0 0] 42)).alloc (.cells #[.slice none 0 0, .slice none 0 0] 42)
  have z1 := (Blk.new (w.alloc (.cells #[.slice A p.length c, .slice A2 s.length c2] 42)) 42 #[.slice none 0 0, .slice none 0 0]).alloc (.cells #[.slice none 0 0, .slice none 0 0] 42)
  have z2 := Blk.new ((w.alloc (.cells #[.slice A p.length c, .slice A2 s.length c2] 42)).alloc (.cells #[.slice none 0 0, .slice none 0 0] 42)) 42 #[.slice none 0 0, .slice none 0 0]
  have hkA : K0 w (((w.alloc (.cells #[.slice A p.length c, .slice A2 s.length c2] 42)).alloc (.cells #[.slice none 0 0, .slice none 0 0] 42)).alloc (.cells #[.slice none 0 0, .slice none 0 0] 42)) := (((Kp.refl _ _).alloc _).alloc _).alloc _
  simp only [World.size_alloc] at z1 z2
  go_loopw [4] (fun i wr => ∃ (q : Nat) (vq : Value), q ≤ p.length ∧ i = .int .i64 (q : Int) ∧ OClsV wr w.heap.size vq ((p.map Prod.fst).take q) ∧ Blk wr w.heap.size 42 #[.slice A p.length c, .slice A2 s.length c2] ∧ Blk wr (w.heap.size + 1) 42 #[.slice none 0 0, .slice none 0 0] ∧ Blk wr (w.heap.size + 1 + 1) 42 #[vq, .slice none 0 0] ∧ K0 w wr) (fun i wr => p.length - (intOf i).toNat)
  case atStart => exact ⟨0, _, by omega, rfl, OClsV.nil _ _, z0, z1, z2, hkA⟩
  case round =>
    obtain ⟨q, vq, hq, rfl, hcl, y0, y1, y2, hk⟩ := hrel
    have x0 := y0.cell 0
    have x2 := y2.cell 0
    have f2 := y2.frozen 0
    have l0 := y0.lt
    have l2 := y2.lt
    simp at x0 x2
    by_cases hlt : q < p.length
    · obtain ⟨ad, rfl, hbk, r0, r1, r2, hit, hnz⟩ := HC.out _ hk q hlt
      have ht := take_fst p hlt
      obtain ⟨⟨⟨nm, its, pl⟩, vi⟩, hxe⟩ : ∃ x, x = p[q] := ⟨_, rfl⟩
      rw [← hxe] at r0 r1 r2 hit hnz ht
      simp only [] at r0 r1 r2 hit hnz ht
      obtain ⟨A3, c3, rfl, hcc, hcc2, hil, hir, hin⟩ := hit
      obtain ⟨p', hp', hown, hpl, hpx⟩ := hcl
      have hplen : p'.length = q := by
        have := congrArg List.length hp'
        simp at this
        omega
      rw [hplen] at hown
      have HT := Lib.hid ht
      have HP := Lib.hid hp'
      obtain ⟨Aq, cq, rfl, hq1, hq2⟩ := own_form hown
      clear ht hp' hxe
      have ybc := Blk.new wr 51 #[.string nm, .slice A3 its.length c3, .int .i64 pl]
      have hsz := hk.size
      have M0 := World.ownsRow_made (base := w.heap.size) (e := 53) (size := 4) (wr.alloc (.cells #[.string nm, .slice A3 its.length c3, .int .i64 pl] 51)) #[] 0 (by simp; omega) (by simp [maxLen]) rfl
      go_wp2_with (first
        | (at_builtin; refine wpList_append_any _ rfl (.tmp 21) (.tmp 23) _ rfl w.heap.size 53 i0 _ 4 40 Tryz.underlying49 hi hz0 hz1 hz2 rfl (by omega) (.slice (some ⟨wr.heap.size + 1, 0, none⟩) 0 0) 0 [] rfl (by simpa using M0) B A3 its.length c3 (icells its) rfl (by exact (hir.alloc (by omega) _).alloc (by simp; omega) _) (icells_one _) (by simp only [maxLen]; omega) (by omega) (by simp; omega) ?_; intro v3 w3 ho3 hg3 hat3; rw [Nat.zero_add, List.nil_append] at ho3; obtain ⟨A5, c5, rfl, hc51, hc52⟩ := own_form ho3; have e3 := (ybc.alloc (.cells #[] 53)).grown hg3 (by simp [Value.ownBlock]); have e30 := e3.cell 0; have e31 := e3.cell 1; have e32 := e3.cell 2; have e3f := e3.frozen 1; have e3l := e3.lt; have e2 := ((y2.alloc (.cells #[.string nm, .slice A3 its.length c3, .int .i64 pl] 51)).alloc (.cells #[] 53)).grown hg3 (by simp [Value.ownBlock]; omega); have e20 := e2.cell 0; have e2f := e2.frozen 0; have e2l := e2.lt; have e0 := ((y0.alloc (.cells #[.string nm, .slice A3 its.length c3, .int .i64 pl] 51)).alloc (.cells #[] 53)).grown hg3 (by simp [Value.ownBlock]; omega); have e1 := ((y1.alloc (.cells #[.string nm, .slice A3 its.length c3, .int .i64 pl] 51)).alloc (.cells #[] 53)).grown hg3 (by simp [Value.ownBlock]; omega); have hown3 := own_far hown ((((Kp.refl _ _).alloc (.cells #[.string nm, .slice A3 its.length c3, .int .i64 pl] 51)).alloc (.cells #[] 53)).grown hg3 (fun k hk => .inr hk)) (fun g hg => by have := hown.lt g hg; simp [Value.ownBlock]; omega); simp at e30 e31 e32 e20; have hs3 := hg3.size; simp only [World.size_alloc] at hs3)
        | (at_builtin; refine wpList_append_any _ rfl (.tmp 27) (.tmp 29) _ rfl w.heap.size 51 i1 _ 3 48 Tryz.underlying39 hj hy0 hy1 hy2 rfl (by omega) (.slice Aq q cq) q (tris ctri p') rfl (by exact (own_setCell (p := ⟨wr.heap.size, 1, none⟩) hown3 (fun e => Nat.lt_irrefl _ (hown.lt _ e).2)).alloc _) (w3.heap.size + 1) (some ⟨w3.heap.size, 0, none⟩) 1 1 [.string nm, .slice A5 its.length c5, .int .i64 pl] rfl (by have := reads_new (w3.setCell ⟨wr.heap.size, 1, none⟩ (.slice A5 its.length c5)) 51 #[.string nm, .slice A5 its.length c5, .int .i64 pl] 1 3 rfl; simpa using this) (by simp [Value.oneCell']) (by simp only [maxLen]; omega) (by omega) (by simp only [World.size_alloc, World.size_setCell]; omega) ?_; intro v4 w4 ho4 hg4 hat4; obtain ⟨A6, c6, rfl, hc61, hc62⟩ := own_form ho4; have d2 := ((e2.far (p := ⟨wr.heap.size, 1, none⟩) (by simp; omega) (.slice A5 its.length c5)).alloc (.cells #[.string nm, .slice A5 its.length c5, .int .i64 pl] 51)).grown hg4 (Ne.symm (own_blk_ne hown y2 (by decide))); have d20 := d2.cell 0; have d2f := d2.frozen 0; have d2l := d2.lt; simp at d20))
      have hS : K0 w wr := hk
      have d0 := ((e0.far (p := ⟨wr.heap.size, 1, none⟩) (by simp; omega) (.slice A5 its.length c5)).alloc (.cells #[.string nm, .slice A5 its.length c5, .int .i64 pl] 51)).grown hg4 (Ne.symm (own_blk_ne hown y0 (by decide)))
      have d1 := ((e1.far (p := ⟨wr.heap.size, 1, none⟩) (by simp; omega) (.slice A5 its.length c5)).alloc (.cells #[.string nm, .slice A5 its.length c5, .int .i64 pl] 51)).grown hg4 (Ne.symm (own_blk_ne hown y1 (by decide)))
      have K1 : Kp (fun k => (Value.slice Aq q cq).ownBlock = some k ∨ k = w.heap.size + 1 + 1 ∨ k = wr.heap.size) w3 (w4.setCell ⟨w.heap.size + 1 + 1, 0, none⟩ (.slice A6 (q + 1) c6)) :=
        (((((Kp.refl _ w3).setCell (p := ⟨wr.heap.size, 1, none⟩) (.inr (.inr (.inr rfl))) _).alloc _).grown hg4 (fun k hk => .inr (.inl hk))).setCell (p := ⟨w.heap.size + 1 + 1, 0, none⟩) (.inr (.inr (.inl rfl))) _)
      have K2 : Kp (fun k => (Value.slice Aq q cq).ownBlock = some k ∨ k = w.heap.size + 1 + 1) wr (w4.setCell ⟨w.heap.size + 1 + 1, 0, none⟩ (.slice A6 (q + 1) c6)) :=
        ((((Kp.refl _ wr).alloc _).alloc _).grown hg3 (fun k hk => .inl (by simp [Value.ownBlock] at hk; omega))).trans' K1 (fun k hk h => by
          rcases h with h | h | h
          · exact .inl h
          · exact .inr h
          · omega)
      refine ⟨⟨q + 1, .slice A6 (q + 1) c6, by omega, by go_num, ⟨p' ++ [(⟨nm, its, pl⟩, .slice A5 its.length c5)], ?_, ?_, ?_, ?_⟩, ?_, ?_, ?_, ?_⟩, by simp [intOf]; omega⟩
      · rw [HT.out, List.map_append, HP.out]; rfl
      · rw [tris_append, List.length_append, hplen]
        exact own_setCell (p := ⟨w.heap.size + 1 + 1, 0, none⟩) ho4 (own_blk_ne ho4 d2 (by decide))
      · rw [List.length_append, hplen]; simp; omega
      · intro x hx
        rcases List.mem_append.1 hx with hx | hx
        · refine ⟨(hpx x hx).1.kt K2 (fun g cs hg h => ?_), (hpx x hx).2⟩
          rcases h with h | rfl
          · exact own_blk_ne hown hg (by decide) h
          · have := hg.symm.trans y2; cases this
        · simp only [List.mem_singleton] at hx
          subst hx
          refine ⟨⟨own_kt ho3 K1 (fun g cs hg h => ?_), hil, hin⟩, hnz⟩
          rcases h with h | rfl | rfl
          · exact own_blk_ne hown3 hg (by decide) h
          · have := hg.symm.trans e2; cases this
          · have := hg.symm.trans e3; cases this
      · exact d0.far (p := ⟨w.heap.size + 1 + 1, 0, none⟩) (by simp; omega) _
      · exact d1.far (p := ⟨w.heap.size + 1 + 1, 0, none⟩) (by simp) _
      · have := d2.set_ 0 (.slice A6 (q + 1) c6)
        simpa using this
      · exact hk.trans' K2 (fun i hi h => by
          rcases h with h | rfl
          · have := (hown.lt i h).1; omega
          · omega)
    · obtain rfl : q = p.length := by omega
      rw [show (p.map Prod.fst).take p.length = p.map Prod.fst by rw [List.take_of_length_le]; simp] at hcl
      clear HC
      go_wp2
      obtain ⟨wm, hwm⟩ : ∃ wm, wm = wr := ⟨_, rfl⟩
      rw [← hwm] at hcl y0 y1 y2 hk ⊢
      clear hwm x0 x2 f2 l0 l2 z0 z1 z2 hkA
      obtain ⟨A1, n1, cc1, rfl⟩ : ∃ A n c, vq = .slice A n c := by
        obtain ⟨p1, _, hown1, _, _⟩ := hcl
        obtain ⟨A1, cc1, e, _, _⟩ := own_form hown1
        exact ⟨_, _, _, e⟩
      go_loopw [6] (fun i wr => ∃ (q : Nat) (vs : Value), q ≤ s.length ∧ i = .int .i64 (q : Int) ∧ OShsV wr w.heap.size vs ((s.map Prod.fst).take q) ∧ OClsV wr w.heap.size (.slice A1 n1 cc1) (p.map Prod.fst) ∧ Blk wr w.heap.size 42 #[.slice A p.length c, .slice A2 s.length c2] ∧ Blk wr (w.heap.size + 1) 42 #[.slice none 0 0, .slice none 0 0] ∧ Blk wr (w.heap.size + 1 + 1) 42 #[.slice A1 n1 cc1, vs] ∧ K0 w wr) (fun i wr => s.length - (intOf i).toNat)
      case atStart => exact ⟨0, _, by omega, rfl, OShsV.nil _ _, hcl, y0, y1, y2, hk⟩
      case round =>
        obtain ⟨q, vq, hq, rfl, hsl, hcl, y0, y1, y2, hk⟩ := hrel
        have x0 := y0.cell 1
        have x1 := y2.cell 0
        have x2 := y2.cell 1
        have f2 := y2.frozen 1
        have l0 := y0.lt
        have l2 := y2.lt
        simp at x0 x1 x2
        by_cases hlt : q < s.length
        · obtain ⟨ad, rfl, hbk, r0, r1, r2, hit, hn1, hn2⟩ := HS.out _ hk q hlt
          have ht := take_fst s hlt
          obtain ⟨⟨⟨its, first, pl⟩, vi⟩, hxe⟩ : ∃ x, x = s[q] := ⟨_, rfl⟩
          rw [← hxe] at r0 r1 r2 hit hn1 hn2 ht
          simp only [] at r0 r1 r2 hit hn1 hn2 ht
          obtain ⟨A3, c3, rfl, hcc, hcc2, hil, hir, hin⟩ := hit
          obtain ⟨p', hp', hown, hpl, hpx⟩ := hsl
          have hplen : p'.length = q := by
            have := congrArg List.length hp'
            simp at this
            omega
          rw [hplen] at hown
          have HT := Lib.hid ht
          have HP := Lib.hid hp'
          obtain ⟨Aq, cq, rfl, hq1, hq2⟩ := own_form hown
          clear ht hp' hxe
          have ybc := Blk.new wr 90 #[.slice A3 its.length c3, .int .i64 first, .int .i64 pl]
          have hsz := hk.size
          have M0 := World.ownsRow_made (base := w.heap.size) (e := 53) (size := 4) (wr.alloc (.cells #[.slice A3 its.length c3, .int .i64 first, .int .i64 pl] 90)) #[] 0 (by simp; omega) (by simp [maxLen]) rfl
          go_wp2_with (first
            | (at_builtin; refine wpList_append_any _ rfl (.tmp 44) (.tmp 46) _ rfl w.heap.size 53 i0 _ 4 40 Tryz.underlying49 hi hz0 hz1 hz2 rfl (by omega) (.slice (some ⟨wr.heap.size + 1, 0, none⟩) 0 0) 0 [] rfl (by simpa using M0) B A3 its.length c3 (icells its) rfl (by exact (hir.alloc (by omega) _).alloc (by simp; omega) _) (icells_one _) (by simp only [maxLen]; omega) (by omega) (by simp; omega) ?_; intro v3 w3 ho3 hg3 hat3; rw [Nat.zero_add, List.nil_append] at ho3; obtain ⟨A5, c5, rfl, hc51, hc52⟩ := own_form ho3; have e3 := (ybc.alloc (.cells #[] 53)).grown hg3 (by simp [Value.ownBlock]); have e30 := e3.cell 0; have e31 := e3.cell 1; have e32 := e3.cell 2; have e3f := e3.frozen 0; have e3l := e3.lt; have e2 := ((y2.alloc (.cells #[.slice A3 its.length c3, .int .i64 first, .int .i64 pl] 90)).alloc (.cells #[] 53)).grown hg3 (by simp [Value.ownBlock]; omega); have e20 := e2.cell 1; have e2f := e2.frozen 1; have e2l := e2.lt; have e0 := ((y0.alloc (.cells #[.slice A3 its.length c3, .int .i64 first, .int .i64 pl] 90)).alloc (.cells #[] 53)).grown hg3 (by simp [Value.ownBlock]; omega); have e1 := ((y1.alloc (.cells #[.slice A3 its.length c3, .int .i64 first, .int .i64 pl] 90)).alloc (.cells #[] 53)).grown hg3 (by simp [Value.ownBlock]; omega); have hown3 := own_far hown ((((Kp.refl _ _).alloc (.cells #[.slice A3 its.length c3, .int .i64 first, .int .i64 pl] 90)).alloc (.cells #[] 53)).grown hg3 (fun k hk => .inr hk)) (fun g hg => by have := hown.lt g hg; simp [Value.ownBlock]; omega); simp at e30 e31 e32 e20; have hs3 := hg3.size; simp only [World.size_alloc] at hs3)
            | (at_builtin; refine wpList_append_any _ rfl (.tmp 50) (.tmp 52) _ rfl w.heap.size 90 i2 _ 3 40 Tryz.underlying40 hm hx0 hx1 hx2 rfl (by omega) (.slice Aq q cq) q (tris stri p') rfl (by exact (own_setCell (p := ⟨wr.heap.size, 0, none⟩) hown3 (fun e => Nat.lt_irrefl _ (hown.lt _ e).2)).alloc _) (w3.heap.size + 1) (some ⟨w3.heap.size, 0, none⟩) 1 1 [.slice A5 its.length c5, .int .i64 first, .int .i64 pl] rfl (by have := reads_new (w3.setCell ⟨wr.heap.size, 0, none⟩ (.slice A5 its.length c5)) 90 #[.slice A5 its.length c5, .int .i64 first, .int .i64 pl] 1 3 rfl; simpa using this) (by simp [Value.oneCell']) (by simp only [maxLen]; omega) (by omega) (by simp only [World.size_alloc, World.size_setCell]; omega) ?_; intro v4 w4 ho4 hg4 hat4; obtain ⟨A6, c6, rfl, hc61, hc62⟩ := own_form ho4; have d2 := ((e2.far (p := ⟨wr.heap.size, 0, none⟩) (by simp; omega) (.slice A5 its.length c5)).alloc (.cells #[.slice A5 its.length c5, .int .i64 first, .int .i64 pl] 90)).grown hg4 (Ne.symm (own_blk_ne hown y2 (by decide))); have d20 := d2.cell 1; have d2f := d2.frozen 1; have d2l := d2.lt; simp at d20))
          have hS : K0 w wr := hk
          have d0 := ((e0.far (p := ⟨wr.heap.size, 0, none⟩) (by simp; omega) (.slice A5 its.length c5)).alloc (.cells #[.slice A5 its.length c5, .int .i64 first, .int .i64 pl] 90)).grown hg4 (Ne.symm (own_blk_ne hown y0 (by decide)))
          have d1 := ((e1.far (p := ⟨wr.heap.size, 0, none⟩) (by simp; omega) (.slice A5 its.length c5)).alloc (.cells #[.slice A5 its.length c5, .int .i64 first, .int .i64 pl] 90)).grown hg4 (Ne.symm (own_blk_ne hown y1 (by decide)))
          have K1 : Kp (fun k => (Value.slice Aq q cq).ownBlock = some k ∨ k = w.heap.size + 1 + 1 ∨ k = wr.heap.size) w3 (w4.setCell ⟨w.heap.size + 1 + 1, 1, none⟩ (.slice A6 (q + 1) c6)) :=
            (((((Kp.refl _ w3).setCell (p := ⟨wr.heap.size, 0, none⟩) (.inr (.inr (.inr rfl))) _).alloc _).grown hg4 (fun k hk => .inr (.inl hk))).setCell (p := ⟨w.heap.size + 1 + 1, 1, none⟩) (.inr (.inr (.inl rfl))) _)
          have K2 : Kp (fun k => (Value.slice Aq q cq).ownBlock = some k ∨ k = w.heap.size + 1 + 1) wr (w4.setCell ⟨w.heap.size + 1 + 1, 1, none⟩ (.slice A6 (q + 1) c6)) :=
            ((((Kp.refl _ wr).alloc _).alloc _).grown hg3 (fun k hk => .inl (by simp [Value.ownBlock] at hk; omega))).trans' K1 (fun k hk h => by
              rcases h with h | h | h
              · exact .inl h
              · exact .inr h
              · omega)
          refine ⟨⟨q + 1, .slice A6 (q + 1) c6, by omega, by go_num, ⟨p' ++ [(⟨its, first, pl⟩, .slice A5 its.length c5)], ?_, ?_, ?_, ?_⟩, ?_, ?_, ?_, ?_, ?_⟩, by simp [intOf]; omega⟩
          · rw [HT.out, List.map_append, HP.out]; rfl
          · rw [tris_append, List.length_append, hplen]
            exact own_setCell (p := ⟨w.heap.size + 1 + 1, 1, none⟩) ho4 (own_blk_ne ho4 d2 (by decide))
          · rw [List.length_append, hplen]; simp; omega
          · intro x hx
            rcases List.mem_append.1 hx with hx | hx
            · refine ⟨(hpx x hx).1.kt K2 (fun g cs hg h => ?_), (hpx x hx).2⟩
              rcases h with h | rfl
              · exact own_blk_ne hown hg (by decide) h
              · have := hg.symm.trans y2; cases this
            · simp only [List.mem_singleton] at hx
              subst hx
              refine ⟨⟨own_kt ho3 K1 (fun g cs hg h => ?_), hil, hin⟩, hn1, hn2⟩
              rcases h with h | rfl | rfl
              · exact own_blk_ne hown3 hg (by decide) h
              · have := hg.symm.trans e2; cases this
              · have := hg.symm.trans e3; cases this
          · refine hcl.kt K2 (fun g cs hg h => ?_) (fun g cs hg h => ?_)
            · rcases h with h | rfl
              · exact own_blk_ne hown hg (by decide) h
              · have := hg.symm.trans y2; cases this
            · rcases h with h | rfl
              · exact own_blk_ne hown hg (by decide) h
              · have := hg.symm.trans y2; cases this
          · exact d0.far (p := ⟨w.heap.size + 1 + 1, 1, none⟩) (by simp; omega) _
          · exact d1.far (p := ⟨w.heap.size + 1 + 1, 1, none⟩) (by simp) _
          · have := d2.set_ 1 (.slice A6 (q + 1) c6)
            simpa using this
          · exact hk.trans' K2 (fun i hi h => by
              rcases h with h | rfl
              · have := (hown.lt i h).1; omega
              · omega)
        · obtain rfl : q = s.length := by omega
          rw [show (s.map Prod.fst).take s.length = s.map Prod.fst by rw [List.take_of_length_le]; simp] at hsl
          clear HS
          obtain ⟨A7, n7, c7, rfl⟩ : ∃ A n c, vq = .slice A n c := by
            obtain ⟨p1, _, hown1, _, _⟩ := hsl
            obtain ⟨A1, cc1, e, _, _⟩ := own_form hown1
            exact ⟨_, _, _, e⟩
          have x10 := y1.cell 0
          have x11 := y1.cell 1
          have f10 := y1.frozen 0
          have f11 := y1.frozen 1
          have l1 := y1.lt
          simp at x10 x11
          go_wp2
          have y1' := (y1.set_ 0 (.slice A1 n1 cc1)).set_ 1 (.slice A7 n7 c7)
          have c10 := y1'.cell 0
          have c11 := y1'.cell 1
          simp at c10 c11
          have KK := fun wr => ((Kp.refl (fun k => k = w.heap.size + 1) wr).setCell (p := ⟨w.heap.size + 1, 0, none⟩) (.inr rfl) (.slice A1 n1 cc1)).setCell (p := ⟨w.heap.size + 1, 1, none⟩) (.inr rfl) (.slice A7 n7 c7)
          refine bodyPost_ret (v := .agg #[.slice A1 n1 cc1, .slice A7 n7 c7]) ?_ rfl ?_
          · simp [results, Tryz.f17, go_sem, c10, c11]
          · refine ⟨_, rfl, ⟨_, _, rfl, hcl.kt (KK _) (fun g cs hg h => ?_) (fun g cs hg h => ?_), hsl.kt (KK _) (fun g cs hg h => ?_) (fun g cs hg h => ?_)⟩, (hk.setCell (p := ⟨w.heap.size + 1, 0, none⟩) (.inl (by simp)) _).setCell (p := ⟨w.heap.size + 1, 1, none⟩) (.inl (by simp)) _⟩
            all_goals
              subst h
              have := hg.symm.trans y1
              cases this
end Go.Proofs.YtobofhiakgohfaaGreatDoor

namespace Go.Proofs.YtobofhiakgohfaaGreatDoor
open Go.RowKit

/-- Two items are the same (with their places, or but for them). -/
def sameI (pl : Bool) (x y : ItemD) : Bool := (x.nm.toList == y.nm.toList) && (decide (x.lo = y.lo) && (decide (x.hi = y.hi) && (!pl || decide (x.pl = y.pl))))
def sameR (pl : Bool) : List ItemD → List ItemD → Bool
  | [], [] => true
  | x :: a, y :: b => sameI pl x y && sameR pl a b
  | _, _ => false
theorem sameR_len {pl : Bool} : ∀ {a b : List ItemD}, a.length ≠ b.length → sameR pl a b = false
  | [], [], h => absurd rfl h
  | [], y :: b, h => rfl
  | x :: a, [], h => rfl
  | x :: a, y :: b, h => by simp only [sameR]; rw [sameR_len (a := a) (b := b) (by simpa using h), Bool.and_false]
theorem sameR_drop {pl : Bool} {a b : List ItemD} {q : Nat} (ha : q < a.length) (hb : q < b.length) : sameR pl (a.drop q) (b.drop q) = (sameI pl a[q] b[q] && sameR pl (a.drop (q + 1)) (b.drop (q + 1))) := by
  rw [List.drop_eq_getElem_cons ha, List.drop_eq_getElem_cons hb]
  rfl

set_option maxRecDepth 100000 in
set_option maxHeartbeats 16000000 in
theorem sameItems_any (w : World) (B : Nat) (va vb : Value) (la lb : List ItemD) (pl : Bool) (ha : ItemsV w B va la) (hb : ItemsV w B vb lb) (hB : B ≤ w.heap.size) :
    Calls Tryz.prog 53 #[va, vb, .bool pl] w fun e w' => e = .returned (.bool (sameR pl la lb)) ∧ ∃ m, w' = w.drewN m := by
  obtain ⟨A, c, rfl, hc1, hc2, hl, hr, hnm⟩ := ha
  obtain ⟨A2, c2, rfl, hc3, hc4, hl2, hr2, hnm2⟩ := hb
  obtain ⟨R, hR⟩ : ∃ R, R = sameR pl la lb := ⟨_, rfl⟩
  rw [← hR]
  have HR := Lib.hid hR
  by_cases hlen : la.length = lb.length
  · clear hR
    go_enter Tryz.func53, Tryz.ntmps53
    go_wp2
    go_loopw [7] (fun i wr => ∃ q m : Nat, q ≤ la.length ∧ i = .int .i64 (q : Int) ∧ wr = w.drewN m ∧ Hid (R = sameR pl (la.drop q) (lb.drop q))) (fun i wr => la.length - (intOf i).toNat)
    case atStart => exact ⟨0, 0, by omega, rfl, rfl, Lib.hid HR.out⟩
    case round =>
      obtain ⟨q, m, hq, rfl, rfl, hres⟩ := hrel
      by_cases hlt : q < la.length
      · have hlt2 : q < lb.length := by omega
        obtain ⟨ad, rfl, hbl, r0, r1, r2, r3⟩ := hr.item hlt
        obtain ⟨ad2, rfl, hbl2, s0, s1, s2, s3⟩ := hr2.item hlt2
        have hs := hres.out
        rw [sameR_drop hlt hlt2] at hs
        obtain ⟨⟨n1, a1, b1, p1⟩, hx⟩ : ∃ x, x = la[q] := ⟨_, rfl⟩
        obtain ⟨⟨n2, a2, b2, p2⟩, hy⟩ : ∃ x, x = lb[q] := ⟨_, rfl⟩
        rw [← hx] at r0 r1 r2 r3 hs
        rw [← hy] at s0 s1 s2 s3 hs
        unfold sameI at hs
        simp only [] at r0 r1 r2 r3 s0 s1 s2 s3 hs
        clear hx hy
        cases e0 : (n1.toList == n2.toList) with
        | false =>
          rw [e0, Bool.false_and, Bool.false_and] at hs
          subst hs
          go_wp2
          go_quiet (fail)
          go_wp2
          go_ret
          exact ⟨rfl, _, by rw [World.drewN_drewN]⟩
        | true =>
          rw [e0, Bool.true_and] at hs
          by_cases ea : a1 = a2
          · subst ea
            rw [decide_eq_true rfl, Bool.true_and] at hs
            by_cases eb : b1 = b2
            · subst eb
              rw [decide_eq_true rfl, Bool.true_and] at hs
              cases pl with
              | false =>
                rw [Bool.not_false, Bool.true_or, Bool.true_and] at hs
                have HS := Lib.hid hs
                clear hs hres
                go_wp2
                go_quiet (fail)
                go_wp2
                exact ⟨⟨q + 1, _, by omega, by go_num, by first | rfl | rw [World.drewN_drewN], HS⟩, by simp [intOf]; omega⟩
              | true =>
                rw [Bool.not_true, Bool.false_or] at hs
                by_cases ep : p1 = p2
                · subst ep
                  rw [decide_eq_true rfl, Bool.true_and] at hs
                  have HS := Lib.hid hs
                  clear hs hres
                  go_wp2
                  go_quiet (fail)
                  go_wp2
                  exact ⟨⟨q + 1, _, by omega, by go_num, by first | rfl | rw [World.drewN_drewN], HS⟩, by simp [intOf]; omega⟩
                · rw [decide_eq_false ep, Bool.false_and] at hs
                  have e' : (p1 != p2) = true := by simp [ep]
                  have e'' : (p1 == p2) = false := by simp [ep]
                  subst hs
                  go_wp2
                  go_quiet (fail)
                  go_wp2
                  go_ret
                  exact ⟨rfl, _, by rw [World.drewN_drewN]⟩
            · rw [decide_eq_false eb, Bool.false_and, Bool.false_and] at hs
              have e' : (b1 != b2) = true := by simp [eb]
              have e'' : (b1 == b2) = false := by simp [eb]
              subst hs
              go_wp2
              go_quiet (fail)
              go_wp2
              go_ret
              exact ⟨rfl, _, by rw [World.drewN_drewN]⟩
          · rw [decide_eq_false ea, Bool.false_and, Bool.false_and] at hs
            have e' : (a1 != a2) = true := by simp [ea]
            have e'' : (a1 == a2) = false := by simp [ea]
            subst hs
            go_wp2
            go_quiet (fail)
            go_wp2
            go_ret
            exact ⟨rfl, _, by rw [World.drewN_drewN]⟩
      · obtain rfl : q = la.length := by omega
        have hs := hres.out
        rw [show la.drop la.length = [] by simp, show lb.drop la.length = [] by rw [hlen]; simp] at hs
        subst hs
        go_wp2
        go_ret
        exact ⟨rfl, _, rfl⟩
  · rw [sameR_len hlen] at hR
    subst hR
    go_enter Tryz.func53, Tryz.ntmps53
    go_wp2
    go_ret
    exact ⟨rfl, 0, rfl⟩
end Go.Proofs.YtobofhiakgohfaaGreatDoor

namespace Go.Proofs.YtobofhiakgohfaaGreatDoor
open Go.RowKit

def sameC (pl : Bool) (x y : ClassD) : Bool := (x.nm.toList == y.nm.toList) && ((!pl || decide (x.pl = y.pl)) && sameR pl x.its y.its)
def sameS (pl : Bool) (x y : ShapeD) : Bool := decide (x.first = y.first) && ((!pl || decide (x.pl = y.pl)) && sameR pl x.its y.its)
def sameL {α : Type} (f : α → α → Bool) : List α → List α → Bool
  | [], [] => true
  | x :: a, y :: b => f x y && sameL f a b
  | _, _ => false
def sameD (pl : Bool) (a b : DescD) : Bool := sameL (sameC pl) a.cls b.cls && sameL (sameS pl) a.shs b.shs
theorem sameL_len {α : Type} {f : α → α → Bool} : ∀ {a b : List α}, a.length ≠ b.length → sameL f a b = false
  | [], [], h => absurd rfl h
  | [], y :: b, h => rfl
  | x :: a, [], h => rfl
  | x :: a, y :: b, h => by simp only [sameL]; rw [sameL_len (a := a) (b := b) (by simpa using h), Bool.and_false]
theorem sameL_drop {α β : Type} {f : α → α → Bool} {p s : List (α × β)} {q : Nat} (ha : q < p.length) (hb : q < s.length) : sameL f ((p.map Prod.fst).drop q) ((s.map Prod.fst).drop q) = (f p[q].1 s[q].1 && sameL f ((p.map Prod.fst).drop (q + 1)) ((s.map Prod.fst).drop (q + 1))) := by
  rw [drop_fst p ha, drop_fst s hb]
  rfl
theorem ItemsV.drewN {w : World} {B : Nat} {v : Value} {l : List ItemD} (h : ItemsV w B v l) (n : Nat) : ItemsV (w.drewN n) B v l := h.keep (Nat.le_refl _) (fun _ _ => rfl)

set_option maxRecDepth 100000 in
set_option maxHeartbeats 16000000 in
theorem same_any (w : World) (B : Nat) (va vb : Value) (da db : DescD) (pl : Bool) (ha : DescV w B va da) (hb : DescV w B vb db) (hB : B ≤ w.heap.size) :
    Calls Tryz.prog 22 #[va, vb, .bool pl] w fun e w' => e = .returned (.bool (sameD pl da db)) ∧ K0 w w' := by
  obtain ⟨cls, shs⟩ := da
  obtain ⟨cls', shs'⟩ := db
  obtain ⟨vc, vs, rfl, ⟨p, A, c, rfl, rfl, hc1, hc2, hc3, hcr, hci⟩, ⟨s, A2, c2, rfl, rfl, hs1, hs2, hs3, hsr, hsi⟩⟩ := ha
  obtain ⟨vc', vs', rfl, ⟨p', A', c', rfl, rfl, hc1', hc2', hc3', hcr', hci'⟩, ⟨s', A2', c2', rfl, rfl, hs1', hs2', hs3', hsr', hsi'⟩⟩ := hb
  obtain ⟨R, hR⟩ : ∃ R, R = sameD pl ⟨p.map Prod.fst, s.map Prod.fst⟩ ⟨p'.map Prod.fst, s'.map Prod.fst⟩ := ⟨_, rfl⟩
  rw [← hR]
  unfold sameD at hR
  simp only [] at hR
  have HR := Lib.hid hR
  have y0 := (Blk.new w 42 #[.slice A p.length c, .slice A2 s.length c2]).alloc (.cells #[.slice A' p'.length c', .slice A2' s'.length c2'] 42)
  have y1 := Blk.new (w.alloc (.cells #[.slice A p.length c, .slice A2 s.length c2] 42)) 42 #[.slice A' p'.length c', .slice A2' s'.length c2']
  simp only [World.size_alloc] at y1
  have hkA : K0 w ((w.alloc (.cells #[.slice A p.length c, .slice A2 s.length c2] 42)).alloc (.cells #[.slice A' p'.length c', .slice A2' s'.length c2'] 42)) := ((Kp.refl _ _).alloc _).alloc _
  have HC := Lib.hid (fun W hk q hlt => cls_at (W := W) (q := q) hcr hci hB hk hlt)
  have HS := Lib.hid (fun W hk q hlt => shs_at (W := W) (q := q) hsr hsi hB hk hlt)
  have HC' := Lib.hid (fun W hk q hlt => cls_at (W := W) (q := q) hcr' hci' hB hk hlt)
  have HS' := Lib.hid (fun W hk q hlt => shs_at (W := W) (q := q) hsr' hsi' hB hk hlt)
  clear hcr hci hsr hsi hcr' hci' hsr' hsi'
  by_cases hl1 : p.length = p'.length
  · have hl1a : p.length ≤ p'.length := by omega
    have hl1b : p'.length ≤ p.length := by omega
    clear hl1
    by_cases hl2 : s.length = s'.length
    · have hl2a : s.length ≤ s'.length := by omega
      have hl2b : s'.length ≤ s.length := by omega
      clear hR hl2
      go_enter Tryz.func22, Tryz.ntmps22
      go_wp2
      go_loopw [7] (fun i wr => ∃ q : Nat, q ≤ p.length ∧ i = .int .i64 (q : Int) ∧ Blk wr w.heap.size 42 #[.slice A p.length c, .slice A2 s.length c2] ∧ Blk wr (w.heap.size + 1) 42 #[.slice A' p'.length c', .slice A2' s'.length c2'] ∧ K0 w wr ∧ Hid (R = (sameL (sameC pl) ((p.map Prod.fst).drop q) ((p'.map Prod.fst).drop q) && sameL (sameS pl) (s.map Prod.fst) (s'.map Prod.fst)))) (fun i wr => p.length - (intOf i).toNat)
      case atStart => exact ⟨0, by omega, rfl, y0, y1, hkA, Lib.hid HR.out⟩
      case round =>
        obtain ⟨q, hq, rfl, z0, z1, hk, hres⟩ := hrel
        have x0 := z0.cell 0
        have x1 := z0.cell 1
        have x2 := z1.cell 0
        have x3 := z1.cell 1
        simp at x0 x1 x2 x3
        by_cases hlt : q < p.length
        · have hlt2 : q < p'.length := by omega
          obtain ⟨ad, rfl, hbl, r0, r1, r2, hit, hnz⟩ := HC.out _ hk q hlt
          obtain ⟨ad2, rfl, hbl2, s0, s1, s2, hit2, hnz2⟩ := HC'.out _ hk q hlt2
          have hs := hres.out
          rw [sameL_drop hlt hlt2] at hs
          obtain ⟨⟨⟨n1, i1, p1⟩, v1⟩, hx⟩ : ∃ x, x = p[q] := ⟨_, rfl⟩
          obtain ⟨⟨⟨n2, i2, p2⟩, v2⟩, hy⟩ : ∃ x, x = p'[q] := ⟨_, rfl⟩
          rw [← hx] at r0 r1 r2 hit hnz hs
          rw [← hy] at s0 s1 s2 hit2 hnz2 hs
          unfold sameC at hs
          simp only [] at r0 r1 r2 s0 s1 s2 hs hit hit2
          have SI := Lib.hid (fun n => sameItems_any (wr.drewN n) B v1 v2 i1 i2 pl (hit.drewN n) (hit2.drewN n) (by have := hk.size; show B ≤ wr.heap.size; omega))
          clear hx hy hit hit2 hnz hnz2
          have fin : ∀ n, K0 w (wr.drewN n) ∧ Blk (wr.drewN n) w.heap.size 42 #[.slice (some ad) p.length c, .slice A2 s.length c2] ∧ Blk (wr.drewN n) (w.heap.size + 1) 42 #[.slice (some ad2) p'.length c', .slice A2' s'.length c2'] := fun n => ⟨hk.drewN n, z0.drewN n, z1.drewN n⟩
          have FIN := Lib.hid fin
          clear fin
          cases e0 : (n1.toList == n2.toList) with
          | false =>
            rw [e0, Bool.false_and, Bool.false_and, Bool.false_and] at hs
            subst hs
            go_wp2
            go_quiet (fail)
            go_wp2
            go_ret
            exact ⟨rfl, (FIN.out _).1⟩
          | true =>
            rw [e0, Bool.true_and] at hs
            cases pl with
            | false =>
              rw [Bool.not_false, Bool.true_or, Bool.true_and] at hs
              cases er : sameR false i1 i2 with
              | false =>
                rw [er] at SI
                rw [er, Bool.false_and] at hs
                subst hs
                go_wp2
                go_quiet ((go_at_call 53; exact Calls.quiet_of (SI.out _)))
                go_wp2
                go_ret
                exact ⟨rfl, (FIN.out _).1⟩
              | true =>
                rw [er] at SI
                rw [er, Bool.true_and] at hs
                clear er
                have HN := Lib.hid hs
                clear hs hres
                go_wp2
                go_quiet ((go_at_call 53; exact Calls.quiet_of (SI.out _)))
                go_wp2
                exact ⟨⟨q + 1, by omega, by go_num, (FIN.out _).2.1, (FIN.out _).2.2, (FIN.out _).1, HN⟩, by simp [intOf]; omega⟩
            | true =>
              rw [Bool.not_true, Bool.false_or] at hs
              by_cases ep : p1 = p2
              · subst ep
                rw [decide_eq_true rfl, Bool.true_and] at hs
                cases er : sameR true i1 i2 with
                | false =>
                  rw [er] at SI
                  rw [er, Bool.false_and] at hs
                  subst hs
                  go_wp2
                  go_quiet ((go_at_call 53; exact Calls.quiet_of (SI.out _)))
                  go_wp2
                  go_ret
                  exact ⟨rfl, (FIN.out _).1⟩
                | true =>
                  rw [er] at SI
                  rw [er, Bool.true_and] at hs
                  clear er
                  have HN := Lib.hid hs
                  clear hs hres
                  go_wp2
                  go_quiet ((go_at_call 53; exact Calls.quiet_of (SI.out _)))
                  go_wp2
                  exact ⟨⟨q + 1, by omega, by go_num, (FIN.out _).2.1, (FIN.out _).2.2, (FIN.out _).1, HN⟩, by simp [intOf]; omega⟩
              · rw [decide_eq_false ep, Bool.false_and, Bool.false_and] at hs
                have e' : (p1 != p2) = true := by simp [ep]
                have e'' : (p1 == p2) = false := by simp [ep]
                subst hs
                go_wp2
                go_quiet ((go_at_call 53; exact Calls.quiet_of (SI.out _)))
                go_wp2
                go_ret
                exact ⟨rfl, (FIN.out _).1⟩
        · obtain rfl : q = p.length := by omega
          have hs := hres.out
          rw [show (p.map Prod.fst).drop p.length = [] by simp, show (p'.map Prod.fst).drop p.length = [] by simp; omega] at hs
          have HR3 := Lib.hid (show R = sameL (sameS pl) (s.map Prod.fst) (s'.map Prod.fst) from hs)
          clear hs hres HC HC'
          go_wp2
          obtain ⟨wm, hwm⟩ : ∃ wm, wm = wr := ⟨_, rfl⟩
          rw [← hwm] at z0 z1 hk ⊢
          clear hwm x0 x1 x2 x3
          go_loopw [8] (fun i wr => ∃ q : Nat, q ≤ s.length ∧ i = .int .i64 (q : Int) ∧ Blk wr w.heap.size 42 #[.slice A p.length c, .slice A2 s.length c2] ∧ Blk wr (w.heap.size + 1) 42 #[.slice A' p'.length c', .slice A2' s'.length c2'] ∧ K0 w wr ∧ Hid (R = sameL (sameS pl) ((s.map Prod.fst).drop q) ((s'.map Prod.fst).drop q))) (fun i wr => s.length - (intOf i).toNat)
          case atStart => exact ⟨0, by omega, rfl, z0, z1, hk, Lib.hid HR3.out⟩
          case round =>
            obtain ⟨q, hq, rfl, z0, z1, hk, hres⟩ := hrel
            have x0 := z0.cell 0
            have x1 := z0.cell 1
            have x2 := z1.cell 0
            have x3 := z1.cell 1
            simp at x0 x1 x2 x3
            by_cases hlt : q < s.length
            · have hlt2 : q < s'.length := by omega
              obtain ⟨ad, rfl, hbl, r0, r1, r2, hit, hnz⟩ := HS.out _ hk q hlt
              obtain ⟨ad2, rfl, hbl2, s0, s1, s2, hit2, hnz2⟩ := HS'.out _ hk q hlt2
              have hs := hres.out
              rw [sameL_drop hlt hlt2] at hs
              obtain ⟨⟨⟨i1, f1, p1⟩, v1⟩, hx⟩ : ∃ x, x = s[q] := ⟨_, rfl⟩
              obtain ⟨⟨⟨i2, f2, p2⟩, v2⟩, hy⟩ : ∃ x, x = s'[q] := ⟨_, rfl⟩
              rw [← hx] at r0 r1 r2 hit hnz hs
              rw [← hy] at s0 s1 s2 hit2 hnz2 hs
              unfold sameS at hs
              simp only [] at r0 r1 r2 s0 s1 s2 hs hit hit2
              have SI := Lib.hid (fun n => sameItems_any (wr.drewN n) B v1 v2 i1 i2 pl (hit.drewN n) (hit2.drewN n) (by have := hk.size; show B ≤ wr.heap.size; omega))
              clear hx hy hit hit2 hnz hnz2
              have fin : ∀ n, K0 w (wr.drewN n) ∧ Blk (wr.drewN n) w.heap.size 42 #[.slice A p.length c, .slice (some ad) s.length c2] ∧ Blk (wr.drewN n) (w.heap.size + 1) 42 #[.slice A' p'.length c', .slice (some ad2) s'.length c2'] := fun n => ⟨hk.drewN n, z0.drewN n, z1.drewN n⟩
              have FIN := Lib.hid fin
              clear fin
              by_cases ef : f1 = f2
              · subst ef
                rw [decide_eq_true rfl, Bool.true_and] at hs
                cases pl with
                | false =>
                  rw [Bool.not_false, Bool.true_or, Bool.true_and] at hs
                  cases er : sameR false i1 i2 with
                  | false =>
                    rw [er] at SI
                    rw [er, Bool.false_and] at hs
                    subst hs
                    go_wp2
                    go_quiet ((go_at_call 53; exact Calls.quiet_of (SI.out _)))
                    go_wp2
                    go_ret
                    exact ⟨rfl, (FIN.out _).1⟩
                  | true =>
                    rw [er] at SI
                    rw [er, Bool.true_and] at hs
                    clear er
                    have HN := Lib.hid hs
                    clear hs hres
                    go_wp2
                    go_quiet ((go_at_call 53; exact Calls.quiet_of (SI.out _)))
                    go_wp2
                    exact ⟨⟨q + 1, by omega, by go_num, (FIN.out _).2.1, (FIN.out _).2.2, (FIN.out _).1, HN⟩, by simp [intOf]; omega⟩
                | true =>
                  rw [Bool.not_true, Bool.false_or] at hs
                  by_cases ep : p1 = p2
                  · subst ep
                    rw [decide_eq_true rfl, Bool.true_and] at hs
                    cases er : sameR true i1 i2 with
                    | false =>
                      rw [er] at SI
                      rw [er, Bool.false_and] at hs
                      subst hs
                      go_wp2
                      go_quiet ((go_at_call 53; exact Calls.quiet_of (SI.out _)))
                      go_wp2
                      go_ret
                      exact ⟨rfl, (FIN.out _).1⟩
                    | true =>
                      rw [er] at SI
                      rw [er, Bool.true_and] at hs
                      clear er
                      have HN := Lib.hid hs
                      clear hs hres
                      go_wp2
                      go_quiet ((go_at_call 53; exact Calls.quiet_of (SI.out _)))
                      go_wp2
                      exact ⟨⟨q + 1, by omega, by go_num, (FIN.out _).2.1, (FIN.out _).2.2, (FIN.out _).1, HN⟩, by simp [intOf]; omega⟩
                  · rw [decide_eq_false ep, Bool.false_and, Bool.false_and] at hs
                    have e' : (p1 != p2) = true := by simp [ep]
                    have e'' : (p1 == p2) = false := by simp [ep]
                    subst hs
                    go_wp2
                    go_quiet ((go_at_call 53; exact Calls.quiet_of (SI.out _)))
                    go_wp2
                    go_ret
                    exact ⟨rfl, (FIN.out _).1⟩
              · rw [decide_eq_false ef, Bool.false_and, Bool.false_and] at hs
                have e' : (f1 != f2) = true := by simp [ef]
                have e'' : (f1 == f2) = false := by simp [ef]
                subst hs
                go_wp2
                go_quiet ((go_at_call 53; exact Calls.quiet_of (SI.out _)))
                go_wp2
                go_ret
                exact ⟨rfl, (FIN.out _).1⟩
            · obtain rfl : q = s.length := by omega
              have hs := hres.out
              rw [show (s.map Prod.fst).drop s.length = [] by simp, show (s'.map Prod.fst).drop s.length = [] by simp; omega] at hs
              have hs' : R = true := hs
              subst hs'
              go_wp2
              go_ret
              exact ⟨rfl, hk⟩
    · rw [show sameL (sameS pl) (s.map Prod.fst) (s'.map Prod.fst) = false from sameL_len (by simpa using hl2), Bool.and_false] at hR
      subst hR
      go_enter Tryz.func22, Tryz.ntmps22
      go_wp2
      go_ret
      exact ⟨rfl, hkA⟩
  · rw [show sameL (sameC pl) (p.map Prod.fst) (p'.map Prod.fst) = false from sameL_len (by simpa using hl1), Bool.false_and] at hR
    subst hR
    go_enter Tryz.func22, Tryz.ntmps22
    go_wp2
    go_ret
    exact ⟨rfl, hkA⟩
end Go.Proofs.YtobofhiakgohfaaGreatDoor
