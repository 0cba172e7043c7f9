/- The document's Fits. -/
import Derived.Test.YtobofhiakgohfaaDoorT26
set_option linter.unusedVariables false
set_option linter.unusedSimpArgs false
namespace Go.Proofs.YtobofhiakgohfaaDoor
open Go.RowKit

theorem drop_fst {α β : Type} (p : List (α × β)) {q : Nat} (h : q < p.length) : (p.map Prod.fst).drop q = p[q].1 :: (p.map Prod.fst).drop (q + 1) := by
  rw [List.drop_eq_getElem_cons (by simpa using h)]
  simp
theorem take_fst {α β : Type} (p : List (α × β)) {q : Nat} (h : q < p.length) : (p.map Prod.fst).take (q + 1) = (p.map Prod.fst).take q ++ [p[q].1] := by
  rw [List.take_add_one, List.getElem?_eq_getElem (by simpa using h)]
  simp

/-- What stays readable of a description's class while only new memory is written. -/
theorem cls_at {w W : World} {B : Nat} {A : Option Addr} {p : List (ClassD × Value)} (hr : Reads w B 3 A p.length (tris ctri p)) (hit : ∀ x ∈ p, ItemsV w B x.2 x.1.its ∧ x.1.nm.size ≤ 1048576) (hB : B ≤ w.heap.size) (hk : K0 w W) {q : Nat} (hlt : q < p.length) :
    ∃ ad, A = some ad ∧ ad.block < B ∧ W.cell? (ad.add (q * 3)) = some (.string p[q].1.nm) ∧ W.cell? ⟨(ad.add (q * 3)).block, (ad.add (q * 3)).off + 1, none⟩ = some p[q].2 ∧ W.cell? ⟨(ad.add (q * 3)).block, (ad.add (q * 3)).off + 2, none⟩ = some (.int .i64 p[q].1.pl) ∧ ItemsV W B p[q].2 p[q].1.its ∧ p[q].1.nm.size ≤ 1048576 := by
  obtain ⟨ad, e, hb, r0, r1, r2⟩ := (hr.k0 hB hk).tri hlt
  exact ⟨ad, e, hb, r0, r1, r2, (hit _ (List.getElem_mem hlt)).1.k0 hB hk, (hit _ (List.getElem_mem hlt)).2⟩
theorem shs_at {w W : World} {B : Nat} {A : Option Addr} {p : List (ShapeD × Value)} (hr : Reads w B 3 A p.length (tris stri p)) (hit : ∀ x ∈ p, ItemsV w B x.2 x.1.its ∧ -9223372036854775808 ≤ x.1.first ∧ x.1.first ≤ 9223372036854775807) (hB : B ≤ w.heap.size) (hk : K0 w W) {q : Nat} (hlt : q < p.length) :
    ∃ ad, A = some ad ∧ ad.block < B ∧ W.cell? (ad.add (q * 3)) = some p[q].2 ∧ W.cell? ⟨(ad.add (q * 3)).block, (ad.add (q * 3)).off + 1, none⟩ = some (.int .i64 p[q].1.first) ∧ W.cell? ⟨(ad.add (q * 3)).block, (ad.add (q * 3)).off + 2, none⟩ = some (.int .i64 p[q].1.pl) ∧ ItemsV W B p[q].2 p[q].1.its ∧ -9223372036854775808 ≤ p[q].1.first ∧ p[q].1.first ≤ 9223372036854775807 := by
  obtain ⟨ad, e, hb, r0, r1, r2⟩ := (hr.k0 hB hk).tri hlt
  exact ⟨ad, e, hb, r0, r1, r2, (hit _ (List.getElem_mem hlt)).1.k0 hB hk, (hit _ (List.getElem_mem hlt)).2⟩
/-- A boxed description. -/
theorem box_at {w W : World} {t : TypeId} {a b : Value} (hk : K0 (w.alloc (.cells #[a, b] t)) W) : W.cell? ⟨w.heap.size, 0, none⟩ = some a ∧ W.cell? ⟨w.heap.size, 1, none⟩ = some b := by
  have yb := (Blk.new w t #[a, b]).kp hk (fun h => h)
  have y0 := yb.cell 0
  have y1 := yb.cell 1
  simp at y0 y1
  exact ⟨y0, y1⟩

set_option maxRecDepth 100000 in
set_option maxHeartbeats 8000000 in
theorem fits_any (w : World) (B : Nat) (v : Value) (d : DescD) (hv : DescV w B v d) (hB : B ≤ w.heap.size) :
    Calls Tryd.prog 49 #[v] w fun e w' => e = .returned (.bool (fitD d)) ∧ K0 w w' := by
  obtain ⟨cls, shs⟩ := d
  obtain ⟨vc, vs, rfl, ⟨p, A, c, rfl, rfl, hc1, hc2, hc3, hcr, hci⟩, ⟨s, A2, c2, rfl, rfl, hs1, hs2, hs3, hsr, hsi⟩⟩ := hv
  obtain ⟨R, hR⟩ : ∃ R, R = fitD ⟨p.map Prod.fst, s.map Prod.fst⟩ := ⟨_, rfl⟩
  rw [← hR]
  unfold fitD at hR
  simp only [List.length_map] at hR
  have BX := Lib.hid (fun W => box_at (w := w) (W := W) (t := 25) (a := .slice A p.length c) (b := .slice A2 s.length c2))
  by_cases h1 : 32 < p.length
  · have hres : R = false := by rw [hR, decide_eq_false (show ¬ p.length ≤ 32 by omega)]; simp
    subst hres
    clear hR
    go_enter Tryd.func49, Tryd.ntmps49
    go_wp2
    go_ret
    exact ⟨rfl, (Kp.refl _ _).alloc _⟩
  by_cases h2 : 32 < s.length
  · have hres : R = false := by rw [hR, decide_eq_false (show ¬ s.length ≤ 32 by omega)]; simp
    subst hres
    clear hR
    go_enter Tryd.func49, Tryd.ntmps49
    go_wp2
    go_ret
    exact ⟨rfl, (Kp.refl _ _).alloc _⟩
  rw [decide_eq_true (show p.length ≤ 32 by omega), decide_eq_true (show s.length ≤ 32 by omega), Bool.true_and, Bool.true_and] at hR
  have HR := Lib.hid hR
  clear hR
  have hkb : K0 w (w.alloc (.cells #[.slice A p.length c, .slice A2 s.length c2] 25)) := (Kp.refl _ _).alloc _
  have HC := Lib.hid (fun W hk q hlt => cls_at (W := W) (q := q) hcr hci hB hk hlt)
  have HS := Lib.hid (fun W hk q hlt => shs_at (W := W) (q := q) hsr hsi hB hk hlt)
  clear hcr hci hsr hsi
  go_enter Tryd.func49, Tryd.ntmps49
  go_wp2
  obtain ⟨w0, hw0⟩ : ∃ w0, w0 = w.alloc (.cells #[.slice A p.length c, .slice A2 s.length c2] 25) := ⟨_, rfl⟩
  rw [← hw0] at BX hkb ⊢
  have hs0 : w.heap.size < w0.heap.size := by rw [hw0]; simp
  clear hw0
  go_loopw [3] (fun i wr => ∃ q : Nat, q ≤ p.length ∧ i = .int .i64 (q : Int) ∧ K0 w0 wr ∧ Hid (R = (((p.map Prod.fst).drop q).all fitC && (s.map Prod.fst).all fitS))) (fun i wr => p.length - (intOf i).toNat)
  case atStart => exact ⟨0, by omega, rfl, Kp.refl _ _, Lib.hid HR.out⟩
  case round =>
    obtain ⟨q, hq, rfl, hk, hres⟩ := hrel
    obtain ⟨b0, b1⟩ := BX.out _ hk
    by_cases hlt : q < p.length
    · obtain ⟨ad, rfl, hbl, r0, r1, r2, hit, hnz⟩ := HC.out _ (hkb.trans hk) q hlt
      have hd := drop_fst p hlt
      obtain ⟨⟨⟨nm, its, pl⟩, vi⟩, hxe⟩ : ∃ x, x = p[q] := ⟨_, rfl⟩
      rw [← hxe] at r0 r1 r2 hit hnz hd
      simp only [] at r0 r1 r2 hit hnz hd
      have hres2 : R = (nameB nm.data.toList && (fitsB 32 its && (((p.map Prod.fst).drop (q + 1)).all fitC && (s.map Prod.fst).all fitS))) := by
        rw [hres.out, hd, List.all_cons, show fitC ⟨nm, its, pl⟩ = (nameB nm.data.toList && fitsB 32 its) from rfl, Bool.and_assoc, Bool.and_assoc]
      have HR2 := Lib.hid hres2
      have HN := Lib.hid (fun W => rname_any nm W (by omega))
      have hsz := hk.size
      have hszb := hkb.size
      have HF := Lib.hid (fun W (hw : K0 wr W) => listFits_any W B vi its (hit.k0 (by omega) hw) (by have := hw.size; omega) 32 (by omega))
      have RD := Lib.hid (fun W (hw : K0 wr W) => show W.cell? ⟨w.heap.size, 0, none⟩ = some (.slice (some ad) p.length c) ∧ W.cell? ⟨(ad.add (q * 3)).block, (ad.add (q * 3)).off + 1, none⟩ = some vi from
        ⟨(BX.out _ (hk.trans hw)).1, (hw.cell (p := ⟨(ad.add (q * 3)).block, (ad.add (q * 3)).off + 1, none⟩) (by rw [block_of_add]; omega) (fun h => h)).trans r1⟩)
      clear hres hres2 hd hxe
      cases hn : nameB nm.data.toList with
      | false =>
        rw [hn] at HN HR2
        have hres : R = false := by rw [HR2.out]; rfl
        subst hres
        clear hn
        go_wp2_with (go_at_call 33; refine (HN.out _).mono ?_; rintro e w1 ⟨rfl, hk1⟩)
        go_ret
        exact ⟨rfl, (hkb.trans hk).trans hk1⟩
      | true =>
        rw [hn, Bool.true_and] at HR2
        rw [hn] at HN
        clear hn
        cases hf : fitsB 32 its with
        | false =>
          rw [hf] at HF HR2
          have hres : R = false := by rw [HR2.out]; rfl
          subst hres
          clear hf
          go_wp2_with (first
            | (go_at_call 33; refine (HN.out _).mono ?_; rintro e w1 ⟨rfl, hk1⟩; obtain ⟨x0, x1⟩ := RD.out _ hk1)
            | (go_at_call 77; refine (HF.out _ hk1).mono ?_; rintro e w2 ⟨rfl, hk2⟩))
          go_ret
          exact ⟨rfl, ((hkb.trans hk).trans hk1).trans hk2⟩
        | true =>
          rw [hf, Bool.true_and] at HR2
          rw [hf] at HF
          clear hf
          go_wp2_with (first
            | (go_at_call 33; refine (HN.out _).mono ?_; rintro e w1 ⟨rfl, hk1⟩; obtain ⟨x0, x1⟩ := RD.out _ hk1)
            | (go_at_call 77; refine (HF.out _ hk1).mono ?_; rintro e w2 ⟨rfl, hk2⟩))
          exact ⟨⟨q + 1, by omega, by go_num, (hk.trans hk1).trans hk2, Lib.hid HR2.out⟩, by simp [intOf]; omega⟩
    · obtain rfl : q = p.length := by omega
      have hfin := hres.out
      rw [show (p.map Prod.fst).drop p.length = [] by rw [List.drop_eq_nil_iff]; simp, List.all_nil, Bool.true_and] at hfin
      have HR3 := Lib.hid hfin
      clear hfin hres HC
      go_wp2
      obtain ⟨wm, hwm⟩ : ∃ wm, wm = wr := ⟨_, rfl⟩
      have hkm : K0 w0 wm := by rw [hwm]; exact hk
      rw [← hwm]
      clear hwm b0 b1
      go_loopw [4] (fun i wr => ∃ q : Nat, q ≤ s.length ∧ i = .int .i64 (q : Int) ∧ K0 w0 wr ∧ Hid (R = (((s.map Prod.fst).drop q).all fitS))) (fun i wr => s.length - (intOf i).toNat)
      case atStart => exact ⟨0, by omega, rfl, hkm, Lib.hid HR3.out⟩
      case round =>
        obtain ⟨q, hq, rfl, hk, hres⟩ := hrel
        obtain ⟨b0, b1⟩ := BX.out _ hk
        by_cases hlt : q < s.length
        · obtain ⟨ad, rfl, hbl, r0, r1, r2, hit, hn1, hn2⟩ := HS.out _ (hkb.trans hk) q hlt
          have hd := drop_fst s hlt
          obtain ⟨⟨⟨its, first, pl⟩, vi⟩, hxe⟩ : ∃ x, x = s[q] := ⟨_, rfl⟩
          rw [← hxe] at r0 r1 r2 hit hn1 hn2 hd
          simp only [] at r0 r1 r2 hit hn1 hn2 hd
          have hres2 : R = (decide (0 ≤ first) && (decide (first ≤ 999999999) && (fitsB 8 its && ((s.map Prod.fst).drop (q + 1)).all fitS))) := by
            rw [hres.out, hd, List.all_cons, show fitS ⟨its, first, pl⟩ = (decide (0 ≤ first) && decide (first ≤ 999999999) && fitsB 8 its) from rfl, Bool.and_assoc, Bool.and_assoc]
          have HR2 := Lib.hid hres2
          have hsz := hk.size
          have hszb := hkb.size
          have HF := Lib.hid (fun W (hw : K0 wr W) => listFits_any W B vi its (hit.k0 (by omega) hw) (by have := hw.size; omega) 8 (by omega))
          clear hres hres2 hd hxe
          by_cases hf1 : 0 ≤ first
          · by_cases hf2 : first ≤ 999999999
            · rw [decide_eq_true hf1, decide_eq_true hf2, Bool.true_and, Bool.true_and] at HR2
              cases hf : fitsB 8 its with
              | false =>
                rw [hf] at HF HR2
                have hres : R = false := by rw [HR2.out]; rfl
                subst hres
                clear hf
                go_wp2_with (go_at_call 77; refine (HF.out _ (Kp.refl _ _)).mono ?_; rintro e w2 ⟨rfl, hk2⟩)
                go_ret
                exact ⟨rfl, (hkb.trans hk).trans hk2⟩
              | true =>
                rw [hf, Bool.true_and] at HR2
                rw [hf] at HF
                clear hf
                go_wp2_with (go_at_call 77; refine (HF.out _ (Kp.refl _ _)).mono ?_; rintro e w2 ⟨rfl, hk2⟩)
                exact ⟨⟨q + 1, by omega, by go_num, hk.trans hk2, Lib.hid HR2.out⟩, by simp [intOf]; omega⟩
            · have hres : R = false := by rw [HR2.out, decide_eq_false hf2]; simp
              subst hres
              go_wp2
              go_ret
              exact ⟨rfl, hkb.trans hk⟩
          · have hres : R = false := by rw [HR2.out, decide_eq_false hf1]; simp
            subst hres
            go_wp2
            go_ret
            exact ⟨rfl, hkb.trans hk⟩
        · obtain rfl : q = s.length := by omega
          have hfin := hres.out
          rw [show (s.map Prod.fst).drop s.length = [] by rw [List.drop_eq_nil_iff]; simp, List.all_nil] at hfin
          subst hfin
          go_wp2
          go_ret
          exact ⟨rfl, hkb.trans hk⟩
end Go.Proofs.YtobofhiakgohfaaDoor
