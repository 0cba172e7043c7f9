/- The document's Fits. The document's Print. The program's Print. -/
import Derived.Test.YtobofhiakgohfaaGreatDoorZG
import Derived.Test.YtobofhiakgohfaaGreatDoorZB
import Derived.Test.YtobofhiakgohfaaGreatDoorZA
set_option linter.unusedVariables false
set_option linter.unusedSimpArgs false
namespace Go.Proofs.YtobofhiakgohfaaGreatDoor
open Go.RowKit

theorem drop_fst {α β : Type} (p : List (α × β)) {q : Nat} (h : q < p.length) : (p.map Prod.fst).drop q = p[q].1 :: (p.map Prod.fst).drop (q + 1) := by
  rw [List.drop_eq_getElem_cons (by simpa using h)]
  simp
theorem take_fst {α β : Type} (p : List (α × β)) {q : Nat} (h : q < p.length) : (p.map Prod.fst).take (q + 1) = (p.map Prod.fst).take q ++ [p[q].1] := by
  rw [List.take_add_one, List.getElem?_eq_getElem (by simpa using h)]
  simp

/-- What stays readable of a description's class while only new memory is written. -/
theorem cls_at {w W : World} {B : Nat} {A : Option Addr} {p : List (ClassD × Value)} (hr : Reads w B 3 A p.length (tris ctri p)) (hit : ∀ x ∈ p, ItemsV w B x.2 x.1.its ∧ x.1.nm.size ≤ 1048576) (hB : B ≤ w.heap.size) (hk : K0 w W) {q : Nat} (hlt : q < p.length) :
    ∃ ad, A = some ad ∧ ad.block < B ∧ W.cell? (ad.add (q * 3)) = some (.string p[q].1.nm) ∧ W.cell? ⟨(ad.add (q * 3)).block, (ad.add (q * 3)).off + 1, none⟩ = some p[q].2 ∧ W.cell? ⟨(ad.add (q * 3)).block, (ad.add (q * 3)).off + 2, none⟩ = some (.int .i64 p[q].1.pl) ∧ ItemsV W B p[q].2 p[q].1.its ∧ p[q].1.nm.size ≤ 1048576 := by
  obtain ⟨ad, e, hb, r0, r1, r2⟩ := (hr.k0 hB hk).tri hlt
  exact ⟨ad, e, hb, r0, r1, r2, (hit _ (List.getElem_mem hlt)).1.k0 hB hk, (hit _ (List.getElem_mem hlt)).2⟩
theorem shs_at {w W : World} {B : Nat} {A : Option Addr} {p : List (ShapeD × Value)} (hr : Reads w B 3 A p.length (tris stri p)) (hit : ∀ x ∈ p, ItemsV w B x.2 x.1.its ∧ -9223372036854775808 ≤ x.1.first ∧ x.1.first ≤ 9223372036854775807) (hB : B ≤ w.heap.size) (hk : K0 w W) {q : Nat} (hlt : q < p.length) :
    ∃ ad, A = some ad ∧ ad.block < B ∧ W.cell? (ad.add (q * 3)) = some p[q].2 ∧ W.cell? ⟨(ad.add (q * 3)).block, (ad.add (q * 3)).off + 1, none⟩ = some (.int .i64 p[q].1.first) ∧ W.cell? ⟨(ad.add (q * 3)).block, (ad.add (q * 3)).off + 2, none⟩ = some (.int .i64 p[q].1.pl) ∧ ItemsV W B p[q].2 p[q].1.its ∧ -9223372036854775808 ≤ p[q].1.first ∧ p[q].1.first ≤ 9223372036854775807 := by
  obtain ⟨ad, e, hb, r0, r1, r2⟩ := (hr.k0 hB hk).tri hlt
  exact ⟨ad, e, hb, r0, r1, r2, (hit _ (List.getElem_mem hlt)).1.k0 hB hk, (hit _ (List.getElem_mem hlt)).2⟩
/-- A boxed description. -/
theorem box_at {w W : World} {t : TypeId} {a b : Value} (hk : K0 (w.alloc (.cells #[a, b] t)) W) : W.cell? ⟨w.heap.size, 0, none⟩ = some a ∧ W.cell? ⟨w.heap.size, 1, none⟩ = some b := by
  have yb := (Blk.new w t #[a, b]).kp hk (fun h => h)
  have y0 := yb.cell 0
  have y1 := yb.cell 1
  simp at y0 y1
  exact ⟨y0, y1⟩

set_option maxRecDepth 100000 in
set_option maxHeartbeats 8000000 in
theorem fits_any (w : World) (B : Nat) (v : Value) (d : DescD) (hv : DescV w B v d) (hB : B ≤ w.heap.size) :
    Calls Tryz.prog 47 #[v] w fun e w' => e = .returned (.bool (fitD d)) ∧ K0 w w' := by
  obtain ⟨cls, shs⟩ := d
  obtain ⟨vc, vs, rfl, ⟨p, A, c, rfl, rfl, hc1, hc2, hc3, hcr, hci⟩, ⟨s, A2, c2, rfl, rfl, hs1, hs2, hs3, hsr, hsi⟩⟩ := hv
  obtain ⟨R, hR⟩ : ∃ R, R = fitD ⟨p.map Prod.fst, s.map Prod.fst⟩ := ⟨_, rfl⟩
  rw [← hR]
  unfold fitD at hR
  simp only [List.length_map] at hR
  have BX := Lib.hid (fun W => box_at (w := w) (W := W) (t := 42) (a := .slice A p.length c) (b := .slice A2 s.length c2))
  by_cases h1 : 32 < p.length
  · have hres : R = false := by rw [hR, decide_eq_false (show ¬ p.length ≤ 32 by omega)]; simp
    subst hres
    clear hR
    go_enter Tryz.func47, Tryz.ntmps47
    go_wp2
    go_ret
    exact ⟨rfl, (Kp.refl _ _).alloc _⟩
  by_cases h2 : 32 < s.length
  · have hres : R = false := by rw [hR, decide_eq_false (show ¬ s.length ≤ 32 by omega)]; simp
    subst hres
    clear hR
    go_enter Tryz.func47, Tryz.ntmps47
    go_wp2
    go_ret
    exact ⟨rfl, (Kp.refl _ _).alloc _⟩
  rw [decide_eq_true (show p.length ≤ 32 by omega), decide_eq_true (show s.length ≤ 32 by omega), Bool.true_and, Bool.true_and] at hR
  have HR := Lib.hid hR
  clear hR
  have hkb : K0 w (w.alloc (.cells #[.slice A p.length c, .slice A2 s.length c2] 42)) := (Kp.refl _ _).alloc _
  have HC := Lib.hid (fun W hk q hlt => cls_at (W := W) (q := q) hcr hci hB hk hlt)
  have HS := Lib.hid (fun W hk q hlt => shs_at (W := W) (q := q) hsr hsi hB hk hlt)
  clear hcr hci hsr hsi
  go_enter Tryz.func47, Tryz.ntmps47
  go_wp2
  obtain ⟨w0, hw0⟩ : ∃ w0, w0 = w.alloc (.cells #[.slice A p.length c, .slice A2 s.length c2] 42) := ⟨_, rfl⟩
  rw [← hw0] at BX hkb ⊢
  have hs0 : w.heap.size < w0.heap.size := by rw [hw0]; simp
  clear hw0
  go_loopw [3] (fun i wr => ∃ q : Nat, q ≤ p.length ∧ i = .int .i64 (q : Int) ∧ K0 w0 wr ∧ Hid (R = (((p.map Prod.fst).drop q).all fitC && (s.map Prod.fst).all fitS))) (fun i wr => p.length - (intOf i).toNat)
  case atStart => exact ⟨0, by omega, rfl, Kp.refl _ _, Lib.hid HR.out⟩
  case round =>
    obtain ⟨q, hq, rfl, hk, hres⟩ := hrel
    obtain ⟨b0, b1⟩ := BX.out _ hk
    by_cases hlt : q < p.length
    · obtain ⟨ad, rfl, hbl, r0, r1, r2, hit, hnz⟩ := HC.out _ (hkb.trans hk) q hlt
      have hd := drop_fst p hlt
      obtain ⟨⟨⟨nm, its, pl⟩, vi⟩, hxe⟩ : ∃ x, x = p[q] := ⟨_, rfl⟩
      rw [← hxe] at r0 r1 r2 hit hnz hd
      simp only [] at r0 r1 r2 hit hnz hd
      have hres2 : R = (nameB nm.data.toList && (fitsB 32 its && (((p.map Prod.fst).drop (q + 1)).all fitC && (s.map Prod.fst).all fitS))) := by
        rw [hres.out, hd, List.all_cons, show fitC ⟨nm, its, pl⟩ = (nameB nm.data.toList && fitsB 32 its) from rfl, Bool.and_assoc, Bool.and_assoc]
      have HR2 := Lib.hid hres2
      have HN := Lib.hid (fun W => rname_any nm W (by omega))
      have hsz := hk.size
      have hszb := hkb.size
      have HF := Lib.hid (fun W (hw : K0 wr W) => listFits_any W B vi its (hit.k0 (by omega) hw) (by have := hw.size; omega) 32 (by omega))
      have RD := Lib.hid (fun W (hw : K0 wr W) => show W.cell? ⟨w.heap.size, 0, none⟩ = some (.slice (some ad) p.length c) ∧ W.cell? ⟨(ad.add (q * 3)).block, (ad.add (q * 3)).off + 1, none⟩ = some vi from
        ⟨(BX.out _ (hk.trans hw)).1, (hw.cell (p := ⟨(ad.add (q * 3)).block, (ad.add (q * 3)).off + 1, none⟩) (by rw [block_of_add]; omega) (fun h => h)).trans r1⟩)
      clear hres hres2 hd hxe
      cases hn : nameB nm.data.toList with
      | false =>
        rw [hn] at HN HR2
        have hres : R = false := by rw [HR2.out]; rfl
        subst hres
        clear hn
        go_wp2_with (go_at_call 79; refine (HN.out _).mono ?_; rintro e w1 ⟨rfl, hk1⟩)
        go_ret
        exact ⟨rfl, (hkb.trans hk).trans hk1⟩
      | true =>
        rw [hn, Bool.true_and] at HR2
        rw [hn] at HN
        clear hn
        cases hf : fitsB 32 its with
        | false =>
          rw [hf] at HF HR2
          have hres : R = false := by rw [HR2.out]; rfl
          subst hres
          clear hf
          go_wp2_with (first
            | (go_at_call 79; refine (HN.out _).mono ?_; rintro e w1 ⟨rfl, hk1⟩; obtain ⟨x0, x1⟩ := RD.out _ hk1)
            | (go_at_call 80; refine (HF.out _ hk1).mono ?_; rintro e w2 ⟨rfl, hk2⟩))
          go_ret
          exact ⟨rfl, ((hkb.trans hk).trans hk1).trans hk2⟩
        | true =>
          rw [hf, Bool.true_and] at HR2
          rw [hf] at HF
          clear hf
          go_wp2_with (first
            | (go_at_call 79; refine (HN.out _).mono ?_; rintro e w1 ⟨rfl, hk1⟩; obtain ⟨x0, x1⟩ := RD.out _ hk1)
            | (go_at_call 80; refine (HF.out _ hk1).mono ?_; rintro e w2 ⟨rfl, hk2⟩))
          exact ⟨⟨q + 1, by omega, by go_num, (hk.trans hk1).trans hk2, Lib.hid HR2.out⟩, by simp [intOf]; omega⟩
    · obtain rfl : q = p.length := by omega
      have hfin := hres.out
      rw [show (p.map Prod.fst).drop p.length = [] by rw [List.drop_eq_nil_iff]; simp, List.all_nil, Bool.true_and] at hfin
      have HR3 := Lib.hid hfin
      clear hfin hres HC
      go_wp2
      obtain ⟨wm, hwm⟩ : ∃ wm, wm = wr := ⟨_, rfl⟩
      have hkm : K0 w0 wm := by rw [hwm]; exact hk
      rw [← hwm]
      clear hwm b0 b1
      go_loopw [4] (fun i wr => ∃ q : Nat, q ≤ s.length ∧ i = .int .i64 (q : Int) ∧ K0 w0 wr ∧ Hid (R = (((s.map Prod.fst).drop q).all fitS))) (fun i wr => s.length - (intOf i).toNat)
      case atStart => exact ⟨0, by omega, rfl, hkm, Lib.hid HR3.out⟩
      case round =>
        obtain ⟨q, hq, rfl, hk, hres⟩ := hrel
        obtain ⟨b0, b1⟩ := BX.out _ hk
        by_cases hlt : q < s.length
        · obtain ⟨ad, rfl, hbl, r0, r1, r2, hit, hn1, hn2⟩ := HS.out _ (hkb.trans hk) q hlt
          have hd := drop_fst s hlt
          obtain ⟨⟨⟨its, first, pl⟩, vi⟩, hxe⟩ : ∃ x, x = s[q] := ⟨_, rfl⟩
          rw [← hxe] at r0 r1 r2 hit hn1 hn2 hd
          simp only [] at r0 r1 r2 hit hn1 hn2 hd
          have hres2 : R = (decide (0 ≤ first) && (decide (first ≤ 999999999) && (fitsB 8 its && ((s.map Prod.fst).drop (q + 1)).all fitS))) := by
            rw [hres.out, hd, List.all_cons, show fitS ⟨its, first, pl⟩ = (decide (0 ≤ first) && decide (first ≤ 999999999) && fitsB 8 its) from rfl, Bool.and_assoc, Bool.and_assoc]
          have HR2 := Lib.hid hres2
          have hsz := hk.size
          have hszb := hkb.size
          have HF := Lib.hid (fun W (hw : K0 wr W) => listFits_any W B vi its (hit.k0 (by omega) hw) (by have := hw.size; omega) 8 (by omega))
          clear hres hres2 hd hxe
          by_cases hf1 : 0 ≤ first
          · by_cases hf2 : first ≤ 999999999
            · rw [decide_eq_true hf1, decide_eq_true hf2, Bool.true_and, Bool.true_and] at HR2
              cases hf : fitsB 8 its with
              | false =>
                rw [hf] at HF HR2
                have hres : R = false := by rw [HR2.out]; rfl
                subst hres
                clear hf
                go_wp2_with (go_at_call 80; refine (HF.out _ (Kp.refl _ _)).mono ?_; rintro e w2 ⟨rfl, hk2⟩)
                go_ret
                exact ⟨rfl, (hkb.trans hk).trans hk2⟩
              | true =>
                rw [hf, Bool.true_and] at HR2
                rw [hf] at HF
                clear hf
                go_wp2_with (go_at_call 80; refine (HF.out _ (Kp.refl _ _)).mono ?_; rintro e w2 ⟨rfl, hk2⟩)
                exact ⟨⟨q + 1, by omega, by go_num, hk.trans hk2, Lib.hid HR2.out⟩, by simp [intOf]; omega⟩
            · have hres : R = false := by rw [HR2.out, decide_eq_false hf2]; simp
              subst hres
              go_wp2
              go_ret
              exact ⟨rfl, hkb.trans hk⟩
          · have hres : R = false := by rw [HR2.out, decide_eq_false hf1]; simp
            subst hres
            go_wp2
            go_ret
            exact ⟨rfl, hkb.trans hk⟩
        · obtain rfl : q = s.length := by omega
          have hfin := hres.out
          rw [show (s.map Prod.fst).drop s.length = [] by rw [List.drop_eq_nil_iff]; simp, List.all_nil] at hfin
          subst hfin
          go_wp2
          go_ret
          exact ⟨rfl, hkb.trans hk⟩
end Go.Proofs.YtobofhiakgohfaaGreatDoor

namespace Go.Proofs.YtobofhiakgohfaaGreatDoor
open Go.RowKit

/-- What Print answers. -/
def printR (d : DescD) : List UInt8 × Int := if fitD d = true then (txtID d, 0) else ([], 70)
theorem txtID_len {d : DescD} (h : fitD d = true) : (txtID d).length ≤ 32768 := by
  unfold fitD at h
  simp only [Bool.and_eq_true, decide_eq_true_eq] at h
  have h1 := flatMap_len (f := txtIC) (b := 600) (fun x hx => (fitC_len hx).1) _ h.1.2
  have h2 := flatMap_len (f := txtIS) (b := 200) (fun x hx => (fitS_len hx).1) _ h.2
  unfold txtID
  rw [List.length_append]
  have h3 := h.1.1.1
  have h4 := h.1.1.2
  omega

/-- A sum of two strings, as a letter. -/
theorem str_sum (a b : ByteArray) (h : a.size + b.size ≤ 9223372036854775807) : ∃ c : ByteArray, c.data.toList = a.data.toList ++ b.data.toList ∧ c.size = a.size + b.size ∧ (∀ W, (Op.stringOp .add a b).run Tryz.prog W = .ok (.string c) W) ∧ ∀ W, (binOp .add 9 (.string a) (.string b)).run Tryz.prog W = .ok (.string c) W := by
  refine ⟨a ++ b, by simp, by simp, fun W => run_string_add_sum W a b h, fun W => ?_⟩
  have e := run_string_add_sum (P := Tryz.prog) W a b h
  simp [binOp, e]
end Go.Proofs.YtobofhiakgohfaaGreatDoor

namespace Go.Proofs.YtobofhiakgohfaaGreatDoor
open Go.RowKit

theorem cls_len {p : List (ClassD × Value)} {w : World} {B : Nat} (h : ∀ x ∈ p, ItemsV w B x.2 x.1.its ∧ x.1.nm.size ≤ 1048576) (q : Nat) : (((p.map Prod.fst).take q).flatMap txtPC).length ≤ 33554432 * p.length := by
  have h1 := flatMap_bd (f := txtPC) (b := 33554432) ((p.map Prod.fst).take q) (fun x hx => by
    have hx := List.mem_of_mem_take hx
    simp only [List.mem_map] at hx
    obtain ⟨y, hy, rfl⟩ := hx
    obtain ⟨⟨_, _, _, _, _, hl, _⟩, hn⟩ := h y hy
    exact txtPC_len _ hn hl)
  have h2 : ((p.map Prod.fst).take q).length ≤ p.length := by simp; omega
  have := Nat.mul_le_mul_left 33554432 h2
  omega
theorem shs_len {p : List (ShapeD × Value)} {w : World} {B : Nat} (h : ∀ x ∈ p, ItemsV w B x.2 x.1.its ∧ -9223372036854775808 ≤ x.1.first ∧ x.1.first ≤ 9223372036854775807) (q : Nat) : (((p.map Prod.fst).take q).flatMap txtPS).length ≤ 33554432 * p.length := by
  have h1 := flatMap_bd (f := txtPS) (b := 33554432) ((p.map Prod.fst).take q) (fun x hx => by
    have hx := List.mem_of_mem_take hx
    simp only [List.mem_map] at hx
    obtain ⟨y, hy, rfl⟩ := hx
    obtain ⟨⟨_, _, _, _, _, hl, _⟩, hn⟩ := h y hy
    exact txtPS_len _ hn.1 hn.2 hl)
  have h2 : ((p.map Prod.fst).take q).length ≤ p.length := by simp; omega
  have := Nat.mul_le_mul_left 33554432 h2
  omega

set_option maxRecDepth 100000 in
set_option maxHeartbeats 16000000 in
theorem print_any (w : World) (B : Nat) (v : Value) (d : DescD) (hv : DescV w B v d) (hB : B ≤ w.heap.size) (hP : PowV w) :
    Calls Tryz.prog 18 #[v] w fun e w' => e = .returned (.tuple #[.string ⟨(printR d).1.toArray⟩, .int .i64 (printR d).2]) ∧ K0 w w' := by
  obtain ⟨cls, shs⟩ := d
  obtain ⟨vc, vs, rfl, ⟨p, A, c, rfl, rfl, hc1, hc2, hc3, hcr, hci⟩, ⟨s, A2, c2, rfl, rfl, hs1, hs2, hs3, hsr, hsi⟩⟩ := hv
  have BX := Lib.hid (fun W => box_at (w := w) (W := W) (t := 42) (a := .slice A p.length c) (b := .slice A2 s.length c2))
  have hkb : K0 w (w.alloc (.cells #[.slice A p.length c, .slice A2 s.length c2] 42)) := (Kp.refl _ _).alloc _
  have LC := Lib.hid (fun q => cls_len hci q)
  have LS := Lib.hid (fun q => shs_len hsi q)
  have HC := Lib.hid (fun W hk q hlt => cls_at (W := W) (q := q) hcr hci hB hk hlt)
  have HS := Lib.hid (fun W hk q hlt => shs_at (W := W) (q := q) hsr hsi hB hk hlt)
  clear hcr hci hsr hsi
  obtain ⟨R, hR⟩ : ∃ R, R = fitD ⟨p.map Prod.fst, s.map Prod.fst⟩ := ⟨_, rfl⟩
  have hX : printR ⟨p.map Prod.fst, s.map Prod.fst⟩ = if R = true then (txtPD ⟨p.map Prod.fst, s.map Prod.fst⟩, 0) else ([], 70) := by
    unfold printR
    rw [hR]
    split
    · rename_i h; rw [txtD_eq h]
    · rfl
  rw [hX]
  unfold fitD at hR
  simp only [List.length_map] at hR
  obtain ⟨b0, hb0, hcase⟩ : ∃ b0, b0 = (decide (p.length ≤ 32) && decide (s.length ≤ 32)) ∧ ((b0 = true ∧ p.length ≤ 32 ∧ s.length ≤ 32) ∨ (b0 = false ∧ p.length ≤ 32 ∧ 32 < s.length) ∨ (b0 = false ∧ 32 < p.length ∧ 0 ≤ s.length)) := by
    refine ⟨_, rfl, ?_⟩
    by_cases h1 : p.length ≤ 32
    · by_cases h2 : s.length ≤ 32
      · exact .inl ⟨by simp [h1, h2], h1, h2⟩
      · exact .inr (.inl ⟨by simp [h2], h1, by omega⟩)
    · exact .inr (.inr ⟨by simp [h1], by omega, by omega⟩)
  have HR := Lib.hid (show R = (b0 && (p.map Prod.fst).all fitC && (s.map Prod.fst).all fitS) by rw [hR, hb0])
  clear hR hb0 hX
  have hR0 : R = false ∨ R = true := by cases R <;> simp
  obtain ⟨y0, y1⟩ := BX.out _ (Kp.refl _ _)
  rcases hcase with ⟨rfl, c1, c2'⟩ | ⟨rfl, c1, c2'⟩ | ⟨rfl, c1, c2'⟩
  all_goals
    go_enter Tryz.func18, Tryz.ntmps18
    go_wp2
    obtain ⟨w0, hw0⟩ : ∃ w0, w0 = w.alloc (.cells #[.slice A p.length c, .slice A2 s.length c2] 42) := ⟨_, rfl⟩
    rw [← hw0] at BX hkb y0 y1 ⊢
    have hs0 : w.heap.size + 1 = w0.heap.size := by rw [hw0]; simp
    clear hw0 y0 y1
    rw [hs0]
    have hbd0 := bd_new w0 w0.heap.size (Nat.le_refl _)
    have hbl0 : Below w0.heap.size w0 (w0.alloc (.cells #[.pointer none, .slice none 0 0] 94)) := (Below.refl _ _).alloc (Nat.le_refl _) _
    go_loopw [5, 27] (fun ok i wr => ∃ (q : Nat) (b : Bool), q ≤ p.length ∧ i = .int .i64 (q : Int) ∧ ok = .bool b ∧ Hid (R = (b && ((p.map Prod.fst).drop q).all fitC && (s.map Prod.fst).all fitS)) ∧ BdV wr w0.heap.size w0.heap.size (((p.map Prod.fst).take q).flatMap txtPC) ∧ Below w0.heap.size w0 wr) (fun ok i wr => p.length - (intOf i).toNat)
    case atStart => exact ⟨0, _, by omega, rfl, rfl, Lib.hid (by first | exact HR.out | (rw [HR.out, show decide ((s.length : Int) ≤ 32) = true from decide_eq_true (by omega)]; rfl) | (rw [HR.out, show decide ((s.length : Int) ≤ 32) = false from decide_eq_false (by omega)]; rfl)), hbd0, hbl0⟩
    case round =>
      obtain ⟨q, b, hq, rfl, rfl, hres, hbd, hbl⟩ := hrel
      have hk : K0 w0 wr := Kp.of_below hbl
      obtain ⟨b0, b1⟩ := BX.out _ hk
      have hsz := hk.size
      by_cases hlt : q < p.length
      · obtain ⟨ad, rfl, hbk, r0, r1, r2, hit, hnz⟩ := HC.out _ (hkb.trans hk) q hlt
        have hd := drop_fst p hlt
        have ht : ((p.map Prod.fst).take (q + 1)).flatMap txtPC = ((p.map Prod.fst).take q).flatMap txtPC ++ txtPC p[q].1 := by rw [take_fst p hlt]; simp
        have hln := LC.out q
        have hln1 := LC.out (q + 1)
        rw [ht, List.length_append] at hln1
        have hitl : p[q].1.its.length ≤ 1048576 := by obtain ⟨_, _, _, _, _, h, _⟩ := hit; exact h
        have htl := txtPs_len p[q].1.its
        obtain ⟨⟨⟨nm, its, pl⟩, vi⟩, hxe⟩ : ∃ x, x = p[q] := ⟨_, rfl⟩
        rw [← hxe] at r0 r1 r2 hit hnz hd ht hln1 hitl htl
        simp only [] at r0 r1 r2 hit hnz hd ht hln1 hitl htl
        obtain ⟨A3, c3, rfl, _⟩ := id hit
        have hres2 : R = (b && fitsB 32 its && nameB nm.data.toList && ((p.map Prod.fst).drop (q + 1)).all fitC && (s.map Prod.fst).all fitS) := by
          rw [hres.out, hd, List.all_cons, show fitC ⟨nm, its, pl⟩ = (nameB nm.data.toList && fitsB 32 its) from rfl]
          cases b <;> cases nameB nm.data.toList <;> cases fitsB 32 its <;> rfl
        have HR2 := Lib.hid hres2
        have HT := Lib.hid ht
        have HN := Lib.hid (fun W => name_any nm W (by omega))
        have hszb := hkb.size
        have HI := Lib.hid (fun W (hw : K0 wr W) => items_any W B _ its (hit.k0 (by omega) hw) (by have := hw.size; omega) 32 (by omega))
        obtain ⟨L, hL⟩ : ∃ L, L = txtPs its := ⟨_, rfl⟩
        have hLC : txtPC ⟨nm, its, pl⟩ = kwC ++ nm.data.toList ++ L ++ [10] := by rw [hL]; rfl
        rw [hLC] at HT hln1
        rw [← hL] at HI htl
        obtain ⟨sL, hsL⟩ : ∃ sL : ByteArray, (⟨L.toArray⟩ : ByteArray) = sL := ⟨_, rfl⟩
        have hLL : L = sL.data.toList := by rw [← hsL]
        have hLs : sL.data.toList.length = sL.size := by simp
        rw [hsL] at HI
        rw [hLL] at htl
        have hns : nm.data.toList.length = nm.size := by simp
        obtain ⟨s1, e1, z1, a1, b1'⟩ := str_sum ⟨#[99, 108, 97, 115, 115, 32]⟩ nm (by show 6 + nm.size ≤ _; omega)
        rw [show (⟨#[99, 108, 97, 115, 115, 32]⟩ : ByteArray).size = 6 from rfl] at z1
        obtain ⟨s2, e2, z2, a2, b2⟩ := str_sum s1 sL (by omega)
        obtain ⟨s3, e3, z3, a3, b3⟩ := str_sum s2 ⟨#[10]⟩ (by show s2.size + 1 ≤ _; omega)
        rw [show (⟨#[10]⟩ : ByteArray).size = 1 from rfl] at z3
        have HE := Lib.hid (show s3.data.toList = kwC ++ nm.data.toList ++ L ++ [10] by rw [e3, e2, e1, hLL]; rfl)
        have hs3 : s3.size ≤ 33554432 := by omega
        clear hres hres2 hd hxe hL hLC hsL hLL hLs e1 e2 e3 z1 z2 z3 hns ht hln1 htl
        have yb := Blk.new wr 51 #[.string nm, .slice A3 its.length c3, .int .i64 pl]
        have hkn : K0 wr (wr.alloc (.cells #[.string nm, .slice A3 its.length c3, .int .i64 pl] 51)) := (Kp.refl _ _).alloc _
        have YB := Lib.hid (fun W (h : K0 (wr.alloc (.cells #[.string nm, .slice A3 its.length c3, .int .i64 pl] 51)) W) => show W.cell? ⟨wr.heap.size, 0, none⟩ = some (.string nm) ∧ W.cell? ⟨wr.heap.size, 1, none⟩ = some (.slice A3 its.length c3) from ⟨(yb.kp h (fun h => h)).cell 0, (yb.kp h (fun h => h)).cell 1⟩)
        cases b with
        | false =>
          go_wp2_with (go_at_call 33; refine (HI.out _ hkn).mono ?_; rintro e w1 ⟨rfl, hk1⟩; obtain ⟨x0, x1⟩ := YB.out _ hk1; have kA : K0 wr w1 := hkn.trans hk1)
          have hbd1 := hbd.k0 kA
          refine (writeString_any _ _ _ s3 _ hbd1 (by omega)).mono ?_
          rintro e w2 ⟨rfl, hbd2, hk2⟩
          rw [HE.out, ← HT.out] at hbd2
          go_wp2
          exact ⟨⟨q + 1, _, by omega, by go_num, rfl, Lib.hid HR2.out, hbd2, (hbl.trans (kA.below.mono hsz)).trans hk2⟩, by simp [intOf]; omega⟩
        | true =>
          cases hf : fitsB 32 its with
          | false =>
            rw [hf] at HI HR2
            clear hf
            go_wp2_with (go_at_call 33; refine (HI.out _ hkn).mono ?_; rintro e w1 ⟨rfl, hk1⟩; obtain ⟨x0, x1⟩ := YB.out _ hk1; have kA : K0 wr w1 := hkn.trans hk1)
            have hbd1 := hbd.k0 kA
            refine (writeString_any _ _ _ s3 _ hbd1 (by omega)).mono ?_
            rintro e w2 ⟨rfl, hbd2, hk2⟩
            rw [HE.out, ← HT.out] at hbd2
            go_wp2
            exact ⟨⟨q + 1, _, by omega, by go_num, rfl, Lib.hid HR2.out, hbd2, (hbl.trans (kA.below.mono hsz)).trans hk2⟩, by simp [intOf]; omega⟩
          | true =>
            rw [hf] at HI HR2
            clear hf
            go_wp2_with (first
              | (go_at_call 33; refine (HI.out _ hkn).mono ?_; rintro e w1 ⟨rfl, hk1⟩; obtain ⟨x0, x1⟩ := YB.out _ hk1; have kA : K0 wr w1 := hkn.trans hk1)
              | (go_at_call 34; refine (HN.out _).mono ?_; rintro e w3 ⟨rfl, hk3⟩; obtain ⟨x0, x1⟩ := YB.out _ (hk1.trans hk3); have kB : K0 wr w3 := kA.trans hk3))
            have hbd1 := hbd.k0 kB
            refine (writeString_any _ _ _ s3 _ hbd1 (by omega)).mono ?_
            rintro e w2 ⟨rfl, hbd2, hk2⟩
            rw [HE.out, ← HT.out] at hbd2
            go_wp2
            exact ⟨⟨q + 1, _, by omega, by go_num, rfl, Lib.hid HR2.out, hbd2, (hbl.trans (kB.below.mono hsz)).trans hk2⟩, by simp [intOf]; omega⟩
      · obtain rfl : q = p.length := by omega
        have hfin := hres.out
        rw [show (p.map Prod.fst).drop p.length = [] by rw [List.drop_eq_nil_iff]; simp, List.all_nil, Bool.and_true] at hfin
        rw [show (p.map Prod.fst).take p.length = p.map Prod.fst by rw [List.take_of_length_le]; simp] at hbd
        have HR3 := Lib.hid hfin
        have hlc := LC.out p.length
        rw [show (p.map Prod.fst).take p.length = p.map Prod.fst by rw [List.take_of_length_le]; simp] at hlc
        clear hfin hres HC
        obtain ⟨X, hX⟩ : ∃ X, X = (p.map Prod.fst).flatMap txtPC := ⟨_, rfl⟩
        rw [← hX] at hbd hlc
        have HX := Lib.hid hX
        clear hX
        go_wp2
        obtain ⟨wm, hwm⟩ : ∃ wm, wm = wr := ⟨_, rfl⟩
        have hblm : Below w0.heap.size w0 wm := by rw [hwm]; exact hbl
        have hbdm : BdV wm w0.heap.size w0.heap.size X := by rw [hwm]; exact hbd
        rw [← hwm]
        clear hwm b0 b1
        go_loopw [5, 57] (fun ok i wr => ∃ (q : Nat) (b : Bool), q ≤ s.length ∧ i = .int .i64 (q : Int) ∧ ok = .bool b ∧ Hid (R = (b && ((s.map Prod.fst).drop q).all fitS)) ∧ BdV wr w0.heap.size w0.heap.size (X ++ ((s.map Prod.fst).take q).flatMap txtPS) ∧ Below w0.heap.size w0 wr) (fun ok i wr => s.length - (intOf i).toNat)
        case atStart => exact ⟨0, _, by omega, rfl, rfl, Lib.hid HR3.out, by simpa using hbdm, hblm⟩
        case round =>
          obtain ⟨q, b, hq, rfl, rfl, hres, hbd, hbl⟩ := hrel
          have hk : K0 w0 wr := Kp.of_below hbl
          obtain ⟨b0, b1⟩ := BX.out _ hk
          have hsz := hk.size
          by_cases hlt : q < s.length
          · obtain ⟨ad, rfl, hbk, r0, r1, r2, hit, hn1, hn2⟩ := HS.out _ (hkb.trans hk) q hlt
            have hd := drop_fst s hlt
            have ht : X ++ ((s.map Prod.fst).take (q + 1)).flatMap txtPS = X ++ ((s.map Prod.fst).take q).flatMap txtPS ++ txtPS s[q].1 := by rw [take_fst s hlt]; simp
            have hln := LS.out q
            have hln0 : (X ++ ((s.map Prod.fst).take q).flatMap txtPS).length = X.length + (((s.map Prod.fst).take q).flatMap txtPS).length := List.length_append
            have hitl : s[q].1.its.length ≤ 1048576 := by obtain ⟨_, _, _, _, _, h, _⟩ := hit; exact h
            have htl := txtPs_len s[q].1.its
            obtain ⟨⟨⟨its, first, pl⟩, vi⟩, hxe⟩ : ∃ x, x = s[q] := ⟨_, rfl⟩
            rw [← hxe] at r0 r1 r2 hit hn1 hn2 hd ht hitl htl
            simp only [] at r0 r1 r2 hit hn1 hn2 hd ht hitl htl
            obtain ⟨A3, c3, rfl, _⟩ := id hit
            have hres2 : R = (b && fitsB 8 its && decide (0 ≤ first) && decide (first ≤ 999999999) && ((s.map Prod.fst).drop (q + 1)).all fitS) := by
              rw [hres.out, hd, List.all_cons, show fitS ⟨its, first, pl⟩ = (decide (0 ≤ first) && decide (first ≤ 999999999) && fitsB 8 its) from rfl]
              cases b <;> cases decide (0 ≤ first) <;> cases decide (first ≤ 999999999) <;> cases fitsB 8 its <;> rfl
            have HR2 := Lib.hid hres2
            have HT := Lib.hid ht
            have hszb := hkb.size
            have HI := Lib.hid (fun W (hw : K0 wr W) => items_any W B _ its (hit.k0 (by omega) hw) (by have := hw.size; omega) 8 (by omega))
            have HD := Lib.hid (fun W h => itoa_any first W hn1 hn2 h)
            have hil := itoa_len' hn1 hn2
            obtain ⟨L, hL⟩ : ∃ L, L = txtPs its := ⟨_, rfl⟩
            obtain ⟨I, hI⟩ : ∃ I, I = Lib.itoa first := ⟨_, rfl⟩
            have hLC : txtPS ⟨its, first, pl⟩ = kwS ++ L ++ kwA ++ I ++ [10] := by rw [hL, hI]; rfl
            rw [hLC] at HT
            rw [← hL] at HI htl
            rw [← hI] at HD hil
            obtain ⟨sL, hsL⟩ : ∃ sL : ByteArray, (⟨L.toArray⟩ : ByteArray) = sL := ⟨_, rfl⟩
            have hLL : L = sL.data.toList := by rw [← hsL]
            have hLs : sL.data.toList.length = sL.size := by simp
            obtain ⟨sI, hsI⟩ : ∃ sI : ByteArray, (⟨I.toArray⟩ : ByteArray) = sI := ⟨_, rfl⟩
            have hII : I = sI.data.toList := by rw [← hsI]
            have hIs : sI.data.toList.length = sI.size := by simp
            rw [hsL] at HI
            rw [hLL] at htl
            rw [hsI] at HD
            rw [hII] at hil
            obtain ⟨s1, e1, z1, a1, b1'⟩ := str_sum ⟨#[115, 104, 97, 112, 101]⟩ sL (by show 5 + sL.size ≤ _; omega)
            rw [show (⟨#[115, 104, 97, 112, 101]⟩ : ByteArray).size = 5 from rfl] at z1
            obtain ⟨s2, e2, z2, a2, b2⟩ := str_sum s1 ⟨#[32, 97, 116, 32]⟩ (by show s1.size + 4 ≤ _; omega)
            rw [show (⟨#[32, 97, 116, 32]⟩ : ByteArray).size = 4 from rfl] at z2
            obtain ⟨s3, e3, z3, a3, b3⟩ := str_sum s2 sI (by omega)
            obtain ⟨s4, e4, z4, a4, b4⟩ := str_sum s3 ⟨#[10]⟩ (by show s3.size + 1 ≤ _; omega)
            rw [show (⟨#[10]⟩ : ByteArray).size = 1 from rfl] at z4
            have HE := Lib.hid (show s4.data.toList = kwS ++ L ++ kwA ++ I ++ [10] by rw [e4, e3, e2, e1, hLL, hII]; rfl)
            have hs4 : s4.size ≤ 33554432 := by omega
            clear hres hres2 hd hxe hL hLC hsL hLL hLs hI hsI hII hIs hil e1 e2 e3 e4 z1 z2 z3 z4 ht htl
            have yb := Blk.new wr 90 #[.slice A3 its.length c3, .int .i64 first, .int .i64 pl]
            have hkn : K0 wr (wr.alloc (.cells #[.slice A3 its.length c3, .int .i64 first, .int .i64 pl] 90)) := (Kp.refl _ _).alloc _
            have YB := Lib.hid (fun W (h : K0 (wr.alloc (.cells #[.slice A3 its.length c3, .int .i64 first, .int .i64 pl] 90)) W) => show W.cell? ⟨wr.heap.size, 0, none⟩ = some (.slice A3 its.length c3) ∧ W.cell? ⟨wr.heap.size, 1, none⟩ = some (.int .i64 first) from ⟨(yb.kp h (fun h => h)).cell 0, (yb.kp h (fun h => h)).cell 1⟩)
            cases b with
            | false =>
              go_wp2_with (first
                | (go_at_call 33; refine (HI.out _ hkn).mono ?_; rintro e w1 ⟨rfl, hk1⟩; obtain ⟨x0, x1⟩ := YB.out _ hk1; have kA : K0 wr w1 := hkn.trans hk1)
                | (go_at_call 36; refine (HD.out _ (hP.k0 ((hkb.trans hk).trans kA))).mono ?_; rintro e w3 ⟨rfl, hk3⟩; have kB : K0 wr w3 := kA.trans hk3))
              have hbd1 := hbd.k0 kB
              refine (writeString_any _ _ _ s4 _ hbd1 (by omega)).mono ?_
              rintro e w2 ⟨rfl, hbd2, hk2⟩
              rw [HE.out, ← HT.out] at hbd2
              go_wp2
              exact ⟨⟨q + 1, _, by omega, by go_num, rfl, Lib.hid HR2.out, hbd2, (hbl.trans (kB.below.mono hsz)).trans hk2⟩, by simp [intOf]; omega⟩
            | true =>
              cases hf : fitsB 8 its with
              | false =>
                rw [hf] at HI HR2
                clear hf
                go_wp2_with (first
                  | (go_at_call 33; refine (HI.out _ hkn).mono ?_; rintro e w1 ⟨rfl, hk1⟩; obtain ⟨x0, x1⟩ := YB.out _ hk1; have kA : K0 wr w1 := hkn.trans hk1)
                  | (go_at_call 36; refine (HD.out _ (hP.k0 ((hkb.trans hk).trans kA))).mono ?_; rintro e w3 ⟨rfl, hk3⟩; have kB : K0 wr w3 := kA.trans hk3))
                have hbd1 := hbd.k0 kB
                refine (writeString_any _ _ _ s4 _ hbd1 (by omega)).mono ?_
                rintro e w2 ⟨rfl, hbd2, hk2⟩
                rw [HE.out, ← HT.out] at hbd2
                go_wp2
                exact ⟨⟨q + 1, _, by omega, by go_num, rfl, Lib.hid HR2.out, hbd2, (hbl.trans (kB.below.mono hsz)).trans hk2⟩, by simp [intOf]; omega⟩
              | true =>
                rw [hf] at HI HR2
                clear hf
                by_cases hf1 : 0 ≤ first
                · rw [decide_eq_true hf1] at HR2
                  go_wp2_with (first
                    | (go_at_call 33; refine (HI.out _ hkn).mono ?_; rintro e w1 ⟨rfl, hk1⟩; obtain ⟨x0, x1⟩ := YB.out _ hk1; have kA : K0 wr w1 := hkn.trans hk1)
                    | (go_at_call 36; refine (HD.out _ (hP.k0 ((hkb.trans hk).trans kA))).mono ?_; rintro e w3 ⟨rfl, hk3⟩; have kB : K0 wr w3 := kA.trans hk3))
                  have hbd1 := hbd.k0 kB
                  refine (writeString_any _ _ _ s4 _ hbd1 (by omega)).mono ?_
                  rintro e w2 ⟨rfl, hbd2, hk2⟩
                  rw [HE.out, ← HT.out] at hbd2
                  go_wp2
                  exact ⟨⟨q + 1, _, by omega, by go_num, rfl, Lib.hid HR2.out, hbd2, (hbl.trans (kB.below.mono hsz)).trans hk2⟩, by simp [intOf]; omega⟩
                · rw [decide_eq_false hf1] at HR2
                  go_wp2_with (first
                    | (go_at_call 33; refine (HI.out _ hkn).mono ?_; rintro e w1 ⟨rfl, hk1⟩; obtain ⟨x0, x1⟩ := YB.out _ hk1; have kA : K0 wr w1 := hkn.trans hk1)
                    | (go_at_call 36; refine (HD.out _ (hP.k0 ((hkb.trans hk).trans kA))).mono ?_; rintro e w3 ⟨rfl, hk3⟩; have kB : K0 wr w3 := kA.trans hk3))
                  have hbd1 := hbd.k0 kB
                  refine (writeString_any _ _ _ s4 _ hbd1 (by omega)).mono ?_
                  rintro e w2 ⟨rfl, hbd2, hk2⟩
                  rw [HE.out, ← HT.out] at hbd2
                  go_wp2
                  exact ⟨⟨q + 1, _, by omega, by go_num, rfl, Lib.hid HR2.out, hbd2, (hbl.trans (kB.below.mono hsz)).trans hk2⟩, by simp [intOf]; omega⟩
          · obtain rfl : q = s.length := by omega
            have hfin := hres.out
            rw [show (s.map Prod.fst).drop s.length = [] by rw [List.drop_eq_nil_iff]; simp, List.all_nil, Bool.and_true] at hfin
            rw [show (s.map Prod.fst).take s.length = s.map Prod.fst by rw [List.take_of_length_le]; simp, HX.out] at hbd
            subst hfin
            cases R with
            | false =>
              go_wp2
              go_ret2
              exact ⟨rfl, hkb.trans hk⟩
            | true =>
              go_wp2_with fail
              refine (Tryz.Builder_String_any _ _ _ _ hbd hsz).mono ?_
              rintro e w2 ⟨rfl, hk2⟩
              go_wp2
              go_ret2
              exact ⟨rfl, hkb.trans (Kp.of_below (hbl.trans hk2))⟩
end Go.Proofs.YtobofhiakgohfaaGreatDoor
