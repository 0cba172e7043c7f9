/- The document's Print. -/
import Derived.Test.YtobofhiakgohfaaDoorT27
set_option linter.unusedVariables false
set_option linter.unusedSimpArgs false
namespace Go.Proofs.YtobofhiakgohfaaDoor
open Go.RowKit

/-- What Print answers. -/
def printR (d : DescD) : List UInt8 × Int := if fitD d = true then (txtID d, 0) else ([], 70)
theorem txtID_len {d : DescD} (h : fitD d = true) : (txtID d).length ≤ 32768 := by
  unfold fitD at h
  simp only [Bool.and_eq_true, decide_eq_true_eq] at h
  have h1 := flatMap_len (f := txtIC) (b := 600) (fun x hx => (fitC_len hx).1) _ h.1.2
  have h2 := flatMap_len (f := txtIS) (b := 200) (fun x hx => (fitS_len hx).1) _ h.2
  unfold txtID
  rw [List.length_append]
  have h3 := h.1.1.1
  have h4 := h.1.1.2
  omega

/-- A sum of two strings, as a letter. -/
theorem str_sum (a b : ByteArray) (h : a.size + b.size ≤ 9223372036854775807) : ∃ c : ByteArray, c.data.toList = a.data.toList ++ b.data.toList ∧ c.size = a.size + b.size ∧ (∀ W, (Op.stringOp .add a b).run Tryd.prog W = .ok (.string c) W) ∧ ∀ W, (binOp .add 9 (.string a) (.string b)).run Tryd.prog W = .ok (.string c) W := by
  refine ⟨a ++ b, by simp, by simp, fun W => run_string_add_sum W a b h, fun W => ?_⟩
  have e := run_string_add_sum (P := Tryd.prog) W a b h
  simp [binOp, e]
theorem str_of {c : ByteArray} {l : List UInt8} (h : c.data.toList = l) : c = ⟨l.toArray⟩ := by
  refine ba_ext ?_
  simp [h]

set_option maxRecDepth 100000 in
set_option maxHeartbeats 16000000 in
theorem rprint_any (w : World) (B : Nat) (v : Value) (d : DescD) (hv : DescV w B v d) (hB : B ≤ w.heap.size) :
    Calls Tryd.prog 20 #[v] w fun e w' => e = .returned (.tuple #[.string ⟨(printR d).1.toArray⟩, .int .i64 (printR d).2]) ∧ K0 w w' := by
  have FT := Lib.hid (fun W (hw : K0 w W) => fits_any W B v d (hv.k0 hB hw) (by have := hw.size; omega))
  obtain ⟨cls, shs⟩ := d
  obtain ⟨vc, vs, rfl, ⟨p, A, c, rfl, rfl, hc1, hc2, hc3, hcr, hci⟩, ⟨s, A2, c2, rfl, rfl, hs1, hs2, hs3, hsr, hsi⟩⟩ := hv
  have BX := Lib.hid (fun W => box_at (w := w) (W := W) (t := 25) (a := .slice A p.length c) (b := .slice A2 s.length c2))
  have hkb : K0 w (w.alloc (.cells #[.slice A p.length c, .slice A2 s.length c2] 25)) := (Kp.refl _ _).alloc _
  obtain ⟨b0, b1⟩ := BX.out _ (Kp.refl _ _)
  unfold printR
  cases hfd : fitD ⟨p.map Prod.fst, s.map Prod.fst⟩ with
  | false =>
    rw [hfd] at FT
    rw [if_neg (by simp)]
    clear hfd
    go_enter Tryd.func20, Tryd.ntmps20
    go_wp2_with (go_at_call 49; refine (FT.out _ hkb).mono ?_; rintro e w1 ⟨rfl, hk1⟩)
    go_ret2
    exact ⟨rfl, hkb.trans hk1⟩
  | true =>
    rw [hfd] at FT
    rw [if_pos rfl]
    have hlen := txtID_len hfd
    have hall := hfd
    unfold fitD at hall
    simp only [Bool.and_eq_true, decide_eq_true_eq] at hall
    have hallc := hall.1.2
    have halls := hall.2
    obtain ⟨R, hR⟩ : ∃ R, R = txtID ⟨p.map Prod.fst, s.map Prod.fst⟩ := ⟨_, rfl⟩
    rw [← hR] at hlen ⊢
    have HR := Lib.hid hR
    have HAC := Lib.hid (fun q (hlt : q < p.length) => List.all_eq_true.1 hallc p[q].1 (by simp only [List.mem_map]; exact ⟨_, List.getElem_mem hlt, rfl⟩))
    have HAS := Lib.hid (fun q (hlt : q < s.length) => List.all_eq_true.1 halls s[q].1 (by simp only [List.mem_map]; exact ⟨_, List.getElem_mem hlt, rfl⟩))
    have HC := Lib.hid (fun W hk q hlt => cls_at (W := W) (q := q) hcr hci hB hk hlt)
    have HS := Lib.hid (fun W hk q hlt => shs_at (W := W) (q := q) hsr hsi hB hk hlt)
    clear hcr hci hsr hsi hR hfd hall hallc halls
    go_enter Tryd.func20, Tryd.ntmps20
    go_wp2_with (go_at_call 49; refine (FT.out _ hkb).mono ?_; rintro e w1 ⟨rfl, hk1⟩)
    obtain ⟨w0, hw0⟩ : ∃ w0, w0 = w.alloc (.cells #[.slice A p.length c, .slice A2 s.length c2] 25) := ⟨_, rfl⟩
    rw [← hw0] at BX hkb hk1
    have hs0 : w.heap.size < w0.heap.size := by rw [hw0]; simp
    clear hw0 b0 b1 FT
    go_loopw [4, 5] (fun a i wr => ∃ (q : Nat) (t : ByteArray), q ≤ p.length ∧ i = .int .i64 (q : Int) ∧ a = .string t ∧ K0 w0 wr ∧ Hid (R = t.data.toList ++ (((p.map Prod.fst).drop q).flatMap txtIC ++ (s.map Prod.fst).flatMap txtIS))) (fun a i wr => p.length - (intOf i).toNat)
    case atStart => exact ⟨0, ⟨#[]⟩, by omega, rfl, rfl, hk1, Lib.hid HR.out⟩
    case round =>
      obtain ⟨q, t, hq, rfl, rfl, hk, hres⟩ := hrel
      obtain ⟨b0, b1⟩ := BX.out _ hk
      by_cases hlt : q < p.length
      · obtain ⟨ad, rfl, hbl, r0, r1, r2, hit, hnz⟩ := HC.out _ (hkb.trans hk) q hlt
        have hd := drop_fst p hlt
        have hft := HAC.out q hlt
        obtain ⟨⟨⟨nm, its, pl⟩, vi⟩, hxe⟩ : ∃ x, x = p[q] := ⟨_, rfl⟩
        rw [← hxe] at r0 r1 r2 hit hnz hd hft
        simp only [] at r0 r1 r2 hit hnz hd hft
        obtain ⟨hl1, hl2, hl3⟩ := fitC_len hft
        have hallf : its.all fitB = true := by unfold fitC fitsB at hft; simp only [Bool.and_eq_true] at hft; exact hft.2.2
        simp only [] at hl2 hl3
        have hns : nm.data.toList.length = nm.size := by simp
        have hres2 : R = (t.data.toList ++ txtIC ⟨nm, its, pl⟩) ++ (((p.map Prod.fst).drop (q + 1)).flatMap txtIC ++ (s.map Prod.fst).flatMap txtIS) := by
          rw [hres.out, hd, List.flatMap_cons, List.append_assoc, List.append_assoc]
        have hRl := congrArg List.length hres2
        rw [List.length_append, List.length_append] at hRl
        have hts : t.data.toList.length = t.size := by simp
        have htl : t.size ≤ 32768 := by omega
        have HR2 := Lib.hid hres2
        have hsz := hk.size
        have hszb := hkb.size
        have HL := Lib.hid (fun W (hw : K0 wr W) => list2_any W B vi its (hit.k0 (by omega) hw) (by have := hw.size; omega) hallf)
        have RD := Lib.hid (fun W (hw : K0 wr W) => show W.cell? ⟨w.heap.size, 0, none⟩ = some (.slice (some ad) p.length c) ∧ W.cell? (ad.add (q * 3)) = some (.string nm) ∧ W.cell? ⟨(ad.add (q * 3)).block, (ad.add (q * 3)).off + 1, none⟩ = some vi from
          ⟨(BX.out _ (hk.trans hw)).1, (hw.cell (p := ad.add (q * 3)) (by rw [block_of_add]; omega) (fun h => h)).trans r0, (hw.cell (p := ⟨(ad.add (q * 3)).block, (ad.add (q * 3)).off + 1, none⟩) (by rw [block_of_add]; omega) (fun h => h)).trans r1⟩)
        obtain ⟨L, hL⟩ : ∃ L, L = txtIs its := ⟨_, rfl⟩
        have hLC : txtIC ⟨nm, its, pl⟩ = kwC ++ nm.data.toList ++ L ++ [10] := by rw [hL]; rfl
        rw [hLC] at HR2
        rw [← hL] at HL hl3
        obtain ⟨sL, hsL⟩ : ∃ sL : ByteArray, (⟨L.toArray⟩ : ByteArray) = sL := ⟨_, rfl⟩
        have hLL : L = sL.data.toList := by rw [← hsL]
        have hLs : sL.data.toList.length = sL.size := by simp
        rw [hsL] at HL
        rw [hLL] at hl3
        obtain ⟨s1, e1, z1, a1, b1'⟩ := str_sum ⟨#[99, 108, 97, 115, 115, 32]⟩ nm (by show 6 + nm.size ≤ _; omega)
        rw [show (⟨#[99, 108, 97, 115, 115, 32]⟩ : ByteArray).size = 6 from rfl] at z1
        obtain ⟨s2, e2, z2, a2, b2⟩ := str_sum s1 sL (by omega)
        obtain ⟨s3, e3, z3, a3, b3⟩ := str_sum s2 ⟨#[10]⟩ (by show s2.size + 1 ≤ _; omega)
        rw [show (⟨#[10]⟩ : ByteArray).size = 1 from rfl] at z3
        obtain ⟨s4, e4, z4, a4, b4⟩ := str_sum t s3 (by omega)
        have HE := Lib.hid (show s4.data.toList = t.data.toList ++ (kwC ++ nm.data.toList ++ L ++ [10]) by rw [e4, e3, e2, e1, hLL]; rfl)
        clear hres hres2 hd hxe hRl hft hallf hl1 hL hLC hsL hLL hLs e1 e2 e3 e4 z1 z2 z3 z4 hns hts
        go_wp2
        have kk0 : K0 wr wr := Kp.refl _ _
        go_region_held3 (fun w' => w'.cell? ⟨w.heap.size, 0, none⟩ = some (.slice (some ad) p.length c) ∧ w'.cell? (ad.add (q * 3)) = some (.string nm) ∧ w'.cell? ⟨(ad.add (q * 3)).block, (ad.add (q * 3)).off + 1, none⟩ = some vi)
          (first | go_keep | exact RD.out _ kk5)
          ((go_at_call 50; refine (HL.out _ (by exact kk0.drew)).mono ?_; rintro e w5 ⟨rfl, hk5⟩; have kk5 : K0 wr w5 := kk0.drew.trans hk5))
        go_wp2
        exact ⟨⟨q + 1, s4, by omega, by go_num, rfl, hk.trans kk5, Lib.hid (by rw [HE.out, HR2.out])⟩, by simp [intOf]; omega⟩
      · obtain rfl : q = p.length := by omega
        have hfin := hres.out
        rw [show (p.map Prod.fst).drop p.length = [] by rw [List.drop_eq_nil_iff]; simp, List.flatMap_nil, List.nil_append] at hfin
        have HR3 := Lib.hid hfin
        clear hfin hres HC
        go_wp2
        obtain ⟨wm, hwm⟩ : ∃ wm, wm = wr := ⟨_, rfl⟩
        have hkm : K0 w0 wm := by rw [hwm]; exact hk
        rw [← hwm]
        clear hwm b0 b1
        go_loopw [4, 6] (fun a i wr => ∃ (q : Nat) (t : ByteArray), q ≤ s.length ∧ i = .int .i64 (q : Int) ∧ a = .string t ∧ K0 w0 wr ∧ Hid (R = t.data.toList ++ ((s.map Prod.fst).drop q).flatMap txtIS)) (fun a i wr => s.length - (intOf i).toNat)
        case atStart => exact ⟨0, t, by omega, rfl, rfl, hkm, Lib.hid HR3.out⟩
        case round =>
          obtain ⟨q, t, hq, rfl, rfl, hk, hres⟩ := hrel
          obtain ⟨b0, b1⟩ := BX.out _ hk
          by_cases hlt : q < s.length
          · obtain ⟨ad, rfl, hbl, r0, r1, r2, hit, hn1, hn2⟩ := HS.out _ (hkb.trans hk) q hlt
            have hd := drop_fst s hlt
            have hft := HAS.out q hlt
            obtain ⟨⟨⟨its, first, pl⟩, vi⟩, hxe⟩ : ∃ x, x = s[q] := ⟨_, rfl⟩
            rw [← hxe] at r0 r1 r2 hit hn1 hn2 hd hft
            simp only [] at r0 r1 r2 hit hn1 hn2 hd hft
            obtain ⟨hl1, hl3⟩ := fitS_len hft
            have hft2 := hft
            unfold fitS fitsB at hft2
            simp only [Bool.and_eq_true, decide_eq_true_eq] at hft2
            have hallf : its.all fitB = true := hft2.2.2
            have hp1 : 0 ≤ first := hft2.1.1
            have hp2 : first ≤ 999999999 := hft2.1.2
            have hit9 := itoa_len hp1 hp2
            simp only [] at hl3
            have hres2 : R = (t.data.toList ++ txtIS ⟨its, first, pl⟩) ++ ((s.map Prod.fst).drop (q + 1)).flatMap txtIS := by
              rw [hres.out, hd, List.flatMap_cons, List.append_assoc]
            have hRl := congrArg List.length hres2
            rw [List.length_append, List.length_append] at hRl
            have hts : t.data.toList.length = t.size := by simp
            have htl : t.size ≤ 32768 := by omega
            have HR2 := Lib.hid hres2
            have hsz := hk.size
            have hszb := hkb.size
            have HL := Lib.hid (fun W (hw : K0 wr W) => list2_any W B vi its (hit.k0 (by omega) hw) (by have := hw.size; omega) hallf)
            have HD := Lib.hid (fun W => decimal_any first W hp1 hp2)
            have RD := Lib.hid (fun W (hw : K0 wr W) => show W.cell? ⟨w.heap.size, 1, none⟩ = some (.slice (some ad) s.length c2) ∧ W.cell? (ad.add (q * 3)) = some vi ∧ W.cell? ⟨(ad.add (q * 3)).block, (ad.add (q * 3)).off + 1, none⟩ = some (.int .i64 first) from
              ⟨(BX.out _ (hk.trans hw)).2, (hw.cell (p := ad.add (q * 3)) (by rw [block_of_add]; omega) (fun h => h)).trans r0, (hw.cell (p := ⟨(ad.add (q * 3)).block, (ad.add (q * 3)).off + 1, none⟩) (by rw [block_of_add]; omega) (fun h => h)).trans r1⟩)
            obtain ⟨L, hL⟩ : ∃ L, L = txtIs its := ⟨_, rfl⟩
            obtain ⟨I, hI⟩ : ∃ I, I = Lib.itoa first := ⟨_, rfl⟩
            have hLC : txtIS ⟨its, first, pl⟩ = kwS ++ L ++ kwA ++ I ++ [10] := by rw [hL, hI]; rfl
            rw [hLC] at HR2
            rw [← hL] at HL hl3
            rw [← hI] at HD hit9
            obtain ⟨sL, hsL⟩ : ∃ sL : ByteArray, (⟨L.toArray⟩ : ByteArray) = sL := ⟨_, rfl⟩
            have hLL : L = sL.data.toList := by rw [← hsL]
            have hLs : sL.data.toList.length = sL.size := by simp
            obtain ⟨sI, hsI⟩ : ∃ sI : ByteArray, (⟨I.toArray⟩ : ByteArray) = sI := ⟨_, rfl⟩
            have hII : I = sI.data.toList := by rw [← hsI]
            have hIs : sI.data.toList.length = sI.size := by simp
            rw [hsL] at HL
            rw [hLL] at hl3
            rw [hsI] at HD
            rw [hII] at hit9
            obtain ⟨s1, e1, z1, a1, b1'⟩ := str_sum ⟨#[115, 104, 97, 112, 101]⟩ sL (by show 5 + sL.size ≤ _; omega)
            rw [show (⟨#[115, 104, 97, 112, 101]⟩ : ByteArray).size = 5 from rfl] at z1
            obtain ⟨s2, e2, z2, a2, b2⟩ := str_sum s1 ⟨#[32, 97, 116, 32]⟩ (by show s1.size + 4 ≤ _; omega)
            rw [show (⟨#[32, 97, 116, 32]⟩ : ByteArray).size = 4 from rfl] at z2
            obtain ⟨s3, e3, z3, a3, b3⟩ := str_sum s2 sI (by omega)
            obtain ⟨s4, e4, z4, a4, b4⟩ := str_sum s3 ⟨#[10]⟩ (by show s3.size + 1 ≤ _; omega)
            rw [show (⟨#[10]⟩ : ByteArray).size = 1 from rfl] at z4
            obtain ⟨s5, e5, z5, a5, b5⟩ := str_sum t s4 (by omega)
            have HE := Lib.hid (show s5.data.toList = t.data.toList ++ (kwS ++ L ++ kwA ++ I ++ [10]) by rw [e5, e4, e3, e2, e1, hLL, hII]; rfl)
            clear hres hres2 hd hxe hRl hft hft2 hallf hl1 hL hLC hsL hLL hLs hI hsI hII hIs hit9 e1 e2 e3 e4 e5 z1 z2 z3 z4 z5 hts
            go_wp2
            have kk0 : K0 wr wr := Kp.refl _ _
            go_region_held3 (fun w' => w'.cell? ⟨w.heap.size, 1, none⟩ = some (.slice (some ad) s.length c2) ∧ w'.cell? (ad.add (q * 3)) = some vi ∧ w'.cell? ⟨(ad.add (q * 3)).block, (ad.add (q * 3)).off + 1, none⟩ = some (.int .i64 first))
              (first | go_keep | exact RD.out _ kk5)
              ((first
                | (go_at_call 50; refine (HL.out _ (by first | exact kk5 | exact kk0.drew)).mono ?_; rintro e w5 ⟨rfl, hk5⟩; have kk5 : K0 wr w5 := Kp.trans (by first | exact kk5 | exact kk0.drew) hk5)
                | (go_at_call 51; refine (HD.out _).mono ?_; rintro e w5 ⟨rfl, hk5⟩; have kk5 : K0 wr w5 := Kp.trans (by first | exact kk5 | exact kk0.drew) hk5)))
            all_goals
              go_wp2
              exact ⟨⟨q + 1, s5, by omega, by go_num, rfl, hk.trans kk5, Lib.hid (by rw [HE.out, HR2.out])⟩, by simp [intOf]; omega⟩
          · obtain rfl : q = s.length := by omega
            have hfin := hres.out
            rw [show (s.map Prod.fst).drop s.length = [] by rw [List.drop_eq_nil_iff]; simp, List.flatMap_nil, List.append_nil] at hfin
            have hfin2 := str_of hfin.symm
            go_wp2
            go_ret2
            exact ⟨by rw [hfin2]; rfl, hkb.trans hk⟩
end Go.Proofs.YtobofhiakgohfaaDoor
