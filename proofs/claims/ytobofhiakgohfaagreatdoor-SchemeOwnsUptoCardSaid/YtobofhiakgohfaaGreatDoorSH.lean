/- The document's Size, Count, meet, ValidShape, Valid. The document's ValidShape and Valid. -/
import Derived.Test.YtobofhiakgohfaaGreatDoorSG
import Derived.Test.YtobofhiakgohfaaGreatDoorSF
set_option linter.unusedVariables false
set_option linter.unusedSimpArgs false
namespace Go.Proofs.YtobofhiakgohfaaGreatDoor
open Go.RowKit

theorem cnt_snoc (m : Int → Bool) (x : Nat) : cnt m 0 (x + 1) = cnt m 0 x + (if m (x : Int) = true then 1 else 0) := by
  rw [cnt_add]
  simp [cnt]
theorem cnt_bd (m : Int → Bool) : ∀ (n : Nat) (a : Int), 0 ≤ cnt m a n ∧ cnt m a n ≤ n
  | 0, a => by simp [cnt]
  | n + 1, a => by
    have := cnt_bd m n (a + 1)
    rw [cnt]
    split <;> omega

set_option maxRecDepth 100000 in
set_option maxHeartbeats 4000000 in
theorem size82_any (w : World) (A : Option Addr) (c : Nat) (l : List Sp) (hr : Reads w w.heap.size 2 A l.length (spcs l)) (hl : l.length ≤ 1048576) :
    Calls Tryz.prog 82 #[.slice A l.length c] w fun e w' => e = .returned (.int .i64 (szB l)) ∧ K0 w w' := by
  have ME := Lib.hid (members_any w A c l hr hl)
  have hsz := size_cnt l
  obtain ⟨M, hM⟩ : ∃ M : Int → Bool, M = memB l := ⟨_, rfl⟩
  rw [show (fun x => okS 255 l && l.any fun r => decide (r.1 ≤ x ∧ x ≤ r.2)) = M by rw [hM]; rfl] at ME
  rw [← hM] at hsz
  rw [← hsz]
  have HC := Lib.hid (fun (x : Nat) => cnt_snoc M x)
  have HB := Lib.hid (fun (x : Nat) => cnt_bd M x 0)
  clear hM hsz
  go_enter Tryz.func82, Tryz.ntmps82
  go_wp2_with fail
  refine ME.out.mono ?_
  rintro e w1 ⟨rfl, hk1⟩
  have y1 := Blk.new w1 110 (arrM noneM)
  have k2 : K0 w (w1.alloc (.cells (arrM noneM) 110)) := hk1.alloc _
  have hst := storeArr (m := M) y1 (arr_size _)
  have y2 := y1.setRow (arrM M)
  have k3 : K0 w ((w1.alloc (.cells (arrM noneM) 110)).setRow w1.heap.size (arrM M)) := k2.setRow (.inl hk1.size) _
  have hz : Tryz.zeroCells110 = arrM noneM := by kernel_rfl
  have ha := alloc110 w1
  obtain ⟨w3, hw3⟩ : ∃ w3, w3 = (w1.alloc (.cells (arrM noneM) 110)).setRow w1.heap.size (arrM M) := ⟨_, rfl⟩
  have hst2 : (storeCells ⟨w1.heap.size, 0, none⟩ (arrM M).toList).run Tryz.prog (w1.alloc (.cells (arrM noneM) 110)) = .ok () w3 := by rw [hw3]; exact hst
  rw [← hw3] at y2 k3
  have hlt1 : w1.heap.size < w3.heap.size := y2.lt
  clear hst hw3 y1 k2 HC hk1
  have HC := Lib.hid (fun (x : Nat) => cnt_snoc M x)
  go_wp2
  go_loopw [4, 5] (fun n i wr => ∃ x : Nat, x ≤ 256 ∧ i = .int .i64 (x : Int) ∧ n = .int .i64 (cnt M 0 x) ∧ wr = w3) (fun n i wr => 256 - (intOf i).toNat)
  case atStart => exact ⟨0, by omega, rfl, rfl, rfl⟩
  case round =>
    obtain ⟨x, hx, rfl, rfl, rfl⟩ := hrel
    by_cases hlt : x < 256
    · have c0 := y2.cell x
      rw [arr_get _ hlt] at c0
      have d0 : decide ((x : Int) ≤ 255) = true := decide_eq_true (by omega)
      have hs := HC.out x
      have hb := HB.out x
      obtain ⟨b, hb2⟩ : ∃ b, b = M (x : Int) := ⟨_, rfl⟩
      rw [← hb2] at c0 hs
      have HB2 := Lib.hid hb2
      clear hb2
      have hxi : (x : Int) < 256 := by omega
      have hx0 : 0 ≤ (x : Int) := by omega
      generalize cnt M 0 x = n at hs hb ⊢
      have HS := Lib.hid hs
      clear hs
      cases b with
      | true =>
        have hwn : IntKind.i64.wrap (n + 1) = n + 1 := IntWalk.i64_in _ (by omega)
        go_wp2
        exact ⟨⟨x + 1, by omega, by go_num, by rw [HS.out]; rfl, by first | rfl | trivial⟩, by simp [intOf]; omega⟩
      | false =>
        go_wp2
        exact ⟨⟨x + 1, by omega, by go_num, by rw [HS.out]; simp, by first | rfl | trivial⟩, by simp [intOf]; omega⟩
    · obtain rfl : x = 256 := by omega
      have d0 : decide ((256 : Int) ≤ 255) = false := by decide
      go_wp2
      go_ret
      exact ⟨rfl, k3⟩

theorem cntP_take2 {l : List (List Sp)} {q : Nat} (h : q < l.length) : cntP (l.take (q + 1)) = if 1073741824 < cntP (l.take q) * szB l[q] then 1073741825 else cntP (l.take q) * szB l[q] := by
  rw [cntP_take h]
  split <;> omega

set_option maxRecDepth 100000 in
set_option maxHeartbeats 4000000 in
theorem count51_any (w : World) (pv : Value) (q : List PartX) (first : Int) (hq : PartsV w w.heap.size pv q) :
    Calls Tryz.prog 51 #[.agg #[pv, .int .i64 first]] w fun e w' => e = .returned (.int .i64 (cntP (q.map Prod.fst))) ∧ K0 w w' := by
  obtain ⟨A, c, rfl, hc1, hc2, hl, hr, hp⟩ := hq
  have HR := Lib.hid hr
  have HP := Lib.hid hp
  obtain ⟨Q, hQ⟩ : ∃ Q, Q = q.map Prod.fst := ⟨_, rfl⟩
  have hQl : Q.length = q.length := by rw [hQ]; simp
  have HQ := Lib.hid (fun (k : Nat) (hk : k < q.length) (hk' : k < Q.length) => (by subst hQ; simp : Q[k] = q[k].1))
  rw [← hQ]
  have HC := Lib.hid (fun (k : Nat) (hk : k < Q.length) => cntP_take2 (l := Q) hk)
  have hB := Lib.hid (fun k => cntP_bd (Q.take k))
  have HF := Lib.hid (show cntP (Q.take q.length) = cntP Q by rw [← hQl, List.take_length])
  have H0 := Lib.hid (show cntP (Q.take 0) = 1 by simp [cntP])
  have HL := Lib.hid hQl
  clear hr hp hQ hQl
  go_enter Tryz.func51, Tryz.ntmps51
  have y := Blk.new w 37 #[.slice A q.length c, .int .i64 first]
  have hk1 : K0 w (w.alloc (.cells #[.slice A q.length c, .int .i64 first] 37)) := (Kp.refl _ _).alloc _
  go_wp2
  go_loopw [3, 4] (fun nv i wr => ∃ k : Nat, k ≤ q.length ∧ i = .int .i64 (k : Int) ∧ nv = .int .i64 (cntP (Q.take k)) ∧ Blk wr w.heap.size 37 #[.slice A q.length c, .int .i64 first] ∧ K0 w wr) (fun nv i wr => q.length - (intOf i).toNat)
  case atStart => exact ⟨0, by omega, rfl, by rw [H0.out], y, hk1⟩
  clear y hk1
  case round =>
    obtain ⟨k, hk, rfl, rfl, y, hkr⟩ := hrel
    have c0 := y.cell 0
    have yl := y.lt
    simp at c0
    by_cases hlt : k < q.length
    · obtain ⟨ad, u, rfl, hb, hu, hcu⟩ := (HR.out.k0 (Nat.le_refl _) hkr).at_ hlt
      rw [List.getElem?_map, List.getElem?_eq_getElem hlt] at hu
      cases hu
      have hpk := (HP.out _ (List.getElem_mem hlt)).k0 (Nat.le_refl _) hkr
      have hst := HC.out k (by have := HL.out; omega)
      rw [HQ.out k hlt (by have := HL.out; omega)] at hst
      generalize q[k] = p at hcu hpk hst
      obtain ⟨pl, pv⟩ := p
      simp only [] at hcu hpk hst
      obtain ⟨A3, c3, rfl, _, _, hl3, hr3⟩ := hpk
      have SZ := Lib.hid (size82_any wr A3 c3 pl hr3 hl3)
      have zb := szB_bd pl
      have nb := hB.out k
      generalize szB pl = z at *
      have HST := Lib.hid hst
      clear hst
      generalize cntP (Q.take k) = n at *
      have m0 : 0 ≤ n * z := Int.mul_nonneg nb.1 zb.1
      have m1 : n * z ≤ 1073741825 * 256 := Int.mul_le_mul nb.2 zb.2 zb.1 (by omega)
      have hwz : IntKind.i64.wrap (n * z) = n * z := IntWalk.i64_in _ (by omega)
      by_cases hbig : 1073741824 < n * z
      · have d1 : decide (1073741824 < n * z) = true := decide_eq_true hbig
        have HS2 := HST.out
        rw [if_pos hbig] at HS2
        have HS3 := Lib.hid HS2
        clear HS2
        go_wp2_with fail
        refine SZ.out.mono ?_
        rintro e w2 ⟨rfl, hk2⟩
        go_wp2
        refine ⟨⟨k + 1, by omega, by go_num, by rw [HS3.out], y.kp hk2 (fun h => h), hkr.trans hk2⟩, by simp [intOf]; omega⟩
      · have d1 : decide (1073741824 < n * z) = false := decide_eq_false hbig
        have HS2 := HST.out
        rw [if_neg hbig] at HS2
        have HS3 := Lib.hid HS2
        clear HS2
        go_wp2_with fail
        refine SZ.out.mono ?_
        rintro e w2 ⟨rfl, hk2⟩
        go_wp2
        refine ⟨⟨k + 1, by omega, by go_num, by rw [HS3.out], y.kp hk2 (fun h => h), hkr.trans hk2⟩, by simp [intOf]; omega⟩
    · obtain rfl : k = q.length := by omega
      rw [HF.out]
      go_wp2
      go_ret
      exact ⟨rfl, hkr⟩

set_option maxRecDepth 100000 in
set_option maxHeartbeats 16000000 in
theorem meet52_any (w : World) (A : Option Addr) (c : Nat) (l : List ShpX) (i : Nat) (hi : i < l.length) (hl : l.length ≤ 1048576) (hr : Reads w w.heap.size 2 A l.length (duos shduo l)) (hp : ∀ x ∈ l, PartsV w w.heap.size x.v x.ps ∧ -9223372036854775808 ≤ x.first ∧ x.first ≤ 9223372036854775807)
    (hf : ∀ j (hj : j < l.length), j ≤ i → 0 ≤ l[j].first ∧ l[j].first ≤ 1073741823) :
    Calls Tryz.prog 52 #[.slice A l.length c, .int .i64 (i : Int)] w fun e w' => e = .returned (.bool (overB ((l.map ShpX.d).take i) l[i].d)) ∧ K0 w w' := by
  obtain ⟨R, hR⟩ : ∃ R, R = overB ((l.map ShpX.d).take i) l[i].d := ⟨_, rfl⟩
  rw [← hR]
  have hfi := hf i hi (Nat.le_refl _)
  have HS := Lib.hid (fun (q : Nat) (hq : q < i) (h : overB ((l.map ShpX.d).take q) l[i].d = false) (hn : ¬ (l[i].first ≤ lastB l[q].d ∧ l[q].first ≤ lastB l[i].d)) => show overB ((l.map ShpX.d).take (q + 1)) l[i].d = false by
    rw [over_take _ _ _ (by simp; omega), h, Bool.false_or]
    refine decide_eq_false ?_
    simpa [ShpX.d] using hn)
  have HT := Lib.hid (fun (q : Nat) (hq : q < i) (hn : l[i].first ≤ lastB l[q].d ∧ l[q].first ≤ lastB l[i].d) => show R = true by
    rw [hR]
    refine over_stop (q := q) (by simp; omega) ?_
    simpa [ShpX.d] using hn)
  have HE := Lib.hid (fun (h : overB ((l.map ShpX.d).take i) l[i].d = false) => show R = false by rw [hR, h])
  have HA := Lib.hid (fun W (hk : K0 w W) q hlt => shp_at (W := W) (q := q) hr hp (Nat.le_refl _) hk hlt)
  have HFQ := Lib.hid (fun (q : Nat) (hq : q < i) => hf q (by omega) (by omega))
  clear hR
  have HAI := Lib.hid (fun W hk => HA.out W hk i hi)
  have hdef : lastB l[i].d = l[i].first + cntP (l[i].ps.map Prod.fst) - 1 := rfl
  have hcb := cntP_bd (l[i].ps.map Prod.fst)
  generalize l[i] = p at hfi HS HT HE HAI hdef hcb
  obtain ⟨ps, pv, pf⟩ := p
  simp only [] at hfi HS HT HE HAI hdef hcb
  obtain ⟨X, hX⟩ : ∃ X, X = ShpX.d ⟨ps, pv, pf⟩ := ⟨_, rfl⟩
  rw [← hX] at HS HT HE hdef
  generalize lastB X = li at hdef HS HT
  have HCI := Lib.hid (fun W (v : Value) (h : PartsV W W.heap.size v ps) => count51_any W v ps pf h)
  have HDI := Lib.hid hdef
  generalize cntP (ps.map Prod.fst) = ci at hdef hcb HCI HDI
  clear hdef hX hf
  go_enter Tryz.func52, Tryz.ntmps52
  go_wp2
  go_loopw [5] (fun j wr => ∃ q : Nat, q ≤ i ∧ j = .int .i64 (q : Int) ∧ Hid (overB ((l.map ShpX.d).take q) X = false) ∧ K0 w wr) (fun j wr => i - (intOf j).toNat)
  case atStart => exact ⟨0, by omega, rfl, Lib.hid rfl, Kp.refl _ _⟩
  case round =>
    obtain ⟨q, hq, rfl, h0, hk⟩ := hrel
    by_cases hlt : q < i
    · have hlq : q < l.length := by omega
      obtain ⟨ad, rfl, hb, x0, x1, hpi⟩ := HAI.out wr hk
      obtain ⟨ad2, he, hb2, z0, z1, hpq⟩ := HA.out wr hk q hlq
      cases he
      have hfq := HFQ.out q hlt
      have HS1 := Lib.hid (HS.out q hlt h0.out)
      have HT1 := Lib.hid (HT.out q hlt)
      have hdq : lastB l[q].d = l[q].first + cntP (l[q].ps.map Prod.fst) - 1 := rfl
      have hcq := cntP_bd (l[q].ps.map Prod.fst)
      generalize l[q] = t at z0 z1 hpq hfq HS1 HT1 hdq hcq
      obtain ⟨ts, tv, tf⟩ := t
      simp only [] at z0 z1 hpq hfq HS1 HT1 hdq hcq
      generalize lastB (ShpX.d ⟨ts, tv, tf⟩) = lq at hdq HS1 HT1
      have HCQ := Lib.hid (fun W (v : Value) (h : PartsV W W.heap.size v ts) => count51_any W v ts tf h)
      generalize cntP (ts.map Prod.fst) = cq at hdq hcq HCQ
      have HPI := Lib.hid hpi
      have HPQ := Lib.hid hpq
      obtain ⟨A3, c3, rfl, _⟩ := hpi
      obtain ⟨A4, c4, rfl, _⟩ := hpq
      have w1 : IntKind.i64.wrap (tf + cq) = tf + cq := IntWalk.i64_in _ (by omega)
      have w2 : IntKind.i64.wrap (tf + cq - 1) = tf + cq - 1 := IntWalk.i64_in _ (by omega)
      have w3 : IntKind.i64.wrap (pf + ci) = pf + ci := IntWalk.i64_in _ (by omega)
      have w4 : IntKind.i64.wrap (pf + ci - 1) = pf + ci - 1 := IntWalk.i64_in _ (by omega)
      have hii : (i : Int) < (l.length : Int) := by omega
      have hi0 : 0 ≤ (i : Int) := by omega
      have hqq : (q : Int) < (l.length : Int) := by omega
      have hsz := hk.size
      have m0 : (ad.add (i * 2)).block < wr.heap.size := by rw [add_blk]; exact Nat.lt_of_lt_of_le hb hsz
      have m1 : (ad.add (q * 2)).block < wr.heap.size := by rw [add_blk]; exact Nat.lt_of_lt_of_le hb hsz
      by_cases h1 : pf ≤ tf + cq - 1
      · have d1 : decide (pf ≤ tf + cq - 1) = true := decide_eq_true h1
        by_cases h2 : tf ≤ pf + ci - 1
        · have d2 : decide (tf ≤ pf + ci - 1) = true := decide_eq_true h2
          have hx := HT1.out ⟨by omega, by have := HDI.out; omega⟩
          clear HS1 HT1 HS HT HE
          subst hx
          go_wp2
          go_region_held3 (fun w' => w'.cell? (ad.add (i * 2)) = some (.slice A3 ps.length c3) ∧ w'.cell? ⟨(ad.add (i * 2)).block, (ad.add (i * 2)).off + 1, none⟩ = some (.int .i64 pf) ∧ w'.cell? (ad.add (q * 2)) = some (.slice A4 ts.length c4) ∧ w'.cell? ⟨(ad.add (q * 2)).block, (ad.add (q * 2)).off + 1, none⟩ = some (.int .i64 tf)) (go_keep) ((first | (go_at_call_of 51 (Value.int IntKind.i64 tf); refine (HCQ.out _ _ (HPQ.out.k0 (Nat.le_refl _) (by first | exact (Kp.refl _ _).drew | exact ((Kp.refl _ _).drewN _)))).mono ?_; rintro e w2 ⟨rfl, hk2⟩; have q2 := (hk2.cell (p := (ad.add (i * 2))) (by exact m0) (fun h => h)).trans (by exact x0); have q3 := (hk2.cell (p := ⟨(ad.add (i * 2)).block, (ad.add (i * 2)).off + 1, none⟩) (by exact m0) (fun h => h)).trans (by exact x1); have q4 := (hk2.cell (p := (ad.add (q * 2))) (by exact m1) (fun h => h)).trans (by exact z0); have q5 := (hk2.cell (p := ⟨(ad.add (q * 2)).block, (ad.add (q * 2)).off + 1, none⟩) (by exact m1) (fun h => h)).trans (by exact z1)) | (go_at_call_of 51 (Value.int IntKind.i64 pf); refine (HCI.out _ _ (HPI.out.k0 (Nat.le_refl _) (by first | exact (Kp.refl _ _).drew.trans hk2 | exact ((Kp.refl _ _).drewN _).trans hk2))).mono ?_; rintro e w3 ⟨rfl, hk3⟩; have r2 := (hk3.cell (p := (ad.add (i * 2))) (by have := hk2.size; exact Nat.lt_of_lt_of_le m0 this) (fun h => h)).trans (by exact q2); have r3 := (hk3.cell (p := ⟨(ad.add (i * 2)).block, (ad.add (i * 2)).off + 1, none⟩) (by have := hk2.size; exact Nat.lt_of_lt_of_le m0 this) (fun h => h)).trans (by exact q3); have r4 := (hk3.cell (p := (ad.add (q * 2))) (by have := hk2.size; exact Nat.lt_of_lt_of_le m1 this) (fun h => h)).trans (by exact q4); have r5 := (hk3.cell (p := ⟨(ad.add (q * 2)).block, (ad.add (q * 2)).off + 1, none⟩) (by have := hk2.size; exact Nat.lt_of_lt_of_le m1 this) (fun h => h)).trans (by exact q5))))
          go_wp2
          go_ret
          exact ⟨rfl, (hk.drew.trans hk2).trans hk3⟩
        · have d2 : decide (tf ≤ pf + ci - 1) = false := decide_eq_false h2
          have hx := Lib.hid (HS1.out (fun h => h2 (by have := HDI.out; omega)))
          clear HS1 HT1
          go_wp2
          go_region_held3 (fun w' => w'.cell? (ad.add (i * 2)) = some (.slice A3 ps.length c3) ∧ w'.cell? ⟨(ad.add (i * 2)).block, (ad.add (i * 2)).off + 1, none⟩ = some (.int .i64 pf) ∧ w'.cell? (ad.add (q * 2)) = some (.slice A4 ts.length c4) ∧ w'.cell? ⟨(ad.add (q * 2)).block, (ad.add (q * 2)).off + 1, none⟩ = some (.int .i64 tf)) (go_keep) ((first | (go_at_call_of 51 (Value.int IntKind.i64 tf); refine (HCQ.out _ _ (HPQ.out.k0 (Nat.le_refl _) (by first | exact (Kp.refl _ _).drew | exact ((Kp.refl _ _).drewN _)))).mono ?_; rintro e w2 ⟨rfl, hk2⟩; have q2 := (hk2.cell (p := (ad.add (i * 2))) (by exact m0) (fun h => h)).trans (by exact x0); have q3 := (hk2.cell (p := ⟨(ad.add (i * 2)).block, (ad.add (i * 2)).off + 1, none⟩) (by exact m0) (fun h => h)).trans (by exact x1); have q4 := (hk2.cell (p := (ad.add (q * 2))) (by exact m1) (fun h => h)).trans (by exact z0); have q5 := (hk2.cell (p := ⟨(ad.add (q * 2)).block, (ad.add (q * 2)).off + 1, none⟩) (by exact m1) (fun h => h)).trans (by exact z1)) | (go_at_call_of 51 (Value.int IntKind.i64 pf); refine (HCI.out _ _ (HPI.out.k0 (Nat.le_refl _) (by first | exact (Kp.refl _ _).drew.trans hk2 | exact ((Kp.refl _ _).drewN _).trans hk2))).mono ?_; rintro e w3 ⟨rfl, hk3⟩; have r2 := (hk3.cell (p := (ad.add (i * 2))) (by have := hk2.size; exact Nat.lt_of_lt_of_le m0 this) (fun h => h)).trans (by exact q2); have r3 := (hk3.cell (p := ⟨(ad.add (i * 2)).block, (ad.add (i * 2)).off + 1, none⟩) (by have := hk2.size; exact Nat.lt_of_lt_of_le m0 this) (fun h => h)).trans (by exact q3); have r4 := (hk3.cell (p := (ad.add (q * 2))) (by have := hk2.size; exact Nat.lt_of_lt_of_le m1 this) (fun h => h)).trans (by exact q4); have r5 := (hk3.cell (p := ⟨(ad.add (q * 2)).block, (ad.add (q * 2)).off + 1, none⟩) (by have := hk2.size; exact Nat.lt_of_lt_of_le m1 this) (fun h => h)).trans (by exact q5))))
          go_wp2
          exact ⟨⟨q + 1, by omega, by go_num, hx, (hk.drew.trans hk2).trans hk3⟩, by simp [intOf]; omega⟩
      · have d1 : decide (pf ≤ tf + cq - 1) = false := decide_eq_false h1
        have hx := Lib.hid (HS1.out (fun h => h1 (by omega)))
        clear HS1 HT1
        go_wp2
        refine wp_region_held_drew (S := (fun w' => w'.cell? (ad.add (i * 2)) = some (.slice A3 ps.length c3) ∧ w'.cell? ⟨(ad.add (i * 2)).block, (ad.add (i * 2)).off + 1, none⟩ = some (.int .i64 pf) ∧ w'.cell? (ad.add (q * 2)) = some (.slice A4 ts.length c4) ∧ w'.cell? ⟨(ad.add (q * 2)).block, (ad.add (q * 2)).off + 1, none⟩ = some (.int .i64 tf))) (by kernel_rfl) (by go_keep) (fun hH0 => ?_)
        refine wpAnyH_take (i := 0) (oi := ⟨some 11, _, _, _, _, _⟩) (v := ?v0) rfl (by kernel_rfl) (by kernel_rfl) (by kernel_rfl) (fun _ _ _ h => h) (Or.inl ⟨by rfl, ?hy0⟩) (by assumption) ?rest0
        case hy0 => (intro w hSw; (try dsimp only at hSw); go_simp; try with_reducible rfl)
        try simp only [Act.put, List.setIfInBounds_toArray, List.set_cons_zero, List.set_cons_succ]
        refine wpAnyH_take (i := 1) (oi := ⟨some 12, _, _, _, _, _⟩) (v := ?v1) rfl (by kernel_rfl) (by kernel_rfl) (by kernel_rfl) (fun _ _ _ h => h) (Or.inl ⟨by rfl, ?hy1⟩) (by assumption) ?rest1
        case hy1 => (intro w hSw; (try dsimp only at hSw); go_simp; try with_reducible rfl)
        try simp only [Act.put, List.setIfInBounds_toArray, List.set_cons_zero, List.set_cons_succ]
        refine wpAnyH_take (i := 2) (oi := ⟨some 13, _, _, _, _, _⟩) (v := ?v2) rfl (by kernel_rfl) (by kernel_rfl) (by kernel_rfl) (fun _ _ _ h => h) (Or.inl ⟨by rfl, ?hy2⟩) (by assumption) ?rest2
        case hy2 => (intro w hSw; (try dsimp only at hSw); go_simp; try with_reducible rfl)
        try simp only [Act.put, List.setIfInBounds_toArray, List.set_cons_zero, List.set_cons_succ]
        refine wpAnyH_take (i := 3) (oi := ⟨some 14, _, _, _, _, _⟩) (v := ?v3) rfl (by kernel_rfl) (by kernel_rfl) (by kernel_rfl) (fun _ _ _ h => h) (Or.inl ⟨by rfl, ?hy3⟩) (by assumption) ?rest3
        case hy3 => (intro w hSw; (try dsimp only at hSw); go_simp; try with_reducible rfl)
        try simp only [Act.put, List.setIfInBounds_toArray, List.set_cons_zero, List.set_cons_succ]
        refine wpAnyH_take (i := 4) (oi := ⟨some 15, _, _, _, _, _⟩) (v := ?v4) rfl (by kernel_rfl) (by kernel_rfl) (by kernel_rfl) (fun _ _ _ h => h) (Or.inl ⟨by rfl, ?hy4⟩) (by assumption) ?rest4
        case hy4 => (intro w hSw; (try dsimp only at hSw); go_simp; try with_reducible rfl)
        try simp only [Act.put, List.setIfInBounds_toArray, List.set_cons_zero, List.set_cons_succ]
        refine wpAnyH_take (i := 5) (oi := ⟨some 16, _, _, _, _, _⟩) (v := ?v5) rfl (by kernel_rfl) (by kernel_rfl) (by kernel_rfl) (fun _ _ _ h => h) (Or.inl ⟨by rfl, ?hy5⟩) (by assumption) ?rest5
        case hy5 => (intro w hSw; (try dsimp only at hSw); go_simp; try with_reducible rfl)
        try simp only [Act.put, List.setIfInBounds_toArray, List.set_cons_zero, List.set_cons_succ]
        refine wpAnyH_take (i := 6) (oi := ⟨some 17, _, _, _, _, _⟩) (v := ?v6) rfl (by kernel_rfl) (by kernel_rfl) (by kernel_rfl) (fun _ _ _ h => h) (Or.inl ⟨by rfl, ?hy6⟩) (by assumption) ?rest6
        case hy6 => (intro w hSw; (try dsimp only at hSw); go_simp; try with_reducible rfl)
        try simp only [Act.put, List.setIfInBounds_toArray, List.set_cons_zero, List.set_cons_succ]
        refine wpAnyH_take (i := 7) (oi := ⟨some 18, _, _, _, _, _⟩) (v := ?v7) rfl (by kernel_rfl) (by kernel_rfl) (by kernel_rfl) (fun _ _ _ h => h) (Or.inl ⟨by rfl, ?hy7⟩) (by assumption) ?rest7
        case hy7 => (intro w hSw; (try dsimp only at hSw); go_simp; try with_reducible rfl)
        try simp only [Act.put, List.setIfInBounds_toArray, List.set_cons_zero, List.set_cons_succ]
        refine wpAnyH_take (i := 8) (oi := ⟨some 19, _, _, _, _, _⟩) (v := ?v8) rfl (by kernel_rfl) (by kernel_rfl) (by kernel_rfl) (fun _ _ _ h => h) (Or.inl ⟨by rfl, ?hy8⟩) (by assumption) ?rest8
        case hy8 => (intro w hSw; (try dsimp only at hSw); go_simp; try with_reducible rfl)
        try simp only [Act.put, List.setIfInBounds_toArray, List.set_cons_zero, List.set_cons_succ]
        refine wpAnyH_take (i := 9) (oi := ⟨some 20, _, _, _, _, _⟩) (v := ?v9) rfl (by kernel_rfl) (by kernel_rfl) (by kernel_rfl) (fun _ _ _ h => h) (Or.inl ⟨by rfl, ?hy9⟩) (by assumption) ?rest9
        case hy9 => (intro w hSw; (try dsimp only at hSw); go_simp; try with_reducible rfl)
        try simp only [Act.put, List.setIfInBounds_toArray, List.set_cons_zero, List.set_cons_succ]
        refine wpAnyH_take (i := 10) (oi := ⟨some 21, _, _, _, _, _⟩) (v := ?v10) rfl (by kernel_rfl) (by kernel_rfl) (by kernel_rfl) (fun _ _ _ h => h) (Or.inl ⟨by rfl, ?hy10⟩) (by assumption) ?rest10
        case hy10 => (intro w hSw; (try dsimp only at hSw); go_simp; try with_reducible rfl)
        try simp only [Act.put, List.setIfInBounds_toArray, List.set_cons_zero, List.set_cons_succ]
        refine wpAnyH_take (i := 11) (oi := ⟨some 22, _, _, _, _, _⟩) (v := ?v11) rfl (by kernel_rfl) (by kernel_rfl) (by kernel_rfl) (fun _ _ _ h => h) (Or.inl ⟨by rfl, ?hy11⟩) (by assumption) ?rest11
        case hy11 => (intro w hSw; (try dsimp only at hSw); go_simp; try with_reducible rfl)
        try simp only [Act.put, List.setIfInBounds_toArray, List.set_cons_zero, List.set_cons_succ]
        refine wpAnyH_take (i := 12) (oi := ⟨some 23, _, _, _, _, _⟩) (v := ?v12) rfl (by kernel_rfl) (by kernel_rfl) (by kernel_rfl) (fun _ _ _ h => h) (Or.inl ⟨by rfl, ?hy12⟩) (by assumption) ?rest12
        case hy12 => (intro w hSw; (try dsimp only at hSw); go_simp; try with_reducible rfl)
        try simp only [Act.put, List.setIfInBounds_toArray, List.set_cons_zero, List.set_cons_succ]
        refine wpAnyH_take (i := 13) (oi := ⟨some 24, _, _, _, _, _⟩) (v := ?v13) rfl (by kernel_rfl) (by kernel_rfl) (by kernel_rfl) (fun _ _ _ h => h) (Or.inl ⟨by rfl, ?hy13⟩) (by assumption) ?rest13
        case hy13 => (intro w hSw; (try dsimp only at hSw); go_simp; try with_reducible rfl)
        try simp only [Act.put, List.setIfInBounds_toArray, List.set_cons_zero, List.set_cons_succ]
        refine wpAnyH_ready (rs := [14]) (by kernel_rfl) (by simp) ?_
        refine AllReadyH.cons rfl (fun K hK => ?_) AllReadyH.nil
        go_simp
        refine (HCQ.out _ _ (HPQ.out.k0 (Nat.le_refl _) (Kp.refl _ _).drew)).mono ?_
        rintro e w2 ⟨rfl, hk2⟩
        have q2 := (hk2.cell (p := (ad.add (i * 2))) (by exact m0) (fun h => h)).trans (by exact x0)
        have q3 := (hk2.cell (p := ⟨(ad.add (i * 2)).block, (ad.add (i * 2)).off + 1, none⟩) (by exact m0) (fun h => h)).trans (by exact x1)
        have q4 := (hk2.cell (p := (ad.add (q * 2))) (by exact m1) (fun h => h)).trans (by exact z0)
        have q5 := (hk2.cell (p := ⟨(ad.add (q * 2)).block, (ad.add (q * 2)).off + 1, none⟩) (by exact m1) (fun h => h)).trans (by exact z1)
        try go_wp2_with fail
        refine hK.out _ _ (by exact ⟨q2, q3, q4, q5⟩) (fun hHeld => ?_)
        clear hK K hH0
        try simp only [Act.put, List.setIfInBounds_toArray, List.set_cons_zero, List.set_cons_succ]
        refine wpAnyH_take (i := 15) (oi := ⟨some 26, _, _, _, _, _⟩) (v := ?v15) rfl (by kernel_rfl) (by kernel_rfl) (by kernel_rfl) (fun _ _ _ h => h) (Or.inl ⟨by rfl, ?hy15⟩) (by assumption) ?rest15
        case hy15 => (intro w hSw; (try dsimp only at hSw); go_simp; try with_reducible rfl)
        try simp only [Act.put, List.setIfInBounds_toArray, List.set_cons_zero, List.set_cons_succ]
        refine wpAnyH_take (i := 16) (oi := ⟨some 27, _, _, _, _, _⟩) (v := ?v16) rfl (by kernel_rfl) (by kernel_rfl) (by kernel_rfl) (fun _ _ _ h => h) (Or.inl ⟨by rfl, ?hy16⟩) (by assumption) ?rest16
        case hy16 => (intro w hSw; (try dsimp only at hSw); go_simp; try with_reducible rfl)
        try simp only [Act.put, List.setIfInBounds_toArray, List.set_cons_zero, List.set_cons_succ]
        refine wpAnyH_take (i := 17) (oi := ⟨some 28, _, _, _, _, _⟩) (v := ?v17) rfl (by kernel_rfl) (by kernel_rfl) (by kernel_rfl) (fun _ _ _ h => h) (Or.inl ⟨by rfl, ?hy17⟩) (by assumption) ?rest17
        case hy17 => (intro w hSw; (try dsimp only at hSw); go_simp; try with_reducible rfl)
        try simp only [Act.put, List.setIfInBounds_toArray, List.set_cons_zero, List.set_cons_succ]
        refine wpAnyH_take (i := 18) (oi := ⟨some 29, _, _, _, _, _⟩) (v := ?v18) rfl (by kernel_rfl) (by kernel_rfl) (by kernel_rfl) (fun _ _ _ h => h) (Or.inl ⟨by rfl, ?hy18⟩) (by assumption) ?rest18
        case hy18 => (intro w hSw; (try dsimp only at hSw); go_simp; try with_reducible rfl)
        try simp only [Act.put, List.setIfInBounds_toArray, List.set_cons_zero, List.set_cons_succ]
        refine wpAnyH_take (i := 19) (oi := ⟨some 30, _, _, _, _, _⟩) (v := undef) rfl (by kernel_rfl) (by kernel_rfl) (by kernel_rfl) (fun _ _ _ h => h) (Or.inr ⟨by kernel_rfl, rfl⟩) (by assumption) ?_
        try simp only [Act.put, List.setIfInBounds_toArray, List.set_cons_zero, List.set_cons_succ]
        refine wpAnyH_take (i := 20) (oi := ⟨some 31, _, _, _, _, _⟩) (v := undef) rfl (by kernel_rfl) (by kernel_rfl) (by kernel_rfl) (fun _ _ _ h => h) (Or.inr ⟨by kernel_rfl, rfl⟩) (by assumption) ?_
        try simp only [Act.put, List.setIfInBounds_toArray, List.set_cons_zero, List.set_cons_succ]
        refine wpAnyH_take (i := 21) (oi := ⟨some 32, _, _, _, _, _⟩) (v := undef) rfl (by kernel_rfl) (by kernel_rfl) (by kernel_rfl) (fun _ _ _ h => h) (Or.inr ⟨by kernel_rfl, rfl⟩) (by assumption) ?_
        try simp only [Act.put, List.setIfInBounds_toArray, List.set_cons_zero, List.set_cons_succ]
        refine wpAnyH_take (i := 22) (oi := ⟨some 33, _, _, _, _, _⟩) (v := undef) rfl (by kernel_rfl) (by kernel_rfl) (by kernel_rfl) (fun _ _ _ h => h) (Or.inr ⟨by kernel_rfl, rfl⟩) (by assumption) ?_
        try simp only [Act.put, List.setIfInBounds_toArray, List.set_cons_zero, List.set_cons_succ]
        refine wpAnyH_take (i := 23) (oi := ⟨some 34, _, _, _, _, _⟩) (v := undef) rfl (by kernel_rfl) (by kernel_rfl) (by kernel_rfl) (fun _ _ _ h => h) (Or.inr ⟨by kernel_rfl, rfl⟩) (by assumption) ?_
        try simp only [Act.put, List.setIfInBounds_toArray, List.set_cons_zero, List.set_cons_succ]
        refine wpAnyH_take (i := 24) (oi := ⟨some 35, _, _, _, _, _⟩) (v := undef) rfl (by kernel_rfl) (by kernel_rfl) (by kernel_rfl) (fun _ _ _ h => h) (Or.inr ⟨by kernel_rfl, rfl⟩) (by assumption) ?_
        try simp only [Act.put, List.setIfInBounds_toArray, List.set_cons_zero, List.set_cons_succ]
        refine wpAnyH_take (i := 25) (oi := ⟨some 36, _, _, _, _, _⟩) (v := undef) rfl (by kernel_rfl) (by kernel_rfl) (by kernel_rfl) (fun _ _ _ h => h) (Or.inr ⟨by kernel_rfl, rfl⟩) (by assumption) ?_
        try simp only [Act.put, List.setIfInBounds_toArray, List.set_cons_zero, List.set_cons_succ]
        refine wpAnyH_take (i := 26) (oi := ⟨some 37, _, _, _, _, _⟩) (v := undef) rfl (by kernel_rfl) (by kernel_rfl) (by kernel_rfl) (fun _ _ _ h => h) (Or.inr ⟨by kernel_rfl, rfl⟩) (by assumption) ?_
        try simp only [Act.put, List.setIfInBounds_toArray, List.set_cons_zero, List.set_cons_succ]
        refine wpAnyH_take (i := 27) (oi := ⟨some 38, _, _, _, _, _⟩) (v := undef) rfl (by kernel_rfl) (by kernel_rfl) (by kernel_rfl) (fun _ _ _ h => h) (Or.inr ⟨by kernel_rfl, rfl⟩) (by assumption) ?_
        try simp only [Act.put, List.setIfInBounds_toArray, List.set_cons_zero, List.set_cons_succ]
        refine wpAnyH_take (i := 28) (oi := ⟨some 39, _, _, _, _, _⟩) (v := undef) rfl (by kernel_rfl) (by kernel_rfl) (by kernel_rfl) (fun _ _ _ h => h) (Or.inr ⟨by kernel_rfl, rfl⟩) (by assumption) ?_
        try simp only [Act.put, List.setIfInBounds_toArray, List.set_cons_zero, List.set_cons_succ]
        refine wpAnyH_take (i := 29) (oi := ⟨some 40, _, _, _, _, _⟩) (v := undef) rfl (by kernel_rfl) (by kernel_rfl) (by kernel_rfl) (fun _ _ _ h => h) (Or.inr ⟨by kernel_rfl, rfl⟩) (by assumption) ?_
        try simp only [Act.put, List.setIfInBounds_toArray, List.set_cons_zero, List.set_cons_succ]
        refine wpAnyH_take (i := 30) (oi := ⟨some 41, _, _, _, _, _⟩) (v := undef) rfl (by kernel_rfl) (by kernel_rfl) (by kernel_rfl) (fun _ _ _ h => h) (Or.inr ⟨by kernel_rfl, rfl⟩) (by assumption) ?_
        try simp only [Act.put, List.setIfInBounds_toArray, List.set_cons_zero, List.set_cons_succ]
        refine wpAnyH_take (i := 31) (oi := ⟨some 42, _, _, _, _, _⟩) (v := undef) rfl (by kernel_rfl) (by kernel_rfl) (by kernel_rfl) (fun _ _ _ h => h) (Or.inr ⟨by kernel_rfl, rfl⟩) (by assumption) ?_
        try simp only [Act.put, List.setIfInBounds_toArray, List.set_cons_zero, List.set_cons_succ]
        refine wpAnyH_take (i := 32) (oi := ⟨some 43, _, _, _, _, _⟩) (v := undef) rfl (by kernel_rfl) (by kernel_rfl) (by kernel_rfl) (fun _ _ _ h => h) (Or.inr ⟨by kernel_rfl, rfl⟩) (by assumption) ?_
        try simp only [Act.put, List.setIfInBounds_toArray, List.set_cons_zero, List.set_cons_succ]
        refine wpAnyH_take (i := 33) (oi := ⟨some 44, _, _, _, _, _⟩) (v := undef) rfl (by kernel_rfl) (by kernel_rfl) (by kernel_rfl) (fun _ _ _ h => h) (Or.inr ⟨by kernel_rfl, rfl⟩) (by assumption) ?_
        try simp only [Act.put, List.setIfInBounds_toArray, List.set_cons_zero, List.set_cons_succ]
        refine wpAnyH_take (i := 34) (oi := ⟨some 45, _, _, _, _, _⟩) (v := undef) rfl (by kernel_rfl) (by kernel_rfl) (by kernel_rfl) (fun _ _ _ h => h) (Or.inr ⟨by kernel_rfl, rfl⟩) (by assumption) ?_
        try simp only [Act.put, List.setIfInBounds_toArray, List.set_cons_zero, List.set_cons_succ]
        refine wpAnyH_take (i := 35) (oi := ⟨some 46, _, _, _, _, _⟩) (v := undef) rfl (by kernel_rfl) (by kernel_rfl) (by kernel_rfl) (fun _ _ _ h => h) (Or.inr ⟨by kernel_rfl, rfl⟩) (by assumption) ?_
        try simp only [Act.put, List.setIfInBounds_toArray, List.set_cons_zero, List.set_cons_succ]
        refine wpAnyH_take (i := 36) (oi := ⟨some 47, _, _, _, _, _⟩) (v := undef) rfl (by kernel_rfl) (by kernel_rfl) (by kernel_rfl) (fun _ _ _ h => h) (Or.inr ⟨by kernel_rfl, rfl⟩) (by assumption) ?_
        try simp only [Act.put, List.setIfInBounds_toArray, List.set_cons_zero, List.set_cons_succ]
        refine wpAnyH_take (i := 37) (oi := ⟨some 48, _, _, _, _, _⟩) (v := ?v37) rfl (by kernel_rfl) (by kernel_rfl) (by kernel_rfl) (fun _ _ _ h => h) (Or.inl ⟨by rfl, ?hy37⟩) (by assumption) ?rest37
        case hy37 => (intro w hSw; (try dsimp only at hSw); go_simp; try with_reducible rfl)
        try simp only [Act.put, List.setIfInBounds_toArray, List.set_cons_zero, List.set_cons_succ]
        refine wpAnyH_done (by kernel_rfl) ?_ _
        clear hHeld q2 q3 q4 q5
        go_wp2
        exact ⟨⟨q + 1, by omega, by go_num, hx, hk.drew.trans hk2⟩, by simp [intOf]; omega⟩
    · obtain rfl : q = i := by omega
      have hx := HE.out h0.out
      clear HE HS HT
      subst hx
      go_wp2
      go_ret
      exact ⟨rfl, hk⟩
end Go.Proofs.YtobofhiakgohfaaGreatDoor

namespace Go.Proofs.YtobofhiakgohfaaGreatDoor
open Go.RowKit

theorem vs_bad {p : ShpD} {q : Nat} (hq : q < p.parts.length) (h : badS p.parts[q] = true) : vShape p = false := by
  cases hv : vShape p with
  | false => rfl
  | true =>
    unfold vShape at hv
    simp only [Bool.and_eq_true, decide_eq_true_eq, List.all_eq_true, Bool.not_eq_true'] at hv
    have := hv.1.2 _ (List.getElem_mem hq)
    unfold badS at h
    rw [this.1, this.2] at h
    cases h
theorem vs_head {p : ShpD} (h : ¬ (1 ≤ p.parts.length ∧ p.parts.length ≤ 8 ∧ 0 ≤ p.first ∧ p.first ≤ 1073741823)) : vShape p = false := by
  unfold vShape
  rw [decide_eq_false h]
  rfl
theorem vs_ok {p : ShpD} (h : 1 ≤ p.parts.length ∧ p.parts.length ≤ 8 ∧ 0 ≤ p.first ∧ p.first ≤ 1073741823) (hb : ∀ s ∈ p.parts, badS s = false) : vShape p = decide (lastB p ≤ 1073741823) := by
  have : (p.parts.all fun s => !s.isEmpty && okS 255 s) = true := any_bad.1 (by rw [List.any_eq_false]; intro s hs; rw [hb s hs]; simp)
  unfold vShape
  rw [decide_eq_true h, this]
  rfl

set_option maxRecDepth 100000 in
set_option maxHeartbeats 8000000 in
theorem vshape55_any (w : World) (v : Value) (ps : List PartX) (first : Int) (hv : PartsV w w.heap.size v ps) :
    Calls Tryz.prog 55 #[.agg #[v, .int .i64 first]] w fun e w' => e = .returned (.bool (vShape ⟨ps.map Prod.fst, first⟩)) ∧ K0 w w' := by
  obtain ⟨R, hR⟩ : ∃ R, R = vShape ⟨ps.map Prod.fst, first⟩ := ⟨_, rfl⟩
  rw [← hR]
  have hv0 := hv
  obtain ⟨A, c, rfl, hc1, hc2, hl, hr, hp⟩ := hv
  have y0 := Blk.new w 37 #[.slice A ps.length c, .int .i64 first]
  have k0 : K0 w (w.alloc (.cells #[.slice A ps.length c, .int .i64 first] 37)) := (Kp.refl _ _).alloc _
  have c0 := y0.cell 0
  have c1 := y0.cell 1
  simp at c0 c1
  by_cases a1 : (ps.length : Int) < 1
  · have hx := vs_head (p := ⟨ps.map Prod.fst, first⟩) (by simp only [List.length_map]; omega)
    have d1 : decide ((ps.length : Int) < 1) = true := decide_eq_true a1
    rw [hx] at hR
    subst hR
    clear hx hr hp
    go_enter Tryz.func55, Tryz.ntmps55
    go_wp2
    go_ret
    exact ⟨rfl, k0⟩
  · have d1 : decide ((ps.length : Int) < 1) = false := decide_eq_false a1
    by_cases a2 : 8 < (ps.length : Int)
    · have hx := vs_head (p := ⟨ps.map Prod.fst, first⟩) (by simp only [List.length_map]; omega)
      have d2 : decide (8 < (ps.length : Int)) = true := decide_eq_true a2
      rw [hx] at hR
      subst hR
      clear hx hr hp
      go_enter Tryz.func55, Tryz.ntmps55
      go_wp2
      go_ret
      exact ⟨rfl, k0⟩
    · have d2 : decide (8 < (ps.length : Int)) = false := decide_eq_false a2
      by_cases a3 : first < 0
      · have hx := vs_head (p := ⟨ps.map Prod.fst, first⟩) (by simp only [List.length_map]; omega)
        have d3 : decide (first < 0) = true := decide_eq_true a3
        rw [hx] at hR
        subst hR
        clear hx hr hp
        go_enter Tryz.func55, Tryz.ntmps55
        go_wp2
        go_ret
        exact ⟨rfl, k0⟩
      · have d3 : decide (first < 0) = false := decide_eq_false a3
        by_cases a4 : 1073741823 < first
        · have hx := vs_head (p := ⟨ps.map Prod.fst, first⟩) (by simp only [List.length_map]; omega)
          have d4 : decide (1073741823 < first) = true := decide_eq_true a4
          rw [hx] at hR
          subst hR
          clear hx hr hp
          go_enter Tryz.func55, Tryz.ntmps55
          go_wp2
          go_ret
          exact ⟨rfl, k0⟩
        · have d4 : decide (1073741823 < first) = false := decide_eq_false a4
          have HB := Lib.hid (fun q (hq : q < ps.length) (hb : badS ps[q].1 = true) => show R = false by
            rw [hR]
            exact vs_bad (q := q) (by simpa using hq) (by simpa using hb))
          have HS := Lib.hid (fun (q : Nat) (h : ∀ s ∈ (ps.map Prod.fst).take q, badS s = false) (hq : q < ps.length) (hb : badS ps[q].1 = false) => show ∀ s ∈ (ps.map Prod.fst).take (q + 1), badS s = false by
            rw [List.take_succ_eq_append_getElem (by simpa using hq)]
            intro s hs
            rcases List.mem_append.1 hs with hs | hs
            · exact h s hs
            · simp only [List.getElem_map, List.mem_singleton] at hs; subst hs; exact hb)
          have HE := Lib.hid (fun (h : ∀ s ∈ (ps.map Prod.fst).take ps.length, badS s = false) => show R = decide (first + cntP (ps.map Prod.fst) - 1 ≤ 1073741823) by
            rw [List.take_of_length_le (by simp)] at h
            rw [hR, vs_ok (by simp only [List.length_map]; omega) h]
            rfl)
          have HA := Lib.hid (fun W hk q hlt => part_at (W := W) (q := q) hr hp (Nat.le_refl _) hk hlt)
          have HC := Lib.hid (fun W (hk : K0 w W) => count51_any W _ ps first (hv0.k0 (Nat.le_refl _) hk))
          have hcb := cntP_bd (ps.map Prod.fst)
          generalize cntP (ps.map Prod.fst) = cc at HE HC hcb
          clear hR hr hp hv0
          go_enter Tryz.func55, Tryz.ntmps55
          go_wp2
          clear c0 c1
          go_loopw [3] (fun i wr => ∃ q : Nat, q ≤ ps.length ∧ i = .int .i64 (q : Int) ∧ Hid (∀ s ∈ (ps.map Prod.fst).take q, badS s = false) ∧ Blk wr w.heap.size 37 #[.slice A ps.length c, .int .i64 first] ∧ K0 w wr) (fun i wr => ps.length - (intOf i).toNat)
          case atStart => exact ⟨0, by omega, rfl, Lib.hid (by simp), y0, k0⟩
          clear y0 k0
          case round =>
            obtain ⟨q, hq, rfl, hT, y, hk⟩ := hrel
            have c0 := y.cell 0
            have c1 := y.cell 1
            have l0 := y.lt
            simp at c0 c1
            by_cases hlt : q < ps.length
            · obtain ⟨ad, rfl, hb, x0, hp⟩ := HA.out wr hk q hlt
              have HB1 := Lib.hid (fun hb => HB.out q hlt hb)
              have HS1 := Lib.hid (fun hb => HS.out q hT.out hlt hb)
              generalize ps[q] = s at x0 hp HB1 HS1
              obtain ⟨s0, s1⟩ := s
              simp only [] at x0 hp HB1 HS1
              obtain ⟨A3, c3, rfl, _, _, hl3, hr3⟩ := hp
              have RV := Lib.hid (fun W (h : K0 wr W) => rvalid_any W A3 c3 s0 (hr3.k0 (Nat.le_refl _) h |>.more h.size) hl3)
              by_cases hs0 : s0 = []
              · have hx := HB1.out (by subst hs0; rfl)
                have e0 : s0.length = 0 := by rw [hs0]; rfl
                rw [e0] at x0
                clear HB1 HS1 HB HS HE
                subst hx
                go_wp2
                go_ret
                exact ⟨rfl, hk⟩
              · obtain ⟨n, hn⟩ : ∃ n, s0.length = n + 1 := ⟨s0.length - 1, by have := List.length_pos_iff.2 hs0; omega⟩
                have e1 : decide ((n : Int) + 1 = 0) = false := decide_eq_false (by omega)
                have e2 : decide (((n + 1 : Nat) : Int) = 0) = false := decide_eq_false (by omega)
                have hbd : badS s0 = !okS 255 s0 := by unfold badS; cases s0 with | nil => exact absurd rfl hs0 | cons a t => rfl
                rw [hbd] at HB1 HS1
                rw [hn] at x0 RV
                obtain ⟨D, hD⟩ : ∃ D, D = okS 255 s0 := ⟨_, rfl⟩
                rw [← hD] at RV HB1 HS1
                clear hD hbd
                cases D with
                | false =>
                  have hx := HB1.out rfl
                  clear HB1 HS1 HB HS HE
                  subst hx
                  go_wp2_with fail
                  refine (RV.out _ (Kp.refl _ _)).mono ?_
                  rintro e w2 ⟨rfl, nn, rfl⟩
                  go_wp2
                  go_ret
                  exact ⟨rfl, hk.drewN _⟩
                | true =>
                  have hx := Lib.hid (HS1.out rfl)
                  clear HB1 HS1
                  go_wp2_with fail
                  refine (RV.out _ (Kp.refl _ _)).mono ?_
                  rintro e w2 ⟨rfl, nn, rfl⟩
                  go_wp2
                  exact ⟨⟨q + 1, by omega, by go_num, hx, y, hk.drewN _⟩, by simp [intOf]; omega⟩
            · obtain rfl : q = ps.length := by omega
              have hx := HE.out hT.out
              clear HE HB HS
              have w1 : IntKind.i64.wrap (first + cc) = first + cc := IntWalk.i64_in _ (by omega)
              have w2 : IntKind.i64.wrap (first + cc - 1) = first + cc - 1 := IntWalk.i64_in _ (by omega)
              have HX := Lib.hid hx
              clear hx
              go_wp2
              go_region_held3 (fun w' => w'.cell? ⟨w.heap.size, 0, none⟩ = some (.slice A ps.length c) ∧ w'.cell? ⟨w.heap.size, 1, none⟩ = some (.int .i64 first)) (go_keep) ((go_at_call 51; refine (HC.out _ (by first | exact hk.drew | exact (hk.drewN _))).mono ?_; rintro e w2 ⟨rfl, hk2⟩; have q0 := (hk2.cell (p := ⟨w.heap.size, 0, none⟩) (by exact l0) (fun h => h)).trans (by exact c0); have q1 := (hk2.cell (p := ⟨w.heap.size, 1, none⟩) (by exact l0) (fun h => h)).trans (by exact c1)))
              go_wp2
              go_ret
              exact ⟨by rw [HX.out]; rfl, hk.drew.trans hk2⟩

set_option maxRecDepth 100000 in
set_option maxHeartbeats 8000000 in
theorem valid24_any (w : World) (v : Value) (ss : List ShpX) (hv : ShpsV w w.heap.size v ss) :
    Calls Tryz.prog 24 #[.agg #[v]] w fun e w' => e = .returned (.bool (validR (ss.map ShpX.d))) ∧ K0 w w' := by
  obtain ⟨R, hR⟩ : ∃ R, R = validR (ss.map ShpX.d) := ⟨_, rfl⟩
  rw [← hR]
  obtain ⟨A, c, rfl, hc1, hc2, hl, hr, hp⟩ := hv
  have y0 := Blk.new w 25 #[.slice A ss.length c]
  have k0 : K0 w (w.alloc (.cells #[.slice A ss.length c] 25)) := (Kp.refl _ _).alloc _
  have c0 := y0.cell 0
  simp at c0
  by_cases h32 : ss.length ≤ 32
  · have hR2 : R = validF [] (ss.map ShpX.d) := by rw [hR]; unfold validR; rw [decide_eq_true (by simpa using h32), Bool.true_and]
    have d32 : decide (32 < (ss.length : Int)) = false := decide_eq_false (by omega)
    have HX := Lib.hid (fun q (hq : q < ss.length) (h : validF [] ((ss.map ShpX.d).take q) = true) => show ((vShape ss[q].d && !overB ((ss.map ShpX.d).take q) ss[q].d) = false → R = false) ∧ ((vShape ss[q].d && !overB ((ss.map ShpX.d).take q) ss[q].d) = true → validF [] ((ss.map ShpX.d).take (q + 1)) = true) by
      have := validF_at h (by simpa using hq)
      rw [hR2]
      rw [List.getElem_map] at this
      exact this)
    have HE := Lib.hid (fun (h : validF [] ((ss.map ShpX.d).take ss.length) = true) => show R = true by rw [List.take_of_length_le (by simp)] at h; rw [hR2, h])
    have HA := Lib.hid (fun W hk q hlt => shp_at (W := W) (q := q) hr hp (Nat.le_refl _) hk hlt)
    have HM := Lib.hid (fun W (hk : K0 w W) q (hq : q < ss.length) (h : validF [] ((ss.map ShpX.d).take q) = true) (hvq : vShape ss[q].d = true) => meet52_any W A c ss q hq (by omega) (hr.k0 (Nat.le_refl _) hk |>.more hk.size) (fun x hx => ⟨(hp x hx).1.k0 (Nat.le_refl _) hk, (hp x hx).2⟩) (fun j hj hjq => by
      have hg : goodP ss[j].d := by
        rcases Nat.lt_or_ge j q with h1 | h1
        · refine good_of_valid h _ ?_
          refine List.mem_iff_getElem.2 ⟨j, by simp; omega, ?_⟩
          simp
        · obtain rfl : j = q := by omega
          exact good_of_v hvq
      obtain ⟨g1, g2, g3⟩ := hg
      exact ⟨g1, by show ss[j].d.first ≤ _; omega⟩))
    clear hR hR2 hr hp hc1 hc2 hl
    go_enter Tryz.func24, Tryz.ntmps24
    go_wp2
    clear c0
    go_loopw [3] (fun i wr => ∃ (q : Nat), q ≤ ss.length ∧ i = .int .i64 (q : Int) ∧ Hid (validF [] ((ss.map ShpX.d).take q) = true) ∧ Blk wr w.heap.size 25 #[.slice A ss.length c] ∧ K0 w wr) (fun i wr => ss.length - (intOf i).toNat)
    case atStart => exact ⟨0, by omega, rfl, Lib.hid rfl, y0, k0⟩
    clear y0 k0
    case round =>
      obtain ⟨q, hq, rfl, hT, y, hk⟩ := hrel
      have c0 := y.cell 0
      have l0 := y.lt
      simp at c0
      by_cases hlt : q < ss.length
      · obtain ⟨ad, rfl, hb, x0, x1, hp⟩ := HA.out wr hk q hlt
        have HX1 := HX.out q hlt hT.out
        have HM1 := Lib.hid (fun W hk hv => HM.out W hk q hlt hT.out hv)
        generalize overB ((ss.map ShpX.d).take q) ss[q].d = ov at HX1 HM1
        generalize ss[q] = x at x0 x1 hp HX1 HM1
        obtain ⟨ps, pv, first⟩ := x
        simp only [] at x0 x1 hp HX1 HM1
        have VS := Lib.hid (vshape55_any wr pv ps first hp)
        rw [show (⟨ps.map Prod.fst, first⟩ : ShpD) = ShpX.d ⟨ps, pv, first⟩ from rfl] at VS
        generalize vShape (ShpX.d ⟨ps, pv, first⟩) = vb at VS HX1 HM1
        obtain ⟨A3, c3, rfl, _⟩ := hp
        have HXX := Lib.hid HX1
        clear HX1
        cases vb with
        | false =>
          have hx := HXX.out.1 (by simp)
          clear HXX HX HE
          subst hx
          go_wp2_with fail
          refine VS.out.mono ?_
          rintro e w2 ⟨rfl, hk2⟩
          go_wp2
          go_ret
          exact ⟨rfl, hk.trans hk2⟩
        | true =>
          go_wp2_with fail
          refine VS.out.mono ?_
          rintro e w2 ⟨rfl, hk2⟩
          have MM := Lib.hid (HM1.out w2 (hk.trans hk2) (by first | rfl | trivial))
          have y2 := y.kp hk2 (fun h => h)
          have c0 := y2.cell 0
          have l0 := y2.lt
          simp at c0
          go_wp2_with fail
          refine MM.out.mono ?_
          rintro e w3 ⟨rfl, hk3⟩
          cases ov with
          | true =>
            have hx := HXX.out.1 (by simp)
            clear HXX HX HE
            subst hx
            go_wp2
            go_ret
            exact ⟨rfl, (hk.trans hk2).trans hk3⟩
          | false =>
            have hx := Lib.hid (HXX.out.2 (by simp))
            clear HXX
            go_wp2
            exact ⟨⟨q + 1, by omega, by go_num, hx, y2.kp hk3 (fun h => h), (hk.trans hk2).trans hk3⟩, by simp [intOf]; omega⟩
      · obtain rfl : q = ss.length := by omega
        have hx := HE.out hT.out
        clear HE HX
        subst hx
        go_wp2
        go_ret
        exact ⟨rfl, hk⟩
  · have hx : R = false := by rw [hR]; unfold validR; rw [decide_eq_false (by simpa using h32), Bool.false_and]
    have d32 : decide (32 < (ss.length : Int)) = true := decide_eq_true (by omega)
    clear hR
    subst hx
    go_enter Tryz.func24, Tryz.ntmps24
    go_wp2
    go_ret
    exact ⟨rfl, k0⟩
end Go.Proofs.YtobofhiakgohfaaGreatDoor
