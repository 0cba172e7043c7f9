/- The document's sameItems. The document's Same. -/
import Derived.Test.YtobofhiakgohfaaDoorT30
set_option linter.unusedVariables false
set_option linter.unusedSimpArgs false
namespace Go.Proofs.YtobofhiakgohfaaDoor
open Go.RowKit

/-- Two items are the same (with their places, or but for them). -/
def sameI (pl : Bool) (x y : ItemD) : Bool := (x.nm.toList == y.nm.toList) && (decide (x.lo = y.lo) && (decide (x.hi = y.hi) && (!pl || decide (x.pl = y.pl))))
def sameR (pl : Bool) : List ItemD → List ItemD → Bool
  | [], [] => true
  | x :: a, y :: b => sameI pl x y && sameR pl a b
  | _, _ => false
theorem sameI_refl (pl : Bool) (x : ItemD) : sameI pl x x = true := by simp [sameI]
theorem sameR_refl (pl : Bool) : ∀ l : List ItemD, sameR pl l l = true
  | [] => rfl
  | x :: a => by simp [sameR, sameI_refl, sameR_refl pl a]
theorem sameR_len {pl : Bool} : ∀ {a b : List ItemD}, a.length ≠ b.length → sameR pl a b = false
  | [], [], h => absurd rfl h
  | [], y :: b, h => rfl
  | x :: a, [], h => rfl
  | x :: a, y :: b, h => by simp only [sameR]; rw [sameR_len (a := a) (b := b) (by simpa using h), Bool.and_false]
theorem sameR_drop {pl : Bool} {a b : List ItemD} {q : Nat} (ha : q < a.length) (hb : q < b.length) : sameR pl (a.drop q) (b.drop q) = (sameI pl a[q] b[q] && sameR pl (a.drop (q + 1)) (b.drop (q + 1))) := by
  rw [List.drop_eq_getElem_cons ha, List.drop_eq_getElem_cons hb]
  rfl

set_option maxRecDepth 100000 in
set_option maxHeartbeats 16000000 in
theorem sameItems_any (w : World) (B : Nat) (va vb : Value) (la lb : List ItemD) (pl : Bool) (ha : ItemsV w B va la) (hb : ItemsV w B vb lb) (hB : B ≤ w.heap.size) :
    Calls Tryd.prog 52 #[va, vb, .bool pl] w fun e w' => e = .returned (.bool (sameR pl la lb)) ∧ ∃ m, w' = w.drewN m := by
  obtain ⟨A, c, rfl, hc1, hc2, hl, hr, hnm⟩ := ha
  obtain ⟨A2, c2, rfl, hc3, hc4, hl2, hr2, hnm2⟩ := hb
  obtain ⟨R, hR⟩ : ∃ R, R = sameR pl la lb := ⟨_, rfl⟩
  rw [← hR]
  have HR := Lib.hid hR
  by_cases hlen : la.length = lb.length
  · clear hR
    go_enter Tryd.func52, Tryd.ntmps52
    go_wp2
    go_loopw [7] (fun i wr => ∃ q m : Nat, q ≤ la.length ∧ i = .int .i64 (q : Int) ∧ wr = w.drewN m ∧ Hid (R = sameR pl (la.drop q) (lb.drop q))) (fun i wr => la.length - (intOf i).toNat)
    case atStart => exact ⟨0, 0, by omega, rfl, rfl, Lib.hid HR.out⟩
    case round =>
      obtain ⟨q, m, hq, rfl, rfl, hres⟩ := hrel
      by_cases hlt : q < la.length
      · have hlt2 : q < lb.length := by omega
        obtain ⟨ad, rfl, hbl, r0, r1, r2, r3⟩ := hr.item hlt
        obtain ⟨ad2, rfl, hbl2, s0, s1, s2, s3⟩ := hr2.item hlt2
        have hs := hres.out
        rw [sameR_drop hlt hlt2] at hs
        obtain ⟨⟨n1, a1, b1, p1⟩, hx⟩ : ∃ x, x = la[q] := ⟨_, rfl⟩
        obtain ⟨⟨n2, a2, b2, p2⟩, hy⟩ : ∃ x, x = lb[q] := ⟨_, rfl⟩
        rw [← hx] at r0 r1 r2 r3 hs
        rw [← hy] at s0 s1 s2 s3 hs
        unfold sameI at hs
        simp only [] at r0 r1 r2 r3 s0 s1 s2 s3 hs
        clear hx hy
        cases e0 : (n1.toList == n2.toList) with
        | false =>
          rw [e0, Bool.false_and, Bool.false_and] at hs
          subst hs
          go_wp2
          go_quiet (fail)
          go_wp2
          go_ret
          exact ⟨rfl, _, by rw [World.drewN_drewN]⟩
        | true =>
          rw [e0, Bool.true_and] at hs
          by_cases ea : a1 = a2
          · subst ea
            rw [decide_eq_true rfl, Bool.true_and] at hs
            by_cases eb : b1 = b2
            · subst eb
              rw [decide_eq_true rfl, Bool.true_and] at hs
              cases pl with
              | false =>
                rw [Bool.not_false, Bool.true_or, Bool.true_and] at hs
                have HS := Lib.hid hs
                clear hs hres
                go_wp2
                go_quiet (fail)
                go_wp2
                exact ⟨⟨q + 1, _, by omega, by go_num, by first | rfl | rw [World.drewN_drewN], HS⟩, by simp [intOf]; omega⟩
              | true =>
                rw [Bool.not_true, Bool.false_or] at hs
                by_cases ep : p1 = p2
                · subst ep
                  rw [decide_eq_true rfl, Bool.true_and] at hs
                  have HS := Lib.hid hs
                  clear hs hres
                  go_wp2
                  go_quiet (fail)
                  go_wp2
                  exact ⟨⟨q + 1, _, by omega, by go_num, by first | rfl | rw [World.drewN_drewN], HS⟩, by simp [intOf]; omega⟩
                · rw [decide_eq_false ep, Bool.false_and] at hs
                  have e' : (p1 != p2) = true := by simp [ep]
                  have e'' : (p1 == p2) = false := by simp [ep]
                  subst hs
                  go_wp2
                  go_quiet (fail)
                  go_wp2
                  go_ret
                  exact ⟨rfl, _, by rw [World.drewN_drewN]⟩
            · rw [decide_eq_false eb, Bool.false_and, Bool.false_and] at hs
              have e' : (b1 != b2) = true := by simp [eb]
              have e'' : (b1 == b2) = false := by simp [eb]
              subst hs
              go_wp2
              go_quiet (fail)
              go_wp2
              go_ret
              exact ⟨rfl, _, by rw [World.drewN_drewN]⟩
          · rw [decide_eq_false ea, Bool.false_and, Bool.false_and] at hs
            have e' : (a1 != a2) = true := by simp [ea]
            have e'' : (a1 == a2) = false := by simp [ea]
            subst hs
            go_wp2
            go_quiet (fail)
            go_wp2
            go_ret
            exact ⟨rfl, _, by rw [World.drewN_drewN]⟩
      · obtain rfl : q = la.length := by omega
        have hs := hres.out
        rw [show la.drop la.length = [] by simp, show lb.drop la.length = [] by rw [hlen]; simp] at hs
        subst hs
        go_wp2
        go_ret
        exact ⟨rfl, _, rfl⟩
  · rw [sameR_len hlen] at hR
    subst hR
    go_enter Tryd.func52, Tryd.ntmps52
    go_wp2
    go_ret
    exact ⟨rfl, 0, rfl⟩
end Go.Proofs.YtobofhiakgohfaaDoor

namespace Go.Proofs.YtobofhiakgohfaaDoor
open Go.RowKit

def sameC (pl : Bool) (x y : ClassD) : Bool := (x.nm.toList == y.nm.toList) && ((!pl || decide (x.pl = y.pl)) && sameR pl x.its y.its)
def sameS (pl : Bool) (x y : ShapeD) : Bool := decide (x.first = y.first) && ((!pl || decide (x.pl = y.pl)) && sameR pl x.its y.its)
def sameL {α : Type} (f : α → α → Bool) : List α → List α → Bool
  | [], [] => true
  | x :: a, y :: b => f x y && sameL f a b
  | _, _ => false
def sameD (pl : Bool) (a b : DescD) : Bool := sameL (sameC pl) a.cls b.cls && sameL (sameS pl) a.shs b.shs
theorem sameL_refl {α : Type} {f : α → α → Bool} (h : ∀ x, f x x = true) : ∀ l : List α, sameL f l l = true
  | [] => rfl
  | x :: a => by simp [sameL, h, sameL_refl h a]
theorem sameD_refl (pl : Bool) (d : DescD) : sameD pl d d = true := by
  unfold sameD
  rw [sameL_refl (fun x => by simp [sameC, sameR_refl]), sameL_refl (fun x => by simp [sameS, sameR_refl])]
  rfl
theorem sameL_len {α : Type} {f : α → α → Bool} : ∀ {a b : List α}, a.length ≠ b.length → sameL f a b = false
  | [], [], h => absurd rfl h
  | [], y :: b, h => rfl
  | x :: a, [], h => rfl
  | x :: a, y :: b, h => by simp only [sameL]; rw [sameL_len (a := a) (b := b) (by simpa using h), Bool.and_false]
theorem sameL_drop {α β : Type} {f : α → α → Bool} {p s : List (α × β)} {q : Nat} (ha : q < p.length) (hb : q < s.length) : sameL f ((p.map Prod.fst).drop q) ((s.map Prod.fst).drop q) = (f p[q].1 s[q].1 && sameL f ((p.map Prod.fst).drop (q + 1)) ((s.map Prod.fst).drop (q + 1))) := by
  rw [drop_fst p ha, drop_fst s hb]
  rfl
theorem ItemsV.drewN {w : World} {B : Nat} {v : Value} {l : List ItemD} (h : ItemsV w B v l) (n : Nat) : ItemsV (w.drewN n) B v l := h.keep (Nat.le_refl _) (fun _ _ => rfl)

set_option maxRecDepth 100000 in
set_option maxHeartbeats 16000000 in
theorem same_any (w : World) (B : Nat) (va vb : Value) (da db : DescD) (pl : Bool) (ha : DescV w B va da) (hb : DescV w B vb db) (hB : B ≤ w.heap.size) :
    Calls Tryd.prog 21 #[va, vb, .bool pl] w fun e w' => e = .returned (.bool (sameD pl da db)) ∧ K0 w w' := by
  obtain ⟨cls, shs⟩ := da
  obtain ⟨cls', shs'⟩ := db
  obtain ⟨vc, vs, rfl, ⟨p, A, c, rfl, rfl, hc1, hc2, hc3, hcr, hci⟩, ⟨s, A2, c2, rfl, rfl, hs1, hs2, hs3, hsr, hsi⟩⟩ := ha
  obtain ⟨vc', vs', rfl, ⟨p', A', c', rfl, rfl, hc1', hc2', hc3', hcr', hci'⟩, ⟨s', A2', c2', rfl, rfl, hs1', hs2', hs3', hsr', hsi'⟩⟩ := hb
  obtain ⟨R, hR⟩ : ∃ R, R = sameD pl ⟨p.map Prod.fst, s.map Prod.fst⟩ ⟨p'.map Prod.fst, s'.map Prod.fst⟩ := ⟨_, rfl⟩
  rw [← hR]
  unfold sameD at hR
  simp only [] at hR
  have HR := Lib.hid hR
  have y0 := (Blk.new w 25 #[.slice A p.length c, .slice A2 s.length c2]).alloc (.cells #[.slice A' p'.length c', .slice A2' s'.length c2'] 25)
  have y1 := Blk.new (w.alloc (.cells #[.slice A p.length c, .slice A2 s.length c2] 25)) 25 #[.slice A' p'.length c', .slice A2' s'.length c2']
  simp only [World.size_alloc] at y1
  have hkA : K0 w ((w.alloc (.cells #[.slice A p.length c, .slice A2 s.length c2] 25)).alloc (.cells #[.slice A' p'.length c', .slice A2' s'.length c2'] 25)) := ((Kp.refl _ _).alloc _).alloc _
  have HC := Lib.hid (fun W hk q hlt => cls_at (W := W) (q := q) hcr hci hB hk hlt)
  have HS := Lib.hid (fun W hk q hlt => shs_at (W := W) (q := q) hsr hsi hB hk hlt)
  have HC' := Lib.hid (fun W hk q hlt => cls_at (W := W) (q := q) hcr' hci' hB hk hlt)
  have HS' := Lib.hid (fun W hk q hlt => shs_at (W := W) (q := q) hsr' hsi' hB hk hlt)
  clear hcr hci hsr hsi hcr' hci' hsr' hsi'
  by_cases hl1 : p.length = p'.length
  · have hl1a : p.length ≤ p'.length := by omega
    have hl1b : p'.length ≤ p.length := by omega
    clear hl1
    by_cases hl2 : s.length = s'.length
    · have hl2a : s.length ≤ s'.length := by omega
      have hl2b : s'.length ≤ s.length := by omega
      clear hR hl2
      go_enter Tryd.func21, Tryd.ntmps21
      go_wp2
      go_loopw [7] (fun i wr => ∃ q : Nat, q ≤ p.length ∧ i = .int .i64 (q : Int) ∧ Blk wr w.heap.size 25 #[.slice A p.length c, .slice A2 s.length c2] ∧ Blk wr (w.heap.size + 1) 25 #[.slice A' p'.length c', .slice A2' s'.length c2'] ∧ K0 w wr ∧ Hid (R = (sameL (sameC pl) ((p.map Prod.fst).drop q) ((p'.map Prod.fst).drop q) && sameL (sameS pl) (s.map Prod.fst) (s'.map Prod.fst)))) (fun i wr => p.length - (intOf i).toNat)
      case atStart => exact ⟨0, by omega, rfl, y0, y1, hkA, Lib.hid HR.out⟩
      case round =>
        obtain ⟨q, hq, rfl, z0, z1, hk, hres⟩ := hrel
        have x0 := z0.cell 0
        have x1 := z0.cell 1
        have x2 := z1.cell 0
        have x3 := z1.cell 1
        simp at x0 x1 x2 x3
        by_cases hlt : q < p.length
        · have hlt2 : q < p'.length := by omega
          obtain ⟨ad, rfl, hbl, r0, r1, r2, hit, hnz⟩ := HC.out _ hk q hlt
          obtain ⟨ad2, rfl, hbl2, s0, s1, s2, hit2, hnz2⟩ := HC'.out _ hk q hlt2
          have hs := hres.out
          rw [sameL_drop hlt hlt2] at hs
          obtain ⟨⟨⟨n1, i1, p1⟩, v1⟩, hx⟩ : ∃ x, x = p[q] := ⟨_, rfl⟩
          obtain ⟨⟨⟨n2, i2, p2⟩, v2⟩, hy⟩ : ∃ x, x = p'[q] := ⟨_, rfl⟩
          rw [← hx] at r0 r1 r2 hit hnz hs
          rw [← hy] at s0 s1 s2 hit2 hnz2 hs
          unfold sameC at hs
          simp only [] at r0 r1 r2 s0 s1 s2 hs hit hit2
          have SI := Lib.hid (fun n => sameItems_any (wr.drewN n) B v1 v2 i1 i2 pl (hit.drewN n) (hit2.drewN n) (by have := hk.size; show B ≤ wr.heap.size; omega))
          clear hx hy hit hit2 hnz hnz2
          have fin : ∀ n, K0 w (wr.drewN n) ∧ Blk (wr.drewN n) w.heap.size 25 #[.slice (some ad) p.length c, .slice A2 s.length c2] ∧ Blk (wr.drewN n) (w.heap.size + 1) 25 #[.slice (some ad2) p'.length c', .slice A2' s'.length c2'] := fun n => ⟨hk.drewN n, z0.drewN n, z1.drewN n⟩
          have FIN := Lib.hid fin
          clear fin
          cases e0 : (n1.toList == n2.toList) with
          | false =>
            rw [e0, Bool.false_and, Bool.false_and, Bool.false_and] at hs
            subst hs
            go_wp2
            go_quiet (fail)
            go_wp2
            go_ret
            exact ⟨rfl, (FIN.out _).1⟩
          | true =>
            rw [e0, Bool.true_and] at hs
            cases pl with
            | false =>
              rw [Bool.not_false, Bool.true_or, Bool.true_and] at hs
              cases er : sameR false i1 i2 with
              | false =>
                rw [er] at SI
                rw [er, Bool.false_and] at hs
                subst hs
                go_wp2
                go_quiet ((go_at_call 52; exact Calls.quiet_of (SI.out _)))
                go_wp2
                go_ret
                exact ⟨rfl, (FIN.out _).1⟩
              | true =>
                rw [er] at SI
                rw [er, Bool.true_and] at hs
                clear er
                have HN := Lib.hid hs
                clear hs hres
                go_wp2
                go_quiet ((go_at_call 52; exact Calls.quiet_of (SI.out _)))
                go_wp2
                exact ⟨⟨q + 1, by omega, by go_num, (FIN.out _).2.1, (FIN.out _).2.2, (FIN.out _).1, HN⟩, by simp [intOf]; omega⟩
            | true =>
              rw [Bool.not_true, Bool.false_or] at hs
              by_cases ep : p1 = p2
              · subst ep
                rw [decide_eq_true rfl, Bool.true_and] at hs
                cases er : sameR true i1 i2 with
                | false =>
                  rw [er] at SI
                  rw [er, Bool.false_and] at hs
                  subst hs
                  go_wp2
                  go_quiet ((go_at_call 52; exact Calls.quiet_of (SI.out _)))
                  go_wp2
                  go_ret
                  exact ⟨rfl, (FIN.out _).1⟩
                | true =>
                  rw [er] at SI
                  rw [er, Bool.true_and] at hs
                  clear er
                  have HN := Lib.hid hs
                  clear hs hres
                  go_wp2
                  go_quiet ((go_at_call 52; exact Calls.quiet_of (SI.out _)))
                  go_wp2
                  exact ⟨⟨q + 1, by omega, by go_num, (FIN.out _).2.1, (FIN.out _).2.2, (FIN.out _).1, HN⟩, by simp [intOf]; omega⟩
              · rw [decide_eq_false ep, Bool.false_and, Bool.false_and] at hs
                have e' : (p1 != p2) = true := by simp [ep]
                have e'' : (p1 == p2) = false := by simp [ep]
                subst hs
                go_wp2
                go_quiet ((go_at_call 52; exact Calls.quiet_of (SI.out _)))
                go_wp2
                go_ret
                exact ⟨rfl, (FIN.out _).1⟩
        · obtain rfl : q = p.length := by omega
          have hs := hres.out
          rw [show (p.map Prod.fst).drop p.length = [] by simp, show (p'.map Prod.fst).drop p.length = [] by simp; omega] at hs
          have HR3 := Lib.hid (show R = sameL (sameS pl) (s.map Prod.fst) (s'.map Prod.fst) from hs)
          clear hs hres HC HC'
          go_wp2
          obtain ⟨wm, hwm⟩ : ∃ wm, wm = wr := ⟨_, rfl⟩
          rw [← hwm] at z0 z1 hk ⊢
          clear hwm x0 x1 x2 x3
          go_loopw [8] (fun i wr => ∃ q : Nat, q ≤ s.length ∧ i = .int .i64 (q : Int) ∧ Blk wr w.heap.size 25 #[.slice A p.length c, .slice A2 s.length c2] ∧ Blk wr (w.heap.size + 1) 25 #[.slice A' p'.length c', .slice A2' s'.length c2'] ∧ K0 w wr ∧ Hid (R = sameL (sameS pl) ((s.map Prod.fst).drop q) ((s'.map Prod.fst).drop q))) (fun i wr => s.length - (intOf i).toNat)
          case atStart => exact ⟨0, by omega, rfl, z0, z1, hk, Lib.hid HR3.out⟩
          case round =>
            obtain ⟨q, hq, rfl, z0, z1, hk, hres⟩ := hrel
            have x0 := z0.cell 0
            have x1 := z0.cell 1
            have x2 := z1.cell 0
            have x3 := z1.cell 1
            simp at x0 x1 x2 x3
            by_cases hlt : q < s.length
            · have hlt2 : q < s'.length := by omega
              obtain ⟨ad, rfl, hbl, r0, r1, r2, hit, hnz⟩ := HS.out _ hk q hlt
              obtain ⟨ad2, rfl, hbl2, s0, s1, s2, hit2, hnz2⟩ := HS'.out _ hk q hlt2
              have hs := hres.out
              rw [sameL_drop hlt hlt2] at hs
              obtain ⟨⟨⟨i1, f1, p1⟩, v1⟩, hx⟩ : ∃ x, x = s[q] := ⟨_, rfl⟩
              obtain ⟨⟨⟨i2, f2, p2⟩, v2⟩, hy⟩ : ∃ x, x = s'[q] := ⟨_, rfl⟩
              rw [← hx] at r0 r1 r2 hit hnz hs
              rw [← hy] at s0 s1 s2 hit2 hnz2 hs
              unfold sameS at hs
              simp only [] at r0 r1 r2 s0 s1 s2 hs hit hit2
              have SI := Lib.hid (fun n => sameItems_any (wr.drewN n) B v1 v2 i1 i2 pl (hit.drewN n) (hit2.drewN n) (by have := hk.size; show B ≤ wr.heap.size; omega))
              clear hx hy hit hit2 hnz hnz2
              have fin : ∀ n, K0 w (wr.drewN n) ∧ Blk (wr.drewN n) w.heap.size 25 #[.slice A p.length c, .slice (some ad) s.length c2] ∧ Blk (wr.drewN n) (w.heap.size + 1) 25 #[.slice A' p'.length c', .slice (some ad2) s'.length c2'] := fun n => ⟨hk.drewN n, z0.drewN n, z1.drewN n⟩
              have FIN := Lib.hid fin
              clear fin
              by_cases ef : f1 = f2
              · subst ef
                rw [decide_eq_true rfl, Bool.true_and] at hs
                cases pl with
                | false =>
                  rw [Bool.not_false, Bool.true_or, Bool.true_and] at hs
                  cases er : sameR false i1 i2 with
                  | false =>
                    rw [er] at SI
                    rw [er, Bool.false_and] at hs
                    subst hs
                    go_wp2
                    go_quiet ((go_at_call 52; exact Calls.quiet_of (SI.out _)))
                    go_wp2
                    go_ret
                    exact ⟨rfl, (FIN.out _).1⟩
                  | true =>
                    rw [er] at SI
                    rw [er, Bool.true_and] at hs
                    clear er
                    have HN := Lib.hid hs
                    clear hs hres
                    go_wp2
                    go_quiet ((go_at_call 52; exact Calls.quiet_of (SI.out _)))
                    go_wp2
                    exact ⟨⟨q + 1, by omega, by go_num, (FIN.out _).2.1, (FIN.out _).2.2, (FIN.out _).1, HN⟩, by simp [intOf]; omega⟩
                | true =>
                  rw [Bool.not_true, Bool.false_or] at hs
                  by_cases ep : p1 = p2
                  · subst ep
                    rw [decide_eq_true rfl, Bool.true_and] at hs
                    cases er : sameR true i1 i2 with
                    | false =>
                      rw [er] at SI
                      rw [er, Bool.false_and] at hs
                      subst hs
                      go_wp2
                      go_quiet ((go_at_call 52; exact Calls.quiet_of (SI.out _)))
                      go_wp2
                      go_ret
                      exact ⟨rfl, (FIN.out _).1⟩
                    | true =>
                      rw [er] at SI
                      rw [er, Bool.true_and] at hs
                      clear er
                      have HN := Lib.hid hs
                      clear hs hres
                      go_wp2
                      go_quiet ((go_at_call 52; exact Calls.quiet_of (SI.out _)))
                      go_wp2
                      exact ⟨⟨q + 1, by omega, by go_num, (FIN.out _).2.1, (FIN.out _).2.2, (FIN.out _).1, HN⟩, by simp [intOf]; omega⟩
                  · rw [decide_eq_false ep, Bool.false_and, Bool.false_and] at hs
                    have e' : (p1 != p2) = true := by simp [ep]
                    have e'' : (p1 == p2) = false := by simp [ep]
                    subst hs
                    go_wp2
                    go_quiet ((go_at_call 52; exact Calls.quiet_of (SI.out _)))
                    go_wp2
                    go_ret
                    exact ⟨rfl, (FIN.out _).1⟩
              · rw [decide_eq_false ef, Bool.false_and, Bool.false_and] at hs
                have e' : (f1 != f2) = true := by simp [ef]
                have e'' : (f1 == f2) = false := by simp [ef]
                subst hs
                go_wp2
                go_quiet ((go_at_call 52; exact Calls.quiet_of (SI.out _)))
                go_wp2
                go_ret
                exact ⟨rfl, (FIN.out _).1⟩
            · obtain rfl : q = s.length := by omega
              have hs := hres.out
              rw [show (s.map Prod.fst).drop s.length = [] by simp, show (s'.map Prod.fst).drop s.length = [] by simp; omega] at hs
              have hs' : R = true := hs
              subst hs'
              go_wp2
              go_ret
              exact ⟨rfl, hk⟩
    · rw [show sameL (sameS pl) (s.map Prod.fst) (s'.map Prod.fst) = false from sameL_len (by simpa using hl2), Bool.and_false] at hR
      subst hR
      go_enter Tryd.func21, Tryd.ntmps21
      go_wp2
      go_ret
      exact ⟨rfl, hkA⟩
  · rw [show sameL (sameC pl) (p.map Prod.fst) (p'.map Prod.fst) = false from sameL_len (by simpa using hl1), Bool.false_and] at hR
    subst hR
    go_enter Tryd.func21, Tryd.ntmps21
    go_wp2
    go_ret
    exact ⟨rfl, hkA⟩
end Go.Proofs.YtobofhiakgohfaaDoor
