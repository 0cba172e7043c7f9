/- The document's sameItems. -/
import Derived.Test.YtobofhiakgohfaaDoorT30
set_option linter.unusedVariables false
set_option linter.unusedSimpArgs false
namespace Go.Proofs.YtobofhiakgohfaaDoor
open Go.RowKit

/-- Two items are the same (with their places, or but for them). -/
def sameI (pl : Bool) (x y : ItemD) : Bool := (x.nm.toList == y.nm.toList) && (decide (x.lo = y.lo) && (decide (x.hi = y.hi) && (!pl || decide (x.pl = y.pl))))
def sameR (pl : Bool) : List ItemD → List ItemD → Bool
  | [], [] => true
  | x :: a, y :: b => sameI pl x y && sameR pl a b
  | _, _ => false
theorem sameI_refl (pl : Bool) (x : ItemD) : sameI pl x x = true := by simp [sameI]
theorem sameR_refl (pl : Bool) : ∀ l : List ItemD, sameR pl l l = true
  | [] => rfl
  | x :: a => by simp [sameR, sameI_refl, sameR_refl pl a]
theorem sameR_len {pl : Bool} : ∀ {a b : List ItemD}, a.length ≠ b.length → sameR pl a b = false
  | [], [], h => absurd rfl h
  | [], y :: b, h => rfl
  | x :: a, [], h => rfl
  | x :: a, y :: b, h => by simp only [sameR]; rw [sameR_len (a := a) (b := b) (by simpa using h), Bool.and_false]
theorem sameR_drop {pl : Bool} {a b : List ItemD} {q : Nat} (ha : q < a.length) (hb : q < b.length) : sameR pl (a.drop q) (b.drop q) = (sameI pl a[q] b[q] && sameR pl (a.drop (q + 1)) (b.drop (q + 1))) := by
  rw [List.drop_eq_getElem_cons ha, List.drop_eq_getElem_cons hb]
  rfl

set_option maxRecDepth 100000 in
set_option maxHeartbeats 16000000 in
theorem sameItems_any (w : World) (B : Nat) (va vb : Value) (la lb : List ItemD) (pl : Bool) (ha : ItemsV w B va la) (hb : ItemsV w B vb lb) (hB : B ≤ w.heap.size) :
    Calls Tryd.prog 52 #[va, vb, .bool pl] w fun e w' => e = .returned (.bool (sameR pl la lb)) ∧ ∃ m, w' = w.drewN m := by
  obtain ⟨A, c, rfl, hc1, hc2, hl, hr, hnm⟩ := ha
  obtain ⟨A2, c2, rfl, hc3, hc4, hl2, hr2, hnm2⟩ := hb
  obtain ⟨R, hR⟩ : ∃ R, R = sameR pl la lb := ⟨_, rfl⟩
  rw [← hR]
  have HR := Lib.hid hR
  by_cases hlen : la.length = lb.length
  · clear hR
    go_enter Tryd.func52, Tryd.ntmps52
    go_wp2
    go_loopw [7] (fun i wr => ∃ q m : Nat, q ≤ la.length ∧ i = .int .i64 (q : Int) ∧ wr = w.drewN m ∧ Hid (R = sameR pl (la.drop q) (lb.drop q))) (fun i wr => la.length - (intOf i).toNat)
    case atStart => exact ⟨0, 0, by omega, rfl, rfl, Lib.hid HR.out⟩
    case round =>
      obtain ⟨q, m, hq, rfl, rfl, hres⟩ := hrel
      by_cases hlt : q < la.length
      · have hlt2 : q < lb.length := by omega
        obtain ⟨ad, rfl, hbl, r0, r1, r2, r3⟩ := hr.item hlt
        obtain ⟨ad2, rfl, hbl2, s0, s1, s2, s3⟩ := hr2.item hlt2
        have hs := hres.out
        rw [sameR_drop hlt hlt2] at hs
        obtain ⟨⟨n1, a1, b1, p1⟩, hx⟩ : ∃ x, x = la[q] := ⟨_, rfl⟩
        obtain ⟨⟨n2, a2, b2, p2⟩, hy⟩ : ∃ x, x = lb[q] := ⟨_, rfl⟩
        rw [← hx] at r0 r1 r2 r3 hs
        rw [← hy] at s0 s1 s2 s3 hs
        unfold sameI at hs
        simp only [] at r0 r1 r2 r3 s0 s1 s2 s3 hs
        clear hx hy
        cases e0 : (n1.toList == n2.toList) with
        | false =>
          rw [e0, Bool.false_and, Bool.false_and] at hs
          subst hs
          go_wp2
          go_quiet (fail)
          go_wp2
          go_ret
          exact ⟨rfl, _, by rw [World.drewN_drewN]⟩
        | true =>
          rw [e0, Bool.true_and] at hs
          by_cases ea : a1 = a2
          · subst ea
            rw [decide_eq_true rfl, Bool.true_and] at hs
            by_cases eb : b1 = b2
            · subst eb
              rw [decide_eq_true rfl, Bool.true_and] at hs
              cases pl with
              | false =>
                rw [Bool.not_false, Bool.true_or, Bool.true_and] at hs
                have HS := Lib.hid hs
                clear hs hres
                go_wp2
                go_quiet (fail)
                go_wp2
                exact ⟨⟨q + 1, _, by omega, by go_num, by first | rfl | rw [World.drewN_drewN], HS⟩, by simp [intOf]; omega⟩
              | true =>
                rw [Bool.not_true, Bool.false_or] at hs
                by_cases ep : p1 = p2
                · subst ep
                  rw [decide_eq_true rfl, Bool.true_and] at hs
                  have HS := Lib.hid hs
                  clear hs hres
                  go_wp2
                  go_quiet (fail)
                  go_wp2
                  exact ⟨⟨q + 1, _, by omega, by go_num, by first | rfl | rw [World.drewN_drewN], HS⟩, by simp [intOf]; omega⟩
                · rw [decide_eq_false ep, Bool.false_and] at hs
                  have e' : (p1 != p2) = true := by simp [ep]
                  have e'' : (p1 == p2) = false := by simp [ep]
                  subst hs
                  go_wp2
                  go_quiet (fail)
                  go_wp2
                  go_ret
                  exact ⟨rfl, _, by rw [World.drewN_drewN]⟩
            · rw [decide_eq_false eb, Bool.false_and, Bool.false_and] at hs
              have e' : (b1 != b2) = true := by simp [eb]
              have e'' : (b1 == b2) = false := by simp [eb]
              subst hs
              go_wp2
              go_quiet (fail)
              go_wp2
              go_ret
              exact ⟨rfl, _, by rw [World.drewN_drewN]⟩
          · rw [decide_eq_false ea, Bool.false_and, Bool.false_and] at hs
            have e' : (a1 != a2) = true := by simp [ea]
            have e'' : (a1 == a2) = false := by simp [ea]
            subst hs
            go_wp2
            go_quiet (fail)
            go_wp2
            go_ret
            exact ⟨rfl, _, by rw [World.drewN_drewN]⟩
      · obtain rfl : q = la.length := by omega
        have hs := hres.out
        rw [show la.drop la.length = [] by simp, show lb.drop la.length = [] by rw [hlen]; simp] at hs
        subst hs
        go_wp2
        go_ret
        exact ⟨rfl, _, rfl⟩
  · rw [sameR_len hlen] at hR
    subst hR
    go_enter Tryd.func52, Tryd.ntmps52
    go_wp2
    go_ret
    exact ⟨rfl, 0, rfl⟩
end Go.Proofs.YtobofhiakgohfaaDoor
