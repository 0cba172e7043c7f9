/- Loops over a function: marks among the deferred calls; the cursor's iterator. -/
import Derived.Test.YtdilpljfghbbeaaL1
import Derived.RangeFuncNested
import Derived.RangeFuncBound
import Derived.RangeFuncCalls
import Derived.RangeFuncLeaves
import Derived.RangeFuncBox
import Derived.Shelf.Abstract
import Derived.Shelf.RegionOpen
import Derived.WalkKit
import Derived.OwnWalkIn
import Derived.TacticsInMore
import Derived.LoopNIn
import Derived.LoopIn
set_option linter.unusedVariables false
set_option linter.unusedSimpArgs false
namespace Go.Proofs.Ytdilpljfghbbeaa
open Go.RowKit Go.Shelf
attribute [local go_sem] Oper.semAt_some

/-- The marks that loops over a function leave among the deferred calls. -/
def marksOf (Ds : List Nat) : List Deferred := Ds.map fun D => { target := .collected D, args := #[] }

/-- The marks lie open, each in a block of its own. -/
def Open (w : World) (Ds : List Nat) : Prop := Ds.Nodup ∧ ∀ D, D ∈ Ds → w.heap[D]? = some (.deferred (some []))

theorem Open.kp {S : Nat → Prop} {w w' : World} {Ds : List Nat} (h : Open w Ds) (hk : Kp S w w') (hs : ∀ D, D ∈ Ds → ¬ S D) : Open w' Ds :=
  ⟨h.1, fun D hD => (hk.block D (Array.getElem?_eq_some_iff.1 (h.2 D hD)).1 (hs D hD)).trans (h.2 D hD)⟩

theorem leaves_marks {F : Fence} {n : Nat} {P : Program} {fn : Func} {tmps : Array Value} {R : Ending → World → Prop} : ∀ (Ds : List Nat) (w : World), Open w Ds →
    (∀ w', Kp (fun b => b ∈ Ds) w w' → LeavesIn F n P fn tmps R [] .returning w') → LeavesInM F n P fn tmps R (marksOf Ds) .returning w
  | [], w, _, h => h w (Kp.refl _ _)
  | D :: Ds, w, ho, h => by
    have hD := ho.2 D (by simp)
    have hlt : D < w.heap.size := (Array.getElem?_eq_some_iff.1 hD).1
    have hnd := List.nodup_cons.1 ho.1
    have hk : Kp (fun b => b = D) w (w.putObj D (.deferred none)) := (Kp.refl _ _).grown (grownBy_putObj' w D (.deferred none)) (fun k hk => .inr (by cases hk; rfl))
    refine ⟨by simp, .inl ⟨D, _, rfl, run_takeDeferred hD, ?_⟩⟩
    refine leaves_marks Ds _ ⟨hnd.2, fun E hE => ?_⟩ fun w' hk' => h w' ?_
    · have hne : E ≠ D := fun e => hnd.1 (e ▸ hE)
      exact (hk.block E (Array.getElem?_eq_some_iff.1 (ho.2 E (by simp [hE]))).1 hne).trans (ho.2 E (by simp [hE]))
    · exact (hk.mono (T := fun b => b ∈ D :: Ds) (fun b hb => by simp [hb])).trans (hk'.mono fun b hb => by simp [hb])

/-- What has come when k rounds are over. -/
def upto {α : Type} (f : Nat → α) (k : Nat) : List α := (List.range k).map f
theorem upto_succ {α : Type} (f : Nat → α) (k : Nat) : upto f (k + 1) = upto f k ++ [f k] := by simp [upto, List.range_succ]
theorem upto_length {α : Type} (f : Nat → α) (k : Nat) : (upto f k).length = k := by simp [upto]

/-- A place and its byte. -/
abbrev pb (k : Nat) (r : List UInt8) (j : Nat) : Nat × UInt8 := (k + j, r[j]?.getD 0)
abbrev pbEnc (x : Nat × UInt8) : Array Value := #[.int .i64 (x.1 : Int), .int .u8 (x.2.toNat : Int)]

set_option maxRecDepth 100000 in
set_option maxHeartbeats 2000000 in
theorem all1_in (F : Fence) (n : Nat) (hF : F.fn 29) (hro : F.round = none) (hn : 1 ≤ n) (l b1 b2 n₀ m c k : Nat) (A : Option Addr) (r : List UInt8) (hm : m = r.length) (hkm : k + m ≤ 140737488355328) (hb2 : b2 < n₀) (J Jx : List (Nat × UInt8) → World → Prop)
    (hY : ∀ pre x W, J pre W → pre.length < m → YieldAt F (n - 1) Try.prog l (pbEnc x) W fun e W' =>
      (e = .returned (.bool true) ∧ J (pre ++ [x]) W' ∧ Below n₀ W W') ∨ (e = .returned (.bool false) ∧ Jx (pre ++ [x]) W'))
    (W : World) (h1 : W.cell? ⟨b1, 0, none⟩ = some (.slice A m c)) (h2 : W.cell? ⟨b2, 0, none⟩ = some (.int .i64 (k : Int))) (hr : Reads W n₀ 1 A m (bvs r)) (h0 : J [] W) :
    CallsIn F n Try.prog 29 #[.func (.yield l) #[] #[], .pointer (some ⟨b1, 0, none⟩), .pointer (some ⟨b2, 0, none⟩)] W fun e W' => (∃ v, e = .returned v) ∧
      ((∃ ys, ys = upto (pb k r) m ∧ J ys W') ∨ (∃ pre, (∃ q, q ≤ m ∧ pre = upto (pb k r) q) ∧ Jx pre W')) := by
  refine callsIn_of_wp Try.func29 rfl hF ?_ hro
  simp only [Try.ntmps29, List.size_toArray, List.length_cons, List.length_nil, Nat.reduceAdd, Nat.reduceSub, Array.replicate_succ, Array.replicate_zero, List.push_toArray, List.append_toArray, List.nil_append, List.cons_append]
  gi_wp2
  gi_loopw [8] (fun i wr => ∃ q : Nat, q ≤ m ∧ i = .int .i64 q ∧ J (upto (pb k r) q) wr ∧ Below n₀ W wr)
    (fun i _ => m - (intOf i).toNat)
  case atStart => exact ⟨0, Nat.zero_le _, rfl, h0, Below.refl _ _⟩
  case round =>
    obtain ⟨q, hq, rfl, hJs, hnx⟩ := hrel
    by_cases hlt : q < m
    · obtain ⟨ad, u, rfl, hbl, hu, hcell⟩ := (hr.below hnx).at_ hlt
      rw [bvs_get (by omega)] at hu
      cases hu
      have h2' := (hnx.cell (p := ⟨b2, 0, none⟩) hb2).trans h2
      obtain ⟨fn, tmps, assign, body, hy, hR⟩ := hY _ (pb k r q) wr hJs (by rw [upto_length]; exact hlt)
      have he : r[q]?.getD 0 = r[q]'(by omega) := by rw [List.getElem?_eq_getElem (by omega)]; rfl
      simp only [pbEnc, pb, he] at hy
      rw [Int.natCast_add] at hy
      unfold bv at hcell
      gi_wp2
      refine hR.mono ?_
      rintro e W3 (⟨rfl, hJ3, hk3⟩ | ⟨rfl, hJx3⟩)
      · gi_wp2
        go_roundw
        case rel => exact ⟨q + 1, by omega, by go_num, by rw [upto_succ]; exact hJ3, hnx.trans hk3⟩
        case measure => simp [intOf]; omega
      · gi_wp2
        refine bodyPost_ret (results_none rfl _ _ _) rfl ?_
        exact ⟨⟨_, rfl⟩, .inr ⟨_, ⟨q + 1, by omega, (upto_succ _ _).symm⟩, hJx3⟩⟩
    · obtain rfl : q = m := by omega
      gi_wp2
      go_end0
      exact ⟨⟨_, rfl⟩, .inl ⟨_, rfl, hJs⟩⟩

theorem all1_stops (F : Fence) (n : Nat) (hF : F.fn 29) (hro : F.round = none) (hn : 1 ≤ n) (b1 b2 m c k : Nat) (A : Option Addr) (r : List UInt8) (hm : m = r.length) (hkm : k + m ≤ 140737488355328) (w : World) (hb1 : b1 < w.heap.size) (hb2 : b2 < w.heap.size)
    (h1 : w.cell? ⟨b1, 0, none⟩ = some (.slice A m c)) (h2 : w.cell? ⟨b2, 0, none⟩ = some (.int .i64 (k : Int))) (hr : Reads w w.heap.size 1 A m (bvs r)) :
    SeqStopsK F n Try.prog 29 #[.pointer (some ⟨b1, 0, none⟩), .pointer (some ⟨b2, 0, none⟩)] pbEnc (Below w.heap.size) (fun ys => ys = upto (pb k r) m) (fun pre => ∃ q, q ≤ m ∧ pre = upto (pb k r) q) m w :=
  fun l J Jx W hW _ _ hY h0 => all1_in F n hF hro hn l b1 b2 w.heap.size m c k A r hm hkm hb2 J Jx hY W ((hW.cell (p := ⟨b1, 0, none⟩) hb1).trans h1) ((hW.cell (p := ⟨b2, 0, none⟩) hb2).trans h2) (hr.below hW) h0

/-- All. -/
theorem all_any (B k : Nat) (v : Value) (bs : List UInt8) (w : World) (hB : B ≤ w.heap.size) (h : CurV w B v bs k) :
    Calls Try.prog 13 #[v] w fun e w' => ∃ b1 b2 A c, e = .returned (.func (.func 29) #[] #[.pointer (some ⟨b1, 0, none⟩), .pointer (some ⟨b2, 0, none⟩)]) ∧ w.heap.size ≤ b1 ∧ w.heap.size ≤ b2 ∧
      Blk w' b1 23 #[.slice A (bs.length - k) c] ∧ Blk w' b2 3 #[.int .i64 (k : Int)] ∧ Reads w' B 1 A (bs.length - k) (bvs (bs.drop k)) ∧ (∀ ad, A = some ad → v ≠ .pointer (some ⟨ad.block, 0, none⟩)) ∧ K0 w w' := by
  go_enter Try.func13, Try.ntmps13
  go_wp2_with (first
    | (go_at_call 28; refine (rest_any' B k v bs w h).mono ?_; rintro e w' ⟨A, c, rfl, h1, h2, h3, h4, h5, h6, m, rfl⟩)
    | (go_at_call 15; refine (place_any B k v bs _ (h.drewN m)).mono ?_; rintro e w2 ⟨rfl, rfl⟩; have hbA := ((Blk.new (w.drewN m) 23 #[.slice none 0 0]).alloc (.cells #[.int .i64 0] 3)).set_ 0 (.slice A (bs.length - k) c); have hbB := (Blk.new ((w.drewN m).alloc (.cells #[.slice none 0 0] 23)) 3 #[.int .i64 0]).far (p := ⟨w.heap.size, 0, none⟩) (by simp) (.slice A (bs.length - k) c); have kA := Blk.new (w.drewN m) 23 #[.slice none 0 0]; have kB := Blk.new ((w.drewN m).alloc (.cells #[.slice none 0 0] 23)) 3 #[.int .i64 0]; have cA1 := kA.cell 0; have fA1 := kA.frozen 0; have cA2 := (kA.alloc (.cells #[.int .i64 0] 3)).cell 0; have fA2 := (kA.alloc (.cells #[.int .i64 0] 3)).frozen 0; have cB1 := kB.cell 0; have fB1 := kB.frozen 0; have cB2 := hbB.cell 0; have fB2 := hbB.frozen 0; simp at cA1 cA2 cB1 cB2 fA1 fA2 fB1 fB2 hbA hbB))
  go_ret
  have kA' := kA.set_ 0 (.slice A (bs.length - k) c)
  have kB' := Blk.new (((w.drewN m).alloc (.cells #[.slice none 0 0] 23)).setCell ⟨w.heap.size, 0, none⟩ (.slice A (bs.length - k) c)) 3 #[.int .i64 (k : Int)]
  simp at kA' kB'
  have hB2 : B ≤ ((w.drewN m).alloc (.cells #[.slice none 0 0] 23)).heap.size := by simp; omega
  refine ⟨w.heap.size, w.heap.size + 1, A, c, rfl, Nat.le_refl _, by omega, kA'.alloc _, kB', ?_, h5, ?_⟩
  · exact (((h4.drewN m).alloc hB _).setCell (p := ⟨w.heap.size, 0, none⟩) hB _).alloc (by simp; omega) _
  · exact ((((Kp.refl _ w).drewN m).alloc _).setCell (p := ⟨w.heap.size, 0, none⟩) (.inl (Nat.le_refl _)) _).alloc _
end Go.Proofs.Ytdilpljfghbbeaa
