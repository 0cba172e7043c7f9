/- The walk of CursorAll. -/
import Derived.Test.YtdilpljfghbbeaaA0
import Derived.Test.YtdilpljfghbbeaaL2
set_option linter.unusedVariables false
set_option linter.unusedSimpArgs false
namespace Go.Proofs.Ytdilpljfghbbeaa
open Go.RowKit Go.Shelf
attribute [local go_sem] Oper.semAt_some

theorem ex_us {a : Act} {Fr : (Nat → Value) → Act} (e : a = Fr (fun i => a.tmps.getD i undef)) : ∃ us, a = Fr us := ⟨_, e⟩
theorem below_kp {B : Nat} {w w' : World} (h : Below B w w') : Kp (fun k => B ≤ k) w w' := ⟨h.os, h.tape, h.output, h.size, fun k _ hk => h.block k (by omega)⟩
theorem Kp.below_of {S : Nat → Prop} {B : Nat} {w w' : World} (h : Kp S w w') (hB : B ≤ w.heap.size) (hs : ∀ k, k < B → ¬ S k) : Below B w w' := ⟨h.os, h.tape, h.output, h.size, fun k hk => h.block k (by omega) (hs k hk)⟩

set_option maxRecDepth 100000 in
set_option maxHeartbeats 4000000 in
theorem cursorAll_walk (w : World) (v0 : Value) (bs : List UInt8) (h0 : SlV w w.heap.size v0 bs) (skip early : Int) :
    Calls Try.prog 4 #[v0, .int .i64 skip, .int .i64 early] w fun e w' => e = .returned (.bool true) ∧ Below w.heap.size w w' := by
  obtain ⟨i0, hi, hz0, hz1, hz2⟩ := info_parts u8_info
  obtain ⟨A0, c0, rfl, b1, b2, b3, hr0⟩ := h0
  refine (callsIn_wide (n := 7)).1 (callsIn_of_wp_marks Try.func4 rfl trivial ?_)
  simp only [Try.ntmps4, List.size_toArray, List.length_cons, List.length_nil, Nat.reduceAdd, Nat.reduceSub, Array.replicate_succ, Array.replicate_zero, List.push_toArray, List.append_toArray, List.nil_append, List.cons_append]
  refine wpIn_wide.2 ?_
  have hw3 := ((Kp.refl (fun _ => False) w).alloc (.cells #[.slice A0 bs.length c0] 23)).alloc (.cells #[.int .i64 early] 3)
  have y0 := ((Blk.new w 23 #[.slice A0 bs.length c0]).alloc (.cells #[.int .i64 early] 3)).alloc (.cells #[.bool false] 4)
  have y1 := (Blk.new (w.alloc (.cells #[.slice A0 bs.length c0] 23)) 3 #[.int .i64 early]).alloc (.cells #[.bool false] 4)
  have y2 := Blk.new ((w.alloc (.cells #[.slice A0 bs.length c0] 23)).alloc (.cells #[.int .i64 early] 3)) 4 #[.bool false]
  simp only [World.size_alloc] at y1 y2
  go_wp2_with fail
  refine (fixed_any _).mono ?_
  rintro e w1 ⟨rfl, hk1⟩
  have hk01 : K0 w w1 := (hw3.alloc _).trans hk1
  have z0 := y0.kp hk1 (fun h => h)
  have z1 := y1.kp hk1 (fun h => h)
  have z2 := y2.kp hk1 (fun h => h)
  have hr01 := hr0.k0 (Nat.le_refl _) hk01
  have hs1 := hk01.size
  clear y0 y1 y2 hw3 hk1
  have c10 := z0.cell 0
  simp at c10
  have hlz0 := z0.lt
  have hlz2 := z2.lt
  go_wp2_with (first
    | (at_builtin; refine wpList_append_any _ rfl (.tmp 19) (.tmp 20) _ rfl w.heap.size 5 i0 _ 1 1 Try.underlying23 hi hz0 hz1 hz2 rfl (by omega) (.slice (some ⟨w1.heap.size, 0, none⟩) 0 0) 0 [] rfl (by exact World.ownsRow_made w1 #[] 0 hs1 (by simp [maxLen]) rfl) w.heap.size A0 bs.length c0 (bvs bs) rfl (by exact hr01.alloc hs1 _) (bvs_one bs) (by simp only [maxLen]; omega) (by omega) (by simp; omega) ?_; intro v2 w2 hown2 hg2 hat2; have hk12 : K0 w1 w2 := ((Kp.refl _ _).alloc _).grown hg2 (by simp [Value.ownBlock]); rw [Nat.zero_add, List.nil_append] at hown2)
    | (go_at_call 11; refine (new_any w2.heap.size _ bs _ (Nat.le_refl _) (by exact own_sl hown2 (Nat.le_refl _) b3)).mono ?_; rintro e w3 ⟨pc, rfl, hpc, hc3, hk3⟩; have hk13 : K0 w1 w3 := hk12.trans hk3; have y0 := z0.kp hk13 (fun h => h); have y1 := z1.kp hk13 (fun h => h); have y2 := z2.kp hk13 (fun h => h); have c30 := y0.cell 0; simp at c30))
  obtain ⟨k, hke, hkl⟩ : ∃ k : Nat, min (max skip 0) (bs.length : Int) = (k : Int) ∧ k ≤ bs.length := ⟨(min (max skip 0) (bs.length : Int)).toNat, by omega, by omega⟩
  rw [hke]
  clear hke
  have hk03 : K0 w w3 := hk01.trans hk13
  have hs13 := hk13.size
  have hs12 := hk12.size
  have hpcl : pc < w3.heap.size := by obtain ⟨_, _, hb, _⟩ := hc3; exact hb.lt
  have hpw : w1.heap.size ≤ pc := Nat.le_trans hs12 hpc
  have hb8 := Blk.new w3 3 #[.int .i64 (k : Int)]
  have hkA : K0 w3 (w3.alloc (.cells #[.int .i64 (k : Int)] 3)) := (Kp.refl _ _).alloc _
  generalize hBB : w3.heap.size = BB at *
  have hcA : CurV (w3.alloc (.cells #[.int .i64 (k : Int)] 3)) BB (.pointer (some ⟨pc, 0, none⟩)) bs 0 := CurV.k0 (.inr ⟨pc, rfl, hc3⟩) (by omega) hkA
  have hsA := hkA.size
  have hT : takeOf bs 0 (k : Int) = (bs.take k, 0, k) := by have := takeOf_ok bs 0 k (by omega); simpa using this
  have GT := Take_any BB 0 (.pointer (some ⟨pc, 0, none⟩)) bs (k : Int) _ (by omega) hcA
  rw [hT] at GT
  have y0A := y0.kp hkA (fun h => h)
  have y1A := y1.kp hkA (fun h => h)
  have y2A := y2.kp hkA (fun h => h)
  refine GT.mono ?_
  rintro e w4 ⟨r4, rfl, ho4, hc4, hk4⟩
  have nb : ∀ {W W' : World} {x : Nat} {t : TypeId} {cs : Array Value}, Blk W x t cs → KC (.pointer (some ⟨pc, 0, none⟩)) W W' → x ≠ pc → Blk W' x t cs := fun h hk hne => h.kp hk (fun e => by cases e; exact hne rfl)
  have y04 := nb y0A hk4 (by omega)
  have y14 := nb y1A hk4 (by omega)
  have y24 := nb y2A hk4 (by omega)
  have y84 := nb hb8 hk4 (by omega)
  have hs4 := hk4.size
  go_wp2_with fail
  refine (all_any BB k _ bs w4 (by omega) hc4).mono ?_
  rintro e w5 ⟨g1, g2, A5, c5, rfl, hg1, hg2, yg1, yg2, hr5, hv5, hk5⟩
  have hc5 := hc4.k0 (by omega) hk5
  have hs5 := hk5.size
  have y05 := y04.kp hk5 (fun h => h)
  have y15 := y14.kp hk5 (fun h => h)
  have y25 := y24.kp hk5 (fun h => h)
  have y85 := y84.kp hk5 (fun h => h)
  go_wp2_with fail
  refine (next_any BB k _ bs w5 hc5).mono ?_
  rintro e w6 ⟨rfl, hc6, hk6⟩
  have hs6 := hk6.size
  have y06 := nb y05 hk6 (by omega)
  have y16 := nb y15 hk6 (by omega)
  have y26 := nb y25 hk6 (by omega)
  have y86 := nb y85 hk6 (by omega)
  have yg16 := nb yg1 hk6 (by omega)
  have yg26 := nb yg2 hk6 (by omega)
  go_wp2_with fail
  refine (place_any BB _ _ bs w6 hc6).mono ?_
  rintro e w7 ⟨rfl, rfl⟩
  generalize (nextOf bs k).2.2 = kp at *
  have hbl6 : Below w.heap.size w w6 := by
    have e1 : Below w.heap.size w w3 := hk03.below
    have e2 := e1.trans (hkA.below_of (by omega) (fun _ _ h => h))
    have e3 := e2.trans (hk4.below_of (by omega) (fun b hb e => by cases e; omega))
    have e4 := e3.trans (hk5.below_of (by omega) (fun _ _ h => h))
    exact e4.trans (hk6.below_of (by omega) (fun b hb e => by cases e; omega))
  have hr6 : Reads w6 BB 1 A5 (bs.length - k) (bvs (bs.drop k)) := by
    refine ⟨hr5.1, fun hn => ?_⟩
    obtain ⟨ad, e, hb, hc⟩ := hr5.2 hn
    exact ⟨ad, e, hb, fun j u hu => (hk6.cell (by rw [block_of_add]; omega) (fun he => hv5 ad e (by rw [block_of_add] at he; exact he))).trans (hc j u hu)⟩
  go_wp2_with fail
  -- LOOP
  have hs7 : w6.heap.size ≤ w6.heap.size := Nat.le_refl _
  obtain ⟨tp, htp⟩ : ∃ tp : Value, tp = .tuple #[r4, .int .i64 0] := ⟨_, rfl⟩
  obtain ⟨tq, htq⟩ : ∃ tq : Value, tq = .tuple #[.int .u8 (nextOf bs k).1, .bool (nextOf bs k).2.1] := ⟨_, rfl⟩
  rw [← htp, ← htq]
  clear htp htq
  refine (wpIn_wide (n := 7)).1 ?_
  refine wpIn_loop (fun a W => ∃ (R b13 : Nat) (Ds : List Nat), R ≤ 3 ∧ Blk W b13 3 #[.int .i64 (R : Int)] ∧ w6.heap.size ≤ b13 ∧ Below w6.heap.size w6 W ∧ Open W Ds ∧ Ds.length = R ∧ (∀ D, D ∈ Ds → w6.heap.size ≤ D) ∧
      ∃ us : Nat → Value, a = { tmps := #[.slice A0 bs.length c0, .int .i64 skip, .int .i64 early, .pointer (some ⟨w.heap.size, 0, none⟩), undef, .pointer (some ⟨w.heap.size + 1, 0, none⟩), .pointer (some ⟨w.heap.size + 1 + 1, 0, none⟩), .pointer (some ⟨pc, 0, none⟩), .pointer (some ⟨BB, 0, none⟩), r4, .int .i64 0, .func (.func 29) #[] #[.pointer (some ⟨g1, 0, none⟩), .pointer (some ⟨g2, 0, none⟩)], .int .i64 (kp : Int), .pointer (some ⟨b13, 0, none⟩), (us 14), undef, undef, .bool true, .bool false, .slice (some ⟨w1.heap.size, 0, none⟩) 0 0, .slice A0 bs.length c0, v2, .pointer (some ⟨pc, 0, none⟩), .pointer (some ⟨pc, 0, none⟩), .bool false, .int .i64 skip, .int .i64 (max skip 0), .slice A0 bs.length c0, .int .i64 (bs.length : Int), .int .i64 (k : Int), tp, .pointer (some ⟨pc, 0, none⟩), .int .i64 (k : Int), tp, r4, .int .i64 0, .int .i64 0, .bool false, .pointer (some ⟨pc, 0, none⟩), .func (.func 29) #[] #[.pointer (some ⟨g1, 0, none⟩), .pointer (some ⟨g2, 0, none⟩)], .pointer (some ⟨pc, 0, none⟩), tq, .pointer (some ⟨pc, 0, none⟩), .int .i64 (kp : Int), (us 44), (us 45), (us 46), (us 47), (us 48), (us 49), (us 50), (us 51), (us 52), (us 53), (us 54), (us 55), (us 56), (us 57), (us 58), (us 59), (us 60), (us 61), (us 62), (us 63), (us 64), (us 65), (us 66), (us 67), (us 68), (us 69), (us 70), (us 71), (us 72), (us 73), (us 74), (us 75), (us 76), (us 77), (us 78), (us 79), (us 80), (us 81), (us 82), (us 83), (us 84), (us 85), (us 86), (us 87), (us 88), (us 89), (us 90), (us 91), (us 92), (us 93), (us 94)], defers := marksOf Ds }) (fun a _ => 4 - a.defers.length) ?start ?round
  case start =>
    refine ⟨0, w6.heap.size, [], by omega, Blk.new _ _ _, Nat.le_refl _, (Below.refl _ _).alloc (Nat.le_refl _) _, ⟨List.nodup_nil, fun D h => (by cases h)⟩, rfl, fun D h => (by cases h), ex_us rfl⟩
  case round =>
    rintro a W ⟨R, b13, Ds, hR3, hb13, hl13, hBW, hOp, hlen, hDs, us, rfl⟩
    have q0 := y06.below hBW y06.lt
    have q1 := y16.below hBW y16.lt
    have q2 := y26.below hBW y26.lt
    have q8 := y86.below hBW y86.lt
    have qg1 := yg16.below hBW yg16.lt
    have qg2 := yg26.below hBW yg26.lt
    have c13 := hb13.cell 0
    have f13 := hb13.frozen 0
    have c8 := q8.cell 0
    have d0 := q0.cell 0
    have d1 := q1.cell 0
    have dg1 := qg1.cell 0
    have dg2 := qg2.cell 0
    simp at c13 c8 d0 d1 dg1 dg2
    have l13 := hb13.lt
    have l8 := q8.lt
    have l0 := q0.lt
    have l1 := q1.lt
    by_cases hlt : R < 3
    · have qr : Reads W BB 1 A5 (bs.length - k) (bvs (bs.drop k)) := hr6.below (hBW.mono (by omega))
      have hbw : Below w.heap.size w W := hbl6.trans (hBW.mono (by omega))
      have hsW := hBW.size
      have hdl : (bs.drop k).length = bs.length - k := by simp
      gi_wp2
      have hkn : Below W.heap.size W (W.alloc (.cells #[.int .i64 (k : Int)] 3)) := (Below.refl _ _).alloc (Nat.le_refl _) _
      have b14 := Blk.new W 3 #[.int .i64 (k : Int)]
      refine wpIn_rangeFunc_ownG rfl (by omega) (gf := 29) (lb := #[.pointer (some ⟨g1, 0, none⟩), .pointer (some ⟨g2, 0, none⟩)]) rfl trivial (enters_of Try.func29 (by kernel_rfl) rfl)
        (all1_stops Fence.wide 6 trivial rfl (by omega) g1 g2 (bs.length - k) c5 k A5 (bs.drop k) hdl.symm (by omega) W qg1.lt qg2.lt (qg1.cell 0) (qg2.cell 0) (qr.more (by omega))) belowK_t (belowK_b (by simp)) hkn (fun _ => rfl)
        (fun pre W' => (W'.cell? ⟨W.heap.size, 0, none⟩ = some (.int .i64 ((k + pre.length : Nat) : Int)) ∧ W'.frozen? ⟨W.heap.size, 0, none⟩ = false ∧ pre = upto (pb k (bs.drop k)) pre.length) ∧ Below W.heap.size W W')
        (fun c pre W' => (c = .ret ∧ pre ≠ upto (pb k (bs.drop k)) pre.length) ∨ ((c = .exit 2 ∧ R = 0 ∧ ∃ q : Int, W'.cell? ⟨W.heap.size, 0, none⟩ = some (.int .i64 q)) ∧ Below W.heap.size W W'))
        (OwnFrom.and (Own.from (fun s A B row hs hg hr => ⟨cell_kept hs.1 hg hr, (frozen_kept hs.1 hg hr).trans hs.2.1, hs.2.2⟩) _) (ownFrom_below (Nat.le_refl _) (by simp)))
        (fun c s A B row hs hg hr => hs.imp (fun h => h) (fun ⟨⟨h1, h2, q, h3⟩, hb⟩ => ⟨⟨h1, h2, q, cell_kept h3 hg (fun r e => (hr r e).2)⟩, ownFrom_below (β := List (Nat × UInt8)) (Nat.le_refl _) (by simp) s A B row hb hg hr⟩))
        ⟨⟨by simp, b14.frozen 0, rfl⟩, hkn⟩
        (fun x => { tmps := #[.slice A0 bs.length c0, .int .i64 skip, .int .i64 early, .pointer (some ⟨w.heap.size, 0, none⟩), undef, .pointer (some ⟨w.heap.size + 1, 0, none⟩), .pointer (some ⟨w.heap.size + 1 + 1, 0, none⟩), .pointer (some ⟨pc, 0, none⟩), .pointer (some ⟨BB, 0, none⟩), r4, .int .i64 0, .func (.func 29) #[] #[.pointer (some ⟨g1, 0, none⟩), .pointer (some ⟨g2, 0, none⟩)], .int .i64 (kp : Int), .pointer (some ⟨b13, 0, none⟩), .pointer (some ⟨W.heap.size, 0, none⟩), .int .i64 (x.1 : Int), .int .u8 (x.2.toNat : Int), .bool true, .bool false, .slice (some ⟨w1.heap.size, 0, none⟩) 0 0, .slice A0 bs.length c0, v2, .pointer (some ⟨pc, 0, none⟩), .pointer (some ⟨pc, 0, none⟩), .bool false, .int .i64 skip, .int .i64 (max skip 0), .slice A0 bs.length c0, .int .i64 (bs.length : Int), .int .i64 (k : Int), tp, .pointer (some ⟨pc, 0, none⟩), .int .i64 (k : Int), tp, r4, .int .i64 0, .int .i64 0, .bool false, .pointer (some ⟨pc, 0, none⟩), .func (.func 29) #[] #[.pointer (some ⟨g1, 0, none⟩), .pointer (some ⟨g2, 0, none⟩)], .pointer (some ⟨pc, 0, none⟩), tq, .pointer (some ⟨pc, 0, none⟩), .int .i64 (kp : Int), .int .i64 (R : Int), .bool true, (us 46), (us 47), .int .i64 (k : Int), .func (.func 29) #[] #[.pointer (some ⟨g1, 0, none⟩), .pointer (some ⟨g2, 0, none⟩)], .int .i64 (x.1 : Int), .int .u8 (x.2.toNat : Int), (us 52), (us 53), (us 54), (us 55), (us 56), (us 57), (us 58), (us 59), (us 60), (us 61), (us 62), (us 63), (us 64), (us 65), (us 66), (us 67), (us 68), (us 69), (us 70), (us 71), (us 72), (us 73), (us 74), (us 75), (us 76), (us 77), (us 78), (us 79), (us 80), (us 81), (us 82), (us 83), (us 84), (us 85), (us 86), (us 87), (us 88), (us 89), (us 90), (us 91), (us 92), (us 93), (us 94)], defers := [] }) ?assign ?body ?done ?stop
      case assign =>
        intro l x W' K hK
        gi_wp2
        exact hK
      case body =>
        rintro l pre x W' ⟨⟨hc14, hf14, hpre⟩, hB'⟩ hlen'
        have e13 := (hB'.cell (p := ⟨b13, 0, none⟩) l13).trans c13
        have e8 := (hB'.cell (p := ⟨BB, 0, none⟩) l8).trans c8
        have e0 := (hB'.cell (p := ⟨w.heap.size, 0, none⟩) l0).trans d0
        have e1 := (hB'.cell (p := ⟨w.heap.size + 1, 0, none⟩) l1).trans d1
        have hbw' : Below w.heap.size w W' := hbw.trans (hB'.mono (by omega))
        obtain ⟨j, hj⟩ : ∃ j, j = pre.length := ⟨_, rfl⟩
        rw [← hj] at hc14 hpre hlen'
        obtain ⟨ad, rfl, hbl, hcb⟩ := (hr0.below hbw').byte (j := k + j) (by omega)
        have hrj : (bs.drop k)[j]?.getD 0 = bs[k + j]?.getD 0 := by rw [List.getElem?_drop]
        generalize bs[k + j]?.getD 0 = bt at hcb hrj
        rw [Int.natCast_add] at hc14
        have g0 : (0 : Int) ≤ (k : Int) + j := by omega
        have g1' : (k : Int) + j < (bs.length : Int) := by omega
        have hcb2 : W'.cell? (ad.add ((k : Int) + j).toNat) = some (.int .u8 (bt.toNat : Int)) := by rw [show ((k : Int) + j).toNat = k + j by omega]; exact hcb
        have hlW : W.heap.size < W'.heap.size := World.block_lt_of_cell? W' _ hc14
        have hpx : pb k (bs.drop k) j = (k + j, bt) := by simp only [pb]; rw [hrj]
        have HX := Lib.hid hpx
        have HJ := Lib.hid hj
        have HP := Lib.hid hpre
        clear hj hpre hrj hpx
        obtain ⟨i, xb⟩ := x
        by_cases hx : i = k + j ∧ xb = bt
        · obtain ⟨rfl, rfl⟩ := hx
          have hsu : pre ++ [(k + j, xb)] = upto (pb k (bs.drop k)) (pre ++ [(k + j, xb)]).length := by
            rw [List.length_append, List.length_singleton, ← HJ.out, upto_succ, HX.out, ← HP.out]
          have hln : ((k + (pre ++ [(k + j, xb)]).length : Nat) : Int) = (k : Int) + j + 1 := by
            rw [List.length_append, List.length_singleton, ← HJ.out]; omega
          have HS := Lib.hid hsu
          have HLN := Lib.hid hln
          clear hsu hln
          have hst : ∀ u, (W'.setCell ⟨W.heap.size, 0, none⟩ u).cell? ⟨W.heap.size, 0, none⟩ = some u := fun u => World.cell?_setCell_same' _ _ _ (by rw [hc14]; rfl)
          have HST := Lib.hid hst
          clear hst
          gi_wp2
          all_goals first
            | exact ⟨(KeepsOthers.setCell _ _ _).from _, (Below.refl W.heap.size W').setCell (p := ⟨W.heap.size, 0, none⟩) (Nat.le_refl _) _, ⟨by rw [HLN.out]; exact HST.out _, by rw [World.frozen?_setCell]; exact hf14, HS.out⟩, hB'.setCell (p := ⟨W.heap.size, 0, none⟩) (Nat.le_refl _) _⟩
            | exact ⟨(KeepsOthers.setCell _ _ _).from _, .inr ⟨⟨rfl, by omega, _, HST.out _⟩, hB'.setCell (p := ⟨W.heap.size, 0, none⟩) (Nat.le_refl _) _⟩⟩
            | trace_state
        · have hne : pre ++ [(i, xb)] ≠ upto (pb k (bs.drop k)) (pre ++ [(i, xb)]).length := by
            rw [List.length_append, List.length_singleton, ← HJ.out, upto_succ, HX.out, ← HP.out]
            intro h
            have := List.append_inj_right' h rfl
            simp at this
            exact hx this
          have HNE := Lib.hid hne
          have q2' := q2.below hB' q2.lt
          have e2 := q2'.cell 0
          have f2 := q2'.frozen 0
          simp at e2
          clear hne
          by_cases hxi : i = k + j
          · subst hxi
            have hxb : ((xb.toNat : Int) != (bt.toNat : Int)) = true := by
              rw [bne_iff_ne]; intro e; exact hx ⟨rfl, UInt8.toNat_inj.1 (by omega)⟩
            clear hx
            gi_wp2
            all_goals first
              | exact ⟨(KeepsOthers.setCell _ _ _).from _, .inl ⟨rfl, HNE.out⟩⟩
              | trace_state
          · have hxi2 : ((i : Int) != (k : Int) + j) = true := by rw [bne_iff_ne]; omega
            clear hx
            gi_wp2
            all_goals first
              | exact ⟨(KeepsOthers.setCell _ _ _).from _, .inl ⟨rfl, HNE.out⟩⟩
              | trace_state
      case done =>
        rintro D ys W' hD rfl ⟨⟨hc14, hf14, _⟩, hB'⟩ hK
        have e13 := (hB'.cell (p := ⟨b13, 0, none⟩) l13).trans c13
        have e0 := (hB'.cell (p := ⟨w.heap.size, 0, none⟩) l0).trans d0
        rw [upto_length, show k + (bs.length - k) = bs.length by omega] at hc14
        have hlW : W.heap.size < W'.heap.size := World.block_lt_of_cell? W' _ hc14
        have hB6 : Below w6.heap.size w6 W' := hBW.trans (hB'.mono hsW)
        have hcW : CurV W' BB (.pointer (some ⟨pc, 0, none⟩)) bs kp := hc6.far (by omega) (below_kp hB6) (fun p e => by cases e; omega) (fun b hb => by omega)
        have hl13' : b13 < W'.heap.size := by omega
        gi_wp2_with (refine ⟨trivial, ?_⟩; gi_at_call 15; refine (callsIn_wide.2 (place_any BB kp _ bs _ (by exact hcW))).mono ?_; rintro e w8 ⟨rfl, rfl⟩)
        all_goals
          simp at hD
          have hOp' : Open W' Ds := hOp.kp (below_kp hB') (fun E hE h => by have := (Array.getElem?_eq_some_iff.1 (hOp.2 E hE)).1; omega)
          have hOpD : Open W' (D :: Ds) := ⟨List.nodup_cons.2 ⟨fun h => by have := (Array.getElem?_eq_some_iff.1 (hOp.2 D h)).1; omega, hOp'.1⟩, fun E hE => by rcases List.mem_cons.1 hE with rfl | h; exact hK; exact hOp'.2 E h⟩
          refine ⟨⟨R + 1, W'.heap.size, D :: Ds, by omega, Blk.new _ _ _, by have := hB6.size; omega, hB6.alloc (by have := hB6.size; omega) _, hOpD.kp ((Kp.refl (fun _ => False) _).alloc _) (fun _ _ h => h), by simp [hlen], fun E hE => ?_, ex_us rfl⟩, by simp [marksOf]; omega⟩
          rcases List.mem_cons.1 hE with rfl | h
          · omega
          · exact hDs E h
      case stop =>
        rintro D c pre W' hD ⟨q, hq, rfl⟩ hor hK
        rcases hor with ⟨_, h⟩ | ⟨⟨rfl, rfl, nn, hc14⟩, hB'⟩
        · exact absurd (by rw [upto_length]) h
        have e13 := (hB'.cell (p := ⟨b13, 0, none⟩) l13).trans c13
        have e0 := (hB'.cell (p := ⟨w.heap.size, 0, none⟩) l0).trans d0
        have hlW : W.heap.size < W'.heap.size := World.block_lt_of_cell? W' _ hc14
        have hB6 : Below w6.heap.size w6 W' := hBW.trans (hB'.mono hsW)
        have hcW : CurV W' BB (.pointer (some ⟨pc, 0, none⟩)) bs kp := hc6.far (by omega) (below_kp hB6) (fun p e => by cases e; omega) (fun b hb => by omega)
        have hl13' : b13 < W'.heap.size := by omega
        gi_wp2_with (refine ⟨trivial, ?_⟩; gi_at_call 15; refine (callsIn_wide.2 (place_any BB kp _ bs _ (by exact hcW))).mono ?_; rintro e w8 ⟨rfl, rfl⟩)
        all_goals
          simp at hD
          have hOp' : Open W' Ds := hOp.kp (below_kp hB') (fun E hE h => by have := (Array.getElem?_eq_some_iff.1 (hOp.2 E hE)).1; omega)
          have hOpD : Open W' (D :: Ds) := ⟨List.nodup_cons.2 ⟨fun h => by have := (Array.getElem?_eq_some_iff.1 (hOp.2 D h)).1; omega, hOp'.1⟩, fun E hE => by rcases List.mem_cons.1 hE with rfl | h; exact hK; exact hOp'.2 E h⟩
          refine ⟨⟨1, W'.heap.size, D :: Ds, by omega, Blk.new _ _ _, by have := hB6.size; omega, hB6.alloc (by have := hB6.size; omega) _, hOpD.kp ((Kp.refl (fun _ => False) _).alloc _) (fun _ _ h => h), by simp [hlen], fun E hE => ?_, ex_us rfl⟩, by simp [marksOf]; omega⟩
          rcases List.mem_cons.1 hE with rfl | h
          · omega
          · exact hDs E h
    · obtain rfl : R = 3 := by omega
      have c2 := q2.cell 0
      have f2 := q2.frozen 0
      simp at c2
      gi_wp2
      go_wp2
      refine leaves_marks Ds _ (hOp.kp ((Kp.refl (fun b => b = w.heap.size + 1 + 1) W).setCell (p := ⟨w.heap.size + 1 + 1, 0, none⟩) (.inr rfl) (.bool true)) (fun D hD h => by have := hDs D hD; have := y26.lt; omega)) fun w8 hk8 => ?_
      have hb2 := (q2.set_ 0 (.bool true)).kp hk8 (fun h => by have := hDs _ h; have := y26.lt; omega)
      have hc2 := hb2.cell 0
      simp at hc2
      refine ⟨.bool true, ?_, rfl, ?_⟩
      · simp [results, Try.f4, go_sem, hc2]
      · exact ((hbl6.trans (hBW.mono (by have := hbl6.size; omega))).setCell (p := ⟨w.heap.size + 1 + 1, 0, none⟩) (by simp; omega) _).trans (hk8.below_of (by simp [World.setCell]; have := hbl6.size; have := hBW.size; omega) (fun b hb h => by have := hDs b h; have := hbl6.size; omega))
end Go.Proofs.Ytdilpljfghbbeaa
