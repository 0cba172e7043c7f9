/- mem.OwnSpans: rows that lie apart. -/
import Derived.Test.YtobofhiakgohfaaGreatDoorSI
set_option linter.unusedVariables false
set_option linter.unusedSimpArgs false
namespace Go.Proofs.YtobofhiakgohfaaGreatDoor
open Go.RowKit

/-- A shorter value in the same row. -/
theorem own_prefixN {w w' : World} {b b' b'' : Nat} {e : TypeId} {sz n m : Nat} {v x : Value} {xs ys : List Value} (hv : w.ownsRow b e sz v n xs) (hx : w.ownsRow b' e sz x (n + m) (xs ++ ys)) (hb : x.ownBlock = v.ownBlock)
    (hx' : w'.ownsRow b'' e sz x (n + m) (xs ++ ys)) : w'.ownsRow b e sz v n xs := by
  refine ⟨hv.1, ?_⟩
  rcases hv.2 with h2 | ⟨g, cap, cur, rfl, hg, hh, h1, h2, h3, h4⟩
  · exact .inl h2
  · rcases hx.2 with ⟨rfl, _⟩ | ⟨g1, cap1, cur1, rfl, _, hh1, k1, k2, k3, k4⟩
    · simp [Value.ownBlock] at hb
    · simp [Value.ownBlock] at hb
      subst hb
      rw [hh] at hh1
      injection hh1 with hh1
      injection hh1 with hh1 _
      subst hh1
      rcases hx'.2 with ⟨h, _⟩ | ⟨g2, cap2, cur2, h, _, hh2, l1, l2, l3, l4⟩
      · cases h
      · cases h
        refine .inr ⟨g1, cap, cur2, rfl, hg, hh2, h1, h2, by rw [l3, ← k3, h3], ?_⟩
        have hl := hv.1
        have : cur2.toList.take (n * sz) = (cur2.toList.take ((n + m) * sz)).take (n * sz) := by
          rw [List.take_take]; congr 1
          have := Nat.mul_le_mul_right sz (show n ≤ n + m by omega)
          omega
        rw [this, l4, ← hl, List.take_left]
/-- The row v has the mark k at each of its n pieces. -/
def RowM (w : World) (v : Value) (n k : Nat) : Prop := ∃ xs, w.ownsRow 0 61 2 v n xs ∧ ∀ i, i < n → xs[i * 2]? = some (.int .i64 (-(k : Int) - 5))
/-- The grown row. -/
def RowG' (w : World) (v : Value) (n m k : Nat) : Prop := ∃ xs ys, w.ownsRow 0 61 2 v (n + m) (xs ++ ys) ∧ xs.length = n * 2 ∧ (∀ i, i < n → xs[i * 2]? = some (.int .i64 (-(k : Int) - 5))) ∧ ∀ i, i < m → ys[i * 2]? = some (.int .i64 ((k : Int) + 1))
theorem RowM.far {S : Nat → Prop} {w w' : World} {v : Value} {n k : Nat} (h : RowM w v n k) (hk : Kp S w w') (hs : ∀ g, v.ownBlock = some g → ¬ S g) : RowM w' v n k := by
  obtain ⟨xs, h1, h2⟩ := h
  exact ⟨xs, own_far h1 hk hs, h2⟩
theorem RowG'.far {S : Nat → Prop} {w w' : World} {v : Value} {n m k : Nat} (h : RowG' w v n m k) (hk : Kp S w w') (hs : ∀ g, v.ownBlock = some g → ¬ S g) : RowG' w' v n m k := by
  obtain ⟨xs, ys, h1, h2⟩ := h
  exact ⟨xs, ys, own_far h1 hk hs, h2⟩
theorem set_get2 {xs : List Value} {j i : Nat} {u z : Value} (hj : j * 2 + 1 < xs.length) : ((xs.set (j * 2) u).set (j * 2 + 1) z)[i * 2]? = if j = i then some u else xs[i * 2]? := by
  rw [List.getElem?_set, if_neg (by omega), List.getElem?_set]
  by_cases h : j = i
  · subst h; rw [if_pos rfl, if_pos (by omega), if_pos rfl]
  · rw [if_neg (by omega), if_neg h]

set_option maxRecDepth 100000 in
set_option maxHeartbeats 8000000 in
theorem ownSpans_any (w : World) (B0 : Nat) (Av : Option Addr) (N cv : Nat) (us : List Value) (vs : Nat → Value) (ns : Nat → Nat) (hL : w.ownsRow B0 62 1 (.slice Av N cv) N us) (hcs : ∀ i, i < N → us[i]? = some (vs i)) (hN : N ≤ 1024)
    (hn : ∀ i, i < N → ns i ≤ 1024) (hr : ∀ i, i < N → ∃ xs, w.ownsRow 0 61 2 (vs i) (ns i) xs)
    (hap : ∀ i j b, i < N → j < N → i ≠ j → (vs i).ownBlock = some b → (vs j).ownBlock ≠ some b) :
    Calls Tryz.prog 14 #[.slice Av N cv] w fun e w' => e = .returned (.bool true) ∧ Kp (fun b => ∃ i, i < N ∧ (vs i).ownBlock = some b) w w' := by
  obtain ⟨i0, hi, hz0, hz1, hz2⟩ := info_parts info61
  obtain ⟨i1, hj1, hy0, hy1, hy2⟩ := info_parts info62
  have hLS : ∀ g, (Value.slice Av N cv).ownBlock = some g → ¬ ∃ i, i < N ∧ (vs i).ownBlock = some g := fun g hg => by
    obtain ⟨cs, hb⟩ := own_blk hL g hg
    rintro ⟨i, hi', e⟩
    obtain ⟨xs, ho⟩ := hr i hi'
    obtain ⟨cs2, hb2⟩ := own_blk ho g e
    exact hb2.ne_ hb (by decide) rfl
  have HL := Lib.hid hL
  have HCS := Lib.hid hcs
  clear hL hcs
  go_enter Tryz.func14, Tryz.ntmps14
  go_wp2
  go_loopw [15] (fun i wr => ∃ K : Nat, K ≤ N ∧ i = .int .i64 (K : Int) ∧ Kp (fun b => ∃ i, i < N ∧ (vs i).ownBlock = some b) w wr ∧ (∀ i, i < K → RowM wr (vs i) (ns i) i) ∧ (∀ i, K ≤ i → i < N → ∃ xs, wr.ownsRow 0 61 2 (vs i) (ns i) xs)) (fun i wr => N - (intOf i).toNat)
  case atStart => exact ⟨0, Nat.zero_le _, rfl, Kp.refl _ _, fun i hi => absurd hi (by omega), fun i _ hi => hr i hi⟩
  case round =>
    obtain ⟨K, hK, rfl, hkr, hdone, hrest⟩ := hrel
    by_cases hlt : K < N
    · obtain ⟨ad, u, rfl, _, hu, hcu⟩ := (Reads.of_own (own_far HL.out hkr hLS)).at_ hlt
      rw [HCS.out K hlt] at hu
      cases hu
      obtain ⟨xs0, ho0⟩ := hrest K (Nat.le_refl _) hlt
      obtain ⟨Ak, ck, hv, _, _⟩ := own_form ho0
      rw [hv] at hcu ho0
      have hnK := hn K hlt
      have hwK : IntKind.i64.wrap (-(K : Int)) = -(K : Int) := IntWalk.i64_in _ (by omega)
      have hwK5 : IntKind.i64.wrap (-(K : Int) - 5) = -(K : Int) - 5 := IntWalk.i64_in _ (by omega)
      go_wp2
      go_loopw [22] (fun i wq => ∃ j : Nat, j ≤ ns K ∧ i = .int .i64 (j : Int) ∧ Kp (fun b => (Value.slice Ak (ns K) ck).ownBlock = some b) wr wq ∧ ∃ xs, wq.ownsRow 0 61 2 (.slice Ak (ns K) ck) (ns K) xs ∧ ∀ i, i < j → xs[i * 2]? = some (.int .i64 (-(K : Int) - 5))) (fun i wq => ns K - (intOf i).toNat)
      case atStart => exact ⟨0, Nat.zero_le _, rfl, Kp.refl _ _, xs0, ho0, fun i hi => absurd hi (by omega)⟩
      case round =>
        obtain ⟨j, hj, rfl, hkq, xs, hoq, hx⟩ := hrel
        by_cases hlj : j < ns K
        · obtain ⟨gA, cA', hA, _, hgA⟩ := hoq.form (by omega)
          cases hA
          have hxl : xs.length = ns K * 2 := hoq.1
          have hat := hoq.cellAt (j * 2) (by omega)
          have hfr := hoq.frozenAt (j * 2)
          have hat1 := hoq.cellAt (j * 2 + 1) (by omega)
          have hfr1 := hoq.frozenAt (j * 2 + 1)
          rw [List.getElem?_eq_getElem (by omega)] at hat hat1
          have hst := hoq.stored (j * 2) (.int .i64 (-(K : Int) - 5))
          have hst2 := hst.1.stored (j * 2 + 1) (.int .i64 0)
          have hf2 := hst.1.frozenAt (j * 2 + 1)
          have hat2 := hst.1.cellAt (j * 2 + 1) (by omega)
          rw [List.getElem?_set, if_neg (by omega), List.getElem?_eq_getElem (by omega)] at hat2
          go_wp2
          refine ⟨⟨j + 1, by omega, by go_num, (hkq.grown hst.2 (fun b hb => .inr (by rw [← hb]; rfl))).grown hst2.2 (fun b hb => .inr (by rw [← hb]; rfl)), _, hst2.1, fun i hi' => ?_⟩, by simp [intOf]; omega⟩
          rw [set_get2 (by omega)]
          split
          · rfl
          · exact hx i (by omega)
        · obtain rfl : j = ns K := by omega
          go_wp2
          have hKb : ∀ i, i < N → i ≠ K → ∀ b, (vs i).ownBlock = some b → ¬ (Value.slice Ak (ns K) ck).ownBlock = some b := fun i hi' hne b hb h => hap i K b hi' hlt hne hb (by rw [hv]; exact h)
          refine ⟨⟨K + 1, by omega, by go_num, ?_, fun i hi' => ?_, fun i h1 h2 => ?_⟩, by simp [intOf]; omega⟩
          · exact hkr.trans (hkq.mono fun b hb => ⟨K, hlt, by rw [hv]; exact hb⟩)
          · by_cases hiK : i = K
            · subst hiK
              show RowM _ (vs i) (ns i) i
              rw [hv]
              exact ⟨xs, hoq, hx⟩
            · exact (hdone i (by omega)).far hkq (hKb i (by omega) hiK)
          · obtain ⟨xs', ho'⟩ := hrest i (by omega) h2
            exact ⟨xs', own_far ho' hkq (hKb i h2 (by omega))⟩
    · obtain rfl : N = K := by omega
      clear hrest hlt
      go_wp2
      go_loopw [3, 36] (fun gv i wr => ∃ K : Nat, K ≤ N ∧ i = .int .i64 (K : Int) ∧ Kp (fun b => ∃ i, i < N ∧ (vs i).ownBlock = some b) w wr ∧ (∀ i, i < N → RowM wr (vs i) (ns i) i) ∧ ∃ gs : Nat → Value, wr.ownsRow w.heap.size 62 1 gv K ((List.range K).map gs) ∧
          ∀ i, i < K → RowG' wr (gs i) (ns i) 24 i ∧ ((gs i).ownBlock = (vs i).ownBlock ∨ ∃ b, (gs i).ownBlock = some b ∧ w.heap.size ≤ b))
        (fun gv i wr => N - (intOf i).toNat)
      case atStart => exact ⟨0, Nat.zero_le _, rfl, hkr, hdone, fun _ => .bool true, World.ownsRow_nil _ _ _ _, fun i hi => absurd hi (by omega)⟩
      clear hkr hdone
      case round =>
        obtain ⟨K, hK, rfl, hkr, hdone, gs, hgv, hgs⟩ := hrel
        obtain ⟨wo, rfl⟩ : ∃ wo : World, wo = wr := ⟨_, rfl⟩
        obtain ⟨Agv, cgv, rfl, _, _⟩ := own_form hgv
        by_cases hlt : K < N
        · obtain ⟨ad, u, rfl, _, hu, hcu⟩ := (Reads.of_own (own_far HL.out hkr hLS)).at_ hlt
          rw [HCS.out K hlt] at hu
          cases hu
          obtain ⟨xs, ho0, hx0⟩ := hdone K hlt
          obtain ⟨Ak, ck, hv, _, _⟩ := own_form ho0
          have hxl : xs.length = ns K * 2 := ho0.1
          have hnK := hn K hlt
          rw [hv] at hcu
          have hwK1 : IntKind.i64.wrap ((K : Int) + 1) = (K : Int) + 1 := IntWalk.i64_in _ (by omega)
          go_wp2
          go_loopw [8, 9] (fun x i wr => ∃ (j : Nat) (ys : List Value), j ≤ 24 ∧ i = .int .i64 (j : Int) ∧ Kp (fun b => (vs K).ownBlock = some b) wo wr ∧ wr.ownsRow 0 61 2 x (ns K + j) (xs ++ ys) ∧ (∀ i, i < j → ys[i * 2]? = some (.int .i64 ((K : Int) + 1))) ∧
              wr.ownsRow 0 61 2 (vs K) (ns K) xs ∧ (x.ownBlock = (vs K).ownBlock ∨ ∃ b, x.ownBlock = some b ∧ wo.heap.size ≤ b))
            (fun x i wr => 24 - (intOf i).toNat)
          case atStart => exact ⟨0, [], by omega, rfl, Kp.refl _ _, by rw [← hv]; simpa using ho0, fun i hi => absurd hi (by omega), ho0, .inl (by rw [hv])⟩
          case round =>
            obtain ⟨j, ys, hjj, rfl, hkq, hox, hys, hov, hxb⟩ := hrel
            obtain ⟨Ax, cx, rfl, _, _⟩ := own_form hox
            have hyl : ys.length = j * 2 := by have := hox.1; rw [List.length_append, hxl] at this; omega
            by_cases hlj : j < 24
            · go_wp2_with (at_builtin; refine wpList_append_old _ rfl (.tmp 45) (.tmp 49) _ rfl 0 61 i0 _ 2 16 Tryz.underlying62 hi hz0 hz1 hz2 rfl (by omega) (.slice Ax (ns K + j) cx) (ns K + j) (xs ++ ys) rfl (by exact hox.alloc _) (wr.heap.size + 1) (some ⟨wr.heap.size, 0, none⟩) 1 1 [.int .i64 ((K : Int) + 1), .int .i64 0] rfl (by have := reads_new wr 61 #[.int .i64 ((K : Int) + 1), .int .i64 0] 1 2 rfl; simpa using this) (by simp [Value.oneCell']) (by simp only [maxLen]; omega) (by omega) (by omega) ?_; intro v2 w2' ho2 hg2 hat2 hold2)
              have hk2 : Kp (fun b => (vs K).ownBlock = some b) wo w2' := (hkq.alloc _).grown hg2 (fun b hb => by
                rcases hxb with h | ⟨b', h, hb'⟩
                · exact .inr (by rw [← h]; exact hb)
                · rw [h] at hb; cases hb; exact .inl hb')
              refine ⟨⟨j + 1, ys ++ [.int .i64 ((K : Int) + 1), .int .i64 0], by omega, by go_num, hk2, ?_, fun i hi' => ?_, ?_, ?_⟩, by simp [intOf]; omega⟩
              · rw [← List.append_assoc, ← Nat.add_assoc]
                exact ho2
              · by_cases hij : i < j
                · rw [List.getElem?_append_left (by omega)]
                  exact hys i hij
                · obtain rfl : i = j := by omega
                  rw [List.getElem?_append_right (by omega), hyl, show i * 2 - i * 2 = 0 by omega]
                  rfl
              · rcases hxb with h | ⟨b', h, hb'⟩
                · exact own_prefixN hov hox h hold2
                · exact own_far (hov.alloc _) ((Kp.refl (fun b => (Value.slice Ax (ns K + j) cx).ownBlock = some b) _).grown hg2 (fun b hb => .inr hb)) (fun b hb hb2 => by
                    have := (ho0.lt b hb).2
                    rw [h] at hb2; cases hb2; omega)
              · rcases hat2 with h | h
                · rw [h]; exact hxb
                · exact .inr ⟨_, h, by simp only [World.size_alloc]; have := hkq.size; omega⟩
            · obtain rfl : j = 24 := by omega
              have hkm : Kp (fun b => ∃ i, i < N ∧ (vs i).ownBlock = some b) w wr := hkr.trans (hkq.mono fun b hb => ⟨K, hlt, hb⟩)
              have hgvb : ∀ b, (Value.slice Agv K cgv).ownBlock = some b → w.heap.size ≤ b ∧ ∃ cs, Blk wr b 62 cs := by
                intro b hb
                obtain ⟨cs', hb'⟩ := own_blk hgv b hb
                refine ⟨(hgv.lt b hb).1, cs', hb'.kp hkq ?_⟩
                intro h
                obtain ⟨cs2, hb2⟩ := own_blk ho0 b h
                exact hb2.ne_ hb' (by decide) rfl
              have hgv' : wr.ownsRow w.heap.size 62 1 (Value.slice Agv K cgv) K ((List.range K).map gs) := own_far hgv hkq (fun b hb h => by
                obtain ⟨cs1, hb1⟩ := own_blk hgv b hb
                obtain ⟨cs2, hb2⟩ := own_blk ho0 b h
                exact hb2.ne_ hb1 (by decide) rfl)
              go_wp2_with (at_builtin; refine wpList_append_old _ rfl (.tmp 51) (.tmp 53) _ rfl w.heap.size 62 i1 _ 1 24 Tryz.underlying34 hj1 hy0 hy1 hy2 rfl (by omega) (Value.slice Agv K cgv) K ((List.range K).map gs) rfl (by exact hgv'.alloc _) (wr.heap.size + 1) (some ⟨wr.heap.size, 0, none⟩) 1 1 [.slice Ax (ns K + 24) cx] rfl (by have := reads_new wr 62 #[.slice Ax (ns K + 24) cx] 1 1 rfl; simpa using this) (by simp [Value.oneCell']) (by simp only [maxLen]; omega) (by omega) (by simp only [World.size_alloc]; have := hkm.size; omega) ?_; intro v2 w2' ho2 hg2 hat2 hold2)
              have hk2 : Kp (fun b => (Value.slice Agv K cgv).ownBlock = some b) wr w2' := ((Kp.refl _ _).alloc _).grown hg2 (fun b hb => .inr hb)
              have h5 : ∀ {b0 n : Nat} {v : Value} {xs : List Value}, wr.ownsRow b0 61 2 v n xs → ∀ b, v.ownBlock = some b → ¬ (Value.slice Agv K cgv).ownBlock = some b := fun ho b hb h => by
                obtain ⟨_, cs1, hb1⟩ := hgvb b h
                obtain ⟨cs2, hb2⟩ := own_blk ho b hb
                exact hb2.ne_ hb1 (by decide) rfl
              have hKb : ∀ i, i < N → i ≠ K → ∀ b, (vs i).ownBlock = some b → ¬ (vs K).ownBlock = some b := fun i hi' hne b hb h => hap i K b hi' hlt hne hb h
              have hvK : ∀ b, (vs K).ownBlock = some b → b < w.heap.size := fun b hb => by
                obtain ⟨xs, ho⟩ := hr K hlt
                exact (ho.lt b hb).2
              refine ⟨⟨K + 1, by omega, by go_num, ?_, fun i hi' => ?_, fun i => if i = K then .slice Ax (ns K + 24) cx else gs i, ?_, fun i hi' => ?_⟩, by simp [intOf]; omega⟩
              · exact (hkm.alloc _).grown hg2 (fun b hb => .inl (hgvb b hb).1)
              · by_cases hiK : i = K
                · subst hiK
                  exact ⟨xs, own_far hov hk2 (h5 hov), hx0⟩
                · obtain ⟨xs', h1, h2⟩ := (hdone i hi').far hkq (hKb i hi' hiK)
                  exact ⟨xs', own_far h1 hk2 (h5 h1), h2⟩
              · have hm : (List.range (K + 1)).map (fun i => if i = K then .slice Ax (ns K + 24) cx else gs i) = (List.range K).map gs ++ [.slice Ax (ns K + 24) cx] := by
                  rw [List.range_succ, List.map_append]
                  congr 1
                  · apply List.map_congr_left
                    intro i hi'
                    rw [List.mem_range] at hi'
                    rw [if_neg (by omega)]
                  · simp
                rw [hm]
                exact ho2
              · by_cases hiK : i = K
                · subst hiK
                  simp only [if_true]
                  refine ⟨⟨xs, ys, own_far hox hk2 (h5 hox), hxl, hx0, hys⟩, ?_⟩
                  rcases hxb with h | ⟨b, h, hb⟩
                  · exact .inl h
                  · exact .inr ⟨b, h, by have := hkr.size; omega⟩
                · simp only [if_neg hiK]
                  obtain ⟨hG, hb⟩ := hgs i (by omega)
                  have hG2 := hG.far hkq (fun b hb1 hb2 => by
                    rcases hb with h | ⟨b', h, hb'⟩
                    · exact hKb i (by omega) hiK b (by rw [← h]; exact hb1) hb2
                    · rw [h] at hb1; cases hb1
                      have := hvK _ hb2
                      omega)
                  obtain ⟨xs', ys', g1, g2⟩ := hG2
                  exact ⟨⟨xs', ys', own_far g1 hk2 (h5 g1), g2⟩, hb⟩
        · obtain rfl : N = K := by omega
          have hrg := Reads.of_own hgv
          have HL2 := Lib.hid (Reads.of_own (own_far HL.out hkr hLS))
          clear hlt hap hK HL hr
          go_wp2
          go_loop [58] (fun i => ∃ K : Nat, K ≤ N ∧ i = .int .i64 (K : Int)) (fun i => N - (intOf i).toNat)
          case atStart => exact ⟨0, Nat.zero_le _, rfl⟩
          case round =>
            obtain ⟨K, hK, rfl⟩ := hrel
            by_cases hlt : K < N
            · obtain ⟨ad, u, rfl, _, hu, hcu⟩ := hrg.at_ hlt
              rw [List.getElem?_map, List.getElem?_range hlt] at hu
              cases hu
              obtain ⟨⟨xs, ys, hG, hxl, hx, hy⟩, _⟩ := hgs K hlt
              obtain ⟨gK, cK, hgK, _, _⟩ := hG.form (by omega)
              rw [hgK] at hG hcu
              obtain ⟨ad3, u3, hL3, _, hu3, hcl⟩ := HL2.out.at_ hlt
              rw [HCS.out K hlt] at hu3
              cases hu3
              obtain ⟨xs3, ho, hx3⟩ := hdone K hlt
              obtain ⟨Ak, ck, hv, _, _⟩ := own_form ho
              rw [hv] at ho hcl
              have hnK := hn K hlt
              subst hL3
              generalize ns K = n at *
              have hyl : ys.length = 24 * 2 := by have := hG.1; rw [List.length_append, hxl] at this; omega
              have hwK : IntKind.i64.wrap (-(K : Int)) = -(K : Int) := IntWalk.i64_in _ (by omega)
              have hwK5 : IntKind.i64.wrap (-(K : Int) - 5) = -(K : Int) - 5 := IntWalk.i64_in _ (by omega)
              have hwK1 : IntKind.i64.wrap ((K : Int) + 1) = (K : Int) + 1 := IntWalk.i64_in _ (by omega)
              go_wp2
              go_loop [65] (fun i => ∃ j : Nat, j ≤ n + 24 ∧ i = .int .i64 (j : Int)) (fun i => n + 24 - (intOf i).toNat)
              case atStart => exact ⟨0, Nat.zero_le _, rfl⟩
              case round =>
                obtain ⟨j, hjj, rfl⟩ := hrel
                by_cases hlj : j < n + 24
                · have hat := hG.cellAt (j * 2) (by omega)
                  by_cases hjn : j < n
                  · obtain ⟨g3, c3, hv3, _, _⟩ := ho.form (by omega)
                    cases hv3
                    have hat2 := ho.cellAt (j * 2) (by omega)
                    rw [List.getElem?_append_left (by omega), hx j hjn] at hat
                    rw [hx3 j hjn] at hat2
                    go_wp2
                    exact ⟨⟨j + 1, by omega, by go_num⟩, by simp [intOf]; omega⟩
                  · rw [List.getElem?_append_right (by omega), hxl, show j * 2 - n * 2 = (j - n) * 2 by omega, hy (j - n) (by omega)] at hat
                    go_wp2
                    exact ⟨⟨j + 1, by omega, by go_num⟩, by simp [intOf]; omega⟩
                · obtain rfl : j = n + 24 := by omega
                  go_wp2
                  exact ⟨⟨K + 1, by omega, by go_num⟩, by simp [intOf]; omega⟩
            · obtain rfl : N = K := by omega
              go_wp2
              go_ret
              exact ⟨rfl, hkr⟩
end Go.Proofs.YtobofhiakgohfaaGreatDoor
