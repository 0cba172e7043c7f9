/- mem.OwnBytes: rows that lie apart. -/
import Derived.Test.YtobofhiakgohfaaDoorO0
set_option linter.unusedVariables false
set_option linter.unusedSimpArgs false
namespace Go.Proofs.YtobofhiakgohfaaDoor
open Go.RowKit

theorem bytes_info : (Tryd.prog.info? 44).map (fun i => (i.zero, i.size, i.bytes)) = some (some (.slice none 0 0), 1, 24) := by kernel_rfl

/-- A byte that is a small number. -/
abbrev nb (i : Nat) : Value := .int .u8 (i : Int)
/-- The row v is n times the byte b. -/
abbrev RowN (w : World) (v : Value) (n b : Nat) : Prop := w.ownsRow 0 5 1 v n (List.replicate n (nb b))
/-- The grown row. -/
abbrev RowG (w : World) (v : Value) (n b : Nat) : Prop := w.ownsRow 0 5 1 v (n + 24) (List.replicate n (nb b) ++ List.replicate 24 (nb (b + 1)))

theorem u8_wrap_nat (k : Nat) (h : k ≤ 255) : IntKind.u8.wrap (k : Int) = k := IntWalk.u8_in _ (by omega)

theorem rep_get {n j b : Nat} (h : j < n) : (List.replicate n (nb b))[j]? = some (nb b) := by simp [h]
theorem repG_get1 {n j b : Nat} (h : j < n) : (List.replicate n (nb b) ++ List.replicate 24 (nb (b + 1)))[j]? = some (nb b) := by
  rw [List.getElem?_append_left (by simpa using h)]; exact rep_get h
theorem repG_get2 {n j b : Nat} (h : n ≤ j) (h2 : j < n + 24) : (List.replicate n (nb b) ++ List.replicate 24 (nb (b + 1)))[j]? = some (nb (b + 1)) := by
  rw [List.getElem?_append_right (by simpa using h), List.length_replicate, List.getElem?_replicate, if_pos (by omega)]

set_option maxRecDepth 100000 in
set_option maxHeartbeats 2000000 in
theorem ownBytes_any (w : World) (g N c : Nat) (cs : Array Value) (vs : Nat → Value) (ns : Nat → Nat) (hg : Blk w g 44 cs) (hcs : ∀ i, i < N → cs[i]? = some (vs i)) (hN : N ≤ 200)
    (hn : ∀ i, i < N → ns i ≤ 140737488355328) (hr : ∀ i, i < N → ∃ xs, w.ownsRow 0 5 1 (vs i) (ns i) xs)
    (hap : ∀ i j b, i < N → j < N → i ≠ j → (vs i).ownBlock = some b → (vs j).ownBlock ≠ some b) :
    Calls Tryd.prog 38 #[.slice (some ⟨g, 0, none⟩) N c] w fun e w' => e = .returned (.bool true) ∧ Kp (fun b => ∃ i, i < N ∧ (vs i).ownBlock = some b) w w' := by
  obtain ⟨i0, hi, hz0, hz1, hz2⟩ := info_parts u8_info
  obtain ⟨i1, hj1, hy0, hy1, hy2⟩ := info_parts bytes_info
  have hlt0 := hg.lt
  have hne5 : ∀ (w' : World) (b0 sz n : Nat) (v : Value) (xs : List Value) (cs' : Array Value), w'.ownsRow b0 5 sz v n xs → Blk w' g 44 cs' → v.ownBlock ≠ some g := fun w' b0 sz n v xs cs' h h' => own_blk_ne h h' (by decide)
  have hSg : ¬ ∃ i, i < N ∧ (vs i).ownBlock = some g := by
    rintro ⟨i, hi', e⟩
    obtain ⟨xs, ho⟩ := hr i hi'
    exact hne5 _ _ _ _ _ _ _ ho hg e
  go_enter Tryd.func38, Tryd.ntmps38
  go_wp2
  go_loopw [15] (fun i wr => ∃ K : Nat, K ≤ N ∧ i = .int .i64 K ∧ Kp (fun b => ∃ i, i < N ∧ (vs i).ownBlock = some b) w wr ∧ (∀ i, i < K → RowN wr (vs i) (ns i) i) ∧ (∀ i, K ≤ i → i < N → ∃ xs, wr.ownsRow 0 5 1 (vs i) (ns i) xs))
    (fun i wr => N - (intOf i).toNat)
  case atStart => exact ⟨0, Nat.zero_le _, rfl, Kp.refl _ _, fun i hi => absurd hi (by omega), fun i _ hi => hr i hi⟩
  case round =>
    obtain ⟨K, hK, rfl, hk, hdone, hrest⟩ := hrel
    by_cases hlt : K < N
    · have hgr := hg.kp hk hSg
      have hc := hgr.cell K
      rw [hcs K hlt] at hc
      obtain ⟨xs0, ho0⟩ := hrest K (Nat.le_refl _) hlt
      obtain ⟨A, cA, hv, _, _⟩ := own_form ho0
      rw [hv] at hc ho0
      go_wp2
      have hwK := u8_wrap_nat K (by omega)
      go_loopw [22] (fun i wq => ∃ j : Nat, j ≤ ns K ∧ i = .int .i64 j ∧ Kp (fun b => (Value.slice A (ns K) cA).ownBlock = some b) wr wq ∧ ∃ xs, wq.ownsRow 0 5 1 (.slice A (ns K) cA) (ns K) xs ∧ ∀ i, i < j → xs[i]? = some (nb K))
        (fun i wq => ns K - (intOf i).toNat)
      case atStart => exact ⟨0, Nat.zero_le _, rfl, Kp.refl _ _, xs0, ho0, fun i hi => absurd hi (by omega)⟩
      case round =>
        obtain ⟨j, hj, rfl, hkq, xs, hoq, hx⟩ := hrel
        by_cases hlj : j < ns K
        · obtain ⟨gA, cA', hA, _, hgA⟩ := hoq.form (by omega)
          cases hA
          have hat := hoq.cellAt j (by omega)
          have hfr := hoq.frozenAt j
          have hxl : xs.length = ns K := by have := hoq.1; omega
          rw [List.getElem?_eq_getElem (by omega)] at hat
          go_wp2
          have hst := hoq.stored j (nb K)
          refine ⟨⟨j + 1, by omega, by go_num, hkq.grown hst.2 (fun b hb => .inr (by rw [← hb]; rfl)), xs.set j (nb K), hst.1, fun i hi' => ?_⟩, by simp [intOf]; omega⟩
          rw [List.getElem?_set]
          by_cases hij : j = i
          · subst hij
            rw [if_pos rfl, if_pos (by omega)]
          · rw [if_neg hij]
            exact hx i (by omega)
        · obtain rfl : j = ns K := by omega
          go_wp2
          have hxl : xs.length = ns K := by have := hoq.1; omega
          have hxe : xs = List.replicate (ns K) (nb K) := by
            apply List.ext_getElem?
            intro i
            by_cases hi' : i < ns K
            · rw [hx i hi', rep_get hi']
            · rw [List.getElem?_eq_none (by omega), List.getElem?_eq_none (by simp; omega)]
          subst hxe
          have hKb : ∀ i, i < N → i ≠ K → ∀ b, (vs i).ownBlock = some b → ¬ (Value.slice A (ns K) cA).ownBlock = some b := fun i hi' hne b hb h => hap i K b hi' hlt hne hb (by rw [hv]; exact h)
          refine ⟨⟨K + 1, by omega, by go_num, ?_, fun i hi' => ?_, fun i h1 h2 => ?_⟩, by simp [intOf]; omega⟩
          · exact hk.trans (hkq.mono fun b hb => ⟨K, hlt, by rw [hv]; exact hb⟩)
          · by_cases hiK : i = K
            · subst hiK
              show RowN _ (vs i) (ns i) i
              rw [hv]
              exact hoq
            · exact own_far (hdone i (by omega)) hkq (hKb i (by omega) hiK)
          · obtain ⟨xs', ho'⟩ := hrest i (by omega) h2
            exact ⟨xs', own_far ho' hkq (hKb i h2 (by omega))⟩
    · obtain rfl : N = K := by omega
      clear hrest hlt
      go_wp2
      go_loopw [3, 34] (fun gv i wr => ∃ K : Nat, K ≤ N ∧ i = .int .i64 K ∧ Kp (fun b => ∃ i, i < N ∧ (vs i).ownBlock = some b) w wr ∧ (∀ i, i < N → RowN wr (vs i) (ns i) i) ∧ ∃ gs : Nat → Value, wr.ownsRow w.heap.size 44 1 gv K ((List.range K).map gs) ∧
          ∀ i, i < K → RowG wr (gs i) (ns i) i ∧ ((gs i).ownBlock = (vs i).ownBlock ∨ ∃ b, (gs i).ownBlock = some b ∧ w.heap.size ≤ b))
        (fun gv i wr => N - (intOf i).toNat)
      case atStart => exact ⟨0, Nat.zero_le _, rfl, hk, hdone, fun _ => .bool true, World.ownsRow_nil _ _ _ _, fun i hi => absurd hi (by omega)⟩
      clear hk hdone
      case round =>
        obtain ⟨K, hK, rfl, hk, hdone, gs, hgv, hgs⟩ := hrel
        obtain ⟨wo, rfl⟩ : ∃ wo : World, wo = wr := ⟨_, rfl⟩
        obtain ⟨Agv, cgv, rfl, _, _⟩ := own_form hgv
        by_cases hlt : K < N
        · have hgr := hg.kp hk hSg
          have hc := hgr.cell K
          rw [hcs K hlt] at hc
          have ho0 := hdone K hlt
          have hwK := u8_wrap_nat (K + 1) (by omega)
          have hnK := hn K hlt
          go_wp2
          go_loopw [8, 9] (fun x i wr => ∃ j : Nat, j ≤ 24 ∧ i = .int .i64 j ∧ Kp (fun b => (vs K).ownBlock = some b) wo wr ∧ wr.ownsRow 0 5 1 x (ns K + j) (List.replicate (ns K) (nb K) ++ List.replicate j (nb (K + 1))) ∧
              RowN wr (vs K) (ns K) K ∧ (x.ownBlock = (vs K).ownBlock ∨ ∃ b, x.ownBlock = some b ∧ wo.heap.size ≤ b))
            (fun x i wr => 24 - (intOf i).toNat)
          case atStart => exact ⟨0, by omega, rfl, Kp.refl _ _, by simpa using ho0, ho0, .inl rfl⟩
          case round =>
            obtain ⟨j, hj, rfl, hkq, hox, hov, hxb⟩ := hrel
            obtain ⟨Ax, cx, rfl, _, _⟩ := own_form hox
            by_cases hlj : j < 24
            · go_wp2_with (at_builtin; refine wpList_append_old _ rfl (.tmp 43) (.tmp 47) _ rfl 0 5 i0 _ 1 1 Tryd.underlying44 hi hz0 hz1 hz2 rfl (by omega) (.slice Ax (ns K + j) cx) (ns K + j) (List.replicate (ns K) (nb K) ++ List.replicate j (nb (K + 1))) rfl (by exact hox.alloc _) (wr.heap.size + 1) (some ⟨wr.heap.size, 0, none⟩) 1 1 [.int .u8 ((K : Int) + 1)] rfl (reads_lit _ #[.int .u8 ((K : Int) + 1)] 1 5 rfl) (by simp [Value.oneCell']) (by simp only [maxLen]; omega) (by omega) (by omega) ?_; intro v2 w2 ho2 hg2 hat2 hold2)
              have hk2 : Kp (fun b => (vs K).ownBlock = some b) wo w2 := (hkq.alloc _).grown hg2 (fun b hb => by
                rcases hxb with h | ⟨b', h, hb'⟩
                · exact .inr (by rw [← h]; exact hb)
                · rw [h] at hb; cases hb; exact .inl hb')
              refine ⟨⟨j + 1, by omega, by go_num, hk2, ?_, ?_, ?_⟩, by simp [intOf]; omega⟩
              · rw [List.replicate_succ', ← List.append_assoc, ← Nat.add_assoc]
                exact ho2
              · rcases hxb with h | ⟨b', h, hb'⟩
                · exact own_prefix hov hox h hold2
                · exact own_far (hov.alloc _) ((Kp.refl (fun b => (Value.slice Ax (ns K + j) cx).ownBlock = some b) _).grown hg2 (fun b hb => .inr hb)) (fun b hb hb2 => by
                    have := (ho0.lt b hb).2
                    rw [h] at hb2; cases hb2; omega)
              · rcases hat2 with h | h
                · rw [h]; exact hxb
                · exact .inr ⟨_, h, by simp only [World.size_alloc]; have := hkq.size; omega⟩
            · obtain rfl : j = 24 := by omega
              have hkm : Kp (fun b => ∃ i, i < N ∧ (vs i).ownBlock = some b) w wr := hk.trans (hkq.mono fun b hb => ⟨K, hlt, hb⟩)
              have hgvb : ∀ b, (Value.slice Agv K cgv).ownBlock = some b → w.heap.size ≤ b ∧ ∃ cs, Blk wr b 44 cs := by
                intro b hb
                obtain ⟨cs', hb'⟩ := own_blk hgv b hb
                refine ⟨(hgv.lt b hb).1, cs', hb'.kp hkq ?_⟩
                intro h
                obtain ⟨cs2, hb2⟩ := own_blk ho0 b h
                exact hb2.ne_ hb' (by decide) rfl
              have hgv' : wr.ownsRow w.heap.size 44 1 (Value.slice Agv K cgv) K ((List.range K).map gs) := own_far hgv hkq (fun b hb h => by
                obtain ⟨cs1, hb1⟩ := own_blk hgv b hb
                obtain ⟨cs2, hb2⟩ := own_blk ho0 b h
                exact hb2.ne_ hb1 (by decide) rfl)
              go_wp2_with (at_builtin; refine wpList_append_old _ rfl (.tmp 49) (.tmp 51) _ rfl w.heap.size 44 i1 _ 1 24 Tryd.underlying60 hj1 hy0 hy1 hy2 rfl (by omega) (Value.slice Agv K cgv) K ((List.range K).map gs) rfl (by exact hgv'.alloc _) (wr.heap.size + 1) (some ⟨wr.heap.size, 0, none⟩) 1 1 [.slice Ax (ns K + 24) cx] rfl (reads_lit _ #[.slice Ax (ns K + 24) cx] 1 44 rfl) (by simp [Value.oneCell']) (by simp only [maxLen]; omega) (by omega) (by simp only [World.size_alloc]; have := hkm.size; omega) ?_; intro v2 w2 ho2 hg2 hat2 hold2)
              have hk2 : Kp (fun b => (Value.slice Agv K cgv).ownBlock = some b) wr w2 := ((Kp.refl _ _).alloc _).grown hg2 (fun b hb => .inr hb)
              have h5 : ∀ {b0 n : Nat} {v : Value} {xs : List Value}, wr.ownsRow b0 5 1 v n xs → w2.ownsRow b0 5 1 v n xs := fun ho => own_far ho hk2 (fun b hb h => by
                obtain ⟨_, cs1, hb1⟩ := hgvb b h
                obtain ⟨cs2, hb2⟩ := own_blk ho b hb
                exact hb2.ne_ hb1 (by decide) rfl)
              have hKb : ∀ i, i < N → i ≠ K → ∀ b, (vs i).ownBlock = some b → ¬ (vs K).ownBlock = some b := fun i hi' hne b hb h => hap i K b hi' hlt hne hb h
              have hvK : ∀ b, (vs K).ownBlock = some b → b < w.heap.size := fun b hb => by
                obtain ⟨xs, ho⟩ := hr K hlt
                exact (ho.lt b hb).2
              refine ⟨⟨K + 1, by omega, by go_num, ?_, fun i hi' => ?_, fun i => if i = K then .slice Ax (ns K + 24) cx else gs i, ?_, fun i hi' => ?_⟩, by simp [intOf]; omega⟩
              · exact (hkm.alloc _).grown hg2 (fun b hb => .inl (hgvb b hb).1)
              · by_cases hiK : i = K
                · subst hiK
                  exact h5 hov
                · exact h5 (own_far (hdone i hi') hkq (hKb i hi' hiK))
              · have hm : (List.range (K + 1)).map (fun i => if i = K then .slice Ax (ns K + 24) cx else gs i) = (List.range K).map gs ++ [.slice Ax (ns K + 24) cx] := by
                  rw [List.range_succ, List.map_append]
                  congr 1
                  · apply List.map_congr_left
                    intro i hi'
                    rw [List.mem_range] at hi'
                    rw [if_neg (by omega)]
                  · simp
                rw [hm]
                exact ho2
              · by_cases hiK : i = K
                · subst hiK
                  simp only [if_true]
                  refine ⟨h5 hox, ?_⟩
                  rcases hxb with h | ⟨b, h, hb⟩
                  · exact .inl h
                  · exact .inr ⟨b, h, by have := hk.size; omega⟩
                · simp only [if_neg hiK]
                  obtain ⟨hG, hb⟩ := hgs i (by omega)
                  refine ⟨h5 (own_far hG hkq (fun b hb1 hb2 => ?_)), hb⟩
                  rcases hb with h | ⟨b', h, hb'⟩
                  · exact hKb i (by omega) hiK b (by rw [← h]; exact hb1) hb2
                  · rw [h] at hb1; cases hb1
                    have := hvK _ hb2
                    omega
        · obtain rfl : N = K := by omega
          have hgr := hg.kp hk hSg
          have hrg := Reads.of_own hgv
          clear hlt hr hap hK
          go_wp2
          go_loop [56] (fun i => ∃ K : Nat, K ≤ N ∧ i = .int .i64 K) (fun i => N - (intOf i).toNat)
          case atStart => exact ⟨0, Nat.zero_le _, rfl⟩
          case round =>
            obtain ⟨K, hK, rfl⟩ := hrel
            by_cases hlt : K < N
            · obtain ⟨ad, u, rfl, _, hu, hcu⟩ := hrg.at_ hlt
              rw [List.getElem?_map, List.getElem?_range hlt] at hu
              cases hu
              obtain ⟨hG, _⟩ := hgs K hlt
              obtain ⟨gK, cK, hgK, _, _⟩ := hG.form (by omega)
              rw [hgK] at hG hcu
              have hcl := hgr.cell K
              rw [hcs K hlt] at hcl
              have ho := hdone K hlt
              obtain ⟨Av, cv, hv, _, _⟩ := own_form ho
              rw [hv] at ho hcl
              have hwK := u8_wrap_nat K (by omega)
              have hwK1 := u8_wrap_nat (K + 1) (by omega)
              have hnK := hn K hlt
              generalize ns K = n at *
              go_wp2
              go_loop [63] (fun i => ∃ j : Nat, j ≤ n + 24 ∧ i = .int .i64 j) (fun i => n + 24 - (intOf i).toNat)
              case atStart => exact ⟨0, Nat.zero_le _, rfl⟩
              case round =>
                obtain ⟨j, hj, rfl⟩ := hrel
                by_cases hlj : j < n + 24
                · have hat := hG.cellAt j (by omega)
                  by_cases hjn : j < n
                  · obtain ⟨g3, c3, hv3, _, _⟩ := ho.form (by omega)
                    cases hv3
                    have hat2 := ho.cellAt j (by omega)
                    rw [repG_get1 hjn] at hat
                    rw [rep_get hjn] at hat2
                    go_wp2
                    exact ⟨⟨j + 1, by omega, by go_num⟩, by simp [intOf]; omega⟩
                  · rw [repG_get2 (by omega) (by omega)] at hat
                    go_wp2
                    exact ⟨⟨j + 1, by omega, by go_num⟩, by simp [intOf]; omega⟩
                · obtain rfl : j = n + 24 := by omega
                  go_wp2
                  exact ⟨⟨K + 1, by omega, by go_num⟩, by simp [intOf]; omega⟩
            · obtain rfl : N = K := by omega
              go_wp2
              go_ret
              exact ⟨rfl, hk⟩

/-- The same, of a list of rows. -/
theorem ownBytes_list (w : World) (g N c : Nat) (cs : Array Value) (rs : List (Value × Nat)) (hg : Blk w g 44 cs) (hcs : cs.toList = rs.map (·.1)) (hN : N = rs.length) (hN2 : N ≤ 200)
    (hn : ∀ r ∈ rs, r.2 ≤ 140737488355328) (hr : ∀ r ∈ rs, ∃ xs, w.ownsRow 0 5 1 r.1 r.2 xs) (hap : rs.Pairwise fun a b => ∀ k, a.1.ownBlock = some k → b.1.ownBlock ≠ some k) :
    Calls Tryd.prog 38 #[.slice (some ⟨g, 0, none⟩) N c] w fun e w' => e = .returned (.bool true) ∧ Kp (fun b => ∃ r, r ∈ rs ∧ r.1.ownBlock = some b) w w' := by
  subst hN
  have hget : ∀ i, (h : i < rs.length) → (rs.getD i (.bool true, 0)) = rs[i] := fun i h => by simp [List.getD_eq_getElem?_getD, h]
  refine (ownBytes_any w g rs.length c cs (fun i => (rs.getD i (.bool true, 0)).1) (fun i => (rs.getD i (.bool true, 0)).2) hg (fun i h => ?_) hN2 (fun i h => ?_) (fun i h => ?_) (fun i j b hi hj hne => ?_)).mono ?_
  · rw [← Array.getElem?_toList, hcs, List.getElem?_map, List.getElem?_eq_getElem h, hget i h]
    rfl
  · rw [hget i h]; exact hn _ (List.getElem_mem h)
  · rw [hget i h]; exact hr _ (List.getElem_mem h)
  · rw [hget i hi, hget j hj]
    rw [List.pairwise_iff_getElem] at hap
    rcases Nat.lt_or_ge i j with hl | hl
    · exact hap i j hi hj hl b
    · intro h1 h2
      exact hap j i hj hi (by omega) b h2 h1
  · rintro e w' ⟨he, hk⟩
    refine ⟨he, hk.mono ?_⟩
    rintro b ⟨i, hi, hb⟩
    rw [hget i hi] at hb
    exact ⟨_, List.getElem_mem hi, hb⟩
end Go.Proofs.YtobofhiakgohfaaDoor
