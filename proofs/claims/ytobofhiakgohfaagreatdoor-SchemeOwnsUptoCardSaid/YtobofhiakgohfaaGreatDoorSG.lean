/- The reference's sets: Valid. The reference's sets: Members. The document's find, Set, Size, Count. -/
import Derived.Test.YtobofhiakgohfaaGreatDoorSA
import Derived.Test.YtobofhiakgohfaaGreatDoorSB
import Derived.Test.YtobofhiakgohfaaGreatDoorP27
set_option linter.unusedVariables false
set_option linter.unusedSimpArgs false
namespace Go.Proofs.YtobofhiakgohfaaGreatDoor
open Go.RowKit

theorem ad0 (a : Addr) : a.add 0 = a := by
  unfold Addr.add
  split <;> simp_all
theorem dN2 (w : World) (a b : Nat) : ∃ n, (w.drewN a).drewN b = w.drewN n := ⟨a + b, by simp⟩

set_option maxRecDepth 100000 in
set_option maxHeartbeats 4000000 in
theorem rvalid_any (w : World) (A : Option Addr) (c : Nat) (l : List Sp) (hr : Reads w w.heap.size 2 A l.length (spcs l)) (hl : l.length ≤ 1048576) :
    Calls Tryz.prog 81 #[.slice A l.length c] w fun e w' => e = .returned (.bool (okS 255 l)) ∧ ∃ n, w' = w.drewN n := by
  have HR := Lib.hid hr
  clear hr
  obtain ⟨B, hB⟩ : ∃ B, B = okS 255 l := ⟨_, rfl⟩
  rw [← hB]
  unfold okS at hB
  have HB := Lib.hid hB
  clear hB
  go_enter Tryz.func81, Tryz.ntmps81
  go_wp2
  go_loopw [3] (fun i wr => ∃ (q : Nat) (lv : Int), q ≤ l.length ∧ i = .int .i64 (q : Int) ∧ -2 ≤ lv ∧ lv ≤ 255 ∧ Hid ((q = 0 ∧ lv = -2) ∨ ∃ k, ∃ h : k < l.length, q = k + 1 ∧ lv = l[k].2) ∧ Hid (B = okF 255 lv (l.drop q)) ∧ ∃ n, wr = w.drewN n) (fun i wr => l.length - (intOf i).toNat)
  case atStart => exact ⟨0, -2, by omega, rfl, by omega, by omega, Lib.hid (.inl ⟨rfl, rfl⟩), HB, 0, rfl⟩
  case round =>
    obtain ⟨q, lv, hq, rfl, hv1, hv2, hP, hB, nn, rfl⟩ := hrel
    by_cases hlt : q < l.length
    · obtain ⟨ad, rfl, hb, x0, x1⟩ := HR.out.sp hlt
      have HD := Lib.hid (drop_consS l hlt)
      have HN := Lib.hid (show ∃ k, ∃ h : k < l.length, q + 1 = k + 1 ∧ l[q].2 = l[k].2 from ⟨q, hlt, rfl, rfl⟩)
      have HPV := Lib.hid (fun k (h : k < l.length) => (HR.out.sp (j := k) h))
      generalize l[q] = s at x0 x1 HD HN
      obtain ⟨lo, hi⟩ := s
      simp only [] at x0 x1 HN
      have HF : ∀ b, okF 255 lv ((lo, hi) :: l.drop (q + 1)) = b → B = b := fun b h => by rw [hB.out, HD.out]; exact h
      have HFH := Lib.hid HF
      clear HF
      have bad : (¬ (0 ≤ lo ∧ lo ≤ hi ∧ hi ≤ 255 ∧ lv < lo - 1)) → B = false := fun h => HFH.out _ (by rw [okF, decide_eq_false h, Bool.false_and])
      by_cases h1 : lo < 0
      · have d1 : decide (lo < 0) = true := decide_eq_true h1
        obtain rfl := bad (by show ¬ (0 ≤ lo ∧ _); omega)
        clear bad h1
        go_wp2
        go_quiet (fail)
        go_wp2
        go_ret
        exact ⟨rfl, by first | exact ⟨_, rfl⟩ | exact dN2 _ _ _⟩
      · have d1 : decide (lo < 0) = false := decide_eq_false h1
        by_cases h2 : hi < lo
        · have d2 : decide (hi < lo) = true := decide_eq_true h2
          obtain rfl := bad (by show ¬ (0 ≤ lo ∧ lo ≤ hi ∧ _); omega)
          clear bad h1
          go_wp2
          go_quiet (fail)
          go_wp2
          go_ret
          exact ⟨rfl, by first | exact ⟨_, rfl⟩ | exact dN2 _ _ _⟩
        · have d2 : decide (hi < lo) = false := decide_eq_false h2
          by_cases h3 : 255 < hi
          · have d3 : decide (255 < hi) = true := decide_eq_true h3
            obtain rfl := bad (by show ¬ (0 ≤ lo ∧ lo ≤ hi ∧ hi ≤ 255 ∧ _); omega)
            clear bad
            go_wp2
            go_quiet (fail)
            go_wp2
            go_ret
            exact ⟨rfl, by first | exact ⟨_, rfl⟩ | exact dN2 _ _ _⟩
          · have d3 : decide (255 < hi) = false := decide_eq_false h3
            rcases hP.out with ⟨h0, hlv⟩ | ⟨k, hk, hqk, hlv⟩
            · subst h0 hlv
              rw [Nat.zero_mul, ad0] at x0 x1
              have hnext : B = okF 255 hi (l.drop 1) := HFH.out _ (by rw [okF, decide_eq_true (show 0 ≤ lo ∧ lo ≤ hi ∧ hi ≤ 255 ∧ (-2 : Int) < lo - 1 by omega), Bool.true_and])
              have HNX := Lib.hid hnext
              have hi0 : -2 ≤ hi := by omega
              have hi1 : hi ≤ 255 := by omega
              clear bad hnext
              go_wp2
              go_quiet (fail)
              go_wp2
              exact ⟨⟨1, hi, by omega, by go_num, hi0, hi1, Lib.hid (.inr HN.out), HNX, by first | exact ⟨_, rfl⟩ | exact dN2 _ _ _⟩, by simp [intOf]; omega⟩
            · subst hqk
              obtain ⟨ad', e, hb', y0, y1⟩ := HPV.out k hk
              cases e
              rw [← hlv] at y1
              have b0 : 0 ≤ lo := by omega
              have b1 : lo ≤ 255 := by omega
              have b2 : hi ≤ 255 := by omega
              have hs1 : IntKind.i64.wrap (((k + 1 : Nat) : Int) - 1) = (k : Int) := by rw [IntWalk.i64_in _ (by omega)]; omega
              have hs1' : IntKind.i64.wrap ((k : Int) + 1 - 1) = (k : Int) := by rw [IntWalk.i64_in _ (by omega)]; omega
              have hs2 : IntKind.i64.wrap (lv + 1) = lv + 1 := IntWalk.i64_in _ (by omega)
              have d0 : decide (0 < ((k + 1 : Nat) : Int)) = true := decide_eq_true (by omega)
              by_cases h4 : lo ≤ lv + 1
              · have d4 : decide (lo ≤ lv + 1) = true := decide_eq_true h4
                obtain rfl := bad (by show ¬ (0 ≤ lo ∧ lo ≤ hi ∧ hi ≤ 255 ∧ lv < lo - 1); omega)
                clear bad
                go_wp2
                go_quiet (fail)
                go_wp2
                go_ret
                exact ⟨rfl, by first | exact ⟨_, rfl⟩ | exact dN2 _ _ _⟩
              · have d4 : decide (lo ≤ lv + 1) = false := decide_eq_false h4
                have hnext : B = okF 255 hi (l.drop (k + 1 + 1)) := HFH.out _ (by rw [okF, decide_eq_true (show 0 ≤ lo ∧ lo ≤ hi ∧ hi ≤ 255 ∧ lv < lo - 1 by omega), Bool.true_and])
                have HNX := Lib.hid hnext
                have hi0 : -2 ≤ hi := by omega
                clear bad hnext
                go_wp2
                go_quiet (fail)
                go_wp2
                exact ⟨⟨k + 1 + 1, hi, by omega, by go_num, hi0, b2, Lib.hid (.inr HN.out), HNX, by first | exact ⟨_, rfl⟩ | exact dN2 _ _ _⟩, by simp [intOf]; omega⟩
    · obtain rfl : q = l.length := by omega
      have hB := hB.out
      rw [List.drop_length] at hB
      have hB : B = true := hB
      subst hB
      clear HB HR
      go_wp2
      go_ret
      exact ⟨rfl, by first | exact ⟨_, rfl⟩ | exact dN2 _ _ _⟩
end Go.Proofs.YtobofhiakgohfaaGreatDoor

namespace Go.Proofs.YtobofhiakgohfaaGreatDoor
open Go.RowKit

/-- The cells of a set of bytes. -/
def arrM (m : Int → Bool) : Array Value := ((List.range 256).map fun (k : Nat) => Value.bool (m (k : Int))).toArray
theorem arr_size (m : Int → Bool) : (arrM m).size = 256 := by simp [arrM]
theorem arr_get (m : Int → Bool) {k : Nat} (h : k < 256) : (arrM m)[k]? = some (.bool (m (k : Int))) := by simp [arrM, h]
def noneM : Int → Bool := fun _ => false
theorem alloc110 (W : World) : (Instr.alloc 110 true (.tuple #[])).run Tryz.prog W = .ok (.pointer (some ⟨W.heap.size, 0, none⟩)) (W.alloc (.cells (arrM noneM) 110)) := by kernel_rfl

theorem arr_one (m : Int → Bool) : (arrM m).all (·.oneCell') = true := by
  rw [Array.all_eq_true]
  intro i hi
  have := arr_get m (k := i) (by simpa [arr_size] using hi)
  rw [Array.getElem?_eq_getElem hi] at this
  rw [Option.some.inj this]
  rfl
theorem arr_set (m : Int → Bool) {k : Nat} (h : k < 256) : (arrM m).setIfInBounds k (.bool true) = arrM fun x => m x || decide (x = (k : Int)) := by
  refine Array.ext_getElem? fun i => ?_
  rw [Array.getElem?_setIfInBounds]
  by_cases hi : i < 256
  · rw [arr_get _ hi, arr_get _ hi, arr_size]
    by_cases hk : k = i
    · subst hk; simp [h]
    · rw [if_neg hk, decide_eq_false (by omega), Bool.or_false]
  · have h1 : ∀ m : Int → Bool, (arrM m)[i]? = none := fun m => Array.getElem?_eq_none (by rw [arr_size]; omega)
    rw [h1, h1, if_neg (by omega)]
theorem arr_ext {m n : Int → Bool} (h : ∀ k : Nat, k < 256 → m (k : Int) = n (k : Int)) : arrM m = arrM n := by
  refine Array.ext_getElem? fun i => ?_
  by_cases hi : i < 256
  · rw [arr_get _ hi, arr_get _ hi, h i hi]
  · have h1 : ∀ m : Int → Bool, (arrM m)[i]? = none := fun m => Array.getElem?_eq_none (by rw [arr_size]; omega)
    rw [h1, h1]
theorem Blk.setRow {w : World} {b : Nat} {t : TypeId} {cs : Array Value} (h : Blk w b t cs) (cs' : Array Value) : Blk (w.setRow b cs') b t cs' := by
  unfold Blk at h ⊢
  simp [World.setRow, Array.getElem?_modify, h]
theorem Kp.setRow {S : Nat → Prop} {w w1 : World} (h : Kp S w w1) {b : Nat} (hb : w.heap.size ≤ b ∨ S b) (cs : Array Value) : Kp S w (w1.setRow b cs) :=
  ⟨h.os, h.tape, h.output, by rw [size_setRow]; exact h.size, fun i hi hs => by
    have hne : b ≠ i := by rintro rfl; rcases hb with hb | hb; omega; exact hs hb
    rw [show (w1.setRow b cs).heap[i]? = w1.heap[i]? by simp [World.setRow, Array.getElem?_modify, hne]]
    exact h.block i hi hs⟩
theorem storeArr {W : World} {b : Nat} {t : TypeId} {cs : Array Value} {m : Int → Bool} (h : Blk W b t cs) (hs : cs.size = 256) : (storeCells ⟨b, 0, none⟩ (arrM m).toList).run Tryz.prog W = .ok () (W.setRow b (arrM m)) := by
  have := run_storeCells_from (P := Tryz.prog) b t (arrM m).toList 0 cs W h (by simp [arr_size, hs]) (fun v hv => (Array.all_eq_true_iff_forall_mem.1 (arr_one m)) v (by simpa using hv))
  simpa using this
theorem loadArr {W : World} {b : Nat} {t : TypeId} {m : Int → Bool} (h : Blk W b t (arrM m)) : (loadCells ⟨b, 0, none⟩ 256).run Tryz.prog W = .ok (arrM m) W := by
  have := run_loadCells_list (P := Tryz.prog) W ⟨b, 0, none⟩ (arrM m).toList (fun j v hv => by
    have hadd : (⟨b, 0, none⟩ : Addr).add j = ⟨b, j, none⟩ := by unfold Addr.add; split <;> simp_all
    rw [hadd, cell_of_row W b j (arrM m) t (0, 0) h]
    simpa using hv)
  simpa [arr_size] using this
theorem under110 : ∃ d, Tryz.prog.underlying 110 = some d ∧ (match d with | .struct _ | .array _ _ => true | _ => false) = true := ⟨_, Tryz.underlying110, rfl⟩
theorem info110 : (Tryz.prog.info? 110).map (·.size) = some 256 := by kernel_rfl

set_option maxRecDepth 100000 in
set_option maxHeartbeats 4000000 in
theorem members_any (w : World) (A : Option Addr) (c : Nat) (l : List Sp) (hr : Reads w w.heap.size 2 A l.length (spcs l)) (hl : l.length ≤ 1048576) :
    Calls Tryz.prog 49 #[.slice A l.length c] w fun e w' => e = .returned (.agg (arrM fun x => okS 255 l && l.any fun r => decide (r.1 ≤ x ∧ x ≤ r.2))) ∧ K0 w w' := by
  have RV := Lib.hid (fun W (h : K0 w W) => rvalid_any W A c l (hr.k0 (Nat.le_refl _) h |>.more h.size) hl)
  obtain ⟨B, hB⟩ : ∃ B, B = okS 255 l := ⟨_, rfl⟩
  rw [← hB] at RV ⊢
  have HB := Lib.hid hB
  clear hB
  have k2 : K0 w ((w.alloc (.cells (arrM noneM) 110)).alloc (.cells (arrM noneM) 110)) := ((Kp.refl _ _).alloc _).alloc _
  have y0 := (Blk.new w 110 (arrM noneM)).alloc (.cells (arrM noneM) 110)
  have y1 := Blk.new (w.alloc (.cells (arrM noneM) 110)) 110 (arrM noneM)
  have hz : Tryz.zeroCells110 = arrM noneM := by kernel_rfl
  rw [World.size_alloc] at y1
  cases B with
  | false =>
    go_enter Tryz.func49, Tryz.ntmps49
    go_wp2_with fail
    refine (RV.out _ k2).mono ?_
    rintro e w2 ⟨rfl, n, rfl⟩
    have k3 := k2.drewN n
    have z0 : Blk (((w.alloc (.cells (arrM noneM) 110)).alloc (.cells (arrM noneM) 110)).drewN n) w.heap.size 110 (arrM noneM) := y0
    have z1 : Blk (((w.alloc (.cells (arrM noneM) 110)).alloc (.cells (arrM noneM) 110)).drewN n) (w.heap.size + 1) 110 (arrM noneM) := y1
    generalize ((w.alloc (.cells (arrM noneM) 110)).alloc (.cells (arrM noneM) 110)).drewN n = w2 at k3 z0 z1 ⊢
    have hst := storeArr (m := noneM) z0 (arr_size _)
    go_wp2
    refine wp_load_row 110 (.tmp 3) rfl (w.heap.size + 1) rfl 110 (arrM noneM) (0, 0) _ z1 Tryz.underlying110 rfl (by rw [info110, arr_size]) ?_
    go_wp2
    refine bodyPost_ret (v := .agg (arrM noneM)) (results_cell_row (fn := Tryz.f49) (p := 2) (ty := 110) rfl _ _ w.heap.size 110 (arrM noneM) (0, 0) _ rfl (z0.setRow _) Tryz.underlying110 rfl (by rw [info110, arr_size])) rfl ?_
    refine ⟨?_, k3.setRow (.inl (by omega)) _⟩
    congr 2
  | true =>
    have hok : okF 255 (-2) l = true := HB.out.symm
    have HFT := Lib.hid (fun (q : Nat) (h : q < l.length) => show fitsS 255 l[q] from okF_fits hok _ (List.getElem_mem h))
    have HRW := Lib.hid (fun W (h : K0 w W) q (hq : q < l.length) => (hr.k0 (Nat.le_refl _) h).sp hq)
    have HTS := Lib.hid (fun (q : Nat) (h : q < l.length) (x : Int) => show ((l.take (q + 1)).any fun r => decide (r.1 ≤ x ∧ x ≤ r.2)) = (((l.take q).any fun r => decide (r.1 ≤ x ∧ x ≤ r.2)) || decide (l[q].1 ≤ x ∧ x ≤ l[q].2)) by rw [List.take_succ_eq_append_getElem h, List.any_append]; simp)
    have HEnd := Lib.hid (show (fun x : Int => true && l.any fun r => decide (r.1 ≤ x ∧ x ≤ r.2)) = fun x : Int => (l.take l.length).any fun r => decide (r.1 ≤ x ∧ x ≤ r.2) by funext x; rw [List.take_length, Bool.true_and])
    clear hok
    go_enter Tryz.func49, Tryz.ntmps49
    go_wp2_with fail
    refine (RV.out _ k2).mono ?_
    rintro e w2 ⟨rfl, n, rfl⟩
    have k3 := k2.drewN n
    have z0 : Blk (((w.alloc (.cells (arrM noneM) 110)).alloc (.cells (arrM noneM) 110)).drewN n) w.heap.size 110 (arrM noneM) := y0
    have z1 : Blk (((w.alloc (.cells (arrM noneM) 110)).alloc (.cells (arrM noneM) 110)).drewN n) (w.heap.size + 1) 110 (arrM noneM) := y1
    generalize ((w.alloc (.cells (arrM noneM) 110)).alloc (.cells (arrM noneM) 110)).drewN n = w2 at k3 z0 z1 ⊢
    clear y0 y1 k2 RV HB
    go_wp2
    go_loopw [4] (fun i wr => ∃ q : Nat, q ≤ l.length ∧ i = .int .i64 (q : Int) ∧ Blk wr w.heap.size 110 (arrM noneM) ∧ Hid (Blk wr (w.heap.size + 1) 110 (arrM fun x => (l.take q).any fun r => decide (r.1 ≤ x ∧ x ≤ r.2))) ∧ K0 w wr) (fun i wr => l.length - (intOf i).toNat)
    case atStart => exact ⟨0, by omega, rfl, z0, Lib.hid z1, k3⟩
    clear z0 z1 k3
    case round =>
      obtain ⟨q, hq, rfl, y0, hy1, hk⟩ := hrel
      by_cases hlt : q < l.length
      · obtain ⟨ad, rfl, hb, x0, x1⟩ := HRW.out wr hk q hlt
        have hf := HFT.out q hlt
        have hts := HTS.out q hlt
        have HRQ := Lib.hid (fun W h => HRW.out W h q hlt)
        generalize l[q] = s at x0 x1 hf hts HRQ
        obtain ⟨lo, hi⟩ := s
        unfold fitsS at hf
        simp only [] at x0 x1 hf hts HRQ
        obtain ⟨f1, f2, f3⟩ := hf
        have HTQ := Lib.hid hts
        clear hts
        obtain ⟨mq, hmq⟩ : ∃ mq : Int → Bool, mq = fun x => (l.take q).any fun r => decide (r.1 ≤ x ∧ x ≤ r.2) := ⟨_, rfl⟩
        rw [← hmq] at hy1
        have HMQ := Lib.hid hmq
        clear hmq
        go_wp2
        go_loopw [5] (fun i wz => ∃ x : Int, lo ≤ x ∧ x ≤ hi + 1 ∧ i = .int .i64 x ∧ Blk wz w.heap.size 110 (arrM noneM) ∧ Hid (Blk wz (w.heap.size + 1) 110 (arrM fun y => mq y || decide (lo ≤ y ∧ y < x))) ∧ K0 w wz) (fun i wz => 300 - (intOf i).toNat)
        case atStart =>
          refine ⟨lo, by omega, by omega, rfl, y0, Lib.hid ?_, hk⟩
          have : (fun y => mq y || decide (lo ≤ y ∧ y < lo)) = mq := by funext y; rw [decide_eq_false (by omega), Bool.or_false]
          rw [this]
          exact hy1.out
        case round =>
          obtain ⟨x, hx1, hx2, rfl, y0, hy2, hkz⟩ := hrel
          obtain ⟨ad', e, hb', u0, u1⟩ := HRQ.out wr hkz
          cases e
          by_cases hlx : x ≤ hi
          · obtain ⟨k, rfl⟩ : ∃ k : Nat, x = (k : Int) := ⟨x.toNat, by omega⟩
            have hk256 : k < 256 := by omega
            have y1 := hy2.out
            have c1 := y1.cell k
            rw [arr_get _ hk256] at c1
            have fr1 := y1.frozen k
            have l1 := y1.lt
            have d0 : decide ((k : Int) ≤ hi) = true := decide_eq_true hlx
            have hki : (k : Int) < 256 := by omega
            have hk0 : 0 ≤ (k : Int) := by omega
            go_wp2
            have y2 := y1.set_ k (.bool true)
            rw [arr_set _ hk256] at y2
            have he : (fun x => (mq x || decide (lo ≤ x ∧ x < (k : Int))) || decide (x = (k : Int))) = fun y => mq y || decide (lo ≤ y ∧ y < (k : Int) + 1) := by
              funext y
              rw [Bool.or_assoc]
              congr 1
              rw [← Bool.decide_or]
              exact decide_eq_decide.2 (by omega)
            rw [he] at y2
            exact ⟨⟨(k : Int) + 1, by omega, by omega, by go_num, y0.far (p := ⟨w.heap.size + 1, k, none⟩) (by simp) _, Lib.hid y2, hkz.setCell (p := ⟨w.heap.size + 1, k, none⟩) (.inl (by simp)) _⟩, by simp [intOf]; omega⟩
          · have d0 : decide (x ≤ hi) = false := decide_eq_false hlx
            have hxe : x = hi + 1 := by omega
            subst hxe
            go_wp2
            refine ⟨⟨q + 1, by omega, by go_num, y0, Lib.hid ?_, hkz⟩, by simp [intOf]; omega⟩
            have he : (fun y => mq y || decide (lo ≤ y ∧ y < hi + 1)) = fun x => (l.take (q + 1)).any fun r => decide (r.1 ≤ x ∧ x ≤ r.2) := by
              funext y
              rw [HTQ.out y, HMQ.out]
              congr 1
              exact decide_eq_decide.2 (by constructor <;> (rintro ⟨h1, h2⟩; exact ⟨h1, by omega⟩))
            rw [← he]
            exact hy2.out
      · obtain rfl : q = l.length := by omega
        have y1 := hy1.out
        rw [← HEnd.out] at y1
        have hst := storeArr (m := fun x : Int => true && l.any fun r => decide (r.1 ≤ x ∧ x ≤ r.2)) y0 (arr_size _)
        clear HEnd hy1 HTS HFT HRW
        obtain ⟨M, hM⟩ : ∃ M : Int → Bool, M = fun x : Int => true && l.any fun r => decide (r.1 ≤ x ∧ x ≤ r.2) := ⟨_, rfl⟩
        rw [← hM] at y1 hst
        have HM := Lib.hid hM
        clear hM
        go_wp2
        refine wp_load_row 110 (.tmp 3) rfl (w.heap.size + 1) rfl 110 (arrM M) (0, 0) _ y1 Tryz.underlying110 rfl (by rw [info110, arr_size]) ?_
        go_wp2
        refine bodyPost_ret (v := .agg (arrM M)) (results_cell_row (fn := Tryz.f49) (p := 2) (ty := 110) rfl _ _ w.heap.size 110 (arrM M) (0, 0) _ rfl (y0.setRow _) Tryz.underlying110 rfl (by rw [info110, arr_size])) rfl ?_
        exact ⟨by rw [← HM.out], hk.setRow (.inl (by omega)) _⟩
end Go.Proofs.YtobofhiakgohfaaGreatDoor

namespace Go.Proofs.YtobofhiakgohfaaGreatDoor
open Go.RowKit

set_option maxRecDepth 100000 in
set_option maxHeartbeats 4000000 in
theorem find_any (w : World) (A : Option Addr) (c : Nat) (p : List (ClassD × Value)) (n : Nat) (nm : ByteArray) (hn : n ≤ p.length) (hr : Reads w w.heap.size 3 A p.length (tris ctri p)) (hl : p.length ≤ 1048576) :
    Calls Tryz.prog 48 #[.slice A p.length c, .int .i64 (n : Int), .string nm] w fun e w' => e = .returned (.int .i64 (findN (p.map (fun x => x.1.nm) |>.take n) nm)) ∧ ∃ k, w' = w.drewN k := by
  obtain ⟨R, hR⟩ : ∃ R, R = findN (p.map (fun x => x.1.nm) |>.take n) nm := ⟨_, rfl⟩
  rw [← hR]
  have hlen : (p.map (fun x => x.1.nm) |>.take n).length = n := by simp; omega
  have HH := Lib.hid (fun (q : Nat) (hq : q < n) (h0 : findN ((p.map (fun x => x.1.nm)).take q) nm = -1) (he : p[q].1.nm.data.toList = nm.data.toList) => show R = (q : Int) by
    rw [hR]
    refine findN_hit (q := q) ?_ (by rw [hlen]; exact hq) (by simpa using he)
    rw [List.take_take, Nat.min_eq_left (by omega)]
    exact h0)
  have HM := Lib.hid (fun (q : Nat) (hq : q < n) (h0 : findN ((p.map (fun x => x.1.nm)).take q) nm = -1) (he : p[q].1.nm.data.toList ≠ nm.data.toList) => findN_miss (l := p.map (fun x => x.1.nm)) (nm := nm) (q := q) h0 (by simp; omega) (by simpa using he))
  have HR := Lib.hid (fun (h0 : findN ((p.map (fun x => x.1.nm)).take n) nm = -1) => show R = -1 by rw [hR]; exact h0)
  clear hR
  go_enter Tryz.func48, Tryz.ntmps48
  go_wp2
  go_loopw [7] (fun i wr => ∃ q : Nat, q ≤ n ∧ i = .int .i64 (q : Int) ∧ Hid (findN ((p.map (fun x => x.1.nm)).take q) nm = -1) ∧ ∃ k, wr = w.drewN k) (fun i wr => n - (intOf i).toNat)
  case atStart => exact ⟨0, by omega, rfl, Lib.hid rfl, 0, rfl⟩
  case round =>
    obtain ⟨q, hq, rfl, h0, k, rfl⟩ := hrel
    by_cases hlt : q < n
    · have hqp : q < p.length := by omega
      obtain ⟨ad, rfl, hb, r0, r1, r2⟩ := hr.tri hqp
      have HH1 := Lib.hid (HH.out q hlt h0.out)
      have HM1 := Lib.hid (HM.out q hlt h0.out)
      generalize p[q] = x at r0 r1 r2 HH1 HM1
      obtain ⟨⟨xn, its, pl⟩, v⟩ := x
      simp only [ctri] at r0 r1 r2
      by_cases he : xn.data.toList = nm.data.toList
      · have hx := HH1.out he
        have e1 : (xn.toList == nm.toList) = true := by rw [ByteArray.toList_eq, ByteArray.toList_eq]; exact beq_iff_eq.2 he
        clear HH1 HM1 HH HM HR he
        subst hx
        go_wp2
        go_ret
        exact ⟨rfl, by first | exact ⟨_, rfl⟩ | exact dN _ _ _⟩
      · have hx := Lib.hid (HM1.out he)
        have e1 : (xn.toList == nm.toList) = false := by rw [ByteArray.toList_eq, ByteArray.toList_eq]; exact beq_eq_false_iff_ne.2 he
        clear HH1 HM1 he
        go_wp2
        exact ⟨⟨q + 1, by omega, by go_num, hx, by first | exact ⟨_, rfl⟩ | exact dN _ _ _⟩, by simp [intOf]; omega⟩
    · obtain rfl : q = n := by omega
      have hx := HR.out h0.out
      subst hx
      go_wp2
      go_ret
      exact ⟨rfl, by first | exact ⟨_, rfl⟩ | exact dN _ _ _⟩

theorem sing_len (m : Int → Bool) : ∀ (n : Nat) (a : Int), (sing m a n).length ≤ n
  | 0, a => by simp [sing]
  | n + 1, a => by
    have := sing_len m n (a + 1)
    rw [sing]
    split <;> simp <;> omega

set_option maxRecDepth 100000 in
set_option maxHeartbeats 8000000 in
theorem set50_any (w : World) (m : Int → Bool) : Calls Tryz.prog 50 #[.agg (arrM m)] w fun e w' => ∃ A c, e = .returned (.slice A (setM m 256).length c) ∧ w'.ownsRow w.heap.size 61 2 (.slice A (setM m 256).length c) (setM m 256).length (spcs (setM m 256)) ∧ (setM m 256).length ≤ 256 ∧ K0 w w' := by
  obtain ⟨i0, hi, hz0, hz1, hz2⟩ := info_parts info61
  obtain ⟨R, hR⟩ : ∃ R, R = setM m 256 := ⟨_, rfl⟩
  have HF := Lib.hid (fun o (h : SetAt m o 256) => show R = o by rw [hR]; exact h.fin.symm)
  rw [← hR]
  clear hR
  have y0 := Blk.new w 110 (arrM m)
  have k0 : K0 w (w.alloc (.cells (arrM m) 110)) := (Kp.refl _ _).alloc _
  go_enter Tryz.func50, Tryz.ntmps50
  go_wp2
  obtain ⟨w1, hw1⟩ : ∃ w1, w1 = w.alloc (.cells (arrM m) 110) := ⟨_, rfl⟩
  rw [← hw1] at y0 k0 ⊢
  have s1 : w.heap.size < w1.heap.size := y0.lt
  clear hw1
  go_loopw [3, 4] (fun out i wr => ∃ (x : Nat) (o : List Sp), x ≤ 256 ∧ i = .int .i64 (x : Int) ∧ wr.ownsRow w1.heap.size 61 2 out o.length (spcs o) ∧ Hid (SetAt m o x) ∧ o.length ≤ x ∧ Blk wr w.heap.size 110 (arrM m) ∧ K0 w1 wr) (fun out i wr => 256 - (intOf i).toNat)
  case atStart => exact ⟨0, [], by omega, rfl, World.ownsRow_nil _ _ _ _, Lib.hid (SetAt.zero m), by simp, y0, Kp.refl _ _⟩
  clear y0
  case round =>
    obtain ⟨x, o, hx, rfl, ho, hS, hol, y, hk⟩ := hrel
    obtain ⟨Ao, co, rfl, _, _⟩ := own_form ho
    have hsk := hk.size
    by_cases hlt : x < 256
    · have c0 := y.cell x
      rw [arr_get _ hlt] at c0
      have l0 := y.lt
      have d0 : decide ((x : Int) ≤ 255) = true := decide_eq_true (by omega)
      obtain ⟨b, hb⟩ : ∃ b, b = m (x : Int) := ⟨_, rfl⟩
      rw [← hb] at c0
      have HB := Lib.hid hb.symm
      clear hb
      have hxi : (x : Int) < 256 := by omega
      have hx0 : 0 ≤ (x : Int) := by omega
      cases b with
      | false =>
        have hS2 := Lib.hid (hS.out.skip hlt HB.out)
        go_wp2
        exact ⟨⟨x + 1, o, by omega, by go_num, ho, hS2, by omega, y, hk⟩, by simp [intOf]; omega⟩
      | true =>
        by_cases hp : 0 < x ∧ m ((x : Int) - 1) = true
        · obtain ⟨pre, cc, rfl, hS2⟩ := hS.out.grow hlt HB.out hp
          obtain ⟨hp0, hp1⟩ := hp
          have c1 := y.cell (x - 1)
          rw [arr_get _ (by omega), show ((x - 1 : Nat) : Int) = (x : Int) - 1 by omega, hp1] at c1
          obtain ⟨z, rfl⟩ : ∃ z, x = z + 1 := ⟨x - 1, by omega⟩
          simp only [Nat.add_sub_cancel] at c1
          have d1 : decide (0 < ((z + 1 : Nat) : Int)) = true := decide_eq_true (by omega)
          have wr1 : IntKind.i64.wrap (((z + 1 : Nat) : Int) - 1) = (z : Int) := by rw [IntWalk.i64_in _ (by omega)]; omega
          have wr2 : IntKind.i64.wrap ((z : Int) + 1 - 1) = (z : Int) := by rw [IntWalk.i64_in _ (by omega)]; omega
          have hlen : (pre ++ [cc]).length = pre.length + 1 := by simp
          rw [hlen] at ho hol ⊢
          obtain ⟨g, c', he, _, hgl⟩ := ho.form (by omega)
          cases he
          have hne := own_blk_ne ho y (by decide)
          have hst := (ho.stored (pre.length * 2 + 1) (.int .i64 ((z + 1 : Nat) : Int))).1
          rw [spcs_setHi] at hst
          have f1 := ho.frozenAt (pre.length * 2 + 1)
          have x1 := ho.cellAt (pre.length * 2 + 1) (by omega)
          rw [(spcs_get (pre ++ [cc]) pre.length cc (by simp)).2] at x1
          have wr3 : IntKind.i64.wrap (((pre.length + 1 : Nat) : Int) - 1) = (pre.length : Int) := by rw [IntWalk.i64_in _ (by omega)]; omega
          have wr4 : IntKind.i64.wrap ((pre.length : Int) + 1 - 1) = (pre.length : Int) := by rw [IntWalk.i64_in _ (by omega)]; omega
          have hgw := (ho.lt g rfl).1
          have HST := Lib.hid hst
          have HS3 := Lib.hid hS2
          simp [Value.ownBlock] at hne
          have HNE := Lib.hid hne
          clear hst hS2 hne
          go_wp2
          refine ⟨⟨z + 1 + 1, pre ++ [(cc.1, ((z + 1 : Nat) : Int))], by omega, by go_num, ?_, HS3.out, by simp; omega, ?_, ?_⟩, by simp [intOf]; omega⟩
          · have := HST.out
            rw [List.length_append]
            exact this
          · exact y.far (p := ⟨g, pre.length * 2 + 1, none⟩) (by have := HNE.out; simp; omega) _
          · exact hk.setCell (p := ⟨g, pre.length * 2 + 1, none⟩) (.inl (by simp; omega)) _
        · have hS2 := hS.out.more hlt HB.out hp
          by_cases hp0 : 0 < x
          · have hpm : m ((x : Int) - 1) = false := by
              cases h : m ((x : Int) - 1) with
              | false => rfl
              | true => exact absurd ⟨hp0, h⟩ hp
            have c1 := y.cell (x - 1)
            rw [arr_get _ (by omega), show ((x - 1 : Nat) : Int) = (x : Int) - 1 by omega, hpm] at c1
            obtain ⟨z, rfl⟩ : ∃ z, x = z + 1 := ⟨x - 1, by omega⟩
            simp only [Nat.add_sub_cancel] at c1
            have d1 : decide (0 < ((z + 1 : Nat) : Int)) = true := decide_eq_true (by omega)
            have wr1 : IntKind.i64.wrap (((z + 1 : Nat) : Int) - 1) = (z : Int) := by rw [IntWalk.i64_in _ (by omega)]; omega
            have wr2 : IntKind.i64.wrap ((z : Int) + 1 - 1) = (z : Int) := by rw [IntWalk.i64_in _ (by omega)]; omega
            have ez : ((z + 1 : Nat) : Int) = (z : Int) + 1 := by omega
            rw [ez] at hS2
            have HS2 := Lib.hid hS2
            have hown1 := ho.alloc (.cells #[.int .i64 ((z : Int) + 1), .int .i64 ((z : Int) + 1)] 61)
            clear hp hpm hS2 ez
            go_wp2_with (at_builtin; refine wpList_append_any _ rfl (.tmp 28) (.tmp 32) _ rfl w1.heap.size 61 i0 _ 2 16 Tryz.underlying62 hi hz0 hz1 hz2 rfl (by omega) (.slice Ao o.length co) o.length (spcs o) rfl (by exact hown1) (wr.heap.size + 1) (some ⟨wr.heap.size, 0, none⟩) 1 1 (spcs [((z : Int) + 1, (z : Int) + 1)]) rfl (by have := reads_new wr 61 #[.int .i64 ((z : Int) + 1), .int .i64 ((z : Int) + 1)] 1 2 rfl; simpa [spcs, spc] using this) (spcs_one _) (by simp only [maxLen]; omega) (by omega) (by simp; omega) ?_; intro v3 w3 ho3 hg3 hat3)
            refine ⟨⟨z + 1 + 1, o ++ [((z : Int) + 1, (z : Int) + 1)], by omega, by go_num, ?_, HS2, by rw [List.length_append]; simp only [List.length_singleton]; omega, (y.alloc _).grown hg3 (Ne.symm (own_blk_ne hown1 (y.alloc _) (by decide))), (hk.alloc _).grown hg3 (fun b hb => .inl (ho.lt b hb).1)⟩, by simp [intOf]; omega⟩
            rw [spcs_append, List.length_append]
            exact ho3
          · obtain rfl : x = 0 := by omega
            rw [show ((0 : Nat) : Int) = 0 from rfl] at hS2
            have HS2 := Lib.hid hS2
            have hown1 := ho.alloc (.cells #[.int .i64 0, .int .i64 0] 61)
            clear hp hS2
            go_wp2_with (at_builtin; refine wpList_append_any _ rfl (.tmp 28) (.tmp 32) _ rfl w1.heap.size 61 i0 _ 2 16 Tryz.underlying62 hi hz0 hz1 hz2 rfl (by omega) (.slice Ao o.length co) o.length (spcs o) rfl (by exact hown1) (wr.heap.size + 1) (some ⟨wr.heap.size, 0, none⟩) 1 1 (spcs [(0, 0)]) rfl (by have := reads_new wr 61 #[.int .i64 0, .int .i64 0] 1 2 rfl; simpa [spcs, spc] using this) (spcs_one _) (by simp only [maxLen]; omega) (by omega) (by simp; omega) ?_; intro v3 w3 ho3 hg3 hat3)
            refine ⟨⟨0 + 1, o ++ [(0, 0)], by omega, by go_num, ?_, HS2, by rw [List.length_append]; simp only [List.length_singleton]; omega, (y.alloc _).grown hg3 (Ne.symm (own_blk_ne hown1 (y.alloc _) (by decide))), (hk.alloc _).grown hg3 (fun b hb => .inl (ho.lt b hb).1)⟩, by simp [intOf]⟩
            rw [spcs_append, List.length_append]
            exact ho3
    · obtain rfl : x = 256 := by omega
      have hf := HF.out o hS.out
      subst hf
      have d0 : decide ((256 : Int) ≤ 255) = false := by decide
      go_wp2
      go_ret
      exact ⟨_, _, rfl, own_mono ho (by omega), hol, k0.trans hk⟩
end Go.Proofs.YtobofhiakgohfaaGreatDoor
