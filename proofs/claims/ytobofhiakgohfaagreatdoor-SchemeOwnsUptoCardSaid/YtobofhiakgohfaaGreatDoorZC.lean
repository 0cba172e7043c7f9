/- the reference's Name. the reference's Item. -/
import Derived.Test.YtobofhiakgohfaaGreatDoorZB
set_option linter.unusedVariables false
set_option linter.unusedSimpArgs false
namespace Go.Proofs.YtobofhiakgohfaaGreatDoor
open Go.RowKit

def okB (c : UInt8) : Bool := letterB c || digitB c
theorem nameB_core (l : List UInt8) (h1 : l ≠ kwClass) (h2 : l ≠ kwShape) (h3 : l ≠ kwAt) (h4 : l.length ≤ 16) : nameB l = (headLetter l && l.all okB) := by
  simp only [nameB, beq_eq_false_iff_ne.2 h1, beq_eq_false_iff_ne.2 h2, beq_eq_false_iff_ne.2 h3, decide_eq_true h4, Bool.not_false, Bool.true_and]
  rfl
theorem all_false {l : List UInt8} {j : Nat} (h : j < l.length) (hc : okB (l[j]?.getD 0) = false) : l.all okB = false := by
  rw [List.all_eq_false]
  rw [List.getElem?_eq_getElem h] at hc
  exact ⟨l[j], List.getElem_mem h, by simpa using hc⟩
theorem all_true {l : List UInt8} (h : ∀ j, j < l.length → okB (l[j]?.getD 0) = true) : l.all okB = true := by
  rw [List.all_eq_true]
  intro x hx
  obtain ⟨j, hj, rfl⟩ := List.mem_iff_getElem.1 hx
  have := h j hj
  rw [List.getElem?_eq_getElem hj] at this
  exact this
theorem head_get (l : List UInt8) (h : 0 < l.length) : headLetter l = letterB (l[0]?.getD 0) := by
  cases l with
  | nil => simp at h
  | cons a t => rfl

set_option maxRecDepth 100000 in
set_option maxHeartbeats 2000000 in
theorem rname_any (s : ByteArray) (w : World) (hs : s.size ≤ 140737488355328) : Calls Tryz.prog 79 #[.string s] w fun e w' => e = .returned (.bool (nameB s.data.toList)) ∧ K0 w w' := by
  have hsl : s.toList = s.data.toList := ByteArray.toList_eq s
  have hz : s.data.toList.length = s.size := by simp
  by_cases h0 : s.size = 0
  · have hn : nameB s.data.toList = false := by rw [List.eq_nil_of_length_eq_zero (hz.trans h0)]; decide
    rw [hn]; clear hsl hz hn
    go_enter Tryz.func79, Tryz.ntmps79
    go_wp2
    go_ret
    exact ⟨rfl, Kp.refl _ _⟩
  by_cases h5 : 16 < s.size
  · have hn : nameB s.data.toList = false := by
      have : ¬ s.data.toList.length ≤ 16 := by omega
      simp only [nameB, decide_eq_false this, Bool.and_false, Bool.false_and]
    have h00 : ¬ s.size < 1 := by omega
    rw [hn]; clear hsl hz hn
    go_enter Tryz.func79, Tryz.ntmps79
    go_wp2
    go_ret
    exact ⟨rfl, Kp.refl _ _⟩
  have h00 : ¬ s.size < 1 := by omega
  by_cases h1 : s.data.toList = kwClass
  · have hn : nameB s.data.toList = false := by rw [h1]; decide
    have e1 : (s.toList == [99, 108, 97, 115, 115]) = true := by rw [hsl, h1]; decide
    rw [hn]; clear hsl hz h1 hn
    go_enter Tryz.func79, Tryz.ntmps79
    go_wp2
    go_ret
    exact ⟨rfl, Kp.refl _ _⟩
  have e1 : (s.toList == [99, 108, 97, 115, 115]) = false := by rw [hsl]; exact beq_eq_false_iff_ne.2 h1
  by_cases h2 : s.data.toList = kwShape
  · have hn : nameB s.data.toList = false := by rw [h2]; decide
    have e2 : (s.toList == [115, 104, 97, 112, 101]) = true := by rw [hsl, h2]; decide
    rw [hn]; clear hsl hz h1 h2 hn
    go_enter Tryz.func79, Tryz.ntmps79
    go_wp2
    go_ret
    exact ⟨rfl, Kp.refl _ _⟩
  have e2 : (s.toList == [115, 104, 97, 112, 101]) = false := by rw [hsl]; exact beq_eq_false_iff_ne.2 h2
  by_cases h3 : s.data.toList = kwAt
  · have hn : nameB s.data.toList = false := by rw [h3]; decide
    have e3 : (s.toList == [97, 116]) = true := by rw [hsl, h3]; decide
    rw [hn]; clear hsl hz h1 h2 h3 hn
    go_enter Tryz.func79, Tryz.ntmps79
    go_wp2
    go_ret
    exact ⟨rfl, Kp.refl _ _⟩
  have e3 : (s.toList == [97, 116]) = false := by rw [hsl]; exact beq_eq_false_iff_ne.2 h3
  rw [nameB_core _ h1 h2 h3 (by omega)]
  have hd := head_get s.data.toList (by omega)
  have HF : ∀ j, j < s.size → okB (s.data.toList[j]?.getD 0) = false → Hid ((headLetter s.data.toList && s.data.toList.all okB) = false) := fun j hj h => Lib.hid (by rw [all_false (by omega) h, Bool.and_false])
  have HH := Lib.hid hd
  have HT : letterB (s.data.toList[0]?.getD 0) = true → (∀ j, j < s.size → okB (s.data.toList[j]?.getD 0) = true) → Hid ((headLetter s.data.toList && s.data.toList.all okB) = true) := fun ha h => Lib.hid (by rw [all_true (fun j hj => h j (by omega)), hd, ha]; rfl)
  have HT' := Lib.hid HT
  have HF' := Lib.hid HF
  clear HT HF hd hsl hz h1 h2 h3
  obtain ⟨Rb, hRb⟩ : ∃ Rb, Rb = (headLetter s.data.toList && s.data.toList.all okB) := ⟨_, rfl⟩
  rw [← hRb]
  have HR := Lib.hid hRb
  clear hRb
  go_enter Tryz.func79, Tryz.ntmps79
  go_wp2
  go_loopw [3] (fun i wr => ∃ j : Nat, j ≤ s.size ∧ i = .int .i64 j ∧ K0 w wr ∧ (0 < j → Hid (letterB (s.data.toList[0]?.getD 0) = true)) ∧ (∀ t, t < j → Hid (okB (s.data.toList[t]?.getD 0) = true)))
    (fun i wr => s.size - (intOf i).toNat)
  case atStart => exact ⟨0, Nat.zero_le _, rfl, Kp.refl _ _, fun h => absurd h (by omega), fun t h => absurd h (by omega)⟩
  case round =>
    obtain ⟨j, hj, rfl, hk, hA, hB⟩ := hrel
    by_cases hlt : j < s.size
    · have hg := str_get hlt
      obtain ⟨c, hc⟩ : ∃ c, c = s[j] := ⟨_, rfl⟩
      rw [← hc] at hg
      have hcv : s[j] = c := hc.symm
      clear hc
      have cont : okB c = true → (j = 0 → letterB c = true) → ∀ m, (∃ j_1 : Nat, j_1 ≤ s.size ∧ Value.int .i64 ((j : Int) + 1) = .int .i64 (j_1 : Int) ∧ K0 w (wr.drewN m) ∧ (0 < j_1 → Hid (letterB (s.data.toList[0]?.getD 0) = true)) ∧ (∀ t, t < j_1 → Hid (okB (s.data.toList[t]?.getD 0) = true))) := by
        intro h1 h2 m
        refine ⟨j + 1, by omega, by go_num, hk.drewN m, fun _ => ?_, fun t ht => ?_⟩
        · by_cases h : 0 < j
          · exact hA h
          · obtain rfl : j = 0 := by omega
            exact Lib.hid (by rw [hg]; exact h2 rfl)
        · by_cases h : t < j
          · exact hB t h
          · obtain rfl : t = j := by omega
            exact Lib.hid (by rw [hg]; exact h1)
      have stop1 : okB c = false → Rb = false := fun h => by rw [HR.out]; exact (HF'.out j hlt (by rw [hg]; exact h)).out
      have stop0 : j = 0 → letterB c = false → Rb = false := fun h0 h => by
        subst h0
        rw [HR.out, HH.out, hg, h, Bool.false_and]
      have CONT := Lib.hid cont
      have STOP1 := Lib.hid stop1
      have STOP0 := Lib.hid stop0
      clear cont stop1 stop0 hA hB hg
      by_cases h97 : 97 ≤ c.toNat
      · have h48 : 48 ≤ c.toNat := by omega
        have h57 : ¬ c.toNat ≤ 57 := by omega
        by_cases h122 : c.toNat ≤ 122
        · have CT := Lib.hid (CONT.out (by simp [okB, letterB, h97, h122]) (fun _ => by simp [letterB, h97, h122]))
          clear CONT STOP1 STOP0
          have d0 : decide ((97 : Int) ≤ (c.toNat : Int)) = true := decide_eq_true (by omega)
          have d1 : decide ((c.toNat : Int) ≤ 122) = true := decide_eq_true (by omega)
          have d2 : decide ((48 : Int) ≤ (c.toNat : Int)) = true := decide_eq_true (by omega)
          have d3 : decide ((c.toNat : Int) ≤ 57) = false := decide_eq_false (by omega)
          go_wp2
          go_quiet (fail)
          go_wp2
          exact ⟨CT.out _, by simp [intOf]; omega⟩
        · have hR := STOP1.out (by simp [okB, letterB, digitB, h97, h122, h48, h57])
          clear CONT STOP1 STOP0
          subst hR
          by_cases hj0 : j = 0
          · subst hj0
            have d0 : decide ((97 : Int) ≤ (c.toNat : Int)) = true := decide_eq_true (by omega)
            have d1 : decide ((c.toNat : Int) ≤ 122) = false := decide_eq_false (by omega)
            have d2 : decide ((48 : Int) ≤ (c.toNat : Int)) = true := decide_eq_true (by omega)
            have d3 : decide ((c.toNat : Int) ≤ 57) = false := decide_eq_false (by omega)
            go_wp2
            go_quiet (fail)
            go_wp2
            go_ret
            exact ⟨rfl, hk.drewN _⟩
          · have d0 : decide ((97 : Int) ≤ (c.toNat : Int)) = true := decide_eq_true (by omega)
            have d1 : decide ((c.toNat : Int) ≤ 122) = false := decide_eq_false (by omega)
            have d2 : decide ((48 : Int) ≤ (c.toNat : Int)) = true := decide_eq_true (by omega)
            have d3 : decide ((c.toNat : Int) ≤ 57) = false := decide_eq_false (by omega)
            go_wp2
            go_quiet (fail)
            go_wp2
            go_ret
            exact ⟨rfl, hk.drewN _⟩
      · by_cases hj0 : j = 0
        · have hR := STOP0.out hj0 (by simp [letterB, h97])
          clear CONT STOP1 STOP0
          subst hR
          subst hj0
          by_cases h48 : 48 ≤ c.toNat
          · by_cases h57 : c.toNat ≤ 57
            · have d0 : decide ((97 : Int) ≤ (c.toNat : Int)) = false := decide_eq_false (by omega)
              have d1 : decide ((c.toNat : Int) ≤ 122) = true := decide_eq_true (by omega)
              have d2 : decide ((48 : Int) ≤ (c.toNat : Int)) = true := decide_eq_true (by omega)
              have d3 : decide ((c.toNat : Int) ≤ 57) = true := decide_eq_true (by omega)
              go_wp2
              go_quiet (fail)
              go_wp2
              go_ret
              exact ⟨rfl, hk.drewN _⟩
            · have d0 : decide ((97 : Int) ≤ (c.toNat : Int)) = false := decide_eq_false (by omega)
              have d1 : decide ((c.toNat : Int) ≤ 122) = true := decide_eq_true (by omega)
              have d2 : decide ((48 : Int) ≤ (c.toNat : Int)) = true := decide_eq_true (by omega)
              have d3 : decide ((c.toNat : Int) ≤ 57) = false := decide_eq_false (by omega)
              go_wp2
              go_quiet (fail)
              go_wp2
              go_ret
              exact ⟨rfl, hk.drewN _⟩
          · have d0 : decide ((97 : Int) ≤ (c.toNat : Int)) = false := decide_eq_false (by omega)
            have d1 : decide ((c.toNat : Int) ≤ 122) = true := decide_eq_true (by omega)
            have d2 : decide ((48 : Int) ≤ (c.toNat : Int)) = false := decide_eq_false (by omega)
            have d3 : decide ((c.toNat : Int) ≤ 57) = true := decide_eq_true (by omega)
            go_wp2
            go_quiet (fail)
            go_wp2
            go_ret
            exact ⟨rfl, hk.drewN _⟩
        · by_cases h48 : 48 ≤ c.toNat
          · by_cases h57 : c.toNat ≤ 57
            · have CT := Lib.hid (CONT.out (by simp [okB, digitB, h48, h57]) (fun h => absurd h hj0))
              clear CONT STOP1 STOP0
              have d0 : decide ((97 : Int) ≤ (c.toNat : Int)) = false := decide_eq_false (by omega)
              have d1 : decide ((c.toNat : Int) ≤ 122) = true := decide_eq_true (by omega)
              have d2 : decide ((48 : Int) ≤ (c.toNat : Int)) = true := decide_eq_true (by omega)
              have d3 : decide ((c.toNat : Int) ≤ 57) = true := decide_eq_true (by omega)
              go_wp2
              go_quiet (fail)
              go_wp2
              exact ⟨CT.out _, by simp [intOf]; omega⟩
            · have hR := STOP1.out (by simp [okB, letterB, digitB, h97, h57])
              clear CONT STOP1 STOP0
              subst hR
              have d0 : decide ((97 : Int) ≤ (c.toNat : Int)) = false := decide_eq_false (by omega)
              have d1 : decide ((c.toNat : Int) ≤ 122) = true := decide_eq_true (by omega)
              have d2 : decide ((48 : Int) ≤ (c.toNat : Int)) = true := decide_eq_true (by omega)
              have d3 : decide ((c.toNat : Int) ≤ 57) = false := decide_eq_false (by omega)
              go_wp2
              go_quiet (fail)
              go_wp2
              go_ret
              exact ⟨rfl, hk.drewN _⟩
          · have hR := STOP1.out (by simp [okB, letterB, digitB, h97, h48])
            clear CONT STOP1 STOP0
            subst hR
            have d0 : decide ((97 : Int) ≤ (c.toNat : Int)) = false := decide_eq_false (by omega)
            have d1 : decide ((c.toNat : Int) ≤ 122) = true := decide_eq_true (by omega)
            have d2 : decide ((48 : Int) ≤ (c.toNat : Int)) = false := decide_eq_false (by omega)
            have d3 : decide ((c.toNat : Int) ≤ 57) = true := decide_eq_true (by omega)
            go_wp2
            go_quiet (fail)
            go_wp2
            go_ret
            exact ⟨rfl, hk.drewN _⟩
    · obtain rfl : j = s.size := by omega
      have hres : Rb = true := by rw [HR.out]; exact (HT'.out (hA (by omega)).out (fun t ht => (hB t ht).out)).out
      subst hres
      go_wp2
      go_ret
      exact ⟨rfl, hk⟩
end Go.Proofs.YtobofhiakgohfaaGreatDoor

namespace Go.Proofs.YtobofhiakgohfaaGreatDoor
open Go.RowKit

/-- An item's value. -/
def itemVal (n : ByteArray) (lo hi : Int) : Value := .agg #[.string n, .int .i64 lo, .int .i64 hi, .int .i64 0]
/-- What Item answers. -/
def itemR (s : ByteArray) : Value × Bool :=
  if nameB s.data.toList = true then (itemVal s 0 0, true)
  else if s.size = 2 ∧ 0 ≤ pairI s.data.toList 0 then (itemVal ⟨#[]⟩ (pairI s.data.toList 0) (pairI s.data.toList 0), true)
  else if s.size = 5 ∧ 0 ≤ pairI s.data.toList 0 ∧ s.data.toList[2]?.getD 0 = 45 ∧ pairI s.data.toList 0 ≤ pairI s.data.toList 3 then (itemVal ⟨#[]⟩ (pairI s.data.toList 0) (pairI s.data.toList 3), true)
  else (itemVal ⟨#[]⟩ 0 0, false)
def ItemPost (s : ByteArray) (w : World) (e : Ending) (w' : World) : Prop := e = .returned (.tuple #[(itemR s).1, .bool (itemR s).2]) ∧ K0 w w'

theorem item_keep {w w1 : World} (hk : K0 w w1) {b : Nat} (hb : w.heap.size ≤ b) (u0 u1 u2 u3 : Value) : K0 w ((((w1.setCell ⟨b, 0, none⟩ u0).setCell ⟨b, 1, none⟩ u1).setCell ⟨b, 2, none⟩ u2).setCell ⟨b, 3, none⟩ u3) :=
  (((hk.setCell (p := ⟨b, 0, none⟩) (.inl hb) _).setCell (p := ⟨b, 1, none⟩) (.inl hb) _).setCell (p := ⟨b, 2, none⟩) (.inl hb) _).setCell (p := ⟨b, 3, none⟩) (.inl hb) _
theorem item_cells {w : World} {b : Nat} {v0 v1 v2 v3 : Value} (h : Blk w b 53 #[v0, v1, v2, v3]) (u0 u1 u2 u3 : Value) :
    let w' := (((w.setCell ⟨b, 0, none⟩ u0).setCell ⟨b, 1, none⟩ u1).setCell ⟨b, 2, none⟩ u2).setCell ⟨b, 3, none⟩ u3
    w'.cell? ⟨b, 0, none⟩ = some u0 ∧ w'.cell? ⟨b, 1, none⟩ = some u1 ∧ w'.cell? ⟨b, 2, none⟩ = some u2 ∧ w'.cell? ⟨b, 3, none⟩ = some u3 := by
  have yb' := (((h.set_ 0 u0).set_ 1 u1).set_ 2 u2).set_ 3 u3
  have c0 := yb'.cell 0
  have c1 := yb'.cell 1
  have c2 := yb'.cell 2
  have c3 := yb'.cell 3
  simp at c0 c1 c2 c3
  exact ⟨c0, c1, c2, c3⟩

/-- The new item's block, and what the walk wants of it. -/
theorem item_new (w : World) : Blk (w.alloc (.cells #[.string ⟨#[]⟩, .int .i64 0, .int .i64 0, .int .i64 0] 53)) w.heap.size 53 #[.string ⟨#[]⟩, .int .i64 0, .int .i64 0, .int .i64 0] := Blk.new _ _ _

set_option maxRecDepth 100000 in
set_option maxHeartbeats 1000000 in
theorem ritem_any (s : ByteArray) (w : World) (hs : s.size ≤ 140737488355328) : Calls Tryz.prog 84 #[.string s] w (ItemPost s w) := by
  have P0 := Lib.hid (fun W => rpair_any s 0 W hs (by omega))
  have P3 := Lib.hid (fun W => rpair_any s 3 W hs (by omega))
  have N0 := Lib.hid (fun W => rname_any s W hs)
  by_cases h1 : nameB s.data.toList = true
  · have hR : itemR s = (itemVal s 0 0, true) := by unfold itemR; rw [if_pos h1]
    have HR := Lib.hid hR
    rw [h1] at N0
    clear h1 hR
    go_enter Tryz.func84, Tryz.ntmps84
    go_wp2_with (go_at_call 79; refine (N0.out _).mono ?_; rintro e w1 ⟨rfl, hk⟩; have yb := (Blk.new w 53 #[.string ⟨#[]⟩, .int .i64 0, .int .i64 0, .int .i64 0]).kp hk (fun h => h); have y0 := yb.cell 0; have y1 := yb.cell 1; have y2 := yb.cell 2; have y3 := yb.cell 3; have z0 := yb.frozen 0; have z1 := yb.frozen 1; have z2 := yb.frozen 2; have z3 := yb.frozen 3; simp at y0 y1 y2 y3)
    obtain ⟨c0, c1, c2, c3⟩ := item_cells yb (.string s) (.int .i64 0) (.int .i64 0) (.int .i64 0)
    refine bodyPost_ret (v := .tuple #[itemVal s 0 0, .bool true]) ?_ rfl ?_
    · simp [results, Tryz.f84, go_sem, c0, c1, c2, c3, itemVal]
    · exact ⟨by rw [HR.out], item_keep (((Kp.refl _ w).alloc _).trans hk) (Nat.le_refl _) _ _ _ _⟩
  · have hn : nameB s.data.toList = false := by simpa using h1
    rw [hn] at N0
    generalize hp0 : pairI s.data.toList 0 = p0
    have hp0' := pairI_ge s.data.toList 0
    rw [hp0] at hp0'
    by_cases h2 : s.size = 2 ∧ 0 ≤ p0
    · have hR : itemR s = (itemVal ⟨#[]⟩ p0 p0, true) := by unfold itemR; rw [if_neg h1, hp0, if_pos h2]
      have HR := Lib.hid hR
      obtain ⟨h2, h3⟩ := h2
      clear h1 hR hn P0 P3
      go_enter Tryz.func84, Tryz.ntmps84
      go_wp2_with (first
        | (go_at_call 79; refine (N0.out _).mono ?_; rintro e w1 ⟨rfl, hk⟩; have yb := (item_new w).kp hk (fun h => h); have y0 := yb.cell 0; have y1 := yb.cell 1; have y2 := yb.cell 2; have y3 := yb.cell 3; have z0 := yb.frozen 0; have z1 := yb.frozen 1; have z2 := yb.frozen 2; have z3 := yb.frozen 3; simp at y0 y1 y2 y3)
        | (go_at_call 108; refine (rpair_any s 0 _ hs (by omega)).mono ?_; rintro e w2 ⟨rfl, hk2⟩; have xb := yb.kp hk2 (fun h => h); have x0 := xb.cell 0; have x1 := xb.cell 1; have x2 := xb.cell 2; have x3 := xb.cell 3; have v0 := xb.frozen 0; have v1 := xb.frozen 1; have v2 := xb.frozen 2; have v3 := xb.frozen 3; simp at x0 x1 x2 x3; rw [hp0]))
      obtain ⟨c0, c1, c2, c3⟩ := item_cells xb (.string ⟨#[]⟩) (.int .i64 p0) (.int .i64 p0) (.int .i64 0)
      refine bodyPost_ret (v := .tuple #[itemVal ⟨#[]⟩ p0 p0, .bool true]) ?_ rfl ?_
      · simp [results, Tryz.f84, go_sem, c0, c1, c2, c3, itemVal]
      · exact ⟨by rw [HR.out], item_keep ((((Kp.refl _ w).alloc _).trans hk).trans hk2) (Nat.le_refl _) _ _ _ _⟩
    · rw [hp0] at P0
      have P0' := P0
      by_cases h5 : s.size = 5
      · have hg2 := str_get (show 2 < s.size by omega)
        have h2l : 2 < s.size := by omega
        obtain ⟨c, hc⟩ : ∃ c, c = s[2]'h2l := ⟨_, rfl⟩
        rw [← hc] at hg2
        have hcv : s[2]'h2l = c := hc.symm
        clear hc
        generalize hp3 : pairI s.data.toList 3 = p3 at *
        by_cases h6 : 0 ≤ p0
        · by_cases h7 : c = 45
          · subst h7
            by_cases h8 : p0 ≤ p3
            · have hR : itemR s = (itemVal ⟨#[]⟩ p0 p3, true) := by unfold itemR; rw [if_neg h1, hp0, hp3, if_neg h2, hg2, if_pos ⟨h5, h6, rfl, h8⟩]
              have HR := Lib.hid hR
              clear h1 hR hn h2 hg2 hp0 hp3
              go_enter Tryz.func84, Tryz.ntmps84
              go_wp2_with (go_at_call 79; refine (N0.out _).mono ?_; rintro e w1 ⟨rfl, hk⟩; have yb := (item_new w).kp hk (fun h => h); have y0 := yb.cell 0; have y1 := yb.cell 1; have y2 := yb.cell 2; have y3 := yb.cell 3; have z0 := yb.frozen 0; have z1 := yb.frozen 1; have z2 := yb.frozen 2; have z3 := yb.frozen 3; simp at y0 y1 y2 y3)
              refine (P0.out _).mono ?_
              rintro e w2 ⟨rfl, hk2⟩
              go_wp2_with fail
              refine (P3.out _).mono ?_
              rintro e w3 ⟨rfl, hk3⟩
              go_wp2_with fail
              refine (P3.out _).mono ?_
              rintro e w4 ⟨rfl, hk4⟩
              have xb := ((yb.kp hk2 (fun h => h)).kp hk3 (fun h => h)).kp hk4 (fun h => h)
              have x0 := xb.cell 0
              have x1 := xb.cell 1
              have x2 := xb.cell 2
              have x3 := xb.cell 3
              have v0 := xb.frozen 0
              have v1 := xb.frozen 1
              have v2 := xb.frozen 2
              have v3 := xb.frozen 3
              simp at x0 x1 x2 x3
              go_wp2
              obtain ⟨c0, c1, c2, c3⟩ := item_cells xb (.string ⟨#[]⟩) (.int .i64 p0) (.int .i64 p3) (.int .i64 0)
              refine bodyPost_ret (v := .tuple #[itemVal ⟨#[]⟩ p0 p3, .bool true]) ?_ rfl ?_
              · simp [results, Tryz.f84, go_sem, c0, c1, c2, c3, itemVal]
              · exact ⟨by rw [HR.out], item_keep ((((((Kp.refl _ w).alloc _).trans hk).trans hk2).trans hk3).trans hk4) (Nat.le_refl _) _ _ _ _⟩
            · have hR : itemR s = (itemVal ⟨#[]⟩ 0 0, false) := by unfold itemR; rw [if_neg h1, hp0, hp3, if_neg h2, hg2, if_neg (fun h => h8 h.2.2.2)]
              have HR := Lib.hid hR
              clear h1 hR hn h2 hg2 hp0 hp3
              go_enter Tryz.func84, Tryz.ntmps84
              go_wp2_with (go_at_call 79; refine (N0.out _).mono ?_; rintro e w1 ⟨rfl, hk⟩; have yb := (item_new w).kp hk (fun h => h); have y0 := yb.cell 0; have y1 := yb.cell 1; have y2 := yb.cell 2; have y3 := yb.cell 3; have z0 := yb.frozen 0; have z1 := yb.frozen 1; have z2 := yb.frozen 2; have z3 := yb.frozen 3; simp at y0 y1 y2 y3)
              refine (P0.out _).mono ?_
              rintro e w2 ⟨rfl, hk2⟩
              go_wp2_with fail
              refine (P3.out _).mono ?_
              rintro e w3 ⟨rfl, hk3⟩
              have xb := (yb.kp hk2 (fun h => h)).kp hk3 (fun h => h)
              have x0 := xb.cell 0
              have x1 := xb.cell 1
              have x2 := xb.cell 2
              have x3 := xb.cell 3
              have v0 := xb.frozen 0
              have v1 := xb.frozen 1
              have v2 := xb.frozen 2
              have v3 := xb.frozen 3
              simp at x0 x1 x2 x3
              go_wp2
              obtain ⟨c0, c1, c2, c3⟩ := item_cells xb (.string ⟨#[]⟩) (.int .i64 0) (.int .i64 0) (.int .i64 0)
              refine bodyPost_ret (v := .tuple #[itemVal ⟨#[]⟩ 0 0, .bool false]) ?_ rfl ?_
              · simp [results, Tryz.f84, go_sem, c0, c1, c2, c3, itemVal]
              · exact ⟨by rw [HR.out], item_keep (((((Kp.refl _ w).alloc _).trans hk).trans hk2).trans hk3) (Nat.le_refl _) _ _ _ _⟩
          · have hR : itemR s = (itemVal ⟨#[]⟩ 0 0, false) := by unfold itemR; rw [if_neg h1, hp0, hp3, if_neg h2, hg2, if_neg (fun h => h7 h.2.2.1)]
            have HR := Lib.hid hR
            have h7' : ((c.toNat : Int) == 45) = false := by
              rw [beq_eq_false_iff_ne]; intro e; exact h7 (UInt8.toNat_inj.1 (by simp; omega))
            clear h1 hR hn h2 hg2 hp0 hp3
            go_enter Tryz.func84, Tryz.ntmps84
            go_wp2_with (go_at_call 79; refine (N0.out _).mono ?_; rintro e w1 ⟨rfl, hk⟩; have yb := (item_new w).kp hk (fun h => h); have y0 := yb.cell 0; have y1 := yb.cell 1; have y2 := yb.cell 2; have y3 := yb.cell 3; have z0 := yb.frozen 0; have z1 := yb.frozen 1; have z2 := yb.frozen 2; have z3 := yb.frozen 3; simp at y0 y1 y2 y3)
            refine (P0.out _).mono ?_
            rintro e w2 ⟨rfl, hk2⟩
            have xb := yb.kp hk2 (fun h => h)
            have x0 := xb.cell 0
            have x1 := xb.cell 1
            have x2 := xb.cell 2
            have x3 := xb.cell 3
            have v0 := xb.frozen 0
            have v1 := xb.frozen 1
            have v2 := xb.frozen 2
            have v3 := xb.frozen 3
            simp at x0 x1 x2 x3
            go_wp2
            obtain ⟨c0, c1, c2, c3⟩ := item_cells xb (.string ⟨#[]⟩) (.int .i64 0) (.int .i64 0) (.int .i64 0)
            refine bodyPost_ret (v := .tuple #[itemVal ⟨#[]⟩ 0 0, .bool false]) ?_ rfl ?_
            · simp [results, Tryz.f84, go_sem, c0, c1, c2, c3, itemVal]
            · exact ⟨by rw [HR.out], item_keep ((((Kp.refl _ w).alloc _).trans hk).trans hk2) (Nat.le_refl _) _ _ _ _⟩
        · have hR : itemR s = (itemVal ⟨#[]⟩ 0 0, false) := by unfold itemR; rw [if_neg h1, hp0, hp3, if_neg h2, if_neg (fun h => h6 h.2.1)]
          have HR := Lib.hid hR
          clear h1 hR hn h2 hg2 hp0 hp3
          go_enter Tryz.func84, Tryz.ntmps84
          go_wp2_with (go_at_call 79; refine (N0.out _).mono ?_; rintro e w1 ⟨rfl, hk⟩; have yb := (item_new w).kp hk (fun h => h); have y0 := yb.cell 0; have y1 := yb.cell 1; have y2 := yb.cell 2; have y3 := yb.cell 3; have z0 := yb.frozen 0; have z1 := yb.frozen 1; have z2 := yb.frozen 2; have z3 := yb.frozen 3; simp at y0 y1 y2 y3)
          refine (P0.out _).mono ?_
          rintro e w2 ⟨rfl, hk2⟩
          have xb := yb.kp hk2 (fun h => h)
          have x0 := xb.cell 0
          have x1 := xb.cell 1
          have x2 := xb.cell 2
          have x3 := xb.cell 3
          have v0 := xb.frozen 0
          have v1 := xb.frozen 1
          have v2 := xb.frozen 2
          have v3 := xb.frozen 3
          simp at x0 x1 x2 x3
          go_wp2
          obtain ⟨c0, c1, c2, c3⟩ := item_cells xb (.string ⟨#[]⟩) (.int .i64 0) (.int .i64 0) (.int .i64 0)
          refine bodyPost_ret (v := .tuple #[itemVal ⟨#[]⟩ 0 0, .bool false]) ?_ rfl ?_
          · simp [results, Tryz.f84, go_sem, c0, c1, c2, c3, itemVal]
          · exact ⟨by rw [HR.out], item_keep ((((Kp.refl _ w).alloc _).trans hk).trans hk2) (Nat.le_refl _) _ _ _ _⟩
      · have hR : itemR s = (itemVal ⟨#[]⟩ 0 0, false) := by unfold itemR; rw [if_neg h1, hp0, if_neg h2, if_neg (fun h => h5 h.1)]
        have HR := Lib.hid hR
        by_cases h9 : s.size = 2
        · have h6 : ¬ 0 ≤ p0 := fun h => h2 ⟨h9, h⟩
          clear h1 hR hn h2 hp0
          go_enter Tryz.func84, Tryz.ntmps84
          go_wp2_with (go_at_call 79; refine (N0.out _).mono ?_; rintro e w1 ⟨rfl, hk⟩; have yb := (item_new w).kp hk (fun h => h); have y0 := yb.cell 0; have y1 := yb.cell 1; have y2 := yb.cell 2; have y3 := yb.cell 3; have z0 := yb.frozen 0; have z1 := yb.frozen 1; have z2 := yb.frozen 2; have z3 := yb.frozen 3; simp at y0 y1 y2 y3)
          refine (P0.out _).mono ?_
          rintro e w2 ⟨rfl, hk2⟩
          have xb := yb.kp hk2 (fun h => h)
          have x0 := xb.cell 0
          have x1 := xb.cell 1
          have x2 := xb.cell 2
          have x3 := xb.cell 3
          have v0 := xb.frozen 0
          have v1 := xb.frozen 1
          have v2 := xb.frozen 2
          have v3 := xb.frozen 3
          simp at x0 x1 x2 x3
          go_wp2
          obtain ⟨c0, c1, c2, c3⟩ := item_cells xb (.string ⟨#[]⟩) (.int .i64 0) (.int .i64 0) (.int .i64 0)
          refine bodyPost_ret (v := .tuple #[itemVal ⟨#[]⟩ 0 0, .bool false]) ?_ rfl ?_
          · simp [results, Tryz.f84, go_sem, c0, c1, c2, c3, itemVal]
          · exact ⟨by rw [HR.out], item_keep ((((Kp.refl _ w).alloc _).trans hk).trans hk2) (Nat.le_refl _) _ _ _ _⟩
        · clear h1 hR hn h2 hp0
          go_enter Tryz.func84, Tryz.ntmps84
          go_wp2_with (go_at_call 79; refine (N0.out _).mono ?_; rintro e w1 ⟨rfl, hk⟩; have yb := (item_new w).kp hk (fun h => h); have y0 := yb.cell 0; have y1 := yb.cell 1; have y2 := yb.cell 2; have y3 := yb.cell 3; have z0 := yb.frozen 0; have z1 := yb.frozen 1; have z2 := yb.frozen 2; have z3 := yb.frozen 3; simp at y0 y1 y2 y3)
          refine (P0.out _).mono ?_
          rintro e w2 ⟨rfl, hk2⟩
          have xb := yb.kp hk2 (fun h => h)
          have x0 := xb.cell 0
          have x1 := xb.cell 1
          have x2 := xb.cell 2
          have x3 := xb.cell 3
          have v0 := xb.frozen 0
          have v1 := xb.frozen 1
          have v2 := xb.frozen 2
          have v3 := xb.frozen 3
          simp at x0 x1 x2 x3
          go_wp2
          obtain ⟨c0, c1, c2, c3⟩ := item_cells xb (.string ⟨#[]⟩) (.int .i64 0) (.int .i64 0) (.int .i64 0)
          refine bodyPost_ret (v := .tuple #[itemVal ⟨#[]⟩ 0 0, .bool false]) ?_ rfl ?_
          · simp [results, Tryz.f84, go_sem, c0, c1, c2, c3, itemVal]
          · exact ⟨by rw [HR.out], item_keep ((((Kp.refl _ w).alloc _).trans hk).trans hk2) (Nat.le_refl _) _ _ _ _⟩
end Go.Proofs.YtobofhiakgohfaaGreatDoor
