/- the reference's Name. -/
import Derived.Test.YtobofhiakgohfaaDoorT3
set_option linter.unusedVariables false
set_option linter.unusedSimpArgs false
namespace Go.Proofs.YtobofhiakgohfaaDoor
open Go.RowKit

def okB (c : UInt8) : Bool := letterB c || digitB c
theorem nameB_core (l : List UInt8) (h1 : l ≠ kwClass) (h2 : l ≠ kwShape) (h3 : l ≠ kwAt) (h4 : l.length ≤ 16) : nameB l = (headLetter l && l.all okB) := by
  simp only [nameB, beq_eq_false_iff_ne.2 h1, beq_eq_false_iff_ne.2 h2, beq_eq_false_iff_ne.2 h3, decide_eq_true h4, Bool.not_false, Bool.true_and]
  rfl
theorem all_false {l : List UInt8} {j : Nat} (h : j < l.length) (hc : okB (l[j]?.getD 0) = false) : l.all okB = false := by
  rw [List.all_eq_false]
  rw [List.getElem?_eq_getElem h] at hc
  exact ⟨l[j], List.getElem_mem h, by simpa using hc⟩
theorem all_true {l : List UInt8} (h : ∀ j, j < l.length → okB (l[j]?.getD 0) = true) : l.all okB = true := by
  rw [List.all_eq_true]
  intro x hx
  obtain ⟨j, hj, rfl⟩ := List.mem_iff_getElem.1 hx
  have := h j hj
  rw [List.getElem?_eq_getElem hj] at this
  exact this
theorem head_get (l : List UInt8) (h : 0 < l.length) : headLetter l = letterB (l[0]?.getD 0) := by
  cases l with
  | nil => simp at h
  | cons a t => rfl

set_option maxRecDepth 100000 in
set_option maxHeartbeats 2000000 in
theorem rname_any (s : ByteArray) (w : World) (hs : s.size ≤ 140737488355328) : Calls Tryd.prog 33 #[.string s] w fun e w' => e = .returned (.bool (nameB s.data.toList)) ∧ K0 w w' := by
  have hsl : s.toList = s.data.toList := ByteArray.toList_eq s
  have hz : s.data.toList.length = s.size := by simp
  by_cases h0 : s.size = 0
  · have hn : nameB s.data.toList = false := by rw [List.eq_nil_of_length_eq_zero (hz.trans h0)]; decide
    rw [hn]; clear hsl hz hn
    go_enter Tryd.func33, Tryd.ntmps33
    go_wp2
    go_ret
    exact ⟨rfl, Kp.refl _ _⟩
  by_cases h5 : 16 < s.size
  · have hn : nameB s.data.toList = false := by
      have : ¬ s.data.toList.length ≤ 16 := by omega
      simp only [nameB, decide_eq_false this, Bool.and_false, Bool.false_and]
    have h00 : ¬ s.size < 1 := by omega
    rw [hn]; clear hsl hz hn
    go_enter Tryd.func33, Tryd.ntmps33
    go_wp2
    go_ret
    exact ⟨rfl, Kp.refl _ _⟩
  have h00 : ¬ s.size < 1 := by omega
  by_cases h1 : s.data.toList = kwClass
  · have hn : nameB s.data.toList = false := by rw [h1]; decide
    have e1 : (s.toList == [99, 108, 97, 115, 115]) = true := by rw [hsl, h1]; decide
    rw [hn]; clear hsl hz h1 hn
    go_enter Tryd.func33, Tryd.ntmps33
    go_wp2
    go_ret
    exact ⟨rfl, Kp.refl _ _⟩
  have e1 : (s.toList == [99, 108, 97, 115, 115]) = false := by rw [hsl]; exact beq_eq_false_iff_ne.2 h1
  by_cases h2 : s.data.toList = kwShape
  · have hn : nameB s.data.toList = false := by rw [h2]; decide
    have e2 : (s.toList == [115, 104, 97, 112, 101]) = true := by rw [hsl, h2]; decide
    rw [hn]; clear hsl hz h1 h2 hn
    go_enter Tryd.func33, Tryd.ntmps33
    go_wp2
    go_ret
    exact ⟨rfl, Kp.refl _ _⟩
  have e2 : (s.toList == [115, 104, 97, 112, 101]) = false := by rw [hsl]; exact beq_eq_false_iff_ne.2 h2
  by_cases h3 : s.data.toList = kwAt
  · have hn : nameB s.data.toList = false := by rw [h3]; decide
    have e3 : (s.toList == [97, 116]) = true := by rw [hsl, h3]; decide
    rw [hn]; clear hsl hz h1 h2 h3 hn
    go_enter Tryd.func33, Tryd.ntmps33
    go_wp2
    go_ret
    exact ⟨rfl, Kp.refl _ _⟩
  have e3 : (s.toList == [97, 116]) = false := by rw [hsl]; exact beq_eq_false_iff_ne.2 h3
  rw [nameB_core _ h1 h2 h3 (by omega)]
  have hd := head_get s.data.toList (by omega)
  have HF : ∀ j, j < s.size → okB (s.data.toList[j]?.getD 0) = false → Hid ((headLetter s.data.toList && s.data.toList.all okB) = false) := fun j hj h => Lib.hid (by rw [all_false (by omega) h, Bool.and_false])
  have HH := Lib.hid hd
  have HT : letterB (s.data.toList[0]?.getD 0) = true → (∀ j, j < s.size → okB (s.data.toList[j]?.getD 0) = true) → Hid ((headLetter s.data.toList && s.data.toList.all okB) = true) := fun ha h => Lib.hid (by rw [all_true (fun j hj => h j (by omega)), hd, ha]; rfl)
  have HT' := Lib.hid HT
  have HF' := Lib.hid HF
  clear HT HF hd hsl hz h1 h2 h3
  obtain ⟨Rb, hRb⟩ : ∃ Rb, Rb = (headLetter s.data.toList && s.data.toList.all okB) := ⟨_, rfl⟩
  rw [← hRb]
  have HR := Lib.hid hRb
  clear hRb
  go_enter Tryd.func33, Tryd.ntmps33
  go_wp2
  go_loopw [3] (fun i wr => ∃ j : Nat, j ≤ s.size ∧ i = .int .i64 j ∧ K0 w wr ∧ (0 < j → Hid (letterB (s.data.toList[0]?.getD 0) = true)) ∧ (∀ t, t < j → Hid (okB (s.data.toList[t]?.getD 0) = true)))
    (fun i wr => s.size - (intOf i).toNat)
  case atStart => exact ⟨0, Nat.zero_le _, rfl, Kp.refl _ _, fun h => absurd h (by omega), fun t h => absurd h (by omega)⟩
  case round =>
    obtain ⟨j, hj, rfl, hk, hA, hB⟩ := hrel
    by_cases hlt : j < s.size
    · have hg := str_get hlt
      obtain ⟨c, hc⟩ : ∃ c, c = s[j] := ⟨_, rfl⟩
      rw [← hc] at hg
      have hcv : s[j] = c := hc.symm
      clear hc
      have cont : okB c = true → (j = 0 → letterB c = true) → ∀ m, (∃ j_1 : Nat, j_1 ≤ s.size ∧ Value.int .i64 ((j : Int) + 1) = .int .i64 (j_1 : Int) ∧ K0 w (wr.drewN m) ∧ (0 < j_1 → Hid (letterB (s.data.toList[0]?.getD 0) = true)) ∧ (∀ t, t < j_1 → Hid (okB (s.data.toList[t]?.getD 0) = true))) := by
        intro h1 h2 m
        refine ⟨j + 1, by omega, by go_num, hk.drewN m, fun _ => ?_, fun t ht => ?_⟩
        · by_cases h : 0 < j
          · exact hA h
          · obtain rfl : j = 0 := by omega
            exact Lib.hid (by rw [hg]; exact h2 rfl)
        · by_cases h : t < j
          · exact hB t h
          · obtain rfl : t = j := by omega
            exact Lib.hid (by rw [hg]; exact h1)
      have stop1 : okB c = false → Rb = false := fun h => by rw [HR.out]; exact (HF'.out j hlt (by rw [hg]; exact h)).out
      have stop0 : j = 0 → letterB c = false → Rb = false := fun h0 h => by
        subst h0
        rw [HR.out, HH.out, hg, h, Bool.false_and]
      have CONT := Lib.hid cont
      have STOP1 := Lib.hid stop1
      have STOP0 := Lib.hid stop0
      clear cont stop1 stop0 hA hB hg
      by_cases h97 : 97 ≤ c.toNat
      · have h48 : 48 ≤ c.toNat := by omega
        have h57 : ¬ c.toNat ≤ 57 := by omega
        by_cases h122 : c.toNat ≤ 122
        · have CT := Lib.hid (CONT.out (by simp [okB, letterB, h97, h122]) (fun _ => by simp [letterB, h97, h122]))
          clear CONT STOP1 STOP0
          have d0 : decide ((97 : Int) ≤ (c.toNat : Int)) = true := decide_eq_true (by omega)
          have d1 : decide ((c.toNat : Int) ≤ 122) = true := decide_eq_true (by omega)
          have d2 : decide ((48 : Int) ≤ (c.toNat : Int)) = true := decide_eq_true (by omega)
          have d3 : decide ((c.toNat : Int) ≤ 57) = false := decide_eq_false (by omega)
          go_wp2
          go_quiet (fail)
          go_wp2
          exact ⟨CT.out _, by simp [intOf]; omega⟩
        · have hR := STOP1.out (by simp [okB, letterB, digitB, h97, h122, h48, h57])
          clear CONT STOP1 STOP0
          subst hR
          by_cases hj0 : j = 0
          · subst hj0
            have d0 : decide ((97 : Int) ≤ (c.toNat : Int)) = true := decide_eq_true (by omega)
            have d1 : decide ((c.toNat : Int) ≤ 122) = false := decide_eq_false (by omega)
            have d2 : decide ((48 : Int) ≤ (c.toNat : Int)) = true := decide_eq_true (by omega)
            have d3 : decide ((c.toNat : Int) ≤ 57) = false := decide_eq_false (by omega)
            go_wp2
            go_quiet (fail)
            go_wp2
            go_ret
            exact ⟨rfl, hk.drewN _⟩
          · have d0 : decide ((97 : Int) ≤ (c.toNat : Int)) = true := decide_eq_true (by omega)
            have d1 : decide ((c.toNat : Int) ≤ 122) = false := decide_eq_false (by omega)
            have d2 : decide ((48 : Int) ≤ (c.toNat : Int)) = true := decide_eq_true (by omega)
            have d3 : decide ((c.toNat : Int) ≤ 57) = false := decide_eq_false (by omega)
            go_wp2
            go_quiet (fail)
            go_wp2
            go_ret
            exact ⟨rfl, hk.drewN _⟩
      · by_cases hj0 : j = 0
        · have hR := STOP0.out hj0 (by simp [letterB, h97])
          clear CONT STOP1 STOP0
          subst hR
          subst hj0
          by_cases h48 : 48 ≤ c.toNat
          · by_cases h57 : c.toNat ≤ 57
            · have d0 : decide ((97 : Int) ≤ (c.toNat : Int)) = false := decide_eq_false (by omega)
              have d1 : decide ((c.toNat : Int) ≤ 122) = true := decide_eq_true (by omega)
              have d2 : decide ((48 : Int) ≤ (c.toNat : Int)) = true := decide_eq_true (by omega)
              have d3 : decide ((c.toNat : Int) ≤ 57) = true := decide_eq_true (by omega)
              go_wp2
              go_quiet (fail)
              go_wp2
              go_ret
              exact ⟨rfl, hk.drewN _⟩
            · have d0 : decide ((97 : Int) ≤ (c.toNat : Int)) = false := decide_eq_false (by omega)
              have d1 : decide ((c.toNat : Int) ≤ 122) = true := decide_eq_true (by omega)
              have d2 : decide ((48 : Int) ≤ (c.toNat : Int)) = true := decide_eq_true (by omega)
              have d3 : decide ((c.toNat : Int) ≤ 57) = false := decide_eq_false (by omega)
              go_wp2
              go_quiet (fail)
              go_wp2
              go_ret
              exact ⟨rfl, hk.drewN _⟩
          · have d0 : decide ((97 : Int) ≤ (c.toNat : Int)) = false := decide_eq_false (by omega)
            have d1 : decide ((c.toNat : Int) ≤ 122) = true := decide_eq_true (by omega)
            have d2 : decide ((48 : Int) ≤ (c.toNat : Int)) = false := decide_eq_false (by omega)
            have d3 : decide ((c.toNat : Int) ≤ 57) = true := decide_eq_true (by omega)
            go_wp2
            go_quiet (fail)
            go_wp2
            go_ret
            exact ⟨rfl, hk.drewN _⟩
        · by_cases h48 : 48 ≤ c.toNat
          · by_cases h57 : c.toNat ≤ 57
            · have CT := Lib.hid (CONT.out (by simp [okB, digitB, h48, h57]) (fun h => absurd h hj0))
              clear CONT STOP1 STOP0
              have d0 : decide ((97 : Int) ≤ (c.toNat : Int)) = false := decide_eq_false (by omega)
              have d1 : decide ((c.toNat : Int) ≤ 122) = true := decide_eq_true (by omega)
              have d2 : decide ((48 : Int) ≤ (c.toNat : Int)) = true := decide_eq_true (by omega)
              have d3 : decide ((c.toNat : Int) ≤ 57) = true := decide_eq_true (by omega)
              go_wp2
              go_quiet (fail)
              go_wp2
              exact ⟨CT.out _, by simp [intOf]; omega⟩
            · have hR := STOP1.out (by simp [okB, letterB, digitB, h97, h57])
              clear CONT STOP1 STOP0
              subst hR
              have d0 : decide ((97 : Int) ≤ (c.toNat : Int)) = false := decide_eq_false (by omega)
              have d1 : decide ((c.toNat : Int) ≤ 122) = true := decide_eq_true (by omega)
              have d2 : decide ((48 : Int) ≤ (c.toNat : Int)) = true := decide_eq_true (by omega)
              have d3 : decide ((c.toNat : Int) ≤ 57) = false := decide_eq_false (by omega)
              go_wp2
              go_quiet (fail)
              go_wp2
              go_ret
              exact ⟨rfl, hk.drewN _⟩
          · have hR := STOP1.out (by simp [okB, letterB, digitB, h97, h48])
            clear CONT STOP1 STOP0
            subst hR
            have d0 : decide ((97 : Int) ≤ (c.toNat : Int)) = false := decide_eq_false (by omega)
            have d1 : decide ((c.toNat : Int) ≤ 122) = true := decide_eq_true (by omega)
            have d2 : decide ((48 : Int) ≤ (c.toNat : Int)) = false := decide_eq_false (by omega)
            have d3 : decide ((c.toNat : Int) ≤ 57) = true := decide_eq_true (by omega)
            go_wp2
            go_quiet (fail)
            go_wp2
            go_ret
            exact ⟨rfl, hk.drewN _⟩
    · obtain rfl : j = s.size := by omega
      have hres : Rb = true := by rw [HR.out]; exact (HT'.out (hA (by omega)).out (fun t ht => (hB t ht).out)).out
      subst hres
      go_wp2
      go_ret
      exact ⟨rfl, hk⟩
end Go.Proofs.YtobofhiakgohfaaDoor
