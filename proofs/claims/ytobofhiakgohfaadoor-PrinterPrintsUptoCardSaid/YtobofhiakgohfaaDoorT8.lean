/- the reference's Number. -/
import Derived.Test.YtobofhiakgohfaaDoorT7
import Derived.Test.YtobofhiakgohfaaDoorT2
set_option linter.unusedVariables false
set_option linter.unusedSimpArgs false
namespace Go.Proofs.YtobofhiakgohfaaDoor
open Go.RowKit

theorem numR_dec {l : List UInt8} {n : Nat} (h9 : l.length ≤ 9) (h1 : 1 ≤ l.length) (hd : l.length = 1 ∨ l.head? ≠ some 48) (h : Lib.decFrom 0 l = some n) : numR l = some n := by
  have ha : l.all digitB = true := by
    cases ha : l.all digitB
    · rw [decFrom_none l 0 ha] at h; cases h
    · rfl
  refine numR_some h9 ha hd ?_
  unfold Lib.decNat
  cases l with
  | nil => simp at h1
  | cons c t => exact h
theorem dec_bound {l : List UInt8} {j m : Nat} (h9 : l.length ≤ 9) (h : Lib.decFrom 0 (l.take j) = some m) : m < 1000000000 := by
  have h1 := Lib.decFrom_lt _ 0 m h
  have h2 : (l.take j).length ≤ 9 := by rw [List.length_take]; omega
  have h3 := Nat.pow_le_pow_right (n := 10) (by decide) h2
  have e : (10 : Nat) ^ 9 = 1000000000 := by decide
  omega
theorem all_not {l : List UInt8} {j : Nat} (hj : j < l.length) (h : digitB (l[j]?.getD 0) = false) : l.all digitB = false := by
  cases ha : l.all digitB
  · rfl
  · rw [List.all_eq_true] at ha
    rw [List.getElem?_eq_getElem hj] at h
    have := ha _ (List.getElem_mem hj)
    simp only [Option.getD_some] at h
    rw [h] at this; cases this

set_option maxRecDepth 100000 in
set_option maxHeartbeats 1000000 in
theorem rnumber_any (s : ByteArray) (w : World) (hs : s.size ≤ 140737488355328) : Calls Tryd.prog 29 #[.string s] w (NumPost s.data.toList w) := by
  have hz : s.data.toList.length = s.size := by simp
  by_cases h1 : s.size < 1
  · have hR : numR s.data.toList = none := by
      have : s.data.toList = [] := List.eq_nil_of_length_eq_zero (by omega)
      rw [this]; rfl
    have HR := Lib.hid hR
    clear hR hz
    go_enter Tryd.func29, Tryd.ntmps29
    go_wp2
    go_ret2
    exact ⟨by rw [HR.out]; rfl, Kp.refl _ _⟩
  by_cases h9 : 9 < s.size
  · have HR := Lib.hid (numR_long (l := s.data.toList) (by omega))
    clear hz
    go_enter Tryd.func29, Tryd.ntmps29
    go_wp2
    go_ret2
    exact ⟨by rw [HR.out]; rfl, Kp.refl _ _⟩
  have hpos : 0 < s.size := by omega
  obtain ⟨c0, t0, hct⟩ : ∃ c t, s.data.toList = c :: t := by
    cases h : s.data.toList with
    | nil => rw [h] at hz; simp at hz; omega
    | cons a t => exact ⟨a, t, rfl⟩
  have hc0 : s[0] = c0 := by
    have : s.data.toList[0]? = some c0 := by rw [hct]; rfl
    rw [List.getElem?_eq_getElem (by omega)] at this
    injection this
  by_cases hlead : c0 = 48 ∧ 1 < s.size
  · obtain ⟨rfl, h2⟩ := hlead
    have HR := Lib.hid (numR_lead (l := s.data.toList) (by rw [hct]; rfl) (by omega))
    clear hz hct
    go_enter Tryd.func29, Tryd.ntmps29
    go_wp2
    go_ret2
    exact ⟨by rw [HR.out]; rfl, Kp.refl _ _⟩
  have hld : s.data.toList.length = 1 ∨ s.data.toList.head? ≠ some 48 := by
    by_cases h : c0 = 48
    · exact .inl (by have : ¬ 1 < s.size := fun h2 => hlead ⟨h, h2⟩; omega)
    · exact .inr (by rw [hct]; simpa using h)
  have HDONE := Lib.hid (fun n => numR_dec (l := s.data.toList) (n := n) (by omega) (by omega) hld)
  have HBAD := Lib.hid (fun j hj h => numR_not (all_not (l := s.data.toList) (j := j) hj h))
  have HB := Lib.hid (fun j m => dec_bound (l := s.data.toList) (j := j) (m := m) (by omega))
  have HZ := Lib.hid hz
  have HTA := Lib.hid (List.take_length (l := s.data.toList))
  clear hld hct hz
  have hrun : (c0.toNat : Int) = 48 → ¬ (1 : Int) < s.size := by
    intro e h
    exact hlead ⟨UInt8.toNat_inj.1 (by simp; omega), by omega⟩
  clear hlead
  by_cases hc48 : (c0.toNat : Int) = 48
  all_goals
    try have hsz1 := hrun hc48
    clear hrun
    go_enter Tryd.func29, Tryd.ntmps29
    go_wp2
    go_loopw [4, 5] (fun n i wr => ∃ (j m : Nat), j ≤ s.size ∧ i = .int .i64 (j : Int) ∧ n = .int .i64 (m : Int) ∧ Hid (Lib.decFrom 0 (s.data.toList.take j) = some m) ∧ K0 w wr)
      (fun n i wr => s.size - (intOf i).toNat)
    case atStart => exact ⟨0, 0, Nat.zero_le _, rfl, rfl, Lib.hid (by rw [List.take_zero]; rfl), Kp.refl _ _⟩
    case round =>
      obtain ⟨j, m, hj, rfl, rfl, hm, hk⟩ := hrel
      by_cases hlt : j < s.size
      · have hg := str_get hlt
        obtain ⟨c, hc⟩ : ∃ c, c = s[j] := ⟨_, rfl⟩
        rw [← hc] at hg
        have hcv : s[j] = c := hc.symm
        clear hc
        have hb := HB.out j m hm.out
        have hcl := c.toNat_lt
        by_cases h48 : c.toNat < 48
        · have HR := Lib.hid (HBAD.out j (by rw [HZ.out]; exact hlt) (by rw [hg]; simp [digitB]; omega))
          clear HDONE HBAD HB hm hg hb
          go_wp2
          go_ret2
          exact ⟨by rw [HR.out]; rfl, hk⟩
        · by_cases h57 : 57 < c.toNat
          · have HR := Lib.hid (HBAD.out j (by rw [HZ.out]; exact hlt) (by rw [hg]; simp [digitB]; omega))
            clear HDONE HBAD HB hm hg hb
            go_wp2
            go_ret2
            exact ⟨by rw [HR.out]; rfl, hk⟩
          · have hd := Lib.decFrom_take s.data.toList j 0 m c (c.toNat - 48) hm.out (by rw [← hg, List.getElem?_eq_getElem (by rw [HZ.out]; exact hlt)]; rfl) (digitB_val (by simp [digitB]; omega))
            have HD := Lib.hid hd
            have hb2 := HB.out _ _ hd
            have hw0 : IntKind.u8.wrap ((c.toNat : Int) - 48) = (c.toNat : Int) - 48 := IntWalk.u8_in _ (by omega)
            have hw1 : IntKind.i64.wrap (10 * (m : Int)) = 10 * (m : Int) := IntWalk.i64_in _ (by omega)
            have hw2 : IntKind.i64.wrap (10 * (m : Int) + ((c.toNat : Int) - 48)) = 10 * (m : Int) + ((c.toNat : Int) - 48) := IntWalk.i64_in _ (by omega)
            have hw3 : IntKind.i64.wrap ((c.toNat : Int) - 48) = (c.toNat : Int) - 48 := IntWalk.i64_in _ (by omega)
            clear HDONE HBAD HB hm hg hb hd
            go_wp2
            exact ⟨⟨j + 1, m * 10 + (c.toNat - 48), by omega, by go_num, by go_num, HD, hk⟩, by simp [intOf]; omega⟩
      · obtain rfl : j = s.size := by omega
        have hR := HDONE.out m (by rw [← HTA.out, HZ.out]; exact hm.out)
        have HR := Lib.hid hR
        clear HDONE HBAD HB hm hR
        go_wp2
        go_ret2
        exact ⟨by rw [HR.out]; rfl, hk⟩
end Go.Proofs.YtobofhiakgohfaaDoor
