/- token: pairs of digits. -/
import Derived.Test.YtobofhiakgohfaaDoorT1
import Derived.Test.YtobofhiakgohfaaDoorP6
set_option linter.unusedVariables false
set_option linter.unusedSimpArgs false
namespace Go.Proofs.YtobofhiakgohfaaDoor
open Go.RowKit

theorem hexIndex (c : UInt8) (w : World) : Calls Tryd.prog 79 #[.string ⟨#[48, 49, 50, 51, 52, 53, 54, 55, 56, 57, 65, 66, 67, 68, 69, 70]⟩, .int .u8 (c.toNat : Int)] w fun e w' => e = .returned (.int .i64 (hexv c)) ∧ w' = w := by
  have h := Tryd.strings_IndexByte ⟨#[48, 49, 50, 51, 52, 53, 54, 55, 56, 57, 65, 66, 67, 68, 69, 70]⟩ (c.toNat : Int) w
  have e : (c.toNat : Int).toNat.toUInt8 = c := by simp
  rw [e] at h
  have h2 := indexByte_hex c
  unfold hexLetters at h2
  rw [show (ByteArray.mk #[48, 49, 50, 51, 52, 53, 54, 55, 56, 57, 65, 66, 67, 68, 69, 70]).data.toList = [48, 49, 50, 51, 52, 53, 54, 55, 56, 57, 65, 66, 67, 68, 69, 70] from rfl, h2] at h
  exact h

set_option maxRecDepth 100000 in
set_option maxHeartbeats 400000 in
theorem digit_any (c : UInt8) (w : World) : Calls Tryd.prog 80 #[.int .u8 (c.toNat : Int)] w fun e w' => e = .returned (.int .i64 (hexv c)) ∧ w = w' := by
  have hc := c.toNat_lt
  unfold hexv
  by_cases h1 : 48 ≤ c.toNat ∧ c.toNat ≤ 57
  · rw [if_pos h1]
    obtain ⟨h1, h2⟩ := h1
    have hw : IntKind.u8.wrap ((c.toNat : Int) - 48) = (c.toNat : Int) - 48 := IntWalk.u8_in _ (by omega)
    go_enter Tryd.func80, Tryd.ntmps80
    go_wp2
    go_ret
    exact ⟨ret_int (by omega), rfl⟩
  · rw [if_neg h1]
    by_cases h2 : 65 ≤ c.toNat ∧ c.toNat ≤ 70
    · rw [if_pos h2]
      obtain ⟨h2, h3⟩ := h2
      have h4 : ¬ c.toNat ≤ 57 := by omega
      have hw : IntKind.u8.wrap ((c.toNat : Int) - 65) = (c.toNat : Int) - 65 := IntWalk.u8_in _ (by omega)
      go_enter Tryd.func80, Tryd.ntmps80
      go_wp2
      go_ret
      exact ⟨ret_int (by omega), rfl⟩
    · rw [if_neg h2]
      go_enter Tryd.func80, Tryd.ntmps80
      go_wp2
      all_goals first | (go_ret; exact ⟨rfl, rfl⟩) | (exfalso; omega)

theorem str_get {s : ByteArray} {i : Nat} (h : i < s.size) : s.data.toList[i]?.getD 0 = s[i] := by
  have : i < s.data.toList.length := by simpa using h
  rw [List.getElem?_eq_getElem this]
  rfl

set_option maxRecDepth 100000 in
set_option maxHeartbeats 1000000 in
theorem rpair_any (s : ByteArray) (i : Nat) (w : World) (hs : s.size ≤ 140737488355328) (hi : i ≤ 140737488355328) : Calls Tryd.prog 59 #[.string s, .int .i64 (i : Int)] w fun e w' => e = .returned (.int .i64 (pairI s.data.toList i)) ∧ K0 w w' := by
  have hl : s.data.toList.length = s.size := by simp
  unfold pairI
  rw [hl]
  clear hl
  by_cases h1 : s.size < i + 2
  · rw [if_pos h1]
    go_enter Tryd.func59, Tryd.ntmps59
    go_wp2
    go_ret
    exact ⟨rfl, Kp.refl _ _⟩
  · rw [if_neg h1, str_get (show i < s.size by omega), str_get (show i + 1 < s.size by omega)]
    have h2 : i < s.size := by omega
    have h3 : i + 1 < s.size := by omega
    generalize ha : s[i] = a
    generalize hb : s[i + 1] = b
    unfold pairV
    have hA16 := hexv_lt a
    have hB16 := hexv_lt b
    by_cases hA : hexv a < 0
    · rw [if_pos (.inl hA)]
      go_enter Tryd.func59, Tryd.ntmps59
      go_wp2_with (go_at_call 80; refine (digit_any _ _).mono ?_; rintro e w' ⟨rfl, rfl⟩)
      go_ret
      exact ⟨rfl, Kp.refl _ _⟩
    · by_cases hB : hexv b < 0
      · rw [if_pos (.inr hB)]
        go_enter Tryd.func59, Tryd.ntmps59
        go_wp2_with (go_at_call 80; refine (digit_any _ _).mono ?_; rintro e w' ⟨rfl, rfl⟩)
        go_ret
        exact ⟨rfl, Kp.refl _ _⟩
      · rw [if_neg (by omega)]
        have hw1 : IntKind.i64.wrap (16 * hexv a) = 16 * hexv a := IntWalk.i64_in _ (by omega)
        have hw2 : IntKind.i64.wrap (16 * hexv a + hexv b) = 16 * hexv a + hexv b := IntWalk.i64_in _ (by omega)
        go_enter Tryd.func59, Tryd.ntmps59
        go_wp2_with (go_at_call 80; refine (digit_any _ _).mono ?_; rintro e w' ⟨rfl, rfl⟩)
        go_quiet (first | (go_at_call 80; exact Calls.quiet_of_same ((digit_any _ _).mono fun _ _ ⟨a, b⟩ => ⟨a, b.symm⟩)))
        go_wp2
        go_ret
        exact ⟨rfl, (Kp.refl _ _).drewN _⟩

theorem or16 (x y : Int) (hx : 0 ≤ x) (hx2 : x < 16) (hy : 0 ≤ y) (hy2 : y < 16) : bits .or .i64 (x * 16) y = x * 16 + y := by
  have h : ∀ i j : Fin 16, bits .or .i64 ((i.val : Int) * 16) (j.val : Int) = (i.val : Int) * 16 + (j.val : Int) := by decide +kernel
  have := h ⟨x.toNat, by omega⟩ ⟨y.toNat, by omega⟩
  simp only [Int.toNat_of_nonneg hx, Int.toNat_of_nonneg hy] at this
  exact this

/-- What pair answers: right or not; the value, where there is one. -/
def PairOk (l : List UInt8) (v : Int) (ok : Bool) : Prop := ok = decide (l.length = 2 ∧ 0 ≤ pairI l 0) ∧ (ok = true → v = pairI l 0) ∧ 0 ≤ v ∧ v < 256

def PairPost (l : List UInt8) (w : World) (e : Ending) (w' : World) : Prop := ∃ (v : Int) (ok : Bool), e = .returned (.tuple #[.int .i64 v, .bool ok]) ∧ PairOk l v ok ∧ K0 w w'
theorem PairPost.mk {l : List UInt8} {w w' : World} {v : Int} {ok : Bool} (h : PairOk l v ok) (k : K0 w w') : PairPost l w (.returned (.tuple #[.int .i64 v, .bool ok])) w' := ⟨v, ok, rfl, h, k⟩

set_option maxRecDepth 100000 in
set_option maxHeartbeats 1000000 in
/-- pair: the value, where there is one. -/
theorem pair_any (s : ByteArray) (w : World) (hs : s.size ≤ 140737488355328) : Calls Tryd.prog 58 #[.string s] w (PairPost s.data.toList w) := by
  have hl : s.data.toList.length = s.size := by simp
  by_cases h1 : s.size = 2
  · have h2 : 0 < s.size := by omega
    have h3 : 1 < s.size := by omega
    have hp : pairI s.data.toList 0 = pairV (s[0]'h2) (s[1]'h3) := by
      unfold pairI
      rw [if_neg (by omega), str_get (show 0 < s.size by omega), str_get (show 0 + 1 < s.size by omega)]
    have hP := Lib.hid hp
    have hL := Lib.hid hl
    clear hp hl
    generalize ha : s[0] = a at *
    generalize hb : s[1] = b at *
    have hA16 := hexv_lt a
    have hB16 := hexv_lt b
    have hA1 := hexv_ge a
    have hB1 := hexv_ge b
    have hor := or16 (max (hexv a) 0) (max (hexv b) 0) (by omega) (by omega) (by omega) (by omega)
    have key : ∀ ok : Bool, ok = decide (0 ≤ hexv a ∧ 0 ≤ hexv b) → PairOk s.data.toList (max (hexv a) 0 * 16 + max (hexv b) 0) ok := by
      intro ok hok
      refine ⟨?_, fun h => ?_, by omega, by omega⟩
      · rw [hok, hP.out, hL.out]
        unfold pairV
        rw [Bool.eq_iff_iff, decide_eq_true_iff, decide_eq_true_iff]
        constructor
        · rintro ⟨x, y⟩; refine ⟨h1, ?_⟩; rw [if_neg (by omega)]; omega
        · rintro ⟨_, y⟩; split at y <;> omega
      · rw [hok, decide_eq_true_iff] at h
        rw [hP.out]
        unfold pairV
        rw [if_neg (by omega)]
        omega
    have KEY := Lib.hid key
    clear key
    go_enter Tryd.func58, Tryd.ntmps58
    go_wp2
    go_quiet (first | (go_at_call 79; exact Calls.quiet_of_same (hexIndex _ _)))
    go_wp2
    all_goals
      go_ret2
      refine PairPost.mk (KEY.out _ ?_) ((Kp.refl _ _).drewN _)
      rw [eq_comm, Bool.eq_iff_iff]
      simp
      try omega
  · go_enter Tryd.func58, Tryd.ntmps58
    go_wp2
    go_ret2
    refine PairPost.mk (v := 0) (ok := false) ⟨?_, fun h => (by cases h), by omega, by omega⟩ (Kp.refl _ _)
    simp [h1]

end Go.Proofs.YtobofhiakgohfaaDoor
