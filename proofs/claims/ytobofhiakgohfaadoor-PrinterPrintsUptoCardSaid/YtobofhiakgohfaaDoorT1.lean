/- token: inWord, Name. -/
import Derived.Test.YtobofhiakgohfaaDoorB1
import Derived.Test.YtobofhiakgohfaaDoorP5
import Derived.Shelf.Strings.SlTrimAscii
set_option linter.unusedVariables false
set_option linter.unusedSimpArgs false
namespace Go.Proofs.YtobofhiakgohfaaDoor
open Go.RowKit

theorem ret_bool {a b : Bool} (h : a = b) : Ending.returned (.bool a) = .returned (.bool b) := by rw [h]

set_option maxRecDepth 100000 in
set_option maxHeartbeats 400000 in
theorem inWord_any (c : UInt8) (w : World) : Calls Tryd.prog 56 #[.int .u8 (c.toNat : Int)] w fun e w' => e = .returned (.bool (inWordB c)) ∧ w = w' := by
  have hI : inWordB c = (decide (32 < c.toNat) && decide (c.toNat < 127) && ((c.toNat : Int) != 35)) := by
    simp only [inWordB, bne]
    congr 2
    rw [Bool.eq_iff_iff, beq_iff_eq, beq_iff_eq]
    omega
  rw [hI]
  clear hI
  by_cases h1 : 32 < c.toNat
  · by_cases h2 : c.toNat < 127
    · rw [decide_eq_true h1, decide_eq_true h2]
      go_enter Tryd.func56, Tryd.ntmps56
      go_wp2
      go_ret
      exact ⟨rfl, rfl⟩
    · rw [decide_eq_false h2]
      simp only [Bool.and_false, Bool.false_and]
      go_enter Tryd.func56, Tryd.ntmps56
      go_wp2
      go_ret
      exact ⟨rfl, rfl⟩
  · rw [decide_eq_false h1]
    simp only [Bool.and_false, Bool.false_and]
    go_enter Tryd.func56, Tryd.ntmps56
    go_wp2
    go_ret
    exact ⟨rfl, rfl⟩

theorem trimLow (s : ByteArray) (w : World) : Calls Tryd.prog 62 #[.string s, .string ⟨#[97, 98, 99, 100, 101, 102, 103, 104, 105, 106, 107, 108, 109, 110, 111, 112, 113, 114, 115, 116, 117, 118, 119, 120, 121, 122, 48, 49, 50, 51, 52, 53, 54, 55, 56, 57]⟩] w fun e w' => e = .returned (.string ⟨(s.data.toList.dropWhile (lowers.contains ·)).toArray⟩) ∧ Below w.heap.size w w' :=
  Any.strings_TrimLeft_laid Tryd.lays161 (by kernel_rfl) s _ w (by decide) (ascii_of_all (by decide))

set_option maxRecDepth 100000 in
set_option maxHeartbeats 1000000 in
theorem name_any (s : ByteArray) (w : World) (hs : s.size ≤ 140737488355328) : Calls Tryd.prog 32 #[.string s] w fun e w' => e = .returned (.bool (nameB s.data.toList)) ∧ K0 w w' := by
  have hsl : s.toList = s.data.toList := ByteArray.toList_eq s
  have hz : s.data.toList.length = s.size := by simp
  by_cases h1 : s.data.toList = kwClass
  · have hn : nameB s.data.toList = false := by rw [h1]; decide
    have e1 : (s.toList == [99, 108, 97, 115, 115]) = true := by rw [hsl, h1]; decide
    rw [hn]; clear hsl hz h1 hn
    go_enter Tryd.func32, Tryd.ntmps32
    go_wp2
    go_ret
    exact ⟨rfl, Kp.refl _ _⟩
  have e1 : (s.toList == [99, 108, 97, 115, 115]) = false := by rw [hsl]; exact beq_eq_false_iff_ne.2 h1
  by_cases h2 : s.data.toList = kwShape
  · have hn : nameB s.data.toList = false := by rw [h2]; decide
    have e2 : (s.toList == [115, 104, 97, 112, 101]) = true := by rw [hsl, h2]; decide
    rw [hn]; clear hsl hz h1 h2 hn
    go_enter Tryd.func32, Tryd.ntmps32
    go_wp2
    go_ret
    exact ⟨rfl, Kp.refl _ _⟩
  have e2 : (s.toList == [115, 104, 97, 112, 101]) = false := by rw [hsl]; exact beq_eq_false_iff_ne.2 h2
  by_cases h3 : s.data.toList = kwAt
  · have hn : nameB s.data.toList = false := by rw [h3]; decide
    have e3 : (s.toList == [97, 116]) = true := by rw [hsl, h3]; decide
    rw [hn]; clear hsl hz h1 h2 h3 hn
    go_enter Tryd.func32, Tryd.ntmps32
    go_wp2
    go_ret
    exact ⟨rfl, Kp.refl _ _⟩
  have e3 : (s.toList == [97, 116]) = false := by rw [hsl]; exact beq_eq_false_iff_ne.2 h3
  by_cases h4 : s.data.toList = []
  · have hn : nameB s.data.toList = false := by rw [h4]; decide
    have e4 : s.toList.isEmpty = true := by rw [hsl, h4]; rfl
    rw [hn]; clear hsl hz h1 h2 h3 h4 hn
    go_enter Tryd.func32, Tryd.ntmps32
    go_wp2
    go_ret
    exact ⟨rfl, Kp.refl _ _⟩
  have e4 : s.toList.isEmpty = false := by
    rw [hsl]
    cases h : s.data.toList with
    | nil => exact absurd h h4
    | cons a t => rfl
  by_cases h5 : 16 < s.size
  · have hn : nameB s.data.toList = false := by
      have : ¬ s.data.toList.length ≤ 16 := by omega
      simp only [nameB, decide_eq_false this, Bool.and_false, Bool.false_and]
    rw [hn]; clear hsl hz h1 h2 h3 h4 hn
    go_enter Tryd.func32, Tryd.ntmps32
    go_wp2
    go_ret
    exact ⟨rfl, Kp.refl _ _⟩
  obtain ⟨c, t, hct⟩ : ∃ c t, s.data.toList = c :: t := by
    cases h : s.data.toList with
    | nil => exact absurd h h4
    | cons a t => exact ⟨a, t, rfl⟩
  have hpos : 0 < s.size := by rw [← hz, hct]; simp
  have hc0 : s[0] = c := by
    have : s.data.toList[0]? = some c := by rw [hct]; rfl
    rw [List.getElem?_eq_getElem (by omega)] at this
    injection this
  rw [nameB_trim _ h1 h2 h3 c t hct (by omega)]
  have HT := Lib.hid (trimLow s w)
  generalize hr : s.data.toList.dropWhile (lowers.contains ·) = r at *
  have hc1 : (s[0].toNat : Int) = (c.toNat : Int) := by rw [hc0]
  clear hsl hz h1 h2 h3 h4 hr hct
  by_cases h6 : r = []
  · subst h6
    go_enter Tryd.func32, Tryd.ntmps32
    go_wp2_with (go_at_call 62; refine HT.out.mono ?_; rintro e w1 ⟨rfl, hb⟩)
    have hx : (s[0].toNat : Int) = (c.toNat : Int) := hc1
    go_ret
    all_goals (first | (refine ⟨?_, Kp.of_below hb⟩) | trace_state)
    all_goals (first | (refine ret_bool ?_; simp; omega) | (rw [hx]; refine ret_bool ?_; simp) | trace_state)
  · have e6 : (⟨r.toArray⟩ : ByteArray).toList.isEmpty = false := by
      rw [ByteArray.toList_eq]
      cases r with
      | nil => exact absurd rfl h6
      | cons a t => rfl
    rw [decide_eq_false h6]
    simp only [Bool.false_and]
    go_enter Tryd.func32, Tryd.ntmps32
    go_wp2_with (go_at_call 62; refine HT.out.mono ?_; rintro e w1 ⟨rfl, hb⟩)
    go_ret
    exact ⟨rfl, Kp.of_below hb⟩
end Go.Proofs.YtobofhiakgohfaaDoor
