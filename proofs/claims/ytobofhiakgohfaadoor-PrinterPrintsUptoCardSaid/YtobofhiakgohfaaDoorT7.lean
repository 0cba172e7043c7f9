/- token: Number, and the reference's. -/
import Derived.Test.YtobofhiakgohfaaDoorT1
import Derived.Test.YtobofhiakgohfaaDoorP9
set_option linter.unusedVariables false
set_option linter.unusedSimpArgs false
namespace Go.Proofs.YtobofhiakgohfaaDoor
open Go.RowKit

theorem k0_bytes (w : World) (e : TypeId) (s : ByteArray) : K0 w (Lib.bytesWorld w e s) :=
  Kp.of_below ⟨rfl, rfl, rfl, by rw [Lib.bytesWorld_size]; omega, fun k hk => Lib.bytesWorld_at_old w e s k (by omega)⟩

def tens : List UInt8 := [48, 49, 50, 51, 52, 53, 54, 55, 56, 57]
theorem tens_contains (c : UInt8) : tens.contains c = digitB c := by
  have h : ∀ n : Fin 256, tens.contains (UInt8.ofNat n.val) = digitB (UInt8.ofNat n.val) := by decide +kernel
  have := h ⟨c.toNat, c.toNat_lt⟩
  simpa using this
theorem trimS_nil (l : List UInt8) : Lib.trimS l tens = [] ↔ l.all digitB = true := by
  have hf : (fun x => tens.contains x) = digitB := by funext x; exact tens_contains x
  unfold Lib.trimS Lib.trimLeftS Lib.trimRightS
  rw [dropWhile_nil, hf]
  constructor
  · intro h
    by_cases hr : l.reverse.dropWhile digitB = []
    · have := (dropWhile_nil _ _).1 hr
      simpa using this
    · obtain ⟨c, t, hct⟩ : ∃ c t, l.reverse.dropWhile digitB = c :: t := by
        cases h : l.reverse.dropWhile digitB with
        | nil => exact absurd h hr
        | cons c t => exact ⟨c, t, rfl⟩
      have h1 := List.head_dropWhile_not digitB (l := l.reverse) (by rw [hct]; simp)
      simp only [hct] at h h1
      simp at h h1
      rw [h1] at h
      simp at h
  · intro h
    have : l.reverse.dropWhile digitB = [] := (dropWhile_nil _ _).2 (by simpa using h)
    rw [this]; rfl
theorem trimTen (s : ByteArray) (w : World) (hs : s.size ≤ 140737488355328) : Calls Tryd.prog 60 #[.string s, .string ⟨#[48, 49, 50, 51, 52, 53, 54, 55, 56, 57]⟩] w fun e w' => e = .returned (.string ⟨(Lib.trimS s.data.toList tens).toArray⟩) ∧ Below w.heap.size w w' :=
  Any.strings_Trim_laid Tryd.lays160 (by kernel_rfl) s _ w (by omega) (by decide) (ascii_of_all (by decide))

/-- What Number answers. -/
def NumPost (l : List UInt8) (w : World) (e : Ending) (w' : World) : Prop := e = .returned (.tuple #[.int .i64 (((numR l).getD 0 : Nat) : Int), .bool (numR l).isSome]) ∧ K0 w w'
theorem numR_long {l : List UInt8} (h : 9 < l.length) : numR l = none := by unfold numR; rw [if_neg (by omega)]
theorem numR_not {l : List UInt8} (h : l.all digitB = false) : numR l = none := by unfold numR; rw [if_neg (by simp [h])]
theorem numR_lead {l : List UInt8} (h : l.head? = some 48) (h1 : l.length ≠ 1) : numR l = none := by unfold numR; rw [if_neg]; rintro ⟨_, _, h2 | h2⟩; exact h1 h2; exact h2 h
theorem numR_some {l : List UInt8} {n : Nat} (h9 : l.length ≤ 9) (ha : l.all digitB = true) (hd : l.length = 1 ∨ l.head? ≠ some 48) (hn : Lib.decNat l = some n) : numR l = some n := by unfold numR; rw [if_pos ⟨h9, ha, hd⟩, hn]

set_option maxRecDepth 100000 in
set_option maxHeartbeats 1000000 in
/-- Number, at a word that is not empty. -/
theorem number_any (s : ByteArray) (w : World) (hs : s.size ≤ 140737488355328) (h0 : s.data.toList ≠ []) : Calls Tryd.prog 28 #[.string s] w (NumPost s.data.toList w) := by
  have hz : s.data.toList.length = s.size := by simp
  by_cases h9 : 9 < s.size
  · have hR := Lib.hid (numR_long (l := s.data.toList) (by omega))
    clear h0 hz
    go_enter Tryd.func28, Tryd.ntmps28
    go_wp2
    go_ret2
    exact ⟨by rw [hR.out]; rfl, Kp.refl _ _⟩
  · have HT := Lib.hid (fun W => trimTen s W hs)
    by_cases ha : s.data.toList.all digitB = true
    · have hnil : Lib.trimS s.data.toList tens = [] := (trimS_nil _).2 ha
      rw [hnil] at HT
      obtain ⟨n, hn, hat⟩ := atoi_all h0 ha
      have HA := Lib.hid (fun W => Tryd.strconv_Atoi s n (by omega) hat W)
      obtain ⟨c, t, hct⟩ : ∃ c t, s.data.toList = c :: t := by
        cases h : s.data.toList with
        | nil => exact absurd h h0
        | cons a t => exact ⟨a, t, rfl⟩
      have hpos : 0 < s.size := by rw [← hz, hct]; simp
      have hc0 : s[0] = c := by
        have : s.data.toList[0]? = some c := by rw [hct]; rfl
        rw [List.getElem?_eq_getElem (by omega)] at this
        injection this
      have hsl : s.toList = s.data.toList := ByteArray.toList_eq s
      by_cases h1 : s.data.toList = [48]
      · have e1 : (s.toList == [48]) = true := by rw [hsl, h1]; decide
        have HR := Lib.hid (numR_some (by omega) ha (.inl (by rw [h1]; rfl)) hn)
        clear hn hat hct hc0 hsl h1 ha hnil h0 hz
        go_enter Tryd.func28, Tryd.ntmps28
        go_wp2_with (first
          | (go_at_call 60; refine (HT.out _).mono ?_; rintro e w1 ⟨rfl, hb⟩)
          | (go_at_call 61; refine (HA.out _).mono ?_; rintro e w2 ⟨rfl, tt, rfl⟩))
        go_ret2
        exact ⟨by rw [HR.out]; rfl, (Kp.of_below hb).trans (k0_bytes _ _ _)⟩
      · have e1 : (s.toList == [48]) = false := by rw [hsl]; exact beq_eq_false_iff_ne.2 h1
        by_cases h48 : c = 48
        · subst h48
          have HR := Lib.hid (numR_lead (l := s.data.toList) (by rw [hct]; rfl) (fun hl => h1 (by
            rw [hct] at hl ⊢
            have : t = [] := List.eq_nil_of_length_eq_zero (by simpa using hl)
            rw [this])))
          clear hn hat hct hsl h1 ha hnil h0 hz
          go_enter Tryd.func28, Tryd.ntmps28
          go_wp2_with (first
            | (go_at_call 60; refine (HT.out _).mono ?_; rintro e w1 ⟨rfl, hb⟩)
            | (go_at_call 61; refine (HA.out _).mono ?_; rintro e w2 ⟨rfl, tt, rfl⟩))
          go_ret2
          exact ⟨by rw [HR.out]; rfl, (Kp.of_below hb).trans (k0_bytes _ _ _)⟩
        · have HR := Lib.hid (numR_some (by omega) ha (.inr (by rw [hct]; simpa using h48)) hn)
          have hc1 : ((s[0].toNat : Int) == 48) = false := by
            rw [hc0, beq_eq_false_iff_ne]; intro e; exact h48 (UInt8.toNat_inj.1 (by simp; omega))
          clear hn hat hct hsl h1 ha hnil h0 hz hc0
          go_enter Tryd.func28, Tryd.ntmps28
          go_wp2_with (first
            | (go_at_call 60; refine (HT.out _).mono ?_; rintro e w1 ⟨rfl, hb⟩)
            | (go_at_call 61; refine (HA.out _).mono ?_; rintro e w2 ⟨rfl, tt, rfl⟩))
          go_ret2
          exact ⟨by rw [HR.out]; rfl, (Kp.of_below hb).trans (k0_bytes _ _ _)⟩
    · have ha' : s.data.toList.all digitB = false := by simpa using ha
      have hne : Lib.trimS s.data.toList tens ≠ [] := fun h => ha ((trimS_nil _).1 h)
      have HR := Lib.hid (numR_not ha')
      generalize Lib.trimS s.data.toList tens = r at *
      have e6 : (⟨r.toArray⟩ : ByteArray).toList.isEmpty = false := by
        rw [ByteArray.toList_eq]
        cases r with
        | nil => exact absurd rfl hne
        | cons a t => rfl
      have e7 : r.isEmpty = false := by
        cases r with
        | nil => exact absurd rfl hne
        | cons a t => rfl
      clear ha ha' hne h0 hz
      go_enter Tryd.func28, Tryd.ntmps28
      go_wp2_with (go_at_call 60; refine (HT.out _).mono ?_; rintro e w1 ⟨rfl, hb⟩)
      go_ret2
      exact ⟨by rw [HR.out]; rfl, Kp.of_below hb⟩
end Go.Proofs.YtobofhiakgohfaaDoor
