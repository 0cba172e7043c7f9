/- Item. token: Number, and the reference's. the reference's Number. token: Digits. the law's example. -/
import Derived.Test.YtobofhiakgohfaaGreatDoorZC
import Derived.Test.YtobofhiakgohfaaGreatDoorZA
import Derived.Test.YtobofhiakgohfaaGreatDoorZB
import Derived.Test.YtobofhiakgohfaaGreatDoorZE
set_option linter.unusedVariables false
set_option linter.unusedSimpArgs false
namespace Go.Proofs.YtobofhiakgohfaaGreatDoor
open Go.RowKit

set_option maxRecDepth 100000 in
set_option maxHeartbeats 2000000 in
theorem item_any (s : ByteArray) (w : World) (hs : s.size ≤ 140737488355328) : Calls Tryz.prog 109 #[.string s] w (ItemPost s w) := by
  have N0 := Lib.hid (fun W => name_any s W hs)
  have C0 := Lib.hid (fun W => cut1_any s W hs)
  have hl : s.data.toList.length = s.size := by simp
  by_cases h1 : nameB s.data.toList = true
  · have hR : itemR s = (itemVal s 0 0, true) := by unfold itemR; rw [if_pos h1]
    have HR := Lib.hid hR
    rw [h1] at N0
    clear h1 hR
    go_enter Tryz.func109, Tryz.ntmps109
    go_wp2_with fail
    refine (N0.out _).mono ?_
    rintro e w1 ⟨rfl, hk⟩
    have xb := (item_new w).kp hk (fun h => h)
    have x0 := xb.cell 0
    have x1 := xb.cell 1
    have x2 := xb.cell 2
    have x3 := xb.cell 3
    have fz0 := xb.frozen 0
    have fz1 := xb.frozen 1
    have fz2 := xb.frozen 2
    have fz3 := xb.frozen 3
    simp at x0 x1 x2 x3
    go_wp2
    obtain ⟨c0, c1, c2, c3⟩ := item_cells xb (.string s) (.int .i64 0) (.int .i64 0) (.int .i64 0)
    refine bodyPost_ret (v := .tuple #[itemVal s 0 0, .bool true]) ?_ rfl ?_
    · simp [results, Tryz.f109, go_sem, c0, c1, c2, c3, itemVal]
    · exact ⟨by rw [HR.out], item_keep (((Kp.refl _ w).alloc _).trans hk) (Nat.le_refl _) _ _ _ _⟩
  · have hn : nameB s.data.toList = false := by simpa using h1
    rw [hn] at N0
    have hI : ∀ r, (if s.size = 2 ∧ 0 ≤ pairI s.data.toList 0 then (itemVal ⟨#[]⟩ (pairI s.data.toList 0) (pairI s.data.toList 0), true)
      else if s.size = 5 ∧ 0 ≤ pairI s.data.toList 0 ∧ s.data.toList[2]?.getD 0 = 45 ∧ pairI s.data.toList 0 ≤ pairI s.data.toList 3 then (itemVal ⟨#[]⟩ (pairI s.data.toList 0) (pairI s.data.toList 3), true)
      else (itemVal ⟨#[]⟩ 0 0, false)) = r → itemR s = r := fun r h => by unfold itemR; rw [if_neg h1]; exact h
    have HI := Lib.hid hI
    have HL := Lib.hid hl
    clear h1 hn hI hl
    go_enter Tryz.func109, Tryz.ntmps109
    go_wp2_with fail
    refine (N0.out _).mono ?_
    rintro e w1 ⟨rfl, hk⟩
    go_wp2_with fail
    refine (C0.out _).mono ?_
    rintro e w2 ⟨a, b, t, rfl, hk2, hab⟩
    have hka : K0 w w2 := ((((Kp.refl _ w).alloc _).trans hk).trans hk2)
    have yb2 := ((item_new w).kp hk (fun h => h)).kp hk2 (fun h => h)
    rcases hab with ⟨rfl, hno, hal⟩ | ⟨rfl, hal, hno⟩
    · have has : a.size = s.size := by rw [← HL.out, ← hal]; simp
      go_wp2_with fail
      refine (pair_any a _ (by omega)).mono ?_
      rintro e w3 ⟨v, ok, rfl, ⟨ho, hv, hv0, hv1⟩, hk3⟩
      have hno' := item_none _ hno
      rw [hal] at ho hv; rw [HL.out] at ho
      rw [HL.out] at hno'
      cases ok with
      | true =>
        have hv' := hv rfl
        have ho' := of_decide_eq_true ho.symm
        subst hv'
        have HR := Lib.hid (HI.out _ (if_pos ho'))
        clear ho hv hno' hno hal ho'
        have xb := yb2.kp hk3 (fun h => h)
        have x0 := xb.cell 0
        have x1 := xb.cell 1
        have x2 := xb.cell 2
        have x3 := xb.cell 3
        have fz0 := xb.frozen 0
        have fz1 := xb.frozen 1
        have fz2 := xb.frozen 2
        have fz3 := xb.frozen 3
        simp at x0 x1 x2 x3
        go_wp2
        all_goals
          obtain ⟨c0, c1, c2, c3⟩ := item_cells xb (.string ⟨#[]⟩) (.int .i64 (pairI s.data.toList 0)) (.int .i64 (pairI s.data.toList 0)) (.int .i64 0)
          have d0 := (xb.set_ 0 (.string ⟨#[]⟩)).cell 0
          have d1 := ((xb.set_ 0 (.string ⟨#[]⟩)).set_ 1 (.int .i64 (pairI s.data.toList 0))).cell 1
          have d2 := (((xb.set_ 0 (.string ⟨#[]⟩)).set_ 1 (.int .i64 (pairI s.data.toList 0))).set_ 2 (.int .i64 (pairI s.data.toList 0))).cell 2
          simp at d0 d1 d2
          refine bodyPost_ret (v := .tuple #[itemVal ⟨#[]⟩ (pairI s.data.toList 0) (pairI s.data.toList 0), .bool true]) ?_ rfl ?_
          · simp [results, Tryz.f109, go_sem, c0, c1, c2, c3, d0, d1, d2, itemVal]
          · exact ⟨by rw [HR.out], item_keep (hka.trans hk3) (Nat.le_refl _) _ _ _ _⟩
      | false =>
        have ho' := of_decide_eq_false ho.symm
        have HR := Lib.hid (HI.out _ ((if_neg ho').trans (if_neg hno')))
        clear ho hv hno' hno hal ho'
        have xb := yb2.kp hk3 (fun h => h)
        have x0 := xb.cell 0
        have x1 := xb.cell 1
        have x2 := xb.cell 2
        have x3 := xb.cell 3
        have fz0 := xb.frozen 0
        have fz1 := xb.frozen 1
        have fz2 := xb.frozen 2
        have fz3 := xb.frozen 3
        simp at x0 x1 x2 x3
        go_wp2
        all_goals
          obtain ⟨c0, c1, c2, c3⟩ := item_cells xb (.string ⟨#[]⟩) (.int .i64 0) (.int .i64 0) (.int .i64 0)
          have d0 := (xb.set_ 0 (.string ⟨#[]⟩)).cell 0
          have d1 := ((xb.set_ 0 (.string ⟨#[]⟩)).set_ 1 (.int .i64 0)).cell 1
          have d2 := (((xb.set_ 0 (.string ⟨#[]⟩)).set_ 1 (.int .i64 0)).set_ 2 (.int .i64 0)).cell 2
          simp at d0 d1 d2
          refine bodyPost_ret (v := .tuple #[itemVal ⟨#[]⟩ 0 0, .bool false]) ?_ rfl ?_
          · simp [results, Tryz.f109, go_sem, c0, c1, c2, c3, d0, d1, d2, itemVal]
          · exact ⟨by rw [HR.out], item_keep (hka.trans hk3) (Nat.le_refl _) _ _ _ _⟩
    · have hasz : a.size + b.size + 1 = s.size := by
        have := congrArg List.length hal
        rw [HL.out] at this
        simp at this
        omega
      go_wp2_with fail
      refine (pair_any a _ (by omega)).mono ?_
      rintro e w3 ⟨v, ok, rfl, hPO, hk3⟩
      go_wp2_with fail
      refine (pair_any b _ (by omega)).mono ?_
      rintro e w4 ⟨v2, ok2, rfl, hPO2, hk4⟩
      obtain ⟨ho, hv, hv0, hv1⟩ := hPO
      obtain ⟨ho2, hv2, hv20, hv21⟩ := hPO2
      obtain ⟨hc1, hc2, hc3⟩ := item_cut _ _ _ hal hno
      rw [HL.out] at hc1 hc2
      have HN := HI.out _ (if_neg hc1)
      cases ok with
      | false =>
        have ho' := of_decide_eq_false ho.symm
        have HR := Lib.hid (HI.out _ ((if_neg hc1).trans (if_neg (fun h => ho' (by have := hc2.1 h; exact ⟨this.1, this.2.1⟩)))))
        clear ho hv ho2 hv2 hc1 hc2 hc3 HN ho' hal hno
        have xb := (yb2.kp hk3 (fun h => h)).kp hk4 (fun h => h)
        have x0 := xb.cell 0
        have x1 := xb.cell 1
        have x2 := xb.cell 2
        have x3 := xb.cell 3
        have fz0 := xb.frozen 0
        have fz1 := xb.frozen 1
        have fz2 := xb.frozen 2
        have fz3 := xb.frozen 3
        simp at x0 x1 x2 x3
        go_wp2
        all_goals
          obtain ⟨c0, c1, c2, c3⟩ := item_cells xb (.string ⟨#[]⟩) (.int .i64 0) (.int .i64 0) (.int .i64 0)
          have d0 := (xb.set_ 0 (.string ⟨#[]⟩)).cell 0
          have d1 := ((xb.set_ 0 (.string ⟨#[]⟩)).set_ 1 (.int .i64 0)).cell 1
          have d2 := (((xb.set_ 0 (.string ⟨#[]⟩)).set_ 1 (.int .i64 0)).set_ 2 (.int .i64 0)).cell 2
          simp at d0 d1 d2
          refine bodyPost_ret (v := .tuple #[itemVal ⟨#[]⟩ 0 0, .bool false]) ?_ rfl ?_
          · simp [results, Tryz.f109, go_sem, c0, c1, c2, c3, d0, d1, d2, itemVal]
          · exact ⟨by rw [HR.out], item_keep ((hka.trans hk3).trans hk4) (Nat.le_refl _) _ _ _ _⟩
      | true =>
        have ho' := of_decide_eq_true ho.symm
        have hv' := hv rfl
        cases ok2 with
        | false =>
          have ho2' := of_decide_eq_false ho2.symm
          have HR := Lib.hid (HI.out _ ((if_neg hc1).trans (if_neg (fun h => ho2' (by have := hc2.1 h; exact ⟨this.2.2.1, this.2.2.2.1⟩)))))
          clear ho hv ho2 hv2 hc1 hc2 hc3 HN ho' ho2' hal hno hv'
          have xb := (yb2.kp hk3 (fun h => h)).kp hk4 (fun h => h)
          have x0 := xb.cell 0
          have x1 := xb.cell 1
          have x2 := xb.cell 2
          have x3 := xb.cell 3
          have fz0 := xb.frozen 0
          have fz1 := xb.frozen 1
          have fz2 := xb.frozen 2
          have fz3 := xb.frozen 3
          simp at x0 x1 x2 x3
          go_wp2
          all_goals
            obtain ⟨c0, c1, c2, c3⟩ := item_cells xb (.string ⟨#[]⟩) (.int .i64 0) (.int .i64 0) (.int .i64 0)
            have d0 := (xb.set_ 0 (.string ⟨#[]⟩)).cell 0
            have d1 := ((xb.set_ 0 (.string ⟨#[]⟩)).set_ 1 (.int .i64 0)).cell 1
            have d2 := (((xb.set_ 0 (.string ⟨#[]⟩)).set_ 1 (.int .i64 0)).set_ 2 (.int .i64 0)).cell 2
            simp at d0 d1 d2
            refine bodyPost_ret (v := .tuple #[itemVal ⟨#[]⟩ 0 0, .bool false]) ?_ rfl ?_
            · simp [results, Tryz.f109, go_sem, c0, c1, c2, c3, d0, d1, d2, itemVal]
            · exact ⟨by rw [HR.out], item_keep ((hka.trans hk3).trans hk4) (Nat.le_refl _) _ _ _ _⟩
        | true =>
          have ho2' := of_decide_eq_true ho2.symm
          have hv2' := hv2 rfl
          obtain ⟨e1, e2⟩ := hc3 ho'.1 ho2'.1
          by_cases hle : v ≤ v2
          · have HR := Lib.hid (HI.out (itemVal ⟨#[]⟩ v v2, true) ((if_neg hc1).trans ((if_pos (hc2.2 ⟨ho'.1, ho'.2, ho2'.1, ho2'.2, by omega⟩)).trans (by rw [e1, e2, ← hv', ← hv2']))))
            clear ho hv ho2 hv2 hc1 hc2 hc3 HN ho' ho2' hal hno hv' hv2' e1 e2
            have xb := (yb2.kp hk3 (fun h => h)).kp hk4 (fun h => h)
            have x0 := xb.cell 0
            have x1 := xb.cell 1
            have x2 := xb.cell 2
            have x3 := xb.cell 3
            have fz0 := xb.frozen 0
            have fz1 := xb.frozen 1
            have fz2 := xb.frozen 2
            have fz3 := xb.frozen 3
            simp at x0 x1 x2 x3
            go_wp2
            all_goals
              obtain ⟨c0, c1, c2, c3⟩ := item_cells xb (.string ⟨#[]⟩) (.int .i64 v) (.int .i64 v2) (.int .i64 0)
              have d0 := (xb.set_ 0 (.string ⟨#[]⟩)).cell 0
              have d1 := ((xb.set_ 0 (.string ⟨#[]⟩)).set_ 1 (.int .i64 v)).cell 1
              have d2 := (((xb.set_ 0 (.string ⟨#[]⟩)).set_ 1 (.int .i64 v)).set_ 2 (.int .i64 v2)).cell 2
              simp at d0 d1 d2
              refine bodyPost_ret (v := .tuple #[itemVal ⟨#[]⟩ v v2, .bool true]) ?_ rfl ?_
              · simp [results, Tryz.f109, go_sem, c0, c1, c2, c3, d0, d1, d2, itemVal]
              · exact ⟨by rw [HR.out], item_keep ((hka.trans hk3).trans hk4) (Nat.le_refl _) _ _ _ _⟩
          · have HR := Lib.hid (HI.out _ ((if_neg hc1).trans (if_neg (fun h => hle (by have := (hc2.1 h).2.2.2.2; omega)))))
            clear ho hv ho2 hv2 hc1 hc2 hc3 HN ho' ho2' hal hno hv' hv2' e1 e2
            have xb := (yb2.kp hk3 (fun h => h)).kp hk4 (fun h => h)
            have x0 := xb.cell 0
            have x1 := xb.cell 1
            have x2 := xb.cell 2
            have x3 := xb.cell 3
            have fz0 := xb.frozen 0
            have fz1 := xb.frozen 1
            have fz2 := xb.frozen 2
            have fz3 := xb.frozen 3
            simp at x0 x1 x2 x3
            go_wp2
            all_goals
              obtain ⟨c0, c1, c2, c3⟩ := item_cells xb (.string ⟨#[]⟩) (.int .i64 0) (.int .i64 0) (.int .i64 0)
              have d0 := (xb.set_ 0 (.string ⟨#[]⟩)).cell 0
              have d1 := ((xb.set_ 0 (.string ⟨#[]⟩)).set_ 1 (.int .i64 0)).cell 1
              have d2 := (((xb.set_ 0 (.string ⟨#[]⟩)).set_ 1 (.int .i64 0)).set_ 2 (.int .i64 0)).cell 2
              simp at d0 d1 d2
              refine bodyPost_ret (v := .tuple #[itemVal ⟨#[]⟩ 0 0, .bool false]) ?_ rfl ?_
              · simp [results, Tryz.f109, go_sem, c0, c1, c2, c3, d0, d1, d2, itemVal]
              · exact ⟨by rw [HR.out], item_keep ((hka.trans hk3).trans hk4) (Nat.le_refl _) _ _ _ _⟩
end Go.Proofs.YtobofhiakgohfaaGreatDoor

namespace Go.Proofs.YtobofhiakgohfaaGreatDoor
open Go.RowKit

theorem k0_bytes (w : World) (e : TypeId) (s : ByteArray) : K0 w (Lib.bytesWorld w e s) :=
  Kp.of_below ⟨rfl, rfl, rfl, by rw [Lib.bytesWorld_size]; omega, fun k hk => Lib.bytesWorld_at_old w e s k (by omega)⟩

def tens : List UInt8 := [48, 49, 50, 51, 52, 53, 54, 55, 56, 57]
theorem tens_contains (c : UInt8) : tens.contains c = digitB c := by
  have h : ∀ n : Fin 256, tens.contains (UInt8.ofNat n.val) = digitB (UInt8.ofNat n.val) := by decide +kernel
  have := h ⟨c.toNat, c.toNat_lt⟩
  simpa using this
theorem trimS_nil (l : List UInt8) : Lib.trimS l tens = [] ↔ l.all digitB = true := by
  have hf : (fun x => tens.contains x) = digitB := by funext x; exact tens_contains x
  unfold Lib.trimS Lib.trimLeftS Lib.trimRightS
  rw [dropWhile_nil, hf]
  constructor
  · intro h
    by_cases hr : l.reverse.dropWhile digitB = []
    · have := (dropWhile_nil _ _).1 hr
      simpa using this
    · obtain ⟨c, t, hct⟩ : ∃ c t, l.reverse.dropWhile digitB = c :: t := by
        cases h : l.reverse.dropWhile digitB with
        | nil => exact absurd h hr
        | cons c t => exact ⟨c, t, rfl⟩
      have h1 := List.head_dropWhile_not digitB (l := l.reverse) (by rw [hct]; simp)
      simp only [hct] at h h1
      simp at h h1
      rw [h1] at h
      simp at h
  · intro h
    have : l.reverse.dropWhile digitB = [] := (dropWhile_nil _ _).2 (by simpa using h)
    rw [this]; rfl
theorem trimTen (s : ByteArray) (w : World) (hs : s.size ≤ 140737488355328) : Calls Tryz.prog 110 #[.string s, .string ⟨#[48, 49, 50, 51, 52, 53, 54, 55, 56, 57]⟩] w fun e w' => e = .returned (.string ⟨(Lib.trimS s.data.toList tens).toArray⟩) ∧ Below w.heap.size w w' :=
  Any.strings_Trim_laid Tryz.lays160 (by kernel_rfl) s _ w (by omega) (by decide) (ascii_of_all (by decide))

/-- What Number answers. -/
def NumPost (l : List UInt8) (w : World) (e : Ending) (w' : World) : Prop := e = .returned (.tuple #[.int .i64 (((numR l).getD 0 : Nat) : Int), .bool (numR l).isSome]) ∧ K0 w w'
theorem numR_long {l : List UInt8} (h : 9 < l.length) : numR l = none := by unfold numR; rw [if_neg (by omega)]
theorem numR_not {l : List UInt8} (h : l.all digitB = false) : numR l = none := by unfold numR; rw [if_neg (by simp [h])]
theorem numR_lead {l : List UInt8} (h : l.head? = some 48) (h1 : l.length ≠ 1) : numR l = none := by unfold numR; rw [if_neg]; rintro ⟨_, _, h2 | h2⟩; exact h1 h2; exact h2 h
theorem numR_some {l : List UInt8} {n : Nat} (h9 : l.length ≤ 9) (ha : l.all digitB = true) (hd : l.length = 1 ∨ l.head? ≠ some 48) (hn : Lib.decNat l = some n) : numR l = some n := by unfold numR; rw [if_pos ⟨h9, ha, hd⟩, hn]

set_option maxRecDepth 100000 in
set_option maxHeartbeats 1000000 in
/-- Number, at a word that is not empty. -/
theorem number_any (s : ByteArray) (w : World) (hs : s.size ≤ 140737488355328) (h0 : s.data.toList ≠ []) : Calls Tryz.prog 88 #[.string s] w (NumPost s.data.toList w) := by
  have hz : s.data.toList.length = s.size := by simp
  by_cases h9 : 9 < s.size
  · have hR := Lib.hid (numR_long (l := s.data.toList) (by omega))
    clear h0 hz
    go_enter Tryz.func88, Tryz.ntmps88
    go_wp2
    go_ret2
    exact ⟨by rw [hR.out]; rfl, Kp.refl _ _⟩
  · have HT := Lib.hid (fun W => trimTen s W hs)
    by_cases ha : s.data.toList.all digitB = true
    · have hnil : Lib.trimS s.data.toList tens = [] := (trimS_nil _).2 ha
      rw [hnil] at HT
      obtain ⟨n, hn, hat⟩ := atoi_all h0 ha
      have HA := Lib.hid (fun W => Tryz.strconv_Atoi s n (by omega) hat W)
      obtain ⟨c, t, hct⟩ : ∃ c t, s.data.toList = c :: t := by
        cases h : s.data.toList with
        | nil => exact absurd h h0
        | cons a t => exact ⟨a, t, rfl⟩
      have hpos : 0 < s.size := by rw [← hz, hct]; simp
      have hc0 : s[0] = c := by
        have : s.data.toList[0]? = some c := by rw [hct]; rfl
        rw [List.getElem?_eq_getElem (by omega)] at this
        injection this
      have hsl : s.toList = s.data.toList := ByteArray.toList_eq s
      by_cases h1 : s.data.toList = [48]
      · have e1 : (s.toList == [48]) = true := by rw [hsl, h1]; decide
        have HR := Lib.hid (numR_some (by omega) ha (.inl (by rw [h1]; rfl)) hn)
        clear hn hat hct hc0 hsl h1 ha hnil h0 hz
        go_enter Tryz.func88, Tryz.ntmps88
        go_wp2_with (first
          | (go_at_call 110; refine (HT.out _).mono ?_; rintro e w1 ⟨rfl, hb⟩)
          | (go_at_call 111; refine (HA.out _).mono ?_; rintro e w2 ⟨rfl, tt, rfl⟩))
        go_ret2
        exact ⟨by rw [HR.out]; rfl, (Kp.of_below hb).trans (k0_bytes _ _ _)⟩
      · have e1 : (s.toList == [48]) = false := by rw [hsl]; exact beq_eq_false_iff_ne.2 h1
        by_cases h48 : c = 48
        · subst h48
          have HR := Lib.hid (numR_lead (l := s.data.toList) (by rw [hct]; rfl) (fun hl => h1 (by
            rw [hct] at hl ⊢
            have : t = [] := List.eq_nil_of_length_eq_zero (by simpa using hl)
            rw [this])))
          clear hn hat hct hsl h1 ha hnil h0 hz
          go_enter Tryz.func88, Tryz.ntmps88
          go_wp2_with (first
            | (go_at_call 110; refine (HT.out _).mono ?_; rintro e w1 ⟨rfl, hb⟩)
            | (go_at_call 111; refine (HA.out _).mono ?_; rintro e w2 ⟨rfl, tt, rfl⟩))
          go_ret2
          exact ⟨by rw [HR.out]; rfl, (Kp.of_below hb).trans (k0_bytes _ _ _)⟩
        · have HR := Lib.hid (numR_some (by omega) ha (.inr (by rw [hct]; simpa using h48)) hn)
          have hc1 : ((s[0].toNat : Int) == 48) = false := by
            rw [hc0, beq_eq_false_iff_ne]; intro e; exact h48 (UInt8.toNat_inj.1 (by simp; omega))
          clear hn hat hct hsl h1 ha hnil h0 hz hc0
          go_enter Tryz.func88, Tryz.ntmps88
          go_wp2_with (first
            | (go_at_call 110; refine (HT.out _).mono ?_; rintro e w1 ⟨rfl, hb⟩)
            | (go_at_call 111; refine (HA.out _).mono ?_; rintro e w2 ⟨rfl, tt, rfl⟩))
          go_ret2
          exact ⟨by rw [HR.out]; rfl, (Kp.of_below hb).trans (k0_bytes _ _ _)⟩
    · have ha' : s.data.toList.all digitB = false := by simpa using ha
      have hne : Lib.trimS s.data.toList tens ≠ [] := fun h => ha ((trimS_nil _).1 h)
      have HR := Lib.hid (numR_not ha')
      generalize Lib.trimS s.data.toList tens = r at *
      have e6 : (⟨r.toArray⟩ : ByteArray).toList.isEmpty = false := by
        rw [ByteArray.toList_eq]
        cases r with
        | nil => exact absurd rfl hne
        | cons a t => rfl
      have e7 : r.isEmpty = false := by
        cases r with
        | nil => exact absurd rfl hne
        | cons a t => rfl
      clear ha ha' hne h0 hz
      go_enter Tryz.func88, Tryz.ntmps88
      go_wp2_with (go_at_call 110; refine (HT.out _).mono ?_; rintro e w1 ⟨rfl, hb⟩)
      go_ret2
      exact ⟨by rw [HR.out]; rfl, Kp.of_below hb⟩
end Go.Proofs.YtobofhiakgohfaaGreatDoor

namespace Go.Proofs.YtobofhiakgohfaaGreatDoor
open Go.RowKit

theorem numR_dec {l : List UInt8} {n : Nat} (h9 : l.length ≤ 9) (h1 : 1 ≤ l.length) (hd : l.length = 1 ∨ l.head? ≠ some 48) (h : Lib.decFrom 0 l = some n) : numR l = some n := by
  have ha : l.all digitB = true := by
    cases ha : l.all digitB
    · rw [decFrom_none l 0 ha] at h; cases h
    · rfl
  refine numR_some h9 ha hd ?_
  unfold Lib.decNat
  cases l with
  | nil => simp at h1
  | cons c t => exact h
theorem dec_bound {l : List UInt8} {j m : Nat} (h9 : l.length ≤ 9) (h : Lib.decFrom 0 (l.take j) = some m) : m < 1000000000 := by
  have h1 := Lib.decFrom_lt _ 0 m h
  have h2 : (l.take j).length ≤ 9 := by rw [List.length_take]; omega
  have h3 := Nat.pow_le_pow_right (n := 10) (by decide) h2
  have e : (10 : Nat) ^ 9 = 1000000000 := by decide
  omega
theorem all_not {l : List UInt8} {j : Nat} (hj : j < l.length) (h : digitB (l[j]?.getD 0) = false) : l.all digitB = false := by
  cases ha : l.all digitB
  · rfl
  · rw [List.all_eq_true] at ha
    rw [List.getElem?_eq_getElem hj] at h
    have := ha _ (List.getElem_mem hj)
    simp only [Option.getD_some] at h
    rw [h] at this; cases this

set_option maxRecDepth 100000 in
set_option maxHeartbeats 1000000 in
theorem rnumber_any (s : ByteArray) (w : World) (hs : s.size ≤ 140737488355328) : Calls Tryz.prog 85 #[.string s] w (NumPost s.data.toList w) := by
  have hz : s.data.toList.length = s.size := by simp
  by_cases h1 : s.size < 1
  · have hR : numR s.data.toList = none := by
      have : s.data.toList = [] := List.eq_nil_of_length_eq_zero (by omega)
      rw [this]; rfl
    have HR := Lib.hid hR
    clear hR hz
    go_enter Tryz.func85, Tryz.ntmps85
    go_wp2
    go_ret2
    exact ⟨by rw [HR.out]; rfl, Kp.refl _ _⟩
  by_cases h9 : 9 < s.size
  · have HR := Lib.hid (numR_long (l := s.data.toList) (by omega))
    clear hz
    go_enter Tryz.func85, Tryz.ntmps85
    go_wp2
    go_ret2
    exact ⟨by rw [HR.out]; rfl, Kp.refl _ _⟩
  have hpos : 0 < s.size := by omega
  obtain ⟨c0, t0, hct⟩ : ∃ c t, s.data.toList = c :: t := by
    cases h : s.data.toList with
    | nil => rw [h] at hz; simp at hz; omega
    | cons a t => exact ⟨a, t, rfl⟩
  have hc0 : s[0] = c0 := by
    have : s.data.toList[0]? = some c0 := by rw [hct]; rfl
    rw [List.getElem?_eq_getElem (by omega)] at this
    injection this
  by_cases hlead : c0 = 48 ∧ 1 < s.size
  · obtain ⟨rfl, h2⟩ := hlead
    have HR := Lib.hid (numR_lead (l := s.data.toList) (by rw [hct]; rfl) (by omega))
    clear hz hct
    go_enter Tryz.func85, Tryz.ntmps85
    go_wp2
    go_ret2
    exact ⟨by rw [HR.out]; rfl, Kp.refl _ _⟩
  have hld : s.data.toList.length = 1 ∨ s.data.toList.head? ≠ some 48 := by
    by_cases h : c0 = 48
    · exact .inl (by have : ¬ 1 < s.size := fun h2 => hlead ⟨h, h2⟩; omega)
    · exact .inr (by rw [hct]; simpa using h)
  have HDONE := Lib.hid (fun n => numR_dec (l := s.data.toList) (n := n) (by omega) (by omega) hld)
  have HBAD := Lib.hid (fun j hj h => numR_not (all_not (l := s.data.toList) (j := j) hj h))
  have HB := Lib.hid (fun j m => dec_bound (l := s.data.toList) (j := j) (m := m) (by omega))
  have HZ := Lib.hid hz
  have HTA := Lib.hid (List.take_length (l := s.data.toList))
  clear hld hct hz
  have hrun : (c0.toNat : Int) = 48 → ¬ (1 : Int) < s.size := by
    intro e h
    exact hlead ⟨UInt8.toNat_inj.1 (by simp; omega), by omega⟩
  clear hlead
  by_cases hc48 : (c0.toNat : Int) = 48
  all_goals
    try have hsz1 := hrun hc48
    clear hrun
    go_enter Tryz.func85, Tryz.ntmps85
    go_wp2
    go_loopw [4, 5] (fun n i wr => ∃ (j m : Nat), j ≤ s.size ∧ i = .int .i64 (j : Int) ∧ n = .int .i64 (m : Int) ∧ Hid (Lib.decFrom 0 (s.data.toList.take j) = some m) ∧ K0 w wr)
      (fun n i wr => s.size - (intOf i).toNat)
    case atStart => exact ⟨0, 0, Nat.zero_le _, rfl, rfl, Lib.hid (by rw [List.take_zero]; rfl), Kp.refl _ _⟩
    case round =>
      obtain ⟨j, m, hj, rfl, rfl, hm, hk⟩ := hrel
      by_cases hlt : j < s.size
      · have hg := str_get hlt
        obtain ⟨c, hc⟩ : ∃ c, c = s[j] := ⟨_, rfl⟩
        rw [← hc] at hg
        have hcv : s[j] = c := hc.symm
        clear hc
        have hb := HB.out j m hm.out
        have hcl := c.toNat_lt
        by_cases h48 : c.toNat < 48
        · have HR := Lib.hid (HBAD.out j (by rw [HZ.out]; exact hlt) (by rw [hg]; simp [digitB]; omega))
          clear HDONE HBAD HB hm hg hb
          go_wp2
          go_ret2
          exact ⟨by rw [HR.out]; rfl, hk⟩
        · by_cases h57 : 57 < c.toNat
          · have HR := Lib.hid (HBAD.out j (by rw [HZ.out]; exact hlt) (by rw [hg]; simp [digitB]; omega))
            clear HDONE HBAD HB hm hg hb
            go_wp2
            go_ret2
            exact ⟨by rw [HR.out]; rfl, hk⟩
          · have hd := Lib.decFrom_take s.data.toList j 0 m c (c.toNat - 48) hm.out (by rw [← hg, List.getElem?_eq_getElem (by rw [HZ.out]; exact hlt)]; rfl) (digitB_val (by simp [digitB]; omega))
            have HD := Lib.hid hd
            have hb2 := HB.out _ _ hd
            have hw0 : IntKind.u8.wrap ((c.toNat : Int) - 48) = (c.toNat : Int) - 48 := IntWalk.u8_in _ (by omega)
            have hw1 : IntKind.i64.wrap (10 * (m : Int)) = 10 * (m : Int) := IntWalk.i64_in _ (by omega)
            have hw2 : IntKind.i64.wrap (10 * (m : Int) + ((c.toNat : Int) - 48)) = 10 * (m : Int) + ((c.toNat : Int) - 48) := IntWalk.i64_in _ (by omega)
            have hw3 : IntKind.i64.wrap ((c.toNat : Int) - 48) = (c.toNat : Int) - 48 := IntWalk.i64_in _ (by omega)
            clear HDONE HBAD HB hm hg hb hd
            go_wp2
            exact ⟨⟨j + 1, m * 10 + (c.toNat - 48), by omega, by go_num, by go_num, HD, hk⟩, by simp [intOf]; omega⟩
      · obtain rfl : j = s.size := by omega
        have hR := HDONE.out m (by rw [← HTA.out, HZ.out]; exact hm.out)
        have HR := Lib.hid hR
        clear HDONE HBAD HB hm hR
        go_wp2
        go_ret2
        exact ⟨by rw [HR.out]; rfl, hk⟩
end Go.Proofs.YtobofhiakgohfaaGreatDoor

namespace Go.Proofs.YtobofhiakgohfaaGreatDoor
open Go.RowKit

theorem lit_get (n : Nat) (h : n < (ByteArray.mk #[48, 49, 50, 51, 52, 53, 54, 55, 56, 57, 65, 66, 67, 68, 69, 70]).size) : (ByteArray.mk #[48, 49, 50, 51, 52, 53, 54, 55, 56, 57, 65, 66, 67, 68, 69, 70])[n] = hexd n := by
  have key : ∀ m : Fin 16, (ByteArray.mk #[48, 49, 50, 51, 52, 53, 54, 55, 56, 57, 65, 66, 67, 68, 69, 70])[m.val]'m.isLt = hexd m.val := by decide
  exact key ⟨n, h⟩
theorem and15 (c : UInt8) : bits .and .u8 (c.toNat : Int) 15 = ((c.toNat % 16 : Nat) : Int) := by
  have h : ∀ n : Fin 256, bits .and .u8 (n.val : Int) 15 = ((n.val % 16 : Nat) : Int) := by decide +kernel
  exact h ⟨c.toNat, c.toNat_lt⟩

set_option maxRecDepth 100000 in
set_option maxHeartbeats 2000000 in
theorem digits_any (A : Option Addr) (cp : Nat) (bs : List UInt8) (w : World) (hr : Reads w w.heap.size 1 A bs.length (bvs bs)) (hl : bs.length ≤ 35184372088832) : Calls Tryz.prog 91 #[.slice A bs.length cp] w fun e w' => e = .returned (.string ⟨(digL bs).toArray⟩) ∧ K0 w w' := by
  go_enter Tryz.func91, Tryz.ntmps91
  go_wp2
  go_loopw [8] (fun i wr => ∃ q : Nat, q ≤ bs.length ∧ i = .int .i64 (q : Int) ∧ BdV wr w.heap.size w.heap.size (digL (bs.take q)) ∧ Below w.heap.size w wr)
    (fun i wr => bs.length - (intOf i).toNat)
  case atStart => exact ⟨0, by omega, rfl, bd_new w _ (Nat.le_refl _), (Below.refl _ _).alloc (Nat.le_refl _) _⟩
  case round =>
    obtain ⟨q, hq, rfl, hbd, hk⟩ := hrel
    by_cases hlt : q < bs.length
    · obtain ⟨ad, u, rfl, hbl, hu, hcell⟩ := (hr.below hk).at_ hlt
      rw [bvs_get hlt] at hu
      cases hu
      unfold bv at hcell
      have hd : digL (bs.take (q + 1)) = digL (bs.take q) ++ [hexd (bs[q].toNat / 16), hexd (bs[q].toNat % 16)] := by
        rw [List.take_add_one, List.getElem?_eq_getElem hlt, digL_append]; rfl
      have hln : (digL (bs.take q)).length = 2 * q := by rw [digL_length, List.length_take]; omega
      have HD := Lib.hid hd
      have HLN := Lib.hid hln
      clear hd hln
      generalize bs[q] = c at hcell HD
      have hcl := c.toNat_lt
      have hi16 : c.toNat / 16 < 16 := by omega
      have lo16 : c.toNat % 16 < 16 := by omega
      obtain ⟨hi, hhi⟩ : ∃ hi, hi = c.toNat / 16 := ⟨_, rfl⟩
      obtain ⟨lo, hlo⟩ : ∃ lo, lo = c.toNat % 16 := ⟨_, rfl⟩
      rw [← hhi] at HD hi16
      rw [← hlo] at HD lo16
      have hsh : (c.toNat : Int) / 16 = (hi : Int) := by omega
      have HHI := Lib.hid hhi
      have HLO := Lib.hid hlo
      clear hhi hlo
      have hand : bits .and .u8 (c.toNat : Int) 15 = (lo : Int) := by rw [and15, HLO.out]
      go_wp2_with fail
      refine (writeByte_any _ _ _ _ _ hbd (by rw [HLN.out]; omega)).mono ?_
      rintro e w2 ⟨rfl, hbd2, hk2⟩
      rw [lit_get] at hbd2
      go_wp2_with fail
      refine (writeByte_any _ _ _ _ _ hbd2 (by rw [List.length_append, HLN.out, List.length_singleton]; omega)).mono ?_
      rintro e w3 ⟨rfl, hbd3, hk3⟩
      rw [lit_get, List.append_assoc] at hbd3
      go_wp2
      exact ⟨⟨q + 1, by omega, by go_num, by rw [HD.out]; exact hbd3, (hk.trans hk2).trans hk3⟩, by simp [intOf]; omega⟩
    · obtain rfl : q = bs.length := by omega
      rw [List.take_length] at hbd
      go_wp2_with fail
      refine (Tryz.Builder_String_any _ _ _ _ hbd hk.size).mono ?_
      rintro e w2 ⟨rfl, hk2⟩
      go_wp2
      go_ret
      exact ⟨rfl, Kp.of_below (hk.trans hk2)⟩
end Go.Proofs.YtobofhiakgohfaaGreatDoor

namespace Go.Proofs.YtobofhiakgohfaaGreatDoor
open Go.RowKit

theorem ba_ext {a b : ByteArray} (h : a.data.toList = b.data.toList) : a = b := by
  cases a; cases b
  rename_i a b
  have : a = b := Array.ext' h
  rw [this]

theorem reads_new (w : World) (t : TypeId) (cs : Array Value) (n size : Nat) (h : cs.size = n * size) : Reads (w.alloc (.cells cs t)) (w.heap.size + 1) size (some ⟨w.heap.size, 0, none⟩) n cs.toList :=
  ⟨by simpa using h, fun _ => ⟨_, rfl, by simp, World.news_of_block (cs := cs) (t := t) (fr := (0, 0)) (heap_alloc_new _ _)⟩⟩

end Go.Proofs.YtobofhiakgohfaaGreatDoor
