/- token: Number, and the reference's. the reference's Number. token: Hex, and the reference's. -/
import Derived.Test.YtobofhiakgohfaaDoorTA
import Derived.Test.YtobofhiakgohfaaDoorPB
set_option linter.unusedVariables false
set_option linter.unusedSimpArgs false
namespace Go.Proofs.YtobofhiakgohfaaDoor
open Go.RowKit

theorem k0_bytes (w : World) (e : TypeId) (s : ByteArray) : K0 w (Lib.bytesWorld w e s) :=
  Kp.of_below ⟨rfl, rfl, rfl, by rw [Lib.bytesWorld_size]; omega, fun k hk => Lib.bytesWorld_at_old w e s k (by omega)⟩

def tens : List UInt8 := [48, 49, 50, 51, 52, 53, 54, 55, 56, 57]
theorem tens_contains (c : UInt8) : tens.contains c = digitB c := by
  have h : ∀ n : Fin 256, tens.contains (UInt8.ofNat n.val) = digitB (UInt8.ofNat n.val) := by decide +kernel
  have := h ⟨c.toNat, c.toNat_lt⟩
  simpa using this
theorem trimS_nil (l : List UInt8) : Lib.trimS l tens = [] ↔ l.all digitB = true := by
  have hf : (fun x => tens.contains x) = digitB := by funext x; exact tens_contains x
  unfold Lib.trimS Lib.trimLeftS Lib.trimRightS
  rw [dropWhile_nil, hf]
  constructor
  · intro h
    by_cases hr : l.reverse.dropWhile digitB = []
    · have := (dropWhile_nil _ _).1 hr
      simpa using this
    · obtain ⟨c, t, hct⟩ : ∃ c t, l.reverse.dropWhile digitB = c :: t := by
        cases h : l.reverse.dropWhile digitB with
        | nil => exact absurd h hr
        | cons c t => exact ⟨c, t, rfl⟩
      have h1 := List.head_dropWhile_not digitB (l := l.reverse) (by rw [hct]; simp)
      simp only [hct] at h h1
      simp at h h1
      rw [h1] at h
      simp at h
  · intro h
    have : l.reverse.dropWhile digitB = [] := (dropWhile_nil _ _).2 (by simpa using h)
    rw [this]; rfl
theorem trimTen (s : ByteArray) (w : World) (hs : s.size ≤ 140737488355328) : Calls Tryd.prog 60 #[.string s, .string ⟨#[48, 49, 50, 51, 52, 53, 54, 55, 56, 57]⟩] w fun e w' => e = .returned (.string ⟨(Lib.trimS s.data.toList tens).toArray⟩) ∧ Below w.heap.size w w' :=
  Any.strings_Trim_laid Tryd.lays160 (by kernel_rfl) s _ w (by omega) (by decide) (ascii_of_all (by decide))

/-- What Number answers. -/
def NumPost (l : List UInt8) (w : World) (e : Ending) (w' : World) : Prop := e = .returned (.tuple #[.int .i64 (((numR l).getD 0 : Nat) : Int), .bool (numR l).isSome]) ∧ K0 w w'
theorem numR_long {l : List UInt8} (h : 9 < l.length) : numR l = none := by unfold numR; rw [if_neg (by omega)]
theorem numR_not {l : List UInt8} (h : l.all digitB = false) : numR l = none := by unfold numR; rw [if_neg (by simp [h])]
theorem numR_lead {l : List UInt8} (h : l.head? = some 48) (h1 : l.length ≠ 1) : numR l = none := by unfold numR; rw [if_neg]; rintro ⟨_, _, h2 | h2⟩; exact h1 h2; exact h2 h
theorem numR_some {l : List UInt8} {n : Nat} (h9 : l.length ≤ 9) (ha : l.all digitB = true) (hd : l.length = 1 ∨ l.head? ≠ some 48) (hn : Lib.decNat l = some n) : numR l = some n := by unfold numR; rw [if_pos ⟨h9, ha, hd⟩, hn]

set_option maxRecDepth 100000 in
set_option maxHeartbeats 1000000 in
/-- Number, at a word that is not empty. -/
theorem number_any (s : ByteArray) (w : World) (hs : s.size ≤ 140737488355328) (h0 : s.data.toList ≠ []) : Calls Tryd.prog 28 #[.string s] w (NumPost s.data.toList w) := by
  have hz : s.data.toList.length = s.size := by simp
  by_cases h9 : 9 < s.size
  · have hR := Lib.hid (numR_long (l := s.data.toList) (by omega))
    clear h0 hz
    go_enter Tryd.func28, Tryd.ntmps28
    go_wp2
    go_ret2
    exact ⟨by rw [hR.out]; rfl, Kp.refl _ _⟩
  · have HT := Lib.hid (fun W => trimTen s W hs)
    by_cases ha : s.data.toList.all digitB = true
    · have hnil : Lib.trimS s.data.toList tens = [] := (trimS_nil _).2 ha
      rw [hnil] at HT
      obtain ⟨n, hn, hat⟩ := atoi_all h0 ha
      have HA := Lib.hid (fun W => Tryd.strconv_Atoi s n (by omega) hat W)
      obtain ⟨c, t, hct⟩ : ∃ c t, s.data.toList = c :: t := by
        cases h : s.data.toList with
        | nil => exact absurd h h0
        | cons a t => exact ⟨a, t, rfl⟩
      have hpos : 0 < s.size := by rw [← hz, hct]; simp
      have hc0 : s[0] = c := by
        have : s.data.toList[0]? = some c := by rw [hct]; rfl
        rw [List.getElem?_eq_getElem (by omega)] at this
        injection this
      have hsl : s.toList = s.data.toList := ByteArray.toList_eq s
      by_cases h1 : s.data.toList = [48]
      · have e1 : (s.toList == [48]) = true := by rw [hsl, h1]; decide
        have HR := Lib.hid (numR_some (by omega) ha (.inl (by rw [h1]; rfl)) hn)
        clear hn hat hct hc0 hsl h1 ha hnil h0 hz
        go_enter Tryd.func28, Tryd.ntmps28
        go_wp2_with (first
          | (go_at_call 60; refine (HT.out _).mono ?_; rintro e w1 ⟨rfl, hb⟩)
          | (go_at_call 61; refine (HA.out _).mono ?_; rintro e w2 ⟨rfl, tt, rfl⟩))
        go_ret2
        exact ⟨by rw [HR.out]; rfl, (Kp.of_below hb).trans (k0_bytes _ _ _)⟩
      · have e1 : (s.toList == [48]) = false := by rw [hsl]; exact beq_eq_false_iff_ne.2 h1
        by_cases h48 : c = 48
        · subst h48
          have HR := Lib.hid (numR_lead (l := s.data.toList) (by rw [hct]; rfl) (fun hl => h1 (by
            rw [hct] at hl ⊢
            have : t = [] := List.eq_nil_of_length_eq_zero (by simpa using hl)
            rw [this])))
          clear hn hat hct hsl h1 ha hnil h0 hz
          go_enter Tryd.func28, Tryd.ntmps28
          go_wp2_with (first
            | (go_at_call 60; refine (HT.out _).mono ?_; rintro e w1 ⟨rfl, hb⟩)
            | (go_at_call 61; refine (HA.out _).mono ?_; rintro e w2 ⟨rfl, tt, rfl⟩))
          go_ret2
          exact ⟨by rw [HR.out]; rfl, (Kp.of_below hb).trans (k0_bytes _ _ _)⟩
        · have HR := Lib.hid (numR_some (by omega) ha (.inr (by rw [hct]; simpa using h48)) hn)
          have hc1 : ((s[0].toNat : Int) == 48) = false := by
            rw [hc0, beq_eq_false_iff_ne]; intro e; exact h48 (UInt8.toNat_inj.1 (by simp; omega))
          clear hn hat hct hsl h1 ha hnil h0 hz hc0
          go_enter Tryd.func28, Tryd.ntmps28
          go_wp2_with (first
            | (go_at_call 60; refine (HT.out _).mono ?_; rintro e w1 ⟨rfl, hb⟩)
            | (go_at_call 61; refine (HA.out _).mono ?_; rintro e w2 ⟨rfl, tt, rfl⟩))
          go_ret2
          exact ⟨by rw [HR.out]; rfl, (Kp.of_below hb).trans (k0_bytes _ _ _)⟩
    · have ha' : s.data.toList.all digitB = false := by simpa using ha
      have hne : Lib.trimS s.data.toList tens ≠ [] := fun h => ha ((trimS_nil _).1 h)
      have HR := Lib.hid (numR_not ha')
      generalize Lib.trimS s.data.toList tens = r at *
      have e6 : (⟨r.toArray⟩ : ByteArray).toList.isEmpty = false := by
        rw [ByteArray.toList_eq]
        cases r with
        | nil => exact absurd rfl hne
        | cons a t => rfl
      have e7 : r.isEmpty = false := by
        cases r with
        | nil => exact absurd rfl hne
        | cons a t => rfl
      clear ha ha' hne h0 hz
      go_enter Tryd.func28, Tryd.ntmps28
      go_wp2_with (go_at_call 60; refine (HT.out _).mono ?_; rintro e w1 ⟨rfl, hb⟩)
      go_ret2
      exact ⟨by rw [HR.out]; rfl, Kp.of_below hb⟩
end Go.Proofs.YtobofhiakgohfaaDoor

namespace Go.Proofs.YtobofhiakgohfaaDoor
open Go.RowKit

theorem numR_dec {l : List UInt8} {n : Nat} (h9 : l.length ≤ 9) (h1 : 1 ≤ l.length) (hd : l.length = 1 ∨ l.head? ≠ some 48) (h : Lib.decFrom 0 l = some n) : numR l = some n := by
  have ha : l.all digitB = true := by
    cases ha : l.all digitB
    · rw [decFrom_none l 0 ha] at h; cases h
    · rfl
  refine numR_some h9 ha hd ?_
  unfold Lib.decNat
  cases l with
  | nil => simp at h1
  | cons c t => exact h
theorem dec_bound {l : List UInt8} {j m : Nat} (h9 : l.length ≤ 9) (h : Lib.decFrom 0 (l.take j) = some m) : m < 1000000000 := by
  have h1 := Lib.decFrom_lt _ 0 m h
  have h2 : (l.take j).length ≤ 9 := by rw [List.length_take]; omega
  have h3 := Nat.pow_le_pow_right (n := 10) (by decide) h2
  have e : (10 : Nat) ^ 9 = 1000000000 := by decide
  omega
theorem all_not {l : List UInt8} {j : Nat} (hj : j < l.length) (h : digitB (l[j]?.getD 0) = false) : l.all digitB = false := by
  cases ha : l.all digitB
  · rfl
  · rw [List.all_eq_true] at ha
    rw [List.getElem?_eq_getElem hj] at h
    have := ha _ (List.getElem_mem hj)
    simp only [Option.getD_some] at h
    rw [h] at this; cases this

set_option maxRecDepth 100000 in
set_option maxHeartbeats 1000000 in
theorem rnumber_any (s : ByteArray) (w : World) (hs : s.size ≤ 140737488355328) : Calls Tryd.prog 29 #[.string s] w (NumPost s.data.toList w) := by
  have hz : s.data.toList.length = s.size := by simp
  by_cases h1 : s.size < 1
  · have hR : numR s.data.toList = none := by
      have : s.data.toList = [] := List.eq_nil_of_length_eq_zero (by omega)
      rw [this]; rfl
    have HR := Lib.hid hR
    clear hR hz
    go_enter Tryd.func29, Tryd.ntmps29
    go_wp2
    go_ret2
    exact ⟨by rw [HR.out]; rfl, Kp.refl _ _⟩
  by_cases h9 : 9 < s.size
  · have HR := Lib.hid (numR_long (l := s.data.toList) (by omega))
    clear hz
    go_enter Tryd.func29, Tryd.ntmps29
    go_wp2
    go_ret2
    exact ⟨by rw [HR.out]; rfl, Kp.refl _ _⟩
  have hpos : 0 < s.size := by omega
  obtain ⟨c0, t0, hct⟩ : ∃ c t, s.data.toList = c :: t := by
    cases h : s.data.toList with
    | nil => rw [h] at hz; simp at hz; omega
    | cons a t => exact ⟨a, t, rfl⟩
  have hc0 : s[0] = c0 := by
    have : s.data.toList[0]? = some c0 := by rw [hct]; rfl
    rw [List.getElem?_eq_getElem (by omega)] at this
    injection this
  by_cases hlead : c0 = 48 ∧ 1 < s.size
  · obtain ⟨rfl, h2⟩ := hlead
    have HR := Lib.hid (numR_lead (l := s.data.toList) (by rw [hct]; rfl) (by omega))
    clear hz hct
    go_enter Tryd.func29, Tryd.ntmps29
    go_wp2
    go_ret2
    exact ⟨by rw [HR.out]; rfl, Kp.refl _ _⟩
  have hld : s.data.toList.length = 1 ∨ s.data.toList.head? ≠ some 48 := by
    by_cases h : c0 = 48
    · exact .inl (by have : ¬ 1 < s.size := fun h2 => hlead ⟨h, h2⟩; omega)
    · exact .inr (by rw [hct]; simpa using h)
  have HDONE := Lib.hid (fun n => numR_dec (l := s.data.toList) (n := n) (by omega) (by omega) hld)
  have HBAD := Lib.hid (fun j hj h => numR_not (all_not (l := s.data.toList) (j := j) hj h))
  have HB := Lib.hid (fun j m => dec_bound (l := s.data.toList) (j := j) (m := m) (by omega))
  have HZ := Lib.hid hz
  have HTA := Lib.hid (List.take_length (l := s.data.toList))
  clear hld hct hz
  have hrun : (c0.toNat : Int) = 48 → ¬ (1 : Int) < s.size := by
    intro e h
    exact hlead ⟨UInt8.toNat_inj.1 (by simp; omega), by omega⟩
  clear hlead
  by_cases hc48 : (c0.toNat : Int) = 48
  all_goals
    try have hsz1 := hrun hc48
    clear hrun
    go_enter Tryd.func29, Tryd.ntmps29
    go_wp2
    go_loopw [4, 5] (fun n i wr => ∃ (j m : Nat), j ≤ s.size ∧ i = .int .i64 (j : Int) ∧ n = .int .i64 (m : Int) ∧ Hid (Lib.decFrom 0 (s.data.toList.take j) = some m) ∧ K0 w wr)
      (fun n i wr => s.size - (intOf i).toNat)
    case atStart => exact ⟨0, 0, Nat.zero_le _, rfl, rfl, Lib.hid (by rw [List.take_zero]; rfl), Kp.refl _ _⟩
    case round =>
      obtain ⟨j, m, hj, rfl, rfl, hm, hk⟩ := hrel
      by_cases hlt : j < s.size
      · have hg := str_get hlt
        obtain ⟨c, hc⟩ : ∃ c, c = s[j] := ⟨_, rfl⟩
        rw [← hc] at hg
        have hcv : s[j] = c := hc.symm
        clear hc
        have hb := HB.out j m hm.out
        have hcl := c.toNat_lt
        by_cases h48 : c.toNat < 48
        · have HR := Lib.hid (HBAD.out j (by rw [HZ.out]; exact hlt) (by rw [hg]; simp [digitB]; omega))
          clear HDONE HBAD HB hm hg hb
          go_wp2
          go_ret2
          exact ⟨by rw [HR.out]; rfl, hk⟩
        · by_cases h57 : 57 < c.toNat
          · have HR := Lib.hid (HBAD.out j (by rw [HZ.out]; exact hlt) (by rw [hg]; simp [digitB]; omega))
            clear HDONE HBAD HB hm hg hb
            go_wp2
            go_ret2
            exact ⟨by rw [HR.out]; rfl, hk⟩
          · have hd := Lib.decFrom_take s.data.toList j 0 m c (c.toNat - 48) hm.out (by rw [← hg, List.getElem?_eq_getElem (by rw [HZ.out]; exact hlt)]; rfl) (digitB_val (by simp [digitB]; omega))
            have HD := Lib.hid hd
            have hb2 := HB.out _ _ hd
            have hw0 : IntKind.u8.wrap ((c.toNat : Int) - 48) = (c.toNat : Int) - 48 := IntWalk.u8_in _ (by omega)
            have hw1 : IntKind.i64.wrap (10 * (m : Int)) = 10 * (m : Int) := IntWalk.i64_in _ (by omega)
            have hw2 : IntKind.i64.wrap (10 * (m : Int) + ((c.toNat : Int) - 48)) = 10 * (m : Int) + ((c.toNat : Int) - 48) := IntWalk.i64_in _ (by omega)
            have hw3 : IntKind.i64.wrap ((c.toNat : Int) - 48) = (c.toNat : Int) - 48 := IntWalk.i64_in _ (by omega)
            clear HDONE HBAD HB hm hg hb hd
            go_wp2
            exact ⟨⟨j + 1, m * 10 + (c.toNat - 48), by omega, by go_num, by go_num, HD, hk⟩, by simp [intOf]; omega⟩
      · obtain rfl : j = s.size := by omega
        have hR := HDONE.out m (by rw [← HTA.out, HZ.out]; exact hm.out)
        have HR := Lib.hid hR
        clear HDONE HBAD HB hm hR
        go_wp2
        go_ret2
        exact ⟨by rw [HR.out]; rfl, hk⟩
end Go.Proofs.YtobofhiakgohfaaDoor

namespace Go.Proofs.YtobofhiakgohfaaDoor
open Go.RowKit

theorem pairI_ext (l : List UInt8) (i : Nat) (h : i + 2 ≤ l.length) : pairI ((l.drop i).take 2) 0 = pairI l i := by
  unfold pairI
  rw [if_neg (by simp; omega), if_neg (by omega)]
  simp
def strLen : Value → Nat
  | .string x => x.size
  | _ => 0
/-- What Hex answers. -/
def HexPost (l : List UInt8) (w : World) (e : Ending) (w' : World) : Prop :=
  ∃ v, e = .returned (.tuple #[v, .bool (hexR l).isSome]) ∧ w'.ownsRow w.heap.size 5 1 v ((hexR l).getD []).length (bvs ((hexR l).getD [])) ∧ K0 w w'

set_option maxRecDepth 100000 in
set_option maxHeartbeats 2000000 in
theorem hex_any (s : ByteArray) (w : World) (hs : s.size ≤ 140737488355328) : Calls Tryd.prog 30 #[.string s] w (HexPost s.data.toList w) := by
  obtain ⟨i0, hi, hz0, hz1, hz2⟩ := u8_info'
  have hz : s.data.toList.length = s.size := by simp
  have HZ := Lib.hid hz
  clear hz
  go_enter Tryd.func30, Tryd.ntmps30
  go_wp2
  go_loopw [0, 4] (fun t v wr => ∃ (x : ByteArray) (q : Nat) (out : List UInt8), t = .string x ∧ q + x.size = s.size ∧ Hid (x.data.toList = s.data.toList.drop q) ∧ out.length ≤ q ∧ Hid (hexR s.data.toList = (hexR (s.data.toList.drop q)).map (out ++ ·)) ∧ wr.ownsRow w.heap.size 5 1 v out.length (bvs out) ∧ K0 w wr)
    (fun t v wr => strLen t)
  case atStart =>
    refine ⟨s, 0, [], rfl, by omega, Lib.hid (by rw [List.drop_zero]), by simp, Lib.hid ?_, World.ownsRow_nil _ _ _ _, Kp.refl _ _⟩
    rw [List.drop_zero]
    cases hexR s.data.toList <;> simp
  case round =>
    obtain ⟨x, q, out, rfl, hxs, hxd, hout, hx, hown, hk⟩ := hrel
    have hsw := hk.size
    by_cases hlt : 1 < x.size
    · have he : (x.extract 0 2).data.toList = (s.data.toList.drop q).take 2 := by rw [extract_list, hxd.out, List.drop_zero]
      have he2 : (x.extract 2 x.size).data.toList = s.data.toList.drop (q + 2) := by
        rw [extract_list, hxd.out, List.drop_drop]
        refine List.take_of_length_le ?_
        rw [List.length_drop, HZ.out]
        omega
      have hes : (x.extract 0 2).size = 2 := by rw [ByteArray.size_extract]; omega
      have hes2 : (x.extract 2 x.size).size = x.size - 2 := by rw [ByteArray.size_extract]; omega
      have HE2 := Lib.hid he2
      have HP := Lib.hid (fun W => pair_any (x.extract 0 2) W (by omega))
      rw [he] at HP
      have hpe := pairI_ext s.data.toList q (by rw [HZ.out]; omega)
      have hl2 : ((s.data.toList.drop q).take 2).length = 2 := by rw [List.length_take, List.length_drop, HZ.out]; omega
      have HPE := Lib.hid hpe
      have HL2 := Lib.hid hl2
      clear he he2 hpe hl2 hxd
      go_wp2_with fail
      refine (HP.out _).mono ?_
      rintro e w2 ⟨v2, ok, rfl, ⟨ho, hv, hv0, hv1⟩, hk2⟩
      rw [HL2.out, HPE.out] at ho
      rw [HPE.out] at hv
      obtain ⟨c, rfl⟩ : ∃ c : UInt8, v2 = (c.toNat : Int) := ⟨UInt8.ofNat v2.toNat, (ofNat_pair hv0 hv1).symm⟩
      have hown2 := own_kp hown hk2 (fun g _ h => h)
      have hk02 := hk.trans hk2
      have hs2 := hk02.size
      cases ok with
      | false =>
        have hp := of_decide_eq_false ho.symm
        have hR : hexR s.data.toList = none := by
          rw [hx.out, hexR_bad _ _ (by rw [HZ.out]; omega) (by omega)]; rfl
        have HR := Lib.hid hR
        clear ho hv hp hR hx HP HPE HL2
        go_wp2
        go_ret2
        exact ⟨_, by rw [HR.out]; rfl, by rw [HR.out]; exact World.ownsRow_nil _ _ _ _, hk02⟩
      | true =>
        have hp := of_decide_eq_true ho.symm
        have hv' := hv rfl
        have hG := (hexR_good s.data.toList q hp.2).1
        rw [← hv', Int.toNat_natCast, UInt8.ofNat_toNat] at hG
        have hN : hexR s.data.toList = (hexR (s.data.toList.drop (q + 2))).map ((out ++ [c]) ++ ·) := by
          rw [hx.out, hG]
          cases hexR (s.data.toList.drop (q + 2)) <;> simp
        have HN := Lib.hid hN
        have hwc : IntKind.u8.wrap (c.toNat : Int) = (c.toNat : Int) := IntWalk.u8_in _ (by have := c.toNat_lt; omega)
        obtain ⟨A1, cc1, rfl, _, _⟩ := own_form hown2
        clear ho hv hp hv' hG hN hx HP HPE HL2
        go_wp2_with (at_builtin; refine wpList_append_lies _ rfl (.tmp 20) (.tmp 23) _ rfl w.heap.size 5 i0 _ 1 1 Tryd.underlying44 hi hz0 hz1 hz2 rfl (by omega) (.slice A1 out.length cc1) out.length (bvs out) rfl (by exact hown2.alloc _) ⟨w2.heap.size, 0, none⟩ 1 1 [.int .u8 (c.toNat : Int)] rfl rfl (World.news_of_block (cs := #[.int .u8 (c.toNat : Int)]) (t := 5) (fr := (0, 0)) (heap_alloc_new _ _)) (by simp [Value.oneCell']) (by omega) (by simp only [maxLen]; omega) (by omega) (by simp; omega) (w2.heap.size + 1) (by simp) ?_; intro g7 cap7 w7 hown7 hg7 hat7 hlt7)
        refine ⟨⟨_, q + 2, out ++ [c], rfl, by omega, HE2, by simp; omega, HN, ?_, ?_⟩, by simp only [strLen]; omega⟩
        · rw [bvs_append, List.length_append, List.length_singleton]
          exact hown7
        · exact (hk02.alloc _).grown hg7 (fun g hg => .inl ((hown2.lt g hg).1))
    · by_cases h0 : x.size = 0
      · have e4 : x.toList.isEmpty = true := by
          rw [ByteArray.toList_eq]
          have : x.data.toList = [] := List.eq_nil_of_length_eq_zero (by simpa using h0)
          rw [this]; rfl
        have hR : hexR s.data.toList = some out := by
          rw [hx.out, hexR_end _ _ (by rw [HZ.out]; omega)]; simp
        have HR := Lib.hid hR
        clear hR hx hxd
        go_wp2
        go_ret2
        exact ⟨_, by rw [HR.out]; rfl, by rw [HR.out]; exact hown, hk⟩
      · have e4 : x.toList.isEmpty = false := by
          rw [ByteArray.toList_eq]
          cases h : x.data.toList with
          | nil => exact absurd (by have := congrArg List.length h; simpa using this) h0
          | cons a t => rfl
        have hR : hexR s.data.toList = none := by
          rw [hx.out, hexR_bad _ _ (by rw [HZ.out]; omega) (by unfold pairI; rw [if_pos (by rw [HZ.out]; omega)]; omega)]; rfl
        have HR := Lib.hid hR
        clear hR hx hxd
        go_wp2
        go_ret2
        exact ⟨_, by rw [HR.out]; rfl, by rw [HR.out]; exact World.ownsRow_nil _ _ _ _, hk⟩

set_option maxRecDepth 100000 in
set_option maxHeartbeats 2000000 in
theorem rhex_any (s : ByteArray) (w : World) (hs : s.size ≤ 140737488355328) : Calls Tryd.prog 31 #[.string s] w (HexPost s.data.toList w) := by
  obtain ⟨i0, hi, hz0, hz1, hz2⟩ := u8_info'
  have hz : s.data.toList.length = s.size := by simp
  have HZ := Lib.hid hz
  clear hz
  go_enter Tryd.func31, Tryd.ntmps31
  go_wp2
  go_loopw [4, 5] (fun v i wr => ∃ (q : Nat) (out : List UInt8), i = .int .i64 (q : Int) ∧ q ≤ s.size ∧ out.length ≤ q ∧ Hid (hexR s.data.toList = (hexR (s.data.toList.drop q)).map (out ++ ·)) ∧ wr.ownsRow w.heap.size 5 1 v out.length (bvs out) ∧ K0 w wr)
    (fun v i wr => s.size - (intOf i).toNat)
  case atStart =>
    refine ⟨0, [], rfl, by omega, by simp, Lib.hid ?_, World.ownsRow_nil _ _ _ _, Kp.refl _ _⟩
    rw [List.drop_zero]
    cases hexR s.data.toList <;> simp
  case round =>
    obtain ⟨q, out, rfl, hq, hout, hx, hown, hk⟩ := hrel
    have hsw := hk.size
    by_cases hlt : q < s.size
    · have HP := Lib.hid (fun W => rpair_any s q W hs (by omega))
      go_wp2_with fail
      refine (HP.out _).mono ?_
      rintro e w2 ⟨rfl, hk2⟩
      have hown2 := own_kp hown hk2 (fun g _ h => h)
      have hk02 := hk.trans hk2
      have hs2 := hk02.size
      have hlt2 := pairI_lt s.data.toList q
      by_cases hp : pairI s.data.toList q < 0
      · have hR : hexR s.data.toList = none := by
          rw [hx.out, hexR_bad _ _ (by rw [HZ.out]; omega) hp]; rfl
        have HR := Lib.hid hR
        clear hR hx HP
        go_wp2
        go_ret2
        exact ⟨_, by rw [HR.out]; rfl, by rw [HR.out]; exact World.ownsRow_nil _ _ _ _, hk02⟩
      · obtain ⟨hG, hq2⟩ := hexR_good s.data.toList q (by omega)
        rw [HZ.out] at hq2
        obtain ⟨c, hc⟩ : ∃ c : UInt8, pairI s.data.toList q = (c.toNat : Int) := ⟨UInt8.ofNat (pairI s.data.toList q).toNat, (ofNat_pair (by omega) hlt2).symm⟩
        rw [hc] at hp hlt2 hG ⊢
        rw [Int.toNat_natCast, UInt8.ofNat_toNat] at hG
        have hN : hexR s.data.toList = (hexR (s.data.toList.drop (q + 2))).map ((out ++ [c]) ++ ·) := by
          rw [hx.out, hG]
          cases hexR (s.data.toList.drop (q + 2)) <;> simp
        have HN := Lib.hid hN
        have hwc : IntKind.u8.wrap (c.toNat : Int) = (c.toNat : Int) := IntWalk.u8_in _ (by have := c.toNat_lt; omega)
        obtain ⟨A1, cc1, rfl, _, _⟩ := own_form hown2
        clear hG hN hx HP hc
        go_wp2_with (at_builtin; refine wpList_append_lies _ rfl (.tmp 18) (.tmp 21) _ rfl w.heap.size 5 i0 _ 1 1 Tryd.underlying44 hi hz0 hz1 hz2 rfl (by omega) (.slice A1 out.length cc1) out.length (bvs out) rfl (by exact hown2.alloc _) ⟨w2.heap.size, 0, none⟩ 1 1 [.int .u8 (c.toNat : Int)] rfl rfl (World.news_of_block (cs := #[.int .u8 (c.toNat : Int)]) (t := 5) (fr := (0, 0)) (heap_alloc_new _ _)) (by simp [Value.oneCell']) (by omega) (by simp only [maxLen]; omega) (by omega) (by simp; omega) (w2.heap.size + 1) (by simp) ?_; intro g7 cap7 w7 hown7 hg7 hat7 hlt7)
        refine ⟨⟨q + 2, out ++ [c], by go_num, by omega, by simp; omega, HN, ?_, ?_⟩, by simp [intOf]; omega⟩
        · rw [bvs_append, List.length_append, List.length_singleton]
          exact hown7
        · exact (hk02.alloc _).grown hg7 (fun g hg => .inl ((hown2.lt g hg).1))
    · obtain rfl : q = s.size := by omega
      have hR : hexR s.data.toList = some out := by
        rw [hx.out, hexR_end _ _ (by rw [HZ.out]; omega)]; simp
      have HR := Lib.hid hR
      clear hR hx
      go_wp2
      go_ret2
      exact ⟨_, by rw [HR.out]; rfl, by rw [HR.out]; exact hown, hk⟩
end Go.Proofs.YtobofhiakgohfaaDoor
