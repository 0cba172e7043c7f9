/- Lists of tokens; the reference's Same. token: the iterator of All. token.All; the law's listed: all tokens of a text in a list. A region that draws its order and only reads, walked once, in a round of a loop over a function (where no operation of it is a defer). -/
import Derived.Test.YtobofhiakgohfaaGreatDoorZM
import Derived.Test.YtobofhiakgohfaaGreatDoorShelf
import Derived.Test.YtobofhiakgohfaaGreatDoorZA
import Derived.Test.YtobofhiakgohfaaGreatDoorZB
import Derived.RangeFuncNested
import Derived.RangeFuncBound
import Derived.RangeFuncCalls
import Derived.RangeFuncLeaves
import Derived.RangeFuncBox
import Derived.Shelf.Abstract
import Derived.Shelf.RegionOpen
import Derived.WalkKit
import Derived.OwnWalkIn
import Derived.TacticsInMore
import Derived.LoopNIn
import Derived.LoopIn
import Derived.WalkMore
import Derived.Maps.OwnIn
import Derived.Sort.QuietIn
import Derived.OrdersIn
set_option linter.unusedVariables false
set_option linter.unusedSimpArgs false
namespace Go.Proofs.YtobofhiakgohfaaGreatDoor
open Go.RowKit

theorem add_one (a : Addr) : a.add 1 = ⟨a.block, a.off + 1, none⟩ := rfl
theorem add_two (a : Addr) : a.add 2 = ⟨a.block, a.off + 2, none⟩ := rfl

/-- A token as a value: kind, text, place. -/
abbrev TV := Int × ByteArray × Int
def tcell (t : TV) : List Value := [.int .i64 t.1, .string t.2.1, .int .i64 t.2.2]
def tcells (l : List TV) : List Value := l.flatMap tcell
def tagg (t : TV) : Value := .agg #[.int .i64 t.1, .string t.2.1, .int .i64 t.2.2]
theorem tcells_length (l : List TV) : (tcells l).length = l.length * 3 := by
  induction l with
  | nil => rfl
  | cons a t ih => simp only [tcells, List.flatMap_cons, List.length_append, List.length_cons] at ih ⊢; rw [ih]; simp [tcell]; omega
theorem tcells_append (a b : List TV) : tcells (a ++ b) = tcells a ++ tcells b := by simp [tcells]
theorem tcells_get : ∀ (l : List TV) (j : Nat) (t : TV), l[j]? = some t → (tcells l)[j * 3]? = some (.int .i64 t.1) ∧ (tcells l)[j * 3 + 1]? = some (.string t.2.1) ∧ (tcells l)[j * 3 + 2]? = some (.int .i64 t.2.2)
  | [], j, t, h => by simp at h
  | a :: r, 0, t, h => by simp at h; subst h; exact ⟨rfl, rfl, rfl⟩
  | a :: r, j + 1, t, h => by
    have ih := tcells_get r j t (by simpa using h)
    have e : ∀ i, (tcells (a :: r))[i + 3]? = (tcells r)[i]? := fun i => by
      show (tcell a ++ tcells r)[i + 3]? = _
      rw [List.getElem?_append_right (by simp [tcell])]
      simp [tcell]
    rw [show (j + 1) * 3 = j * 3 + 3 by omega, show j * 3 + 3 + 1 = (j * 3 + 1) + 3 by omega, show j * 3 + 3 + 2 = (j * 3 + 2) + 3 by omega, e, e, e]
    exact ih
theorem Reads.tok {w : World} {B : Nat} {A : Option Addr} {l : List TV} (h : Reads w B 3 A l.length (tcells l)) {j : Nat} (hj : j < l.length) :
    ∃ ad, A = some ad ∧ ad.block < B ∧ w.cell? (ad.add (j * 3)) = some (.int .i64 l[j].1) ∧ w.cell? ⟨(ad.add (j * 3)).block, (ad.add (j * 3)).off + 1, none⟩ = some (.string l[j].2.1) ∧ w.cell? ⟨(ad.add (j * 3)).block, (ad.add (j * 3)).off + 2, none⟩ = some (.int .i64 l[j].2.2) := by
  obtain ⟨ad, e, hb, hc⟩ := h.2 (by omega)
  obtain ⟨h0, h1, h2⟩ := tcells_get l j _ (List.getElem?_eq_getElem hj)
  refine ⟨ad, e, hb, hc _ _ h0, ?_, ?_⟩
  · have := hc _ _ h1
    rw [← add_of_add, add_one] at this
    exact this
  · have := hc _ _ h2
    rw [← add_of_add, add_two] at this
    exact this

end Go.Proofs.YtobofhiakgohfaaGreatDoor

namespace Go.Proofs.YtobofhiakgohfaaGreatDoor
open Go.RowKit Go.Shelf
attribute [local go_sem] Oper.semAt_some

/-- The marks lie open, each in a block of its own. -/
def Open (w : World) (Ds : List Nat) : Prop := Ds.Nodup ∧ ∀ D, D ∈ Ds → w.heap[D]? = some (.deferred (some []))

theorem Open.kp {S : Nat → Prop} {w w' : World} {Ds : List Nat} (h : Open w Ds) (hk : Kp S w w') (hs : ∀ D, D ∈ Ds → ¬ S D) : Open w' Ds :=
  ⟨h.1, fun D hD => (hk.block D (Array.getElem?_eq_some_iff.1 (h.2 D hD)).1 (hs D hD)).trans (h.2 D hD)⟩

theorem ex_us {a : Act} {Fr : (Nat → Value) → Act} (e : a = Fr (fun i => a.tmps.getD i undef)) : ∃ us, a = Fr us := ⟨_, e⟩

/-- A token's text. -/
def tokTxt (s : ByteArray) (t : Tok) : ByteArray := if t.kind = 2 then ⟨#[10]⟩ else if t.kind = 3 then ⟨#[]⟩ else s.extract t.pos (t.pos + t.len)
def tv (s : ByteArray) (t : Tok) : TV := ((t.kind : Int), tokTxt s t, (t.pos : Int))
def tokEnc (s : ByteArray) (t : Tok) : Array Value := #[tagg (tv s t)]

theorem enc_line (s : ByteArray) (k : Nat) : tokEnc s ⟨2, k, 1⟩ = #[Value.agg #[.int .i64 2, .string ⟨#[10]⟩, .int .i64 (k : Int)]] := rfl
theorem enc_stop (s : ByteArray) (k : Nat) : tokEnc s ⟨3, k, 0⟩ = #[Value.agg #[.int .i64 3, .string ⟨#[]⟩, .int .i64 (k : Int)]] := rfl
theorem enc_bad (s : ByteArray) (k : Nat) : tokEnc s ⟨4, k, 1⟩ = #[Value.agg #[.int .i64 4, .string (s.extract k (k + 1)), .int .i64 (k : Int)]] := rfl
theorem enc_word (s : ByteArray) (f k : Nat) (h : f ≤ k) : tokEnc s ⟨1, f, k - f⟩ = #[Value.agg #[.int .i64 1, .string (s.extract f k), .int .i64 (f : Int)]] := by
  show #[Value.agg #[.int .i64 1, .string (s.extract f (f + (k - f))), .int .i64 (f : Int)]] = _
  rw [show f + (k - f) = k by omega]

theorem take_next {α : Type} {T R : List α} {q : Nat} {x : α} (h : T = T.take q ++ x :: R) : q < T.length ∧ T.take (q + 1) = T.take q ++ [x] ∧ T = T.take (q + 1) ++ R := by
  have hq : q < T.length := by
    rcases Nat.lt_or_ge q T.length with h1 | h1
    · exact h1
    · rw [List.take_of_length_le h1] at h
      have := congrArg List.length h
      simp at this
  have hd : T.drop q = x :: R := by
    have e : T.take q ++ T.drop q = T.take q ++ x :: R := by rw [List.take_append_drop]; exact h
    exact List.append_cancel_left e
  have ht : T.take (q + 1) = T.take q ++ [x] := by
    rw [List.take_add_one]
    have : T[q]? = some x := by
      have := congrArg (fun l : List α => l[0]?) hd
      simpa using this
    rw [this]; rfl
  exact ⟨hq, ht, by rw [ht, List.append_assoc]; exact h⟩

set_option maxRecDepth 100000 in
set_option maxHeartbeats 4000000 in
theorem all1_in (n : Nat) (hn : 1 ≤ n) (l b1 : Nat) (s : ByteArray) (hs : s.size ≤ 140737488355328) (S : Nat → Prop) (hSb : ¬ S b1) (T : List Tok) (hT : T = toks s.data.toList) (J Jx : List Tok → World → Prop)
    (hY : ∀ pre x W, J pre W → pre.length < T.length → YieldAt Fence.wide (n - 1) Tryz.prog l (tokEnc s x) W fun e W' =>
      (e = .returned (.bool true) ∧ J (pre ++ [x]) W' ∧ Kp S W W') ∨ (e = .returned (.bool false) ∧ Jx (pre ++ [x]) W'))
    (W : World) (hbW : b1 < W.heap.size) (h1 : W.cell? ⟨b1, 0, none⟩ = some (.string s)) (h0 : J [] W) :
    CallsIn Fence.wide n Tryz.prog 60 #[.func (.yield l) #[] #[], .pointer (some ⟨b1, 0, none⟩)] W fun e W' => (∃ v, e = .returned v) ∧
      ((∃ ys, ys = T ∧ J ys W') ∨ (∃ pre, (∃ q, q ≤ T.length ∧ pre = T.take q) ∧ Jx pre W')) := by
  have hz : s.data.toList.length = s.size := by simp
  have HZ := Lib.hid hz
  have HT := Lib.hid hT
  clear hz hT
  have HYY := Lib.hid hY
  clear hY
  refine callsIn_of_wp Tryz.func60 rfl trivial ?_ rfl
  simp only [Tryz.ntmps60, List.size_toArray, List.length_cons, List.length_nil, Nat.reduceAdd, Nat.reduceSub, Array.replicate_succ, Array.replicate_zero, List.push_toArray, List.append_toArray, List.nil_append, List.cons_append]
  refine wpIn_wide.2 (wp_scope_straight ((wpIn_wide (n := n)).1 ?_))
  gi_wp2
  refine wpIn_label ?_
  gi_wp2
  gi_loopw [3] (fun i wr => ∃ (q k : Nat), k ≤ s.size ∧ i = .int .i64 (k : Int) ∧ Hid (T = T.take q ++ toksR false none k (s.data.toList.drop k)) ∧ J (T.take q) wr ∧ Kp S W wr)
    (fun i _ => s.size - (intOf i).toNat)
  case atStart => exact ⟨0, 0, by omega, rfl, Lib.hid (by rw [HT.out]; rfl), by rw [List.take_zero]; exact h0, Kp.refl _ _⟩
  case round =>
    obtain ⟨q, k, hk, rfl, hTq, hJ, hB⟩ := hrel
    have hcell1 := (hB.cell (p := ⟨b1, 0, none⟩) hbW hSb).trans h1
    have hlen : ∀ R x, T = T.take q ++ x :: R → (T.take q).length < T.length := fun R x h => by
      have := (take_next h).1
      rw [List.length_take]; omega
    have HLEN := Lib.hid hlen
    clear hlen
    by_cases hlt : k < s.size
    · have hd := drop_here (l := s.data.toList) (k := k) (by rw [HZ.out]; exact hlt)
      rw [str_get hlt] at hd
      obtain ⟨c, hcv⟩ : ∃ c, s[k] = c := ⟨_, rfl⟩
      rw [hcv] at hd
      have hcl := c.toNat_lt
      have HD := Lib.hid hd
      clear hd
      by_cases c32 : c = 32
      · subst c32
        have hn : T = T.take q ++ toksR false none (k + 1) (s.data.toList.drop (k + 1)) := by
          have := hTq.out; rw [HD.out, toksR_blank _ _ _ _ (by decide)] at this; exact this
        have HN := Lib.hid hn
        clear hn hTq HD
        gi_wp2
        exact ⟨⟨q, k + 1, by omega, by go_num, HN, hJ, hB⟩, by simp [intOf]; omega⟩
      by_cases c9 : c = 9
      · subst c9
        have hn : T = T.take q ++ toksR false none (k + 1) (s.data.toList.drop (k + 1)) := by
          have := hTq.out; rw [HD.out, toksR_blank _ _ _ _ (by decide)] at this; exact this
        have HN := Lib.hid hn
        clear hn hTq HD
        gi_wp2
        exact ⟨⟨q, k + 1, by omega, by go_num, HN, hJ, hB⟩, by simp [intOf]; omega⟩
      by_cases c13 : c = 13
      · subst c13
        have hn : T = T.take q ++ toksR false none (k + 1) (s.data.toList.drop (k + 1)) := by
          have := hTq.out; rw [HD.out, toksR_blank _ _ _ _ (by decide)] at this; exact this
        have HN := Lib.hid hn
        clear hn hTq HD
        gi_wp2
        exact ⟨⟨q, k + 1, by omega, by go_num, HN, hJ, hB⟩, by simp [intOf]; omega⟩
      by_cases c35 : c = 35
      · subst c35
        have hn : T = T.take q ++ toksR true none k (s.data.toList.drop k) := by
          have := hTq.out
          rw [HD.out, toksR_hash] at this
          rw [HD.out, toksR_cm _ _ _ (by decide)]
          exact this
        have HN := Lib.hid hn
        clear hn hTq c32 c9 c13
        gi_wp2
        gi_loopw [3] (fun i wi => ∃ k' : Nat, k ≤ k' ∧ k' ≤ s.size ∧ i = .int .i64 (k' : Int) ∧ Hid (T = T.take q ++ toksR true none k' (s.data.toList.drop k')) ∧ J (T.take q) wi ∧ Kp S W wi)
          (fun i _ => s.size - (intOf i).toNat)
        case atStart => exact ⟨k, Nat.le_refl _, hk, rfl, HN, hJ, hB⟩
        case round =>
          obtain ⟨k', hk1, hk2, rfl, hT2, hJ2, hB2⟩ := hrel
          have hcell2 := (hB2.cell (p := ⟨b1, 0, none⟩) hbW hSb).trans h1
          clear hJ hB hcell1 HN
          by_cases hlt2 : k' < s.size
          · have hd2 := drop_here (l := s.data.toList) (k := k') (by rw [HZ.out]; exact hlt2)
            rw [str_get hlt2] at hd2
            obtain ⟨d, hdv⟩ : ∃ d, s[k'] = d := ⟨_, rfl⟩
            rw [hdv] at hd2
            have hdl := d.toNat_lt
            by_cases d10 : d = 10
            · subst d10
              have hkk : k < k' := by
                rcases Nat.lt_or_ge k k' with h | h
                · exact h
                · obtain rfl : k = k' := by omega
                  rw [hcv] at hdv
                  exact absurd hdv (by decide)
              have hn2 : T = T.take q ++ toksR false none k' (s.data.toList.drop k') := by
                have := hT2.out; rw [toksR_cmend _ _ (.inr ⟨_, hd2⟩)] at this; exact this
              have HN2 := Lib.hid hn2
              clear hn2 hT2 hd2
              gi_wp2
              exact ⟨⟨q, k', by omega, rfl, HN2, hJ2, hB2⟩, by simp [intOf]; omega⟩
            · have hne : ((d.toNat : Int) == 10) = false := by
                rw [beq_eq_false_iff_ne]; intro e; exact d10 (UInt8.toNat_inj.1 (by simp; omega))
              have hn2 : T = T.take q ++ toksR true none (k' + 1) (s.data.toList.drop (k' + 1)) := by
                have := hT2.out; rw [hd2, toksR_cm _ _ _ d10] at this; exact this
              have HN2 := Lib.hid hn2
              clear hn2 hT2 hd2 d10
              gi_wp2
              exact ⟨⟨k' + 1, by omega, by omega, by go_num, HN2, hJ2, hB2⟩, by simp [intOf]; omega⟩
          · obtain rfl : k' = s.size := by omega
            have hn2 : T = T.take q ++ toksR false none s.size (s.data.toList.drop s.size) := by
              have := hT2.out; rw [toksR_cmend _ _ (.inl (List.drop_eq_nil_of_le (by rw [HZ.out]; omega)))] at this; exact this
            have HN2 := Lib.hid hn2
            clear hn2 hT2
            gi_wp2
            exact ⟨⟨q, s.size, by omega, rfl, HN2, hJ2, hB2⟩, by simp [intOf]; omega⟩
      by_cases c10 : c = 10
      · subst c10
        have hn : T = T.take q ++ ⟨2, k, 1⟩ :: toksR false none (k + 1) (s.data.toList.drop (k + 1)) := by
          have := hTq.out; rw [HD.out, toksR_line] at this; exact this
        obtain ⟨hq, ht, hr⟩ := take_next hn
        obtain ⟨fn, tmps, assign, body, hy, hR⟩ := HYY.out _ ⟨2, k, 1⟩ wr hJ (HLEN.out _ _ hn)
        rw [enc_line] at hy
        have HR := Lib.hid hr
        have HQ := Lib.hid hq
        have HT2 := Lib.hid ht
        clear hn hq ht hr hTq c32 c9 c13 c35 HD
        gi_wp2
        refine hR.mono ?_
        rintro e W3 (⟨rfl, hJ3, hk3⟩ | ⟨rfl, hJx3⟩)
        · gi_wp2
          exact ⟨⟨q + 1, k + 1, by omega, by go_num, HR, by rw [HT2.out]; exact hJ3, hB.trans hk3⟩, by simp [intOf]; omega⟩
        · gi_wp2
          simp only [Exit.noGoto_ret]
          refine bodyPost_ret (results_none rfl _ _ _) rfl ?_
          exact ⟨⟨_, rfl⟩, .inr ⟨_, ⟨q + 1, HQ.out, HT2.out.symm⟩, hJx3⟩⟩
      have nb : ∀ m : Nat, m < 256 → c ≠ UInt8.ofNat m → ((c.toNat : Int) == (m : Int)) = false := fun m hm h => by
        rw [beq_eq_false_iff_ne]; intro e; exact h (UInt8.toNat_inj.1 (by simp; omega))
      have e32 : ((c.toNat : Int) == 32) = false := nb 32 (by decide) c32
      have e9 : ((c.toNat : Int) == 9) = false := nb 9 (by decide) c9
      have e13 : ((c.toNat : Int) == 13) = false := nb 13 (by decide) c13
      have e35 : ((c.toNat : Int) == 35) = false := nb 35 (by decide) c35
      have e10 : ((c.toNat : Int) == 10) = false := nb 10 (by decide) c10
      have hbl : blankB c = false := by simp [blankB, c32, c9, c13]
      have IW := Lib.hid (fun W => inWord_any c W)
      by_cases hw : inWordB c = true
      · rw [hw] at IW
        have hn : T = T.take q ++ toksR false (some k) k (s.data.toList.drop k) := by
          have := hTq.out
          rw [HD.out, toksR_word _ _ _ hw] at this
          rw [HD.out, toksR_more _ _ _ _ _ hw]
          exact this
        have HN := Lib.hid hn
        have HW := Lib.hid hw
        clear hn hTq nb hbl c32 c9 c13 c35 c10 hw
        gi_wp2_with (refine ⟨trivial, ?_⟩; gi_at_call 61; refine (callsIn_wide.2 (IW.out _)).mono ?_; rintro e w8 ⟨rfl, rfl⟩)
        gi_loopw [3] (fun i wi => ∃ k' : Nat, k ≤ k' ∧ k' ≤ s.size ∧ i = .int .i64 (k' : Int) ∧ Hid (T = T.take q ++ toksR false (some k) k' (s.data.toList.drop k')) ∧ J (T.take q) wi ∧ Kp S W wi)
          (fun i _ => s.size - (intOf i).toNat)
        case atStart => exact ⟨k, Nat.le_refl _, hk, rfl, HN, hJ, hB⟩
        case round =>
          obtain ⟨k', hk1, hk2, rfl, hT2, hJ2, hB2⟩ := hrel
          have hcell2 := (hB2.cell (p := ⟨b1, 0, none⟩) hbW hSb).trans h1
          clear hJ hB hcell1 HN
          have fin : k < k' → (s.data.toList.drop k' = [] ∨ ∃ c r, s.data.toList.drop k' = c :: r ∧ inWordB c = false) → T = T.take q ++ ⟨1, k, k' - k⟩ :: toksR false none k' (s.data.toList.drop k') := fun _ h => by
            have := hT2.out; rw [toksR_wcut _ _ _ _ h] at this; exact this
          have FIN := Lib.hid fin
          clear fin
          by_cases hlt2 : k' < s.size
          · have hd2 := drop_here (l := s.data.toList) (k := k') (by rw [HZ.out]; exact hlt2)
            rw [str_get hlt2] at hd2
            obtain ⟨d, hdv⟩ : ∃ d, s[k'] = d := ⟨_, rfl⟩
            rw [hdv] at hd2
            have hdl := d.toNat_lt
            have ID := Lib.hid (fun W => inWord_any d W)
            by_cases hwd : inWordB d = true
            · rw [hwd] at ID
              have hn2 : T = T.take q ++ toksR false (some k) (k' + 1) (s.data.toList.drop (k' + 1)) := by
                have := hT2.out; rw [hd2, toksR_more _ _ _ _ _ hwd] at this; exact this
              have HN2 := Lib.hid hn2
              clear hn2 hT2 hd2 hwd
              gi_wp2_with (refine ⟨trivial, ?_⟩; gi_at_call 61; refine (callsIn_wide.2 (ID.out _)).mono ?_; rintro e w8 ⟨rfl, rfl⟩)
              exact ⟨⟨k' + 1, by omega, by omega, by go_num, HN2, hJ2, hB2⟩, by simp [intOf]; omega⟩
            · have hwd' : inWordB d = false := by simpa using hwd
              rw [hwd'] at ID
              have hkk : k < k' := by
                rcases Nat.lt_or_ge k k' with h | h
                · exact h
                · obtain rfl : k = k' := by omega
                  rw [hcv] at hdv
                  subst hdv
                  exact absurd HW.out hwd
              have hn2 := FIN.out hkk (.inr ⟨_, _, hd2, hwd'⟩)
              obtain ⟨hq, ht, hr⟩ := take_next hn2
              obtain ⟨fn, tmps, assign, body, hy, hR⟩ := HYY.out _ ⟨1, k, k' - k⟩ wr hJ2 (HLEN.out _ _ hn2)
              rw [enc_word _ _ _ hk1] at hy
              have HR := Lib.hid hr
              have HQ := Lib.hid hq
              have HT2 := Lib.hid ht
              clear hn2 hT2 hd2 hwd hwd' hq ht hr
              gi_wp2_with (refine ⟨trivial, ?_⟩; gi_at_call 61; refine (callsIn_wide.2 (ID.out _)).mono ?_; rintro e w8 ⟨rfl, rfl⟩)
              refine hR.mono ?_
              rintro e W3 (⟨rfl, hJ3, hk3⟩ | ⟨rfl, hJx3⟩)
              · gi_wp2
                exact ⟨⟨q + 1, k', by omega, rfl, HR, by rw [HT2.out]; exact hJ3, hB2.trans hk3⟩, by simp [intOf]; omega⟩
              · gi_wp2
                simp only [Exit.noGoto_ret]
                refine bodyPost_ret (results_none rfl _ _ _) rfl ?_
                exact ⟨⟨_, rfl⟩, .inr ⟨_, ⟨q + 1, HQ.out, HT2.out.symm⟩, hJx3⟩⟩
          · obtain rfl : k' = s.size := by omega
            have hn2 := FIN.out hlt (.inl (List.drop_eq_nil_of_le (by rw [HZ.out]; omega)))
            obtain ⟨hq, ht, hr⟩ := take_next hn2
            obtain ⟨fn, tmps, assign, body, hy, hR⟩ := HYY.out _ ⟨1, k, s.size - k⟩ wr hJ2 (HLEN.out _ _ hn2)
            rw [enc_word _ _ _ hk1] at hy
            have HR := Lib.hid hr
            have HQ := Lib.hid hq
            have HT2 := Lib.hid ht
            clear hn2 hT2 hq ht hr
            gi_wp2
            refine ⟨trivial, ?_⟩
            gi_wp2
            refine hR.mono ?_
            rintro e W3 (⟨rfl, hJ3, hk3⟩ | ⟨rfl, hJx3⟩)
            · gi_wp2
              exact ⟨⟨q + 1, s.size, by omega, rfl, HR, by rw [HT2.out]; exact hJ3, hB2.trans hk3⟩, by simp [intOf]; omega⟩
            · gi_wp2
              simp only [Exit.noGoto_ret]
              refine bodyPost_ret (results_none rfl _ _ _) rfl ?_
              exact ⟨⟨_, rfl⟩, .inr ⟨_, ⟨q + 1, HQ.out, HT2.out.symm⟩, hJx3⟩⟩
      · have hw' : inWordB c = false := by simpa using hw
        rw [hw'] at IW
        have hn : T = T.take q ++ ⟨4, k, 1⟩ :: [] := by
          have := hTq.out
          rw [HD.out, toksR_bad _ _ _ hw' c10 hbl c35] at this
          exact this
        obtain ⟨hq, ht, hr⟩ := take_next hn
        obtain ⟨fn, tmps, assign, body, hy, hR⟩ := HYY.out _ ⟨4, k, 1⟩ wr hJ (HLEN.out _ _ hn)
        rw [enc_bad] at hy
        have hT1 : T.take q ++ [⟨4, k, 1⟩] = T := hn.symm
        have HT1 := Lib.hid hT1
        have HQ := Lib.hid hq
        have HT2 := Lib.hid ht
        clear hn hTq nb hbl c32 c9 c13 c35 c10 hw hw' hq ht hr hT1
        gi_wp2_with (refine ⟨trivial, ?_⟩; gi_at_call 61; refine (callsIn_wide.2 (IW.out _)).mono ?_; rintro e w8 ⟨rfl, rfl⟩)
        refine hR.mono ?_
        rintro e W3 (⟨rfl, hJ3, hk3⟩ | ⟨rfl, hJx3⟩)
        · gi_wp2
          simp only [Exit.noGoto_ret]
          refine bodyPost_ret (results_none rfl _ _ _) rfl ?_
          exact ⟨⟨_, rfl⟩, .inl ⟨T, rfl, by rw [← HT1.out]; exact hJ3⟩⟩
        · gi_wp2
          simp only [Exit.noGoto_ret]
          refine bodyPost_ret (results_none rfl _ _ _) rfl ?_
          exact ⟨⟨_, rfl⟩, .inr ⟨_, ⟨q + 1, HQ.out, HT2.out.symm⟩, hJx3⟩⟩
    · obtain rfl : k = s.size := by omega
      have hn : T = T.take q ++ ⟨3, s.size, 0⟩ :: [] := by
        have := hTq.out
        rw [List.drop_eq_nil_of_le (by rw [HZ.out]; omega), toksR_end] at this
        exact this
      obtain ⟨hq, ht, hr⟩ := take_next hn
      obtain ⟨fn, tmps, assign, body, hy, hR⟩ := HYY.out _ ⟨3, s.size, 0⟩ wr hJ (HLEN.out _ _ hn)
      rw [enc_stop] at hy
      have hT1 : T.take q ++ [⟨3, s.size, 0⟩] = T := hn.symm
      have HT1 := Lib.hid hT1
      have HQ := Lib.hid hq
      have HT2 := Lib.hid ht
      clear hn hq ht hr hT1 hTq
      gi_wp2
      refine hR.mono ?_
      rintro e W3 (⟨rfl, hJ3, hk3⟩ | ⟨rfl, hJx3⟩)
      · gi_wp2
        simp only [Exit.noGoto_normal]
        go_end0
        exact ⟨⟨_, rfl⟩, .inl ⟨T, rfl, by rw [← HT1.out]; exact hJ3⟩⟩
      · gi_wp2
        simp only [Exit.noGoto_normal]
        go_end0
        exact ⟨⟨_, rfl⟩, .inr ⟨_, ⟨q + 1, HQ.out, HT2.out.symm⟩, hJx3⟩⟩
end Go.Proofs.YtobofhiakgohfaaGreatDoor

namespace Go.Proofs.YtobofhiakgohfaaGreatDoor
open Go.RowKit Go.Shelf
attribute [local go_sem] Oper.semAt_some

theorem all1_stops (n : Nat) (hn : 1 ≤ n) (b1 : Nat) (s : ByteArray) (hs : s.size ≤ 140737488355328) (S : Nat → Prop) (hSb : ¬ S b1) (w : World) (hb1 : b1 < w.heap.size) (h1 : w.cell? ⟨b1, 0, none⟩ = some (.string s)) (T : List Tok) (hT : T = toks s.data.toList) :
    SeqStopsK Fence.wide n Tryz.prog 60 #[.pointer (some ⟨b1, 0, none⟩)] (tokEnc s) (Kp S) (fun ys => ys = T) (fun pre => ∃ q, q ≤ T.length ∧ pre = T.take q) T.length w :=
  fun l J Jx W hW _ _ hY h0 => all1_in n hn l b1 s hs S hSb T hT J Jx hY W (Nat.lt_of_lt_of_le hb1 hW.size) ((hW.cell (p := ⟨b1, 0, none⟩) hb1).trans h1) h0

set_option maxRecDepth 100000 in
/-- All. -/
theorem all_any (s : ByteArray) (w : World) :
    Calls Tryz.prog 29 #[.string s] w fun e w' => e = .returned (.func (.func 60) #[] #[.pointer (some ⟨w.heap.size, 0, none⟩)]) ∧ Blk w' w.heap.size 9 #[.string s] ∧ w'.heap.size = w.heap.size + 1 ∧ K0 w w' := by
  go_enter Tryz.func29, Tryz.ntmps29
  go_wp2
  go_ret
  exact ⟨rfl, Blk.new _ _ _, by simp, (Kp.refl _ _).alloc _⟩

theorem own_kept {w w' : World} {base : Nat} {e : TypeId} {size n : Nat} {v : Value} {xs : List Value} {row : Option Nat} (h : w.ownsRow base e size v n xs) (hg : w.grownBy w' row) (hr : ∀ r, row = some r → ∃ o : Obj, w.heap[r]? = some o ∧ o.isCells = false) : w'.ownsRow base e size v n xs := by
  refine ⟨h.1, ?_⟩
  rcases h.2 with h2 | ⟨g, cap, cur, hv, hb, hh, r⟩
  · exact .inl h2
  · exact .inr ⟨g, cap, cur, hv, hb, (grownBy_keeps_cells hg hr hh rfl).trans hh, r⟩
theorem Blk.kept {w w' : World} {g : Nat} {t : TypeId} {cs : Array Value} {row : Option Nat} (h : Blk w g t cs) (hg : w.grownBy w' row) (hr : ∀ r, row = some r → ∃ o : Obj, w.heap[r]? = some o ∧ o.isCells = false) : Blk w' g t cs := (grownBy_keeps_cells hg hr h rfl).trans h

theorem info42 : (Tryz.prog.info? 73).map (fun i => (i.zero, i.size, i.bytes)) = some (some (.agg #[.int .i64 0, .string ⟨#[]⟩, .int .i64 0]), 3, 32) := by kernel_rfl
theorem info42' : ∃ i0, Tryz.prog.info? 73 = some i0 ∧ i0.zero = some (.agg #[.int .i64 0, .string ⟨#[]⟩, .int .i64 0]) ∧ i0.size = 3 ∧ i0.bytes = 32 := by
  obtain ⟨i0, hi, hz0, hz1, hz2⟩ := info_parts info42
  exact ⟨i0, hi, hz0, hz1, hz2⟩
theorem toks_len (l : List UInt8) : (toks l).length ≤ l.length + 1 := toksR_length l false none 0

/-- What listed answers. -/
def ListPost (s : ByteArray) (w : World) (e : Ending) (w' : World) : Prop :=
  ∃ v, e = .returned v ∧ w'.ownsRow w.heap.size 73 3 v (toks s.data.toList).length (tcells ((toks s.data.toList).map (tv s))) ∧ K0 w w'

end Go.Proofs.YtobofhiakgohfaaGreatDoor

namespace Go.Proofs.YtobofhiakgohfaaGreatDoor
open Go

def noDefer (o : Oper) : Bool := match o.op with
  | .defer _ => false
  | _ => true
theorem noDefer_ne {o : Oper} (h : noDefer o = true) : ∀ c, o.op ≠ .defer c := by
  intro c e
  unfold noDefer at h
  rw [e] at h
  cases h

section
variable {F : Fence} {n : Nat} {P : Program} {C : World → Prop} {ops : Array Oper} {md : Region.Mode}

end
end Go.Proofs.YtobofhiakgohfaaGreatDoor
