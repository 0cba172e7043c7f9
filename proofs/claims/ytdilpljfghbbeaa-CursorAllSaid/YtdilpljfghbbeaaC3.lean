/- Uint, New. -/
import Derived.Test.YtdilpljfghbbeaaC2
set_option linter.unusedVariables false
set_option linter.unusedSimpArgs false
namespace Go.Proofs.Ytdilpljfghbbeaa
open Go.RowKit

/-- The number that bytes write, the lowest first. -/
def leNum : List UInt8 → Nat
  | [] => 0
  | b :: l => b.toNat + 256 * leNum l
theorem leNum_lt : ∀ l : List UInt8, leNum l < 256 ^ l.length
  | [] => by simp [leNum]
  | b :: l => by
    have := leNum_lt l
    have := b.toNat_lt
    simp only [leNum, List.length_cons, Nat.pow_succ]
    omega
theorem leNum_snoc : ∀ (l : List UInt8) (b : UInt8), leNum (l ++ [b]) = leNum l + 256 ^ l.length * b.toNat
  | [], b => by simp [leNum]
  | a :: l, b => by
    simp only [List.cons_append, leNum, leNum_snoc l b, List.length_cons, Nat.pow_succ, Nat.mul_add]
    rw [← Nat.mul_assoc, Nat.mul_comm 256 (256 ^ l.length)]
    omega

theorem i64_or_nat (a b : Nat) (ha : a < 9223372036854775808) (hb : b < 9223372036854775808) : bits .or .i64 (a : Int) (b : Int) = ((a ||| b : Nat) : Int) := by
  have hx : a ||| b < 2 ^ 63 := Nat.or_lt_two_pow (by omega) (by omega)
  show IntKind.i64.wrap ((BitVec.ofInt 64 (a : Int) ||| BitVec.ofInt 64 (b : Int)).toNat : Int) = _
  rw [BitVec.toNat_or, ofInt_u64 a (by omega), ofInt_u64 b (by omega), IntKind.wrap_i64]
  omega

theorem or_step (a b j : Nat) (ha : a < 256 ^ j) (hb : b < 256) (hj : j < 4) : bits .or .i64 (a : Int) (wrap64 (wrap64 (b : Int) * 2 ^ (8 * j))) = ((a + 256 ^ j * b : Nat) : Int) := by
  have e : (2 : Int) ^ (8 * j) = ((256 ^ j : Nat) : Int) := by
    rw [show (256 : Nat) = 2 ^ 8 from rfl, ← Nat.pow_mul]
    push_cast
    rfl
  have hp : 256 ^ j ≤ 16777216 := by
    have : j = 0 ∨ j = 1 ∨ j = 2 ∨ j = 3 := by omega
    rcases this with rfl | rfl | rfl | rfl <;> decide
  have hm : 256 ^ j * b ≤ 16777216 * 255 := Nat.mul_le_mul hp (by omega)
  rw [e]
  have w1 : wrap64 (b : Int) = b := by unfold wrap64; omega
  rw [w1, ← Int.natCast_mul, Nat.mul_comm b]
  have w2 : wrap64 ((256 ^ j * b : Nat) : Int) = ((256 ^ j * b : Nat) : Int) := by unfold wrap64; omega
  rw [w2, i64_or_nat a (256 ^ j * b) (by omega) (by omega)]
  congr 1
  rw [show (256 : Nat) = 2 ^ 8 from rfl, ← Nat.pow_mul] at *
  rw [Nat.or_comm, ← Nat.two_pow_add_eq_or_of_lt ha]
  omega

def uintOf (bs : List UInt8) (k : Nat) (n : Int) : Int × Int × Nat :=
  if n < 1 ∨ n > 4 then (0, 1, k) else ((leNum (takeOf bs k n).1 : Int), (takeOf bs k n).2.1, (takeOf bs k n).2.2)

set_option maxHeartbeats 400000 in
theorem uint_any (B k : Nat) (v : Value) (bs : List UInt8) (n : Int) (w : World) (hB : B ≤ w.heap.size) (h : CurV w B v bs k) :
    Calls Try.prog 25 #[v, .int .i64 n] w fun e w' => e = .returned (.tuple #[.int .i64 (uintOf bs k n).1, .int .i64 (uintOf bs k n).2.1]) ∧ CurV w' B v bs (uintOf bs k n).2.2 ∧ KC v w w' := by
  by_cases h1 : n < 1
  · have ht : uintOf bs k n = (0, 1, k) := by simp [uintOf, h1]
    rw [ht]; clear ht
    go_enter Try.func25, Try.ntmps25
    go_wp2
    go_ret2
    exact ⟨rfl, h, Kp.refl _ _⟩
  · by_cases h4 : n > 4
    · have ht : uintOf bs k n = (0, 1, k) := by simp [uintOf, h4]
      rw [ht]; clear ht
      go_enter Try.func25, Try.ntmps25
      go_wp2
      go_ret2
      exact ⟨rfl, h, Kp.refl _ _⟩
    · have ht : uintOf bs k n = ((leNum (takeOf bs k n).1 : Int), (takeOf bs k n).2.1, (takeOf bs k n).2.2) := by
        simp only [uintOf]; rw [if_neg (by omega)]
      rw [ht]; clear ht
      have hlen : (takeOf bs k n).1.length ≤ 4 := by
        unfold takeOf
        split
        · simp
        · split
          · simp
          · simp only [List.length_take, List.length_drop]; omega
      have hT := take_any B k v bs n w hB h
      have h1' : 1 ≤ n := by omega
      have h4' : n ≤ 4 := by omega
      generalize (takeOf bs k n).1 = l at *
      generalize (takeOf bs k n).2.1 = e at *
      generalize (takeOf bs k n).2.2 = k' at *
      have HT := Lib.hid hT
      clear hT h1 h4
      go_enter Try.func25, Try.ntmps25
      go_wp2_with (go_at_call 27; refine HT.out.mono ?_; rintro e w' ⟨r, rfl, ⟨A, c, rfl, a1, a2, a3, hr⟩, hc, hk⟩)
      go_loop [8, 9, 24] (fun v _ i => ∃ j : Nat, j ≤ l.length ∧ i = .int .i64 j ∧ v = .int .i64 (leNum (l.take j))) (fun _ _ i => l.length - (intOf i).toNat)
      case atStart => exact ⟨0, Nat.zero_le _, rfl, by simp [leNum]⟩
      case round =>
        obtain ⟨j, hj, rfl, rfl⟩ := hrel
        by_cases hlt : j < l.length
        · obtain ⟨ad, rfl, hb, hcell⟩ := hr.byte hlt
          have hl8 : (l.take (j + 1)) = l.take j ++ [l[j]] := by rw [List.take_succ_eq_append_getElem hlt]
          have HL := Lib.hid hl8
          clear hl8
          go_wp2
          refine ⟨⟨j + 1, hlt, by go_num, ?_⟩, by simp [intOf]; omega⟩
          rw [or_step _ _ j (by have := leNum_lt (l.take j); rwa [List.length_take, Nat.min_eq_left hj] at this) (l[j].toNat_lt) (by omega), HL.out, leNum_snoc, List.length_take, Nat.min_eq_left hj]
        · go_wp2
          go_ret2
          refine ⟨?_, hc, hk⟩
          rw [List.take_of_length_le (by omega)]
          rfl
/-- New. -/
theorem new_any (B : Nat) (v : Value) (l : List UInt8) (w : World) (hB : B ≤ w.heap.size) (h : SlV w B v l) :
    Calls Try.prog 11 #[v] w fun e w' => ∃ pc, e = .returned (.pointer (some ⟨pc, 0, none⟩)) ∧ w.heap.size ≤ pc ∧ CurB w' w'.heap.size pc l 0 ∧ K0 w w' := by
  have hl : l.length ≤ 140737488355328 := by obtain ⟨_, _, _, _, _, h3, _⟩ := h; exact h3
  go_enter Try.func11, Try.ntmps11
  go_wp2_with (go_at_call 26; refine (clone_any B v l w hB h).mono ?_; rintro e w1 ⟨r, rfl, ho, hk⟩; obtain ⟨A, c, rfl, hc1, hc2⟩ := own_form ho)
  go_ret
  obtain ⟨t1, t2, t3⟩ := own_type ho
  refine ⟨_, rfl, hk.size, ⟨A, c, Blk.new _ _ _, Nat.zero_le _, hc1, hc2, hl, ?_, ?_, t2⟩, hk.alloc _⟩
  · exact ((Reads.of_own ho).alloc (Nat.le_refl _) _).more (by simp)
  · intro ad e
    obtain ⟨cs, hcs⟩ := t1 ad e
    exact ⟨(hcs.alloc _).lt, cs, hcs.alloc _⟩
end Go.Proofs.Ytdilpljfghbbeaa
