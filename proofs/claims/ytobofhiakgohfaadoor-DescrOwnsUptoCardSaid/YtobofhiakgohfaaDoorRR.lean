/- A start in which the listed variables hold what the rows list. What a row's proof wants: its arguments opened; what the listed variables give. What a row's proof wants, more: the powers of ten; a slice of bytes of small bulk. -/
import Derived.Test.YtobofhiakgohfaaDoorCards
import Derived.Test.YtobofhiakgohfaaDoorTie
import Derived.WalkKit
import Derived.ProofKit
import Derived.OpenShut
import Derived.Lay
import Derived.SevenTiedAt
import Derived.Deep.DeepHandedRow
import Derived.Deep.DeepWitnessRowRef
import Derived.Lib.LaidTab
import Derived.Test.YtobofhiakgohfaaDoorT16
import Derived.ShutString
import Derived.ChangeMaps5
import Derived.ChangeOld
import Derived.Below
import Derived.SizedLaws
import Derived.Carry
import Derived.Deep.Slices
import Derived.Stop.LaidErr
import Derived.MakeChecks
import Derived.Test.YtobofhiakgohfaaDoorT20
set_option linter.unusedVariables false
set_option linter.unusedSimpArgs false
namespace Go.Proofs.YtobofhiakgohfaaDoor
open Go.ChangeShapes Go.WideShapes Go.ChangeAt Go.RowKit

/-- What the rows of chapter 05 list. -/
def laidT : List (String × DataW Unit) := Rows.tokenNamesRow.laid
noncomputable def laidW (os : Os) : World := World.laidAll Tryd.prog os laidT
theorem laidW_os (os : Os) : (laidW os).os = os := World.laidAll_os _ _ _
theorem laidW_fits (os : Os) : (World.holding Tryd.prog os ⟨#[], #[], []⟩).layFits Tryd.prog laidT [] = true := by kernel_rfl
theorem laidW_ifaces (os : Os) : (World.holding Tryd.prog os ⟨#[], #[], []⟩).layIfaces Tryd.prog laidT (World.laidAll Tryd.prog os laidT) = true := by kernel_rfl
theorem laidW_met (os : Os) (args : Array Value) : laidMet Tryd.prog laidT ((laidW os).forCall (fun _ _ => 0) ⟨#[], args, []⟩).memory := laidMet_laidAll args (laidW_fits os) (laidW_ifaces os)
theorem own : ownKnob Tryd.prog.godebug = none := by kernel_rfl
end Go.Proofs.YtobofhiakgohfaaDoor

namespace Go.Proofs.YtobofhiakgohfaaDoor
open Go.ChangeShapes Go.WideShapes Go.ChangeAt Go.RowKit
theorem laidOut : laidOutB Tryd.prog = true := by kernel_rfl
theorem laidT_plain {W : World} (h : laidMetH Tryd.prog laidT W) : laidMet Tryd.prog laidT W := by
  rw [MakeChecks.laidMetH_plain _ _ _ (by kernel_rfl)] at h
  exact h
theorem gSyn : Tryd.prog.globalNamed "strconv.ErrSyntax" = some 1 := by kernel_rfl
theorem gSynType : (Tryd.prog.globals[1]?).map (·.type) = some 89 := by kernel_rfl
theorem synV_of_laid {W : World} (h : laidMetH Tryd.prog laidT W) : SynV W := by
  obtain ⟨ps, ⟨g0, t0, cs0, f0, p0, q0, hg0, ht0, hv0, hd0, _, _⟩, _⟩ := (laidT_plain h).tail.tail.tail.tail.tail
  obtain rfl := Option.some.inj (gSyn.symm.trans hg0)
  obtain rfl := Option.some.inj (gSynType.symm.trans ht0)
  obtain ⟨f1, u, v, hcs, _, _⟩ := iface_of_trod Tryd.underlying89 hd0
  have hc := World.var?_cell hg0 hv0 0
  have e : cs0[0]? = some (.iface u v) := by
    have := congrArg (fun l : List Value => l[0]?) hcs
    simpa using this
  rw [e] at hc
  exact ⟨_, hc, .inr ⟨u, v, rfl⟩⟩
/-- The value is a slice of bytes. -/
def SlV (w : World) (B : Nat) (v : Value) (bs : List UInt8) : Prop := ∃ A c, v = .slice A bs.length c ∧ bs.length ≤ c ∧ c ≤ 9223372036854775807 ∧ bs.length ≤ 140737488355328 ∧ Reads w B 1 A bs.length (bvs bs)
theorem SlV.of {w : World} {B : Nat} {A : Option Addr} {n c : Nat} {l : List UInt8} (hn : n = l.length) (h1 : n ≤ c) (h2 : c ≤ 9223372036854775807) (h3 : n ≤ 140737488355328) (h4 : Reads w B 1 A n (bvs l)) : SlV w B (.slice A n c) l := by
  subst hn
  exact ⟨A, c, rfl, h1, h2, h3, h4⟩
theorem bytes5 : Tryd.prog.bytesOf 5 = 1 := by kernel_rfl

theorem u8_of {x : Int} (h : (Lit.int .u8 x).wf = true) : ∃ b : UInt8, x = (b.toNat : Int) := by
  have hx : 0 ≤ x ∧ x ≤ 255 := by simpa [Lit.wf, IntKind.min, IntKind.max, IntKind.signed, IntKind.bits] using h
  exact ⟨UInt8.ofNat x.toNat, by simp; omega⟩

set_option maxRecDepth 100000 in
theorem open_u8 {H : Type} {enc : TypeId × Value → H} {W : World} {base : Nat} {v : Value} {d : DataW H} {p : List MemPlace} (hv : Value.okWide Tryd.prog W .any base 5 v) (h : DataW.Trod enc Tryd.prog W 0 (fun _ => true) true 5 v d p) : ∃ b : UInt8, v = .int .u8 (b.toNat : Int) := by
  obtain ⟨x, rfl, rfl, rfl, w⟩ := open_int Tryd.underlying5 hv h
  obtain ⟨b, rfl⟩ := u8_of w
  exact ⟨b, rfl⟩

theorem u8_list : ∀ (zs : List Int), (∀ n ∈ zs, (Lit.int .u8 n).wf = true) → ∃ l : List UInt8, zs = l.map fun b => (b.toNat : Int)
  | [], _ => ⟨[], rfl⟩
  | z :: zs, h => by
    obtain ⟨b, rfl⟩ := u8_of (h z (by simp))
    obtain ⟨l, rfl⟩ := u8_list zs (fun n hn => h n (by simp [hn]))
    exact ⟨b :: l, rfl⟩

set_option maxRecDepth 100000 in
theorem open_bytes {H : Type} {enc : TypeId × Value → H} {W : World} {base : Nat} {v : Value} {d : DataW H} {p : List MemPlace} (hv : Value.okWide Tryd.prog W .any base 44 v) (h : DataW.Trod enc Tryd.prog W 0 (fun _ => true) true 44 v d p)
    (hs : ∀ es ss, d = .slice es ss → (es.length + ss.length) * Tryd.prog.bytesOf 5 ≤ reachBytes) : ∃ l : List UInt8, SlV W W.heap.size v l := by
  obtain ⟨a, len, cap, rfl⟩ := okWide_slice Tryd.underlying44 hv
  obtain ⟨fuel, hf⟩ := h
  have hlt := DataW.trod_lt fuel _ _ _ hf
  rcases open_ints Tryd.underlying44 Tryd.underlying5 (by kernel_rfl) hf with ⟨hcs, _⟩ | ⟨x, l, c, zs, hcs, _, hl, hm, hz, hx, hcell, hwz⟩
  · simp [Value.cells] at hcs
    obtain ⟨rfl, rfl, rfl⟩ := hcs
    exact ⟨[], SlV.of rfl (by simp) (by simp) (by simp) Reads.none_⟩
  · simp [Value.cells] at hcs
    obtain ⟨rfl, rfl, rfl⟩ := hcs
    simp only [if_true] at hz
    simp only [Prod.mk.injEq] at hx
    obtain ⟨hd, hp⟩ := hx
    have hb := hs _ _ hd
    simp only [lits, List.length_map, List.length_take, List.length_drop, reachBytes, bytes5] at hb
    obtain ⟨bs, rfl⟩ := u8_list zs hwz
    simp only [List.length_map] at hz hcell hb
    refine ⟨bs.take len, SlV.of (by simp; omega) hl (by simpa [maxLen] using hm) (by omega) ⟨by simp [bvs_length]; omega, fun h0 => ⟨x, rfl, ?_, fun j u hu => ?_⟩⟩⟩
    · have := World.block_lt_of_cell? W _ (hcell 0 (by omega))
      rwa [block_of_add] at this
    · rw [← bvs_take, List.getElem?_take] at hu
      split at hu
      · rename_i hj
        have hj2 : j < bs.length := by omega
        rw [bvs_get hj2] at hu
        cases hu
        rw [hcell j hj2]
        simp [bv, List.getD_eq_getElem?_getD, List.getElem?_eq_getElem hj2]
      · cases hu
end Go.Proofs.YtobofhiakgohfaaDoor

namespace Go.Proofs.YtobofhiakgohfaaDoor
open Go.ChangeShapes Go.WideShapes Go.ChangeAt Go.RowKit
theorem gPowType : (Tryd.prog.globals[3]?).map (·.type) = some 173 := by kernel_rfl
theorem pow10_of_laid {W : World} (h : laidMetH Tryd.prog laidT W) : PowV W := by
  have h2 : laidMet Tryd.prog (("internal/strconv.uint64pow10", Lib.tabData .u64 Lib.pow10Tab) :: laidT.tail.tail.tail) W := (laidT_plain h).tail.tail
  exact Lib.tabIs_of_head gPow gPowType Tryd.underlying173 Tryd.underlying141 (by kernel_rfl) (by kernel_rfl) h2
theorem bulk_pos {H : Type} (d : DataW H) : 1 ≤ Rows.uptoBulk d := by
  cases d with
  | lit l => cases l <;> simp [Rows.uptoBulk]
  | _ => simp [Rows.uptoBulk]
theorem bulk_len {H : Type} : ∀ l : List (DataW H), l.length ≤ Rows.uptoBulkAll l
  | [] => by simp [Rows.uptoBulkAll]
  | d :: r => by
    have := bulk_len r
    have := bulk_pos d
    simp only [Rows.uptoBulkAll, List.length_cons]
    omega
set_option maxRecDepth 100000 in
theorem open_bytesN (N : Nat) (hN : N ≤ 140737488355328) {H : Type} {enc : TypeId × Value → H} {W : World} {base : Nat} {v : Value} {d : DataW H} {p : List MemPlace} (hv : Value.okWide Tryd.prog W .any base 44 v) (h : DataW.Trod enc Tryd.prog W 0 (fun _ => true) true 44 v d p)
    (hs : ∀ es ss, d = .slice es ss → es.length + ss.length ≤ N) : ∃ l : List UInt8, SlV W W.heap.size v l ∧ l.length ≤ N := by
  obtain ⟨a, len, cap, rfl⟩ := okWide_slice Tryd.underlying44 hv
  obtain ⟨fuel, hf⟩ := h
  have hlt := DataW.trod_lt fuel _ _ _ hf
  rcases open_ints Tryd.underlying44 Tryd.underlying5 (by kernel_rfl) hf with ⟨hcs, _⟩ | ⟨x, l, c, zs, hcs, _, hl, hm, hz, hx, hcell, hwz⟩
  · simp [Value.cells] at hcs
    obtain ⟨rfl, rfl, rfl⟩ := hcs
    exact ⟨[], SlV.of rfl (by simp) (by simp) (by simp) Reads.none_, by simp⟩
  · simp [Value.cells] at hcs
    obtain ⟨rfl, rfl, rfl⟩ := hcs
    simp only [if_true] at hz
    simp only [Prod.mk.injEq] at hx
    obtain ⟨hd, hp⟩ := hx
    have hb := hs _ _ hd
    simp only [lits, List.length_map, List.length_take, List.length_drop] at hb
    obtain ⟨bs, rfl⟩ := u8_list zs hwz
    simp only [List.length_map] at hz hcell hb
    refine ⟨bs.take len, SlV.of (by simp; omega) hl (by simpa [maxLen] using hm) (by omega) ⟨by simp [bvs_length]; omega, fun h0 => ⟨x, rfl, ?_, fun j u hu => ?_⟩⟩, by simp; omega⟩
    · have := World.block_lt_of_cell? W _ (hcell 0 (by omega))
      rwa [block_of_add] at this
    · rw [← bvs_take, List.getElem?_take] at hu
      split at hu
      · rename_i hj
        have hj2 : j < bs.length := by omega
        rw [bvs_get hj2] at hu
        cases hu
        rw [hcell j hj2]
        simp [bv, List.getD_eq_getElem?_getD, List.getElem?_eq_getElem hj2]
      · cases hu
set_option maxRecDepth 100000 in
theorem open_bytesU {H : Type} {enc : TypeId × Value → H} {W : World} {base : Nat} {v : Value} {d : DataW H} {p : List MemPlace} (hv : Value.okWide Tryd.prog W .any base 44 v) (h : DataW.Trod enc Tryd.prog W 0 (fun _ => true) true 44 v d p) (z : Rows.uptoBulk d ≤ 1048576) : ∃ l : List UInt8, SlV W W.heap.size v l ∧ l.length ≤ 1048576 :=
  open_bytesN 1048576 (by decide) hv h (fun es ss e => by
    subst e
    have h1 := bulk_len es
    have h2 := bulk_len ss
    simp only [Rows.uptoBulk] at z
    omega)
end Go.Proofs.YtobofhiakgohfaaDoor
