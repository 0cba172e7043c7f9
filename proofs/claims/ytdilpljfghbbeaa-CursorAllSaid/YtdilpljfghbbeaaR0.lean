/- What a row's proof wants of its arguments: each kind opened. -/
import Derived.Test.YtdilpljfghbbeaaM
import Derived.Test.YtdilpljfghbbeaaProg
import Derived.Test.YtdilpljfghbbeaaC1
import Derived.ProofKit
import Derived.OpenShut
import Derived.ShutString
import Derived.ChangeOld
import Derived.Below
import Derived.SizedLaws
import Derived.Carry
import Derived.Deep.Slices
set_option linter.unusedVariables false
set_option linter.unusedSimpArgs false
namespace Go.Proofs.Ytdilpljfghbbeaa
open Go.ChangeShapes Go.WideShapes Go.ChangeAt Go.RowKit
theorem bytes5 : Try.prog.bytesOf 5 = 1 := by kernel_rfl

theorem u8_of {x : Int} (h : (Lit.int .u8 x).wf = true) : ∃ b : UInt8, x = (b.toNat : Int) := by
  have hx : 0 ≤ x ∧ x ≤ 255 := by simpa [Lit.wf, IntKind.min, IntKind.max, IntKind.signed, IntKind.bits] using h
  exact ⟨UInt8.ofNat x.toNat, by simp; omega⟩

theorem open_u8 {H : Type} {enc : TypeId × Value → H} {W : World} {base : Nat} {v : Value} {d : DataW H} {p : List MemPlace} (hv : Value.okWide Try.prog W .any base 5 v) (h : DataW.Trod enc Try.prog W 0 (fun _ => true) true 5 v d p) : ∃ b : UInt8, v = .int .u8 (b.toNat : Int) := by
  obtain ⟨x, rfl, rfl, rfl, w⟩ := open_int Try.underlying5 hv h
  obtain ⟨b, rfl⟩ := u8_of w
  exact ⟨b, rfl⟩

theorem u8_list : ∀ (zs : List Int), (∀ n ∈ zs, (Lit.int .u8 n).wf = true) → ∃ l : List UInt8, zs = l.map fun b => (b.toNat : Int)
  | [], _ => ⟨[], rfl⟩
  | z :: zs, h => by
    obtain ⟨b, rfl⟩ := u8_of (h z (by simp))
    obtain ⟨l, rfl⟩ := u8_list zs (fun n hn => h n (by simp [hn]))
    exact ⟨b :: l, rfl⟩

theorem open_bytes {H : Type} {enc : TypeId × Value → H} {W : World} {base : Nat} {v : Value} {d : DataW H} {p : List MemPlace} (hv : Value.okWide Try.prog W .any base 23 v) (h : DataW.Trod enc Try.prog W 0 (fun _ => true) true 23 v d p)
    (hs : ∀ es ss, d = .slice es ss → (es.length + ss.length) * Try.prog.bytesOf 5 ≤ reachBytes) : ∃ l : List UInt8, SlV W W.heap.size v l := by
  obtain ⟨a, len, cap, rfl⟩ := okWide_slice Try.underlying23 hv
  obtain ⟨fuel, hf⟩ := h
  have hlt := DataW.trod_lt fuel _ _ _ hf
  rcases open_ints Try.underlying23 Try.underlying5 (by kernel_rfl) hf with ⟨hcs, _⟩ | ⟨x, l, c, zs, hcs, _, hl, hm, hz, hx, hcell, hwz⟩
  · simp [Value.cells] at hcs
    obtain ⟨rfl, rfl, rfl⟩ := hcs
    exact ⟨[], SlV.of rfl (by simp) (by simp) (by simp) Reads.none_⟩
  · simp [Value.cells] at hcs
    obtain ⟨rfl, rfl, rfl⟩ := hcs
    simp only [if_true] at hz
    simp only [Prod.mk.injEq] at hx
    obtain ⟨hd, hp⟩ := hx
    have hb := hs _ _ hd
    simp only [lits, List.length_map, List.length_take, List.length_drop, reachBytes, bytes5] at hb
    obtain ⟨bs, rfl⟩ := u8_list zs hwz
    simp only [List.length_map] at hz hcell hb
    refine ⟨bs.take len, SlV.of (by simp; omega) hl (by simpa [maxLen] using hm) (by omega) ⟨by simp [bvs_length]; omega, fun h0 => ⟨x, rfl, ?_, fun j u hu => ?_⟩⟩⟩
    · have := World.block_lt_of_cell? W _ (hcell 0 (by omega))
      rwa [block_of_add] at this
    · rw [← bvs_take, List.getElem?_take] at hu
      split at hu
      · rename_i hj
        have hj2 : j < bs.length := by omega
        rw [bvs_get hj2] at hu
        cases hu
        rw [hcell j hj2]
        simp [bv, List.getD_eq_getElem?_getD, List.getElem?_eq_getElem hj2]
      · cases hu
end Go.Proofs.Ytdilpljfghbbeaa
