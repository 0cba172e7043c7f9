/- What a row's proof wants, more: the powers of ten; a slice of bytes of small bulk. -/
import Derived.Test.YtobofhiakgohfaaDoorR3
import Derived.Test.YtobofhiakgohfaaDoorT20
set_option linter.unusedVariables false
set_option linter.unusedSimpArgs false
namespace Go.Proofs.YtobofhiakgohfaaDoor
open Go.ChangeShapes Go.WideShapes Go.ChangeAt Go.RowKit
theorem gPowType : (Tryd.prog.globals[3]?).map (·.type) = some 173 := by kernel_rfl
theorem pow10_of_laid {W : World} (h : laidMetH Tryd.prog laidT W) : PowV W := by
  have h2 : laidMet Tryd.prog (("internal/strconv.uint64pow10", Lib.tabData .u64 Lib.pow10Tab) :: laidT.tail.tail.tail) W := (laidT_plain h).tail.tail
  exact Lib.tabIs_of_head gPow gPowType Tryd.underlying173 Tryd.underlying141 (by kernel_rfl) (by kernel_rfl) h2
theorem bulk_pos {H : Type} (d : DataW H) : 1 ≤ Rows.uptoBulk d := by
  cases d with
  | lit l => cases l <;> simp [Rows.uptoBulk]
  | _ => simp [Rows.uptoBulk]
theorem bulk_len {H : Type} : ∀ l : List (DataW H), l.length ≤ Rows.uptoBulkAll l
  | [] => by simp [Rows.uptoBulkAll]
  | d :: r => by
    have := bulk_len r
    have := bulk_pos d
    simp only [Rows.uptoBulkAll, List.length_cons]
    omega
set_option maxRecDepth 100000 in
theorem open_bytesN (N : Nat) (hN : N ≤ 140737488355328) {H : Type} {enc : TypeId × Value → H} {W : World} {base : Nat} {v : Value} {d : DataW H} {p : List MemPlace} (hv : Value.okWide Tryd.prog W .any base 44 v) (h : DataW.Trod enc Tryd.prog W 0 (fun _ => true) true 44 v d p)
    (hs : ∀ es ss, d = .slice es ss → es.length + ss.length ≤ N) : ∃ l : List UInt8, SlV W W.heap.size v l ∧ l.length ≤ N := by
  obtain ⟨a, len, cap, rfl⟩ := okWide_slice Tryd.underlying44 hv
  obtain ⟨fuel, hf⟩ := h
  have hlt := DataW.trod_lt fuel _ _ _ hf
  rcases open_ints Tryd.underlying44 Tryd.underlying5 (by kernel_rfl) hf with ⟨hcs, _⟩ | ⟨x, l, c, zs, hcs, _, hl, hm, hz, hx, hcell, hwz⟩
  · simp [Value.cells] at hcs
    obtain ⟨rfl, rfl, rfl⟩ := hcs
    exact ⟨[], SlV.of rfl (by simp) (by simp) (by simp) Reads.none_, by simp⟩
  · simp [Value.cells] at hcs
    obtain ⟨rfl, rfl, rfl⟩ := hcs
    simp only [if_true] at hz
    simp only [Prod.mk.injEq] at hx
    obtain ⟨hd, hp⟩ := hx
    have hb := hs _ _ hd
    simp only [lits, List.length_map, List.length_take, List.length_drop] at hb
    obtain ⟨bs, rfl⟩ := u8_list zs hwz
    simp only [List.length_map] at hz hcell hb
    refine ⟨bs.take len, SlV.of (by simp; omega) hl (by simpa [maxLen] using hm) (by omega) ⟨by simp [bvs_length]; omega, fun h0 => ⟨x, rfl, ?_, fun j u hu => ?_⟩⟩, by simp; omega⟩
    · have := World.block_lt_of_cell? W _ (hcell 0 (by omega))
      rwa [block_of_add] at this
    · rw [← bvs_take, List.getElem?_take] at hu
      split at hu
      · rename_i hj
        have hj2 : j < bs.length := by omega
        rw [bvs_get hj2] at hu
        cases hu
        rw [hcell j hj2]
        simp [bv, List.getD_eq_getElem?_getD, List.getElem?_eq_getElem hj2]
      · cases hu
set_option maxRecDepth 100000 in
theorem open_bytesU {H : Type} {enc : TypeId × Value → H} {W : World} {base : Nat} {v : Value} {d : DataW H} {p : List MemPlace} (hv : Value.okWide Tryd.prog W .any base 44 v) (h : DataW.Trod enc Tryd.prog W 0 (fun _ => true) true 44 v d p) (z : Rows.uptoBulk d ≤ 1048576) : ∃ l : List UInt8, SlV W W.heap.size v l ∧ l.length ≤ 1048576 :=
  open_bytesN 1048576 (by decide) hv h (fun es ss e => by
    subst e
    have h1 := bulk_len es
    have h2 := bulk_len ss
    simp only [Rows.uptoBulk] at z
    omega)
end Go.Proofs.YtobofhiakgohfaaDoor
