/- The walks of the cursor's laws. -/
import Derived.Test.YtdilpljfghbbeaaF1
import Derived.Test.YtdilpljfghbbeaaS4
import Derived.Test.YtdilpljfghbbeaaR1
set_option linter.unusedVariables false
set_option linter.unusedSimpArgs false
namespace Go.Proofs.Ytdilpljfghbbeaa
open Go.RowKit

/-- A new reference without bytes. -/
theorem ref_new (w : World) (A : Option Addr) (c B : Nat) (bs : List UInt8) (h1 : bs.length ≤ c) (h2 : c ≤ 9223372036854775807) (h3 : bs.length ≤ 140737488355328) (h : Reads w B 1 A bs.length (bvs bs)) (hB : B ≤ w.heap.size) :
    RefB (w.alloc (.cells #[.slice A bs.length c, .int .i64 0] 45)) B w.heap.size bs 0 :=
  ⟨A, c, Blk.new _ _ _, Nat.zero_le _, h1, h2, h3, h.alloc hB _, hB⟩

set_option maxHeartbeats 1000000 in
theorem cursorNil_walk (w : World) (v0 : Value) (o : Int × Int × UInt8) (hv : v0 = .agg (opCells o).toArray) :
    Calls Try.prog 9 #[v0] w fun e w' => e = .returned (.bool true) ∧ Below w.heap.size w w' := by
  subst hv
  obtain ⟨kd, n, b⟩ := o
  show Calls Try.prog 9 #[.agg #[.int .i64 kd, .int .i64 n, .int .u8 (b.toNat : Int)]] w _
  have hn : CurV w w.heap.size (.pointer none) [] 0 := .inl ⟨rfl, rfl, rfl⟩
  go_enter Try.func9, Try.ntmps9
  go_wp2_with (first
    | (go_at_call 10; refine (fixed_any _).mono ?_; rintro e w1 ⟨rfl, hk1⟩; have hbx : Blk w1 w.heap.size 47 #[.int .i64 kd, .int .i64 n, .int .u8 (b.toNat : Int)] := Blk.kp (Blk.new _ _ _) hk1 (fun h => h); have hlt := hbx.lt; have c0 := hbx.cell 0; have c1 := hbx.cell 1; have c2 := hbx.cell 2; simp at c0 c1 c2)
    | (go_at_call 20; refine (step_any w1.heap.size w1.heap.size 0 w1.heap.size (.pointer none) [] kd n b _ (by simp) (by exact .inl ⟨rfl, rfl, rfl⟩) (by exact ref_new w1 none 0 _ [] (by simp) (by simp) (by simp) Reads.none_ (Nat.le_refl _)) (by simp)).mono ?_; rintro e w2 ⟨rfl, k', hc, hm, hks⟩; have hk' : k' = 0 := (by obtain ⟨_, _, _, hk, _⟩ := hm; simpa using hk); subst hk')
    | (go_at_call 15; refine (place_any _ 0 _ [] _ hc).mono ?_; rintro e w5 ⟨rfl, rfl⟩)
    | (go_at_call 16; refine (left_any _ 0 _ [] _ hc).mono ?_; rintro e w6 ⟨rfl, m, rfl⟩))

  go_ret
  refine ⟨rfl, (Kp.drewN ?_ _).below⟩
  have hk3 : K0 w w1 := ((Kp.refl _ w).alloc _).trans hk1
  refine (hk3.alloc _).trans' hks (fun i hi h => ?_)
  have := hk3.size
  rcases h with h | h
  · cases h
  · omega

/-- 'append([]byte{}, b...)'. -/
theorem CurV.far {S : Nat → Prop} {w w' : World} {B : Nat} {v : Value} {bs : List UInt8} {k : Nat} (h : CurV w B v bs k) (hB : B ≤ w.heap.size) (hk : Kp S w w') (h1 : ∀ pc, v = .pointer (some ⟨pc, 0, none⟩) → ¬ S pc) (h2 : ∀ b, b < B → ¬ S b) : CurV w' B v bs k := by
  rcases h with h | ⟨pc, e, h⟩
  · exact .inl h
  · exact .inr ⟨pc, e, h.kp hB hk (h1 pc e) (fun b _ hb _ => h2 b hb)⟩

theorem kc_own {w w' : World} {B k base n : Nat} {v r : Value} {bs : List UInt8} {xs : List Value} (hc : CurV w B v bs k) (h : w.ownsRow base 5 1 r n xs) (hk : KC v w w') : w'.ownsRow base 5 1 r n xs :=
  own_kt h hk fun g cs hg e => by
    obtain ⟨cs', h2⟩ := hc.blk e
    exact absurd rfl (h2.ne_ hg (by decide))

theorem own_blk {w : World} {base : Nat} {e : TypeId} {size n : Nat} {v : Value} {xs : List Value} (h : w.ownsRow base e size v n xs) (g : Nat) (hg : v.ownBlock = some g) : ∃ cs, Blk w g e cs := by
  rcases h.2 with ⟨rfl, _⟩ | ⟨g', cap, cur, rfl, _, hh, _⟩
  · simp [Value.ownBlock] at hg
  · have : g' = g := by simpa [Value.ownBlock] using hg
    subst this
    exact ⟨cur, hh⟩

theorem takeOf_ok (bs : List UInt8) (k q : Nat) (h : q ≤ bs.length - k) : takeOf bs k (q : Int) = ((bs.drop k).take q, 0, k + q) := by
  simp only [takeOf]
  rw [if_neg (by omega), if_neg (by omega)]
  simp

set_option maxRecDepth 100000 in
set_option maxHeartbeats 2000000 in
theorem cursorPieces_walk (w : World) (v0 : Value) (bs : List UInt8) (h0 : SlV w w.heap.size v0 bs) (v1 : Value) (sz : List Int) (h1 : IntsV w w.heap.size v1 sz) :
    Calls Try.prog 5 #[v0, v1] w fun e w' => e = .returned (.bool true) ∧ Below w.heap.size w w' := by
  obtain ⟨i0, hi, hz0, hz1, hz2⟩ := info_parts u8_info
  obtain ⟨A0, c0, rfl, b1, b2, b3, hr0⟩ := h0
  obtain ⟨A1, c1, rfl, s1, s2, hr1⟩ := h1
  go_enter Try.func5, Try.ntmps5
  go_wp2_with (first
    | (go_at_call 10; refine (fixed_any _).mono ?_; rintro e w1 ⟨rfl, hk1⟩; have hr01 := hr0.k0 (Nat.le_refl _) hk1; have hs1 := hk1.size)
    | (at_builtin; refine wpList_append_any _ rfl (.tmp 16) (.tmp 17) _ rfl w.heap.size 5 i0 _ 1 1 Try.underlying23 hi hz0 hz1 hz2 rfl (by omega) (.slice (some ⟨w1.heap.size, 0, none⟩) 0 0) 0 [] rfl (by exact World.ownsRow_made w1 #[] 0 hs1 (by simp [maxLen]) rfl) w.heap.size A0 bs.length c0 (bvs bs) rfl (by exact hr01.alloc hs1 _) (bvs_one bs) (by simp only [maxLen]; omega) (by omega) (by simp; omega) ?_; intro v2 w2 hown2 hg2 hat2; have hk2 : K0 w w2 := (hk1.alloc _).grown hg2 (by simp [Value.ownBlock]; omega); rw [Nat.zero_add, List.nil_append] at hown2; obtain ⟨A2, c2, rfl, d1, d2⟩ := own_form hown2)
    | (go_at_call 11; refine (new_any w2.heap.size _ bs _ (Nat.le_refl _) (by exact own_sl hown2 (Nat.le_refl _) b3)).mono ?_; rintro e w3 ⟨pc, rfl, hpc, hc3, hk3⟩; have hk03 : K0 w w3 := hk2.trans hk3; have hpw : w.heap.size ≤ pc := Nat.le_trans hk2.size hpc))
  have hcv3 : CurV w3 w3.heap.size (.pointer (some ⟨pc, 0, none⟩)) bs 0 := .inr ⟨pc, rfl, hc3⟩
  generalize hBB : w3.heap.size = BB at hcv3
  have hBB' : BB ≤ w3.heap.size := by omega
  have hWB : w.heap.size ≤ BB := by have := hk03.size; omega
  clear hBB hc3 hown2 hg2 hat2 hr01
  have hnp : ∀ i, i < w.heap.size → Value.pointer (some ⟨pc, 0, none⟩) = .pointer (some ⟨i, 0, none⟩) → False := by
    intro i hi e
    cases e
    omega
  go_loopw [6, 24] (fun all i wr => ∃ (j k : Nat), j ≤ sz.length ∧ k ≤ bs.length ∧ i = .int .i64 j ∧ wr.ownsRow BB 5 1 all k (bvs (bs.take k)) ∧ CurV wr BB (.pointer (some ⟨pc, 0, none⟩)) bs k ∧ K0 w wr ∧ BB ≤ wr.heap.size)
    (fun all i wr => sz.length - (intOf i).toNat)
  case atStart => exact ⟨0, 0, Nat.zero_le _, Nat.zero_le _, rfl, by simpa [bvs] using World.ownsRow_nil _ _ _ _, hcv3, hk03, hBB'⟩
  case round =>
    obtain ⟨j, k, hj, hkl, rfl, hown, hcv, hk0, hBw⟩ := hrel
    by_cases hlt : j < sz.length
    · obtain ⟨ad, rfl, hbl, hcell0⟩ := hr1 j sz[j] (List.getElem?_eq_getElem hlt)
      have hcell : wr.cell? (ad.add j) = some (.int .i64 sz[j]) := (hk0.cell (by rw [block_of_add]; exact hbl) (fun h => h)).trans hcell0
      generalize sz[j] = n at hcell hcell0
      have hQ : min (max n 0) ((bs.length - k : Nat) : Int) = (((min (max n 0) ((bs.length - k : Nat) : Int)).toNat : Nat) : Int) := by omega
      have hQl : (min (max n 0) ((bs.length - k : Nat) : Int)).toNat ≤ bs.length - k := by omega
      generalize (min (max n 0) ((bs.length - k : Nat) : Int)).toNat = q at hQ hQl
      have hT := takeOf_ok bs k q hQl
      have G := Lib.hid (fun W h1 h2 => Take_any BB k (.pointer (some ⟨pc, 0, none⟩)) bs (q : Int) W h1 h2)
      rw [hT] at G
      have hlx : ((bs.drop k).take q).length = q := by simp; omega
      have hx : bs.take (k + q) = bs.take k ++ (bs.drop k).take q := List.take_add ..
      have HX := Lib.hid hx
      have GB := Lib.hid (fun W h2 => back_any BB (k + q) (.pointer (some ⟨pc, 0, none⟩)) bs (q : Int) W h2)
      rw [if_neg (by omega), if_neg (by omega), show k + q - (q : Int).toNat = k by simp] at GB
      have HLX := Lib.hid hlx
      clear hT hx hcell0 hr1
      obtain ⟨Aa, ca, rfl, _, _⟩ := own_form hown
      generalize (bs.drop k).take q = x at *
      simp only [hlx] at G
      clear hlx
      go_wp2_with (go_at_call 16; refine (left_any BB k _ bs _ hcv).mono ?_; rintro e w4 ⟨rfl, m, rfl⟩)
      refine (G.out _ (by exact hBw) (by exact hcv.drewN m)).mono ?_
      rintro e w5 ⟨r5, rfl, ho5, hc5, hk5⟩
      obtain ⟨A5, c5, rfl, _, _⟩ := own_form ho5
      have hB5 := Nat.le_trans hBw hk5.size
      go_wp2_with fail
      refine (GB.out _ (by exact hc5)).mono ?_
      rintro e w6 ⟨rfl, hc6, hk6⟩
      have ho6 := kc_own hc5 ho5 hk6
      go_wp2_with fail
      refine (G.out _ (by exact Nat.le_trans hB5 hk6.size) (by exact hc6)).mono ?_
      rintro e w7 ⟨r7, rfl, ho7, hc7, hk7⟩
      have hox := kc_own hc6 ho6 hk7
      obtain ⟨A7, c7, rfl, _, _⟩ := own_form ho7
      have howr := kc_own hc6 (kc_own hc5 (kc_own (hcv.drewN m) (own_drewN hown m) hk5) hk6) hk7
      have cv1 := conv_str (P := Try.prog) 23 9 5 Try.underlying23 Try.underlying5 Try.underlying9 (Reads.of_own hox) HLX.out.symm (c := c5)
      have cv2 := conv_str (P := Try.prog) 23 9 5 Try.underlying23 Try.underlying5 Try.underlying9 (Reads.of_own ho7) HLX.out.symm (c := c7)
      have hk07 : K0 w w7 := ((hk0.drewN m).trans' hk5 hnp).trans' (hk6.trans hk7) hnp
      have hxr := (Reads.of_own hox)
      have hB7 : BB ≤ w7.heap.size := Nat.le_trans hB5 (Nat.le_trans hk6.size hk7.size)
      go_wp2_with (at_builtin; refine wpList_append_any _ rfl (.tmp 66) (.tmp 67) _ rfl BB 5 i0 _ 1 1 Try.underlying23 hi hz0 hz1 hz2 rfl (by omega) (.slice Aa k ca) k (bvs (bs.take k)) rfl (by exact howr) w7.heap.size A5 q c5 (bvs x) rfl (by exact hxr) (bvs_one x) (by simp only [maxLen]; omega) (by omega) (by exact hB7) ?_; intro v8 w8 hown8 hg8 hat8; have hk08 : K0 w w8 := hk07.grown hg8 (fun g hg => .inl (Nat.le_trans hWB (howr.lt g hg).1)); have hk78 : Kp (fun b => (Value.slice Aa k ca).ownBlock = some b) w7 w8 := (Kp.refl _ _).grown hg8 (fun g hg => .inr hg); have hc8 : CurV w8 BB (.pointer (some ⟨pc, 0, none⟩)) bs (k + q) := hc7.far hB7 hk78 (fun g hg e => by cases hg; obtain ⟨cs1, hb1⟩ := own_blk howr _ e; obtain ⟨cs2, hb2⟩ := hc7.blk rfl; exact absurd rfl (hb2.ne_ hb1 (by decide))) (fun b hb e => by have := (howr.lt b e).1; omega))
      refine ⟨⟨j + 1, k + q, by omega, by omega, by go_num, ?_, hc8, hk08, Nat.le_trans hB7 hk78.size⟩, by simp [intOf]; omega⟩
      rw [HX.out, bvs_append]
      exact hown8
    · obtain rfl : j = sz.length := by omega
      have G1 := Lib.hid (fun W h => left_any BB k (.pointer (some ⟨pc, 0, none⟩)) bs W h)
      have G2 := Lib.hid (fun W h1 h2 => window_any BB k (.pointer (some ⟨pc, 0, none⟩)) bs ((bs.length - k : Nat) : Int) W h1 h2)
      have G3 := Lib.hid (fun W h => place_any BB k (.pointer (some ⟨pc, 0, none⟩)) bs W h)
      simp only [Int.toNat_natCast] at G2
      rw [List.take_of_length_le (show (bs.drop k).length ≤ bs.length - k by simp)] at G2
      obtain ⟨Aa, ca, rfl, _, _⟩ := own_form hown
      have hstr : (⟨(bs.take k).toArray⟩ : ByteArray) ++ (⟨(bs.drop k).toArray⟩ : ByteArray) = ⟨bs.toArray⟩ := by
        rw [ByteArray.mk_append_mk, List.take_append_drop]
      have HS := Lib.hid hstr
      clear hstr
      have hlt2 : (bs.take k).length = k := by simp; omega
      have hl2 := Lib.hid hlt2
      clear hlt2 hlt
      go_wp2_with fail
      refine (G1.out _ (by exact hcv)).mono ?_
      rintro e w4 ⟨rfl, m, rfl⟩
      go_wp2_with fail
      refine (G2.out _ (by exact hBw) (by exact hcv.drewN m)).mono ?_
      rintro e w5 ⟨r5, rfl, ho5, hk5⟩
      simp only [List.length_drop] at ho5
      obtain ⟨A5, c5, rfl, _, _⟩ := own_form ho5
      have hc5 : CurV w5 BB (.pointer (some ⟨pc, 0, none⟩)) bs k := CurV.k0 (hcv.drewN m) hBw hk5
      go_wp2_with fail
      refine (G3.out _ (by exact hc5)).mono ?_
      rintro e w6 ⟨rfl, rfl⟩
      have hk05 : K0 w w5 := (hk0.drewN m).trans hk5
      have howr := own_kp (own_drewN hown m) hk5 (fun _ _ h => h)
      have cv1 := conv_str (P := Try.prog) 23 9 5 Try.underlying23 Try.underlying5 Try.underlying9 (Reads.of_own howr) hl2.out.symm (c := ca)
      have cv2 := conv_str (P := Try.prog) 23 9 5 Try.underlying23 Try.underlying5 Try.underlying9 (Reads.of_own ho5) (by simp) (c := c5)
      have cv3 := conv_str (P := Try.prog) 23 9 5 Try.underlying23 Try.underlying5 Try.underlying9 (hr0.k0 (Nat.le_refl _) hk05) rfl (c := c0)
      go_wp2
      go_ret
      refine ⟨?_, hk05.below⟩
      simp only [Array.getD_eq_getD_getElem?, List.getElem?_toArray, List.getElem?_cons_succ, List.getElem?_cons_zero, Option.getD_some, HS.out]
      simp [ByteArray.toList_eq]
end Go.Proofs.Ytdilpljfghbbeaa
