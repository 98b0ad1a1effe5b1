/-
  tale.numbers, tale.Tell, walked.
-/
import Derived.Test.YthhmdmfbaooldaaGreatDoorTaleRead
import Derived.Deep.DeepCutAuto
namespace Go.Proofs.YthhmdmfbaooldaaGreatDoor
open Go.RowKit Go.Sort

def iB (n : Int) : ByteArray := ⟨(Lib.itoa n).toArray⟩
def itemCells (x : ByteArray × ByteArray) : List Value := [.string x.1, .string x.2]
def okB : ByteArray := ⟨#[111, 107]⟩
def errB : ByteArray := ⟨#[101, 114, 114, 111, 114]⟩
def hasB : ByteArray := ⟨#[104, 97, 115]⟩
def valB : ByteArray := ⟨#[118, 97, 108]⟩
def itemsB : ByteArray := ⟨#[105, 116, 101, 109, 115]⟩
def statsB : ByteArray := ⟨#[115, 116, 97, 116, 115]⟩
/-- an answer's words, one part behind the other -/
def tw1 (err : Int) : List ByteArray := if err = 0 then [okB] else [errB, iB err]
def tw2 (has : Bool) : List ByteArray := if has = true then [hasB] else []
def tw3 (val : ByteArray) : List ByteArray := if val = ⟨#[]⟩ then [] else [valB, wB val.data.toList]
def tw4 (items : List (ByteArray × ByteArray)) : List ByteArray := if items.length = 0 then [] else [itemsB, iB items.length]
def tw5 (items : List (ByteArray × ByteArray)) : List ByteArray := items.flatMap fun x => [wB x.1.data.toList, wB x.2.data.toList]
def zeroS (st : List Int) : Bool := st.all (· == 0)
def tw6 (st : List Int) : List ByteArray := if zeroS st = true then [] else statsB :: st.map iB
def tellW (err : Int) (has : Bool) (val : ByteArray) (items : List (ByteArray × ByteArray)) (st : List Int) : List ByteArray :=
  tw1 err ++ tw2 has ++ tw3 val ++ tw4 items ++ tw5 items ++ tw6 st

set_option maxHeartbeats 2000000 in
theorem numbers_any (s0 s1 s2 s3 s4 s5 s6 s7 s8 : Int) (w : World) :
    Calls Tryz.prog 41 #[.agg #[.int .i64 s0, .int .i64 s1, .int .i64 s2, .int .i64 s3, .int .i64 s4, .int .i64 s5, .int .i64 s6, .int .i64 s7, .int .i64 s8]] w fun e w' =>
      (∃ b, e = .returned (.slice (some ⟨b, 0, none⟩) 9 9) ∧ w.heap.size ≤ b ∧ b < w'.heap.size ∧ ∀ i v, (i64s [s0, s1, s2, s3, s4, s5, s6, s7, s8])[i]? = some v → w'.cell? ⟨b, i, none⟩ = some v) ∧ Below w.heap.size w w' := by
  have hu := Tryz.underlying50
  go_enter Tryz.func41, Tryz.ntmps41
  go_wp2_with fail
  go_ret
  refine ⟨⟨_, rfl, by simp, by simp, fun i v hi => ?_⟩, ((Below.refl _ w).alloc (Nat.le_refl _) _).alloc (by simp) _⟩
  have hn := Blk.new (w.alloc (.cells #[.int .i64 s0, .int .i64 s1, .int .i64 s2, .int .i64 s3, .int .i64 s4, .int .i64 s5, .int .i64 s6, .int .i64 s7, .int .i64 s8] 50)) #[.int .i64 s0, .int .i64 s1, .int .i64 s2, .int .i64 s3, .int .i64 s4, .int .i64 s5, .int .i64 s6, .int .i64 s7, .int .i64 s8] 3
  rw [World.size_alloc] at hn
  exact hn.at hi

theorem itoa_len {n : Int} (h : (Lit.int .i64 n).wf = true) : (Lib.itoa n).length ≤ 21 := by
  obtain ⟨h1, h2⟩ := wf_i64 h
  unfold Lib.itoa
  split
  · have := dec_len n.natAbs (by omega)
    simp only [List.length_cons]; omega
  · have := dec_len n.toNat (by omega)
    omega
/-- an answer's cells -/
def ansCells (err : Int) (has : Bool) (val : ByteArray) (A : Option Addr) (n cap : Nat) (st : List Int) : List Value := [.int .i64 err, .bool has, .string val, .slice A n cap] ++ i64s st
theorem tw1_len (err : Int) : (tw1 err).length ≤ 2 := by unfold tw1; split <;> simp
theorem tw2_len (has : Bool) : (tw2 has).length ≤ 1 := by unfold tw2; split <;> simp
theorem tw3_len (val : ByteArray) : (tw3 val).length ≤ 2 := by unfold tw3; split <;> simp
theorem tw4_len (items : List (ByteArray × ByteArray)) : (tw4 items).length ≤ 2 := by unfold tw4; split <;> simp
theorem tw5_len (items : List (ByteArray × ByteArray)) : (tw5 items).length = 2 * items.length := by
  induction items with
  | nil => rfl
  | cons x l ih =>
    have : tw5 (x :: l) = [wB x.1.data.toList, wB x.2.data.toList] ++ tw5 l := rfl
    rw [this, List.length_append, ih]; simp; omega
theorem tw6_len (st : List Int) : (tw6 st).length ≤ 1 + st.length := by unfold tw6; split <;> simp; omega
theorem statsNe_run (s0 s1 s2 s3 s4 s5 s6 s7 s8 : Int) (w : World) : (binOp .neq 50 (.agg #[.int .i64 s0, .int .i64 s1, .int .i64 s2, .int .i64 s3, .int .i64 s4, .int .i64 s5, .int .i64 s6, .int .i64 s7, .int .i64 s8]) (.agg #[.int .i64 0, .int .i64 0, .int .i64 0, .int .i64 0, .int .i64 0, .int .i64 0, .int .i64 0, .int .i64 0, .int .i64 0])).run Tryz.prog w = .ok (.bool (!zeroS [s0, s1, s2, s3, s4, s5, s6, s7, s8])) w := by
  have hu := Tryz.underlying50
  unfold zeroS
  go_simp
  by_cases h0 : s0 = 0 <;> by_cases h1 : s1 = 0 <;> by_cases h2 : s2 = 0 <;> by_cases h3 : s3 = 0 <;> by_cases h4 : s4 = 0 <;> by_cases h5 : s5 = 0 <;> by_cases h6 : s6 = 0 <;> by_cases h7 : s7 = 0 <;> by_cases h8 : s8 = 0 <;> simp [h0, h1, h2, h3, h4, h5, h6, h7, h8]
theorem ba_of_empty {v : ByteArray} (h : v.toList = []) : v = ⟨#[]⟩ := ba_toList.1 (by rw [h, ByteArray.toList_eq])
theorem tw5_take (items : List (ByteArray × ByteArray)) (k : Nat) (h : k < items.length) : tw5 (items.take (k + 1)) = tw5 (items.take k) ++ [wB items[k].1.data.toList, wB items[k].2.data.toList] := by
  rw [List.take_succ_eq_append_getElem h]; unfold tw5; rw [List.flatMap_append]; simp
theorem items_at (items : List (ByteArray × ByteArray)) (k : Nat) (h : k < items.length) : (items.flatMap itemCells)[k * 2]? = some (.string items[k].1) ∧ (items.flatMap itemCells)[k * 2 + 1]? = some (.string items[k].2) := by
  induction items generalizing k with
  | nil => simp at h
  | cons x l ih =>
    cases k with
    | zero => exact ⟨rfl, rfl⟩
    | succ k =>
      have := ih k (by simpa using h)
      have e : (x :: l).flatMap itemCells = .string x.1 :: .string x.2 :: l.flatMap itemCells := rfl
      rw [e, show (k + 1) * 2 = k * 2 + 1 + 1 by omega, List.getElem?_cons_succ, List.getElem?_cons_succ, List.getElem?_cons_succ, List.getElem?_cons_succ]
      exact this

theorem tellW_sizes {err : Int} {has : Bool} {val : ByteArray} {items : List (ByteArray × ByteArray)} {st : List Int} (he : (Lit.int .i64 err).wf = true) (hv : val.size ≤ 1000) (hn : items.length ≤ 100) (hi : ∀ x ∈ items, x.1.size ≤ 1000 ∧ x.2.size ≤ 1000) (hs : ∀ n ∈ st, (Lit.int .i64 n).wf = true) :
    ∀ x ∈ (tellW err has val items st).map (·.data.toList), x.length ≤ 4000 := by
  have hiB : ∀ n : Int, (Lit.int .i64 n).wf = true → (iB n).data.toList.length ≤ 4000 := fun n h => by
    have := itoa_len h
    show (Lib.itoa n).length ≤ 4000
    omega
  intro x hx
  obtain ⟨y, hy, rfl⟩ := List.mem_map.1 hx
  unfold tellW at hy
  simp only [List.mem_append] at hy
  rcases hy with ((((h | h) | h) | h) | h) | h
  · unfold tw1 at h
    split at h
    · rw [List.mem_singleton.1 h]; decide
    · simp only [List.mem_cons, List.not_mem_nil, or_false] at h
      rcases h with rfl | rfl
      · decide
      · exact hiB _ he
  · unfold tw2 at h
    split at h
    · rw [List.mem_singleton.1 h]; decide
    · simp at h
  · unfold tw3 at h
    split at h
    · simp at h
    · simp only [List.mem_cons, List.not_mem_nil, or_false] at h
      rcases h with rfl | rfl
      · decide
      · exact wB_len val hv
  · unfold tw4 at h
    split at h
    · simp at h
    · simp only [List.mem_cons, List.not_mem_nil, or_false] at h
      rcases h with rfl | rfl
      · decide
      · have := dec_len items.length (by omega)
        show (Lib.itoa (items.length : Int)).length ≤ 4000
        rw [Lib.itoa_nonneg]; omega
  · unfold tw5 at h
    obtain ⟨p, hp, h⟩ := List.mem_flatMap.1 h
    simp only [List.mem_cons, List.not_mem_nil, or_false] at h
    rcases h with rfl | rfl
    · exact wB_len _ (hi p hp).1
    · exact wB_len _ (hi p hp).2
  · unfold tw6 at h
    split at h
    · simp at h
    · rcases List.mem_cons.1 h with rfl | h
      · decide
      · obtain ⟨n, hn, rfl⟩ := List.mem_map.1 h
        exact hiB n (hs n hn)
set_option maxHeartbeats 16000000 in
set_option maxRecDepth 100000 in
theorem tale_Tell_any (err : Int) (has : Bool) (val : ByteArray) (A : Option Addr) (cap : Nat) (items : List (ByteArray × ByteArray)) (s0 s1 s2 s3 s4 s5 s6 s7 s8 : Int) (w : World)
    (he : (Lit.int .i64 err).wf = true) (hv : val.size ≤ 1000) (hr : Row w A (items.flatMap itemCells)) (hi : items.length ≤ 100) (his : ∀ x ∈ items, x.1.size ≤ 1000 ∧ x.2.size ≤ 1000) (hst : ∀ n ∈ [s0, s1, s2, s3, s4, s5, s6, s7, s8], (Lit.int .i64 n).wf = true) (hL : Lib28 w) :
    Calls Tryz.prog 23 #[.agg #[.int .i64 err, .bool has, .string val, .slice A items.length cap, .int .i64 s0, .int .i64 s1, .int .i64 s2, .int .i64 s3, .int .i64 s4, .int .i64 s5, .int .i64 s6, .int .i64 s7, .int .i64 s8]] w fun e w' =>
      e = .returned (.string (joinB (tellW err has val items [s0, s1, s2, s3, s4, s5, s6, s7, s8]))) ∧ Below w.heap.size w w' := by
  have hu := Tryz.underlying52
  have hsizes := tellW_sizes (has := has) he hv hi his hst
  obtain ⟨T, hT⟩ : ∃ T, T = tellW err has val items [s0, s1, s2, s3, s4, s5, s6, s7, s8] := ⟨_, rfl⟩
  rw [← hT] at hsizes ⊢
  have HSIZ := hid hsizes; have HTT := hid hT
  have HL := hid hL; have HR := hid hr; have HIS := hid his; have HST := hid hst
  clear hL hr his hst hsizes hT
  obtain ⟨N, hN⟩ : ∃ N, N = items.length := ⟨_, rfl⟩
  rw [← hN] at hi ⊢
  have HN := hid hN
  clear hN
  go_enter Tryz.func23, Tryz.ntmps23
  go_wp2_with (with_reducible refine at_op (.box 52 (.tmp 0)) rfl ?_; refine Stopped.go ?_)
  refine Stopped.mk (wpList_box rfl #[.int .i64 err, .bool has, .string val, .slice A N cap, .int .i64 s0, .int .i64 s1, .int .i64 s2, .int .i64 s3, .int .i64 s4, .int .i64 s5, .int .i64 s6, .int .i64 s7, .int .i64 s8] 52 (by go_simp) ?_)
  intro g w1 hg Bg hb1 hz
  have HB1 := hid hb1
  obtain ⟨C, hC⟩ : ∃ C, C = ansCells err has val A N cap [s0, s1, s2, s3, s4, s5, s6, s7, s8] := ⟨_, rfl⟩
  have HC := hid hC
  change Blk w1 g 52 (ansCells err has val A N cap [s0, s1, s2, s3, s4, s5, s6, s7, s8]) at Bg
  rw [← hC] at Bg
  have HBX := hid Bg; have HRX := hid (HR.out.below hb1); have HLX := hid (HL.out.below hb1)
  have HE := hid (wf_i64 he)
  clear Bg hb1 hg hz hC HR HL he
  go_upto_region 2 with fail
  have H1 : WRow w1 (w1.alloc (.cells #[.string okB] 9)) (.slice (some ⟨w1.heap.size, 0, none⟩) 1 1) [okB] := WRow.new (Below.refl _ _) #[.string okB] [okB] rfl (by simp) (by simp)
  change WRow w1 (w1.alloc (.cells #[.string ⟨#[111, 107]⟩] 9)) (.slice (some ⟨w1.heap.size, 0, none⟩) 1 1) [okB] at H1
  generalize hV0 : Value.slice (some ⟨w1.heap.size, 0, none⟩) 1 1 = V0 at H1 ⊢
  generalize w1.alloc (.cells #[.string ⟨#[111, 107]⟩] 9) = w2 at H1 ⊢
  have H2 := hid H1
  have c0 : w2.cell? ⟨g, 0, none⟩ = some (.int .i64 err) := (HBX.out.belowS H1.2.1).at (i := 0) (by rw [HC.out]; rfl)
  clear hV0 H1
  go_upto_if 11 with fail
  clear c0
  go_cut [3] (fun v3 wx => Hid (WRow w1 wx v3 (tw1 err)))
  case first =>
    by_cases h0 : err = 0
    · subst h0
      go_wp2_with fail
      go_meet
      exact H2.out
    · have hq : (err != 0) = true := by rw [bne_iff_ne]; exact h0
      have HIT := hid (Itoa_any err HE.out.1 HE.out.2 w2 (HLX.out.below H2.out.2.1))
      have HT := hid (show tw1 err = [errB, iB err] by unfold tw1; rw [if_neg h0])
      have c0 : w2.cell? ⟨g, 0, none⟩ = some (.int .i64 err) := (HBX.out.belowS H2.out.2.1).at (i := 0) (by rw [HC.out]; rfl)
      clear h0
      go_wp2_with fail
      refine HIT.out.mono ?_; rintro e w3 ⟨rfl, hb3⟩
      have H3 := hid (bt H2.out.2.1 hb3)
      clear hb3 c0 HIT
      go_wp2_with fail
      go_meet
      show WRow _ _ _ _
      rw [HT.out]
      exact WRow.new H3.out #[.string errB, .string (iB err)] [errB, iB err] rfl (by simp) (by simp)
  case rest =>
    have H3 := hcut
    clear hcut H2
    have c1 : wc.cell? ⟨g, 1, none⟩ = some (.bool has) := (HBX.out.belowS H3.out.2.1).at (i := 1) (by rw [HC.out]; rfl)
    go_upto_if 17 with fail
    clear c1
    go_cut [3] (fun v3 wx => Hid (WRow w1 wx v3 (tw1 err ++ tw2 has)))
    case first =>
      cases has with
      | false =>
        go_wp2_with fail
        go_meet
        show WRow _ _ _ (tw1 err ++ [])
        rw [List.append_nil]; exact H3.out
      | true =>
        go_wp2_with (with_reducible refine at_op (.call { callee := .builtin .append, args := #[.tmp 18, .tmp 19], argTypes := #[78, 78] }) rfl ?_; refine Stopped.go ?_)
        refine Stopped.mk (wpList_more rfl (.tmp 18) (.tmp 19) rfl [hasB] rfl (H3.out.below (below_alloc wc _)) _ 1 1 rfl rfl (row_new wc #[.string hasB] 9) (by have := tw1_len err; simp only [List.length_cons, List.length_nil]; omega) ?_)
        intro V5 w5 hr5
        have H5 := hid hr5
        clear hr5
        clear H3
        go_wp2_with fail
        go_meet
        exact H5.out
    case rest =>
      have H4 := hcut
      clear hcut H3
      have c2 : wc.cell? ⟨g, 2, none⟩ = some (.string val) := (HBX.out.belowS H4.out.2.1).at (i := 2) (by rw [HC.out]; rfl)
      go_upto_if 23 with fail
      clear c2
      go_cut [3] (fun v3 wx => Hid (WRow w1 wx v3 (tw1 err ++ tw2 has ++ tw3 val)))
      case first =>
        have c2 : wc.cell? ⟨g, 2, none⟩ = some (.string val) := (HBX.out.belowS H4.out.2.1).at (i := 2) (by rw [HC.out]; rfl)
        by_cases hv0 : val.toList = []
        · have HT := hid (show tw3 val = [] by unfold tw3; rw [if_pos (ba_of_empty hv0)])
          have hv1 : (!val.toList.isEmpty) = false := by rw [hv0]; rfl
          rw [hv1]
          clear c2 hv0 hv1
          go_wp2_with fail
          go_meet
          show WRow _ _ _ _
          rw [HT.out, List.append_nil]; exact H4.out
        · have HT := hid (show tw3 val = [valB, wB val.data.toList] by
            unfold tw3
            rw [if_neg (fun e => hv0 (by rw [e, ByteArray.toList_eq]))])
          have hv1 : (!val.toList.isEmpty) = true := by
            cases h : val.toList with
            | nil => exact absurd h hv0
            | cons _ _ => rfl
          have HWD := hid (tale_Word_any val (by omega) wc)
          rw [hv1]
          clear hv0 hv1
          go_wp2_with fail
          refine HWD.out.mono ?_; rintro e we ⟨rfl, hb5⟩
          have H5 := hid (H4.out.below hb5)
          clear hb5 c2 HWD H4
          go_wp2_with (with_reducible refine at_op (.call { callee := .builtin .append, args := #[.tmp 24, .tmp 28], argTypes := #[78, 78] }) rfl ?_; refine Stopped.go ?_)
          refine Stopped.mk (wpList_more rfl (.tmp 24) (.tmp 28) rfl [valB, wB val.data.toList] rfl (H5.out.below (below_alloc we _)) _ 2 2 rfl rfl (row_new we #[.string valB, .string (wB val.data.toList)] 9) (by have := tw1_len err; have := tw2_len has; simp only [List.length_append, List.length_cons, List.length_nil]; omega) ?_)
          intro V5 w5 hr5
          have H6 := hid hr5
          clear hr5
          clear H5
          go_wp2_with fail
          go_meet
          show WRow _ _ _ _
          rw [HT.out]; exact H6.out
      case rest =>
        have H5 := hcut
        clear hcut H4
        have c3 : wc.cell? ⟨g, 3, none⟩ = some (.slice A N cap) := (HBX.out.belowS H5.out.2.1).at (i := 3) (by rw [HC.out]; rfl)
        go_upto_if 33 with fail
        clear c3
        go_cut [3] (fun v3 wx => Hid (WRow w1 wx v3 (tw1 err ++ tw2 has ++ tw3 val ++ tw4 items)))
        case first =>
          by_cases hn0 : N = 0
          · have HT := hid (show tw4 items = [] by unfold tw4; rw [if_pos (by rw [← HN.out]; exact hn0)])
            have hd : ¬ (0 : Int) < (N : Int) := by omega
            clear hn0
            go_wp2_with fail
            go_meet
            show WRow _ _ _ _
            rw [HT.out, List.append_nil]; exact H5.out
          · have HT := hid (show tw4 items = [itemsB, iB N] by unfold tw4; rw [if_neg (by rw [← HN.out]; exact hn0), ← HN.out])
            have hd : (0 : Int) < (N : Int) := by omega
            have HIT := hid (Itoa_any (N : Int) (by omega) (by omega) wc (HLX.out.below H5.out.2.1))
            have c3 : wc.cell? ⟨g, 3, none⟩ = some (.slice A N cap) := (HBX.out.belowS H5.out.2.1).at (i := 3) (by rw [HC.out]; rfl)
            clear hn0
            go_wp2_with fail
            refine HIT.out.mono ?_; rintro e wf ⟨rfl, hb5⟩
            have H6 := hid (H5.out.below hb5)
            clear hb5 c3 HIT H5
            go_wp2_with (with_reducible refine at_op (.call { callee := .builtin .append, args := #[.tmp 34, .tmp 39], argTypes := #[78, 78] }) rfl ?_; refine Stopped.go ?_)
            refine Stopped.mk (wpList_more rfl (.tmp 34) (.tmp 39) rfl [itemsB, iB N] rfl (H6.out.below (below_alloc wf _)) _ 2 2 rfl rfl (row_new wf #[.string itemsB, .string (iB N)] 9) (by have := tw1_len err; have := tw2_len has; have := tw3_len val; simp only [List.length_append, List.length_cons, List.length_nil]; omega) ?_)
            intro V5 w5 hr5
            have H7 := hid hr5
            clear hr5
            clear H6
            go_wp2_with fail
            go_meet
            show WRow _ _ _ _
            rw [HT.out]; exact H7.out
        case rest =>
          have H6 := hcut
          clear hcut H5
          have c3 : wc.cell? ⟨g, 3, none⟩ = some (.slice A N cap) := (HBX.out.belowS H6.out.2.1).at (i := 3) (by rw [HC.out]; rfl)
          have hlen0 : (tw1 err ++ tw2 has ++ tw3 val ++ tw4 items).length ≤ 7 := by
            have := tw1_len err; have := tw2_len has; have := tw3_len val; have := tw4_len items
            simp only [List.length_append]; omega
          obtain ⟨S0, hS0⟩ : ∃ S, S = tw1 err ++ tw2 has ++ tw3 val ++ tw4 items := ⟨_, rfl⟩
          rw [← hS0] at H6 hlen0
          have HS0 := hid hS0
          clear hS0
          go_wp2_with fail
          clear c3
          go_loopg [3, 44] N (fun gg v3 j wx => ∃ k : Nat, k + gg = N ∧ j = .int .i64 k ∧ Hid (WRow w1 wx v3 (S0 ++ tw5 (items.take k))))
          case atStart => exact ⟨0, by omega, rfl, by show WRow _ _ _ (S0 ++ []); rw [List.append_nil]; exact H6.out⟩
          case round =>
            obtain ⟨k, hk, rfl, HI⟩ := hrel
            by_cases hlt : k < N
            · have hkl : k < items.length := by rw [← HN.out]; exact hlt
              obtain ⟨b, off, rfl, hb, hc⟩ := row_cell HRX.out (by
                intro e
                have := (items_at items k hkl).1
                rw [e] at this; simp at this)
              obtain ⟨d1, d2⟩ := items_at items k hkl
              have e1 := hc _ _ d1
              have e2 := hc _ _ d2
              rw [← HI.out.2.1.cell (p := ⟨b, off + k * 2, none⟩) hb] at e1
              rw [← HI.out.2.1.cell (p := ⟨b, off + (k * 2 + 1), none⟩) hb, ← Nat.add_assoc] at e2
              have hsz := HIS.out items[k] (List.getElem_mem _)
              obtain ⟨kk, hkk⟩ : ∃ q, q = items[k].1 := ⟨_, rfl⟩
              obtain ⟨vv, hvv⟩ : ∃ q, q = items[k].2 := ⟨_, rfl⟩
              have htk := tw5_take items k hkl
              rw [← hkk, ← hvv] at htk hsz
              rw [← hkk] at e1
              rw [← hvv] at e2
              have HTK := hid htk; have HSZ := hid hsz
              have hl5 : (S0 ++ tw5 (items.take k)).length ≤ 1000 := by
                rw [List.length_append, tw5_len, List.length_take]; omega
              have HL5 := hid hl5
              clear hb hc d1 d2 hkk hvv htk hsz hl5 hkl
              go_upto_region 13 with fail
              have hN := Blk.new wr #[.string kk, .string vv] 54
              have hW := HI.out.below (below_alloc wr (.cells #[.string kk, .string vv] 54))
              obtain ⟨gi, hgi⟩ : ∃ gi, gi = wr.heap.size := ⟨_, rfl⟩
              rw [← hgi] at hN ⊢
              clear e1 e2 hgi HI
              generalize wr.alloc (.cells #[.string kk, .string vv] 54) = w4 at hN hW ⊢
              have HW := hid hW
              have x0 : ∀ (dd : Nat) (os : Array Obj), (grow (redrawn w4 dd) os).cell? ⟨gi, 0, none⟩ = some (.string kk) := fun dd os => cell_regrown (hN.at (i := 0) rfl) dd os
              have x1 : ∀ (dd : Nat) (os : Array Obj), (grow (redrawn w4 dd) os).cell? ⟨gi, 1, none⟩ = some (.string vv) := fun dd os => cell_regrown (hN.at (i := 1) rfl) dd os
              have E1 := hid (fun (dd : Nat) (os : Array Obj) => tale_Word_any kk (by have := HSZ.out.1; omega) (grow (redrawn w4 dd) os))
              have E2 := hid (fun (dd : Nat) (os : Array Obj) => tale_Word_any vv (by have := HSZ.out.2; omega) (grow (redrawn w4 dd) os))
              clear hN hW
              refine wp_region_any (by kernel_rfl) ?_
              refine wpAny_take (i := 0) (v := u3) (fuel := 9) rfl (by kernel_rfl) (by kernel_rfl) (by kernel_rfl) (fun _ _ _ h => h) (Or.inl ⟨by rfl, fun w => rfl⟩) ?_
              refine wpAny_quiet_tail 1 7 (C := fun w' => ∃ p : Regrown, w' = grow (redrawn w4 p.d) p.os) rfl (by kernel_rfl) (regrown_of_below (RowKit.Below.refl _ w4).drew) ?_
              simp only [List.take_succ_cons, List.take_zero, List.drop_succ_cons, List.drop_zero]
              simp [Act.put]
              repeat (go_big_quiet_step (first | with_reducible exact Calls.regrown_of (E1.out _ _) | with_reducible exact Calls.regrown_of (E2.out _ _)))
              refine wpQuiet_nil ?_
              rintro ⟨dq, osq⟩
              have HR4 := hid (HW.out.below (below_regrown w4 dq osq))
              clear x0 x1 E1 E2 HW
              generalize grow (redrawn w4 dq) osq = w6 at HR4 ⊢
              go_wp2_with (with_reducible refine at_op (.call { callee := .builtin .append, args := #[.tmp 48, .tmp 55], argTypes := #[78, 78] }) rfl ?_; refine Stopped.go ?_)
              refine Stopped.mk (wpList_more rfl (.tmp 48) (.tmp 55) rfl [wB kk.data.toList, wB vv.data.toList] rfl (HR4.out.below (below_alloc w6 _)) _ 2 2 rfl rfl (row_new w6 #[.string (wB kk.data.toList), .string (wB vv.data.toList)] 9) (by have := HL5.out; simp only [List.length_cons, List.length_nil]; omega) ?_)
              intro V5 w5 hr5
              have H7 := hid hr5
              clear hr5
              have H8 : Hid (WRow w1 w5 V5 (S0 ++ tw5 (items.take (k + 1)))) := by
                show WRow _ _ _ _
                rw [HTK.out, ← List.append_assoc]; exact H7.out
              clear H7 HR4 HTK
              go_wp2_with fail
              go_roundg (N - (k + 1))
              case measure => omega
              case rel => exact ⟨k + 1, by omega, by go_num, H8.out⟩
            · have hall : items.take k = items := List.take_of_length_le (by rw [← HN.out]; omega)
              have H7 : Hid (WRow w1 wr u3 (S0 ++ tw5 items)) := by
                have := HI.out
                rw [hall] at this; exact this
              clear HI hall
              obtain ⟨S1, hS1⟩ : ∃ S, S = S0 ++ tw5 items := ⟨_, rfl⟩
              have hS1l : S1.length ≤ 300 := by rw [hS1, List.length_append, tw5_len, ← HN.out]; omega
              rw [← hS1] at H7
              have HS1 := hid hS1
              have hcmp := fun w' => statsNe_run s0 s1 s2 s3 s4 s5 s6 s7 s8 w'
              obtain ⟨z, hz⟩ : ∃ z, z = zeroS [s0, s1, s2, s3, s4, s5, s6, s7, s8] := ⟨_, rfl⟩
              rw [← hz] at hcmp
              have HZ := hid hz
              clear hS1 hz
              have d4 : wr.cell? ⟨g, 4, none⟩ = some (.int .i64 s0) := (HBX.out.belowS H7.out.2.1).at (i := 4) (by rw [HC.out]; rfl)
              have d5 : wr.cell? ⟨g, 5, none⟩ = some (.int .i64 s1) := (HBX.out.belowS H7.out.2.1).at (i := 5) (by rw [HC.out]; rfl)
              have d6 : wr.cell? ⟨g, 6, none⟩ = some (.int .i64 s2) := (HBX.out.belowS H7.out.2.1).at (i := 6) (by rw [HC.out]; rfl)
              have d7 : wr.cell? ⟨g, 7, none⟩ = some (.int .i64 s3) := (HBX.out.belowS H7.out.2.1).at (i := 7) (by rw [HC.out]; rfl)
              have d8 : wr.cell? ⟨g, 8, none⟩ = some (.int .i64 s4) := (HBX.out.belowS H7.out.2.1).at (i := 8) (by rw [HC.out]; rfl)
              have d9 : wr.cell? ⟨g, 9, none⟩ = some (.int .i64 s5) := (HBX.out.belowS H7.out.2.1).at (i := 9) (by rw [HC.out]; rfl)
              have d10 : wr.cell? ⟨g, 10, none⟩ = some (.int .i64 s6) := (HBX.out.belowS H7.out.2.1).at (i := 10) (by rw [HC.out]; rfl)
              have d11 : wr.cell? ⟨g, 11, none⟩ = some (.int .i64 s7) := (HBX.out.belowS H7.out.2.1).at (i := 11) (by rw [HC.out]; rfl)
              have d12 : wr.cell? ⟨g, 12, none⟩ = some (.int .i64 s8) := (HBX.out.belowS H7.out.2.1).at (i := 12) (by rw [HC.out]; rfl)
              go_upto_if 61 with fail
              clear d4 d5 d6 d7 d8 d9 d10 d11 d12 hcmp
              go_cut [3] (fun v3 wx => Hid (WRow w1 wx v3 (S1 ++ tw6 [s0, s1, s2, s3, s4, s5, s6, s7, s8])))
              case first =>
                cases z with
                | true =>
                  have HT := hid (show tw6 [s0, s1, s2, s3, s4, s5, s6, s7, s8] = [] by unfold tw6; rw [if_pos HZ.out.symm])
                  go_wp2_with fail
                  go_meet
                  show WRow _ _ _ _
                  rw [HT.out, List.append_nil]; exact H7.out
                | false =>
                  have HT := hid (show tw6 [s0, s1, s2, s3, s4, s5, s6, s7, s8] = statsB :: [s0, s1, s2, s3, s4, s5, s6, s7, s8].map iB by unfold tw6; rw [if_neg (by rw [← HZ.out]; decide)])
                  go_wp2_with (with_reducible refine at_op (.call { callee := .builtin .append, args := #[.tmp 62, .tmp 63], argTypes := #[78, 78] }) rfl ?_; refine Stopped.go ?_)
                  refine Stopped.mk (wpList_more rfl (.tmp 62) (.tmp 63) rfl [statsB] rfl (H7.out.below (below_alloc wr _)) _ 1 1 rfl rfl (row_new wr #[.string statsB] 9) (by simp only [List.length_cons, List.length_nil]; omega) ?_)
                  intro V5 w5 hr5
                  have H8 := hid hr5
                  clear hr5
                  clear H7
                  have d4 : w5.cell? ⟨g, 4, none⟩ = some (.int .i64 s0) := (HBX.out.belowS H8.out.2.1).at (i := 4) (by rw [HC.out]; rfl)
                  have d5 : w5.cell? ⟨g, 5, none⟩ = some (.int .i64 s1) := (HBX.out.belowS H8.out.2.1).at (i := 5) (by rw [HC.out]; rfl)
                  have d6 : w5.cell? ⟨g, 6, none⟩ = some (.int .i64 s2) := (HBX.out.belowS H8.out.2.1).at (i := 6) (by rw [HC.out]; rfl)
                  have d7 : w5.cell? ⟨g, 7, none⟩ = some (.int .i64 s3) := (HBX.out.belowS H8.out.2.1).at (i := 7) (by rw [HC.out]; rfl)
                  have d8 : w5.cell? ⟨g, 8, none⟩ = some (.int .i64 s4) := (HBX.out.belowS H8.out.2.1).at (i := 8) (by rw [HC.out]; rfl)
                  have d9 : w5.cell? ⟨g, 9, none⟩ = some (.int .i64 s5) := (HBX.out.belowS H8.out.2.1).at (i := 9) (by rw [HC.out]; rfl)
                  have d10 : w5.cell? ⟨g, 10, none⟩ = some (.int .i64 s6) := (HBX.out.belowS H8.out.2.1).at (i := 10) (by rw [HC.out]; rfl)
                  have d11 : w5.cell? ⟨g, 11, none⟩ = some (.int .i64 s7) := (HBX.out.belowS H8.out.2.1).at (i := 11) (by rw [HC.out]; rfl)
                  have d12 : w5.cell? ⟨g, 12, none⟩ = some (.int .i64 s8) := (HBX.out.belowS H8.out.2.1).at (i := 12) (by rw [HC.out]; rfl)
                  have HNB := hid (numbers_any s0 s1 s2 s3 s4 s5 s6 s7 s8 w5)
                  go_wp2_with fail
                  refine HNB.out.mono ?_; rintro e w6 ⟨⟨bn, rfl, hbn, hb0, hrow⟩, hb6⟩
                  have H9 := hid (H8.out.below hb6)
                  have HAS : Hid (Aside w6 V5 bn (i64s [s0, s1, s2, s3, s4, s5, s6, s7, s8])) := ⟨hb0, hrow, fun k hk => by have := H8.out.lt k hk; omega⟩
                  clear hb6 hrow hbn hb0 d4 d5 d6 d7 d8 d9 d10 d11 d12 HNB H8
                  go_wp2_with fail
                  go_loopg [3, 69] 9 (fun gg v3 j wx => ∃ k : Nat, k + gg = 9 ∧ j = .int .i64 k ∧ Hid (WRow w1 wx v3 (S1 ++ [statsB] ++ ([s0, s1, s2, s3, s4, s5, s6, s7, s8].take k).map iB) ∧ Aside wx v3 bn (i64s [s0, s1, s2, s3, s4, s5, s6, s7, s8])))
                  case atStart => exact ⟨0, by omega, rfl, by simpa using H9.out, HAS.out⟩
                  case round =>
                    obtain ⟨k, hk, rfl, HI⟩ := hrel
                    by_cases hlt9 : k < 9
                    · obtain ⟨n, hn⟩ : ∃ n, [s0, s1, s2, s3, s4, s5, s6, s7, s8][k]? = some n := ⟨_, List.getElem?_eq_getElem (by simpa using hlt9)⟩
                      have hcell : wr.cell? ⟨bn, k, none⟩ = some (.int .i64 n) := HI.out.2.2.1 k _ (by unfold i64s; rw [List.getElem?_map, hn]; rfl)
                      have hwf := wf_i64 (HST.out n (List.mem_of_getElem? hn))
                      have HIT := hid (Itoa_any n hwf.1 hwf.2 wr (HLX.out.below HI.out.1.2.1))
                      have htk : ([s0, s1, s2, s3, s4, s5, s6, s7, s8].take (k + 1)).map iB = ([s0, s1, s2, s3, s4, s5, s6, s7, s8].take k).map iB ++ [iB n] := by
                        rw [List.take_add_one, hn]; simp
                      have HTK := hid htk
                      clear hn hwf htk
                      go_wp2_with fail
                      refine HIT.out.mono ?_; rintro e w7 ⟨rfl, hb7⟩
                      have H10 := hid (HI.out.1.below hb7)
                      have HA7 := hid (HI.out.2.below hb7)
                      clear hb7 hcell HIT HI
                      have hl9 : (([s0, s1, s2, s3, s4, s5, s6, s7, s8].take k).map iB).length ≤ 9 := by rw [List.length_map, List.length_take]; simp; omega
                      go_wp2_with (with_reducible refine at_op (.call { callee := .builtin .append, args := #[.tmp 73, .tmp 76], argTypes := #[78, 78] }) rfl ?_; refine Stopped.go ?_)
                      refine Stopped.mk (wpList_more2 rfl (.tmp 73) (.tmp 76) rfl [iB n] rfl (H10.out.below (below_alloc w7 _)) _ 1 1 rfl rfl (row_new w7 #[.string (iB n)] 9) (by simp only [List.length_append, List.length_cons, List.length_nil] at *; omega) ?_)
                      clear hl9
                      intro V8 w8 hr8 hk8 hv8
                      have H12 : Hid (WRow w1 w8 V8 (S1 ++ [statsB] ++ ([s0, s1, s2, s3, s4, s5, s6, s7, s8].take (k + 1)).map iB) ∧ Aside w8 V8 bn (i64s [s0, s1, s2, s3, s4, s5, s6, s7, s8])) := by
                        refine ⟨?_, (HA7.out.below (below_alloc w7 _)).keeps hk8 hv8⟩
                        rw [HTK.out, ← List.append_assoc]; exact hr8
                      clear hr8 hk8 hv8 H10 HA7 HTK
                      go_wp2_with fail
                      go_roundg (9 - (k + 1))
                      case measure => omega
                      case rel => exact ⟨k + 1, by omega, by go_num, H12.out⟩
                    · have hall : [s0, s1, s2, s3, s4, s5, s6, s7, s8].take k = [s0, s1, s2, s3, s4, s5, s6, s7, s8] := List.take_of_length_le (by simp; omega)
                      have H12 : Hid (WRow w1 wr u3 (S1 ++ (statsB :: [s0, s1, s2, s3, s4, s5, s6, s7, s8].map iB))) := by
                        have := HI.out.1
                        rw [hall, List.append_assoc] at this; exact this
                      clear HI hall
                      go_wp2_with fail
                      go_meet
                      show WRow _ _ _ _
                      rw [HT.out]; exact H12.out
              case rest =>
                have H8 := hcut
                clear hcut H7
                have hST : S1 ++ tw6 [s0, s1, s2, s3, s4, s5, s6, s7, s8] = T := by
                  rw [HTT.out, HS1.out, HS0.out]; rfl
                rw [hST] at H8
                have hTl : T.length ≤ 400 := by
                  rw [← hST, List.length_append]
                  have := tw6_len [s0, s1, s2, s3, s4, s5, s6, s7, s8]
                  simp only [List.length_cons, List.length_nil] at this
                  omega
                have hT0 : 0 < T.length := by
                  rw [HTT.out]; unfold tellW
                  have : 0 < (tw1 err).length := by unfold tw1; split <;> simp
                  simp only [List.length_append]; omega
                obtain ⟨b, cap', rfl, hcap, hb, hcc, hbel⟩ := H8.out.parts hT0
                have hJ := Join_any b cap' T wc hcc hb hcap (by omega) (by
                  have h1 := join_len _ 4000 HSIZ.out
                  rw [List.length_map] at h1
                  have h2 : T.length * (4000 + 1) ≤ 400 * 4001 := Nat.mul_le_mul_right _ hTl
                  omega)
                have HJ := hid hJ
                have HBEL := hid (HB1.out.trans (hbel.mono HB1.out.size))
                clear hST hT0 hTl hcap hb hcc hbel hJ
                go_wp2_with fail
                refine HJ.out.mono ?_; rintro e w7 ⟨rfl, hb7⟩
                have HE7 := hid (bt HBEL.out hb7)
                clear hb7 HJ
                go_wp2_with fail
                go_ret
                exact ⟨rfl, HE7.out⟩
end Go.Proofs.YthhmdmfbaooldaaGreatDoor
