/-
  Unlike answers have unlike lines: the plain law.
-/
import Derived.Test.YthhmdmfbaooldaaGreatDoorTaleSame2
import Derived.Test.YthhmdmfbaooldaaGreatDoorTaleLaw
namespace Go.Proofs.YthhmdmfbaooldaaGreatDoor
open Go.RowKit Go.Sort

theorem dec_inj {a b : Nat} (ha : a < 18446744073709551616) (hb : b < 18446744073709551616) (h : Lib.decDigits a = Lib.decDigits b) : a = b := by
  have := numT_dec a ha
  rw [h, numT_dec b hb] at this
  exact (Option.some.inj this).symm
theorem itoa_inj {n m : Int} (hn : (Lit.int .i64 n).wf = true) (hm : (Lit.int .i64 m).wf = true) (h : Lib.itoa n = Lib.itoa m) : n = m := by
  obtain ⟨n1, n2⟩ := wf_i64 hn
  obtain ⟨m1, m2⟩ := wf_i64 hm
  have hno : ∀ k : Nat, ∀ l, Lib.decDigits k ≠ 45 :: l := fun k l e => by
    have := (dec_print k 45 (by rw [e]; simp)).1
    revert this; decide
  unfold Lib.itoa at h
  split at h <;> split at h
  · simp only [List.cons.injEq, true_and] at h
    have := dec_inj (by omega) (by omega) h
    omega
  · exact absurd h.symm (hno _ _)
  · exact absurd h (hno _ _)
  · have := dec_inj (by omega) (by omega) h
    omega
theorem noblank_itoa (n : Int) : 32 ∉ Lib.itoa n := fun h => by
  unfold Lib.itoa at h
  split at h
  · rcases List.mem_cons.1 h with h | h
    · revert h; decide
    · exact noblank_dec _ h
  · exact noblank_dec _ h
theorem ba_ext {x y : ByteArray} (h : x.data.toList = y.data.toList) : x = y := by
  cases x; cases y
  congr 1
  exact Array.ext' h
theorem iB_inj {n m : Int} (hn : (Lit.int .i64 n).wf = true) (hm : (Lit.int .i64 m).wf = true) (h : iB n = iB m) : n = m := by
  apply itoa_inj hn hm
  have : (iB n).data.toList = (iB m).data.toList := by rw [h]
  exact this
theorem wB_word {x y : ByteArray} (h : wB x.data.toList = wB y.data.toList) : x = y := by
  apply ba_ext
  apply word_inj
  have : (wB x.data.toList).data.toList = (wB y.data.toList).data.toList := by rw [h]
  exact this
theorem tell_noblank (err : Int) (has : Bool) (val : ByteArray) (items : List (ByteArray × ByteArray)) (st : List Int) : ∀ x ∈ (tellW err has val items st).map (·.data.toList), 32 ∉ x := by
  intro x hx
  obtain ⟨y, hy, rfl⟩ := List.mem_map.1 hx
  have hi : ∀ n, 32 ∉ (iB n).data.toList := fun n => noblank_itoa n
  have hw : ∀ s : ByteArray, 32 ∉ (wB s.data.toList).data.toList := fun s => noblank_word _
  unfold tellW at hy
  simp only [List.mem_append] at hy
  rcases hy with ((((h | h) | h) | h) | h) | h
  · unfold tw1 at h
    split at h
    · rw [List.mem_singleton.1 h]; decide
    · simp only [List.mem_cons, List.not_mem_nil, or_false] at h
      rcases h with rfl | rfl
      · decide
      · exact hi _
  · unfold tw2 at h
    split at h
    · rw [List.mem_singleton.1 h]; decide
    · simp at h
  · unfold tw3 at h
    split at h
    · simp at h
    · simp only [List.mem_cons, List.not_mem_nil, or_false] at h
      rcases h with rfl | rfl
      · decide
      · exact hw _
  · unfold tw4 at h
    split at h
    · simp at h
    · simp only [List.mem_cons, List.not_mem_nil, or_false] at h
      rcases h with rfl | rfl
      · decide
      · exact hi _
  · unfold tw5 at h
    obtain ⟨p, hp, h⟩ := List.mem_flatMap.1 h
    simp only [List.mem_cons, List.not_mem_nil, or_false] at h
    rcases h with rfl | rfl
    · exact hw _
    · exact hw _
  · unfold tw6 at h
    split at h
    · simp at h
    · rcases List.mem_cons.1 h with rfl | h
      · decide
      · obtain ⟨n, hn, rfl⟩ := List.mem_map.1 h
        exact hi n
theorem tell_ne (err : Int) (has : Bool) (val : ByteArray) (items : List (ByteArray × ByteArray)) (st : List Int) : (tellW err has val items st).map (·.data.toList) ≠ [] := by
  unfold tellW tw1; split <;> simp
theorem tell_words (err : Int) (has : Bool) (val : ByteArray) (items : List (ByteArray × ByteArray)) (st : List Int) : splitL (joinB (tellW err has val items st)).data.toList = (tellW err has val items st).map (·.data.toList) :=
  splitL_join _ (tell_ne err has val items st) (tell_noblank err has val items st)
theorem map_data_inj : ∀ {a b : List ByteArray}, a.map (·.data.toList) = b.map (·.data.toList) → a = b
  | [], [], _ => rfl
  | [], _ :: _, h => by simp at h
  | _ :: _, [], h => by simp at h
  | x :: a, y :: b, h => by
    simp only [List.map_cons, List.cons.injEq] at h
    rw [ba_ext h.1, map_data_inj h.2]
theorem joinB_inj {err err' : Int} {has has' : Bool} {val val' : ByteArray} {items items' : List (ByteArray × ByteArray)} {st st' : List Int} (h : joinB (tellW err has val items st) = joinB (tellW err' has' val' items' st')) :
    tellW err has val items st = tellW err' has' val' items' st' := by
  apply map_data_inj
  rw [← tell_words, ← tell_words, h]
theorem tw6_head (st : List Int) : ∀ x, x ≠ statsB → (tw6 st).head? ≠ some x := by
  intro x hx h
  unfold tw6 at h
  split at h
  · simp at h
  · simp only [List.head?_cons, Option.some.injEq] at h; exact hx h.symm
theorem tw4_head (items : List (ByteArray × ByteArray)) (st : List Int) : ∀ x, x ≠ statsB → x ≠ itemsB → (tw4 items ++ (tw5 items ++ tw6 st)).head? ≠ some x := by
  intro x hx hx2 h
  by_cases h0 : items.length = 0
  · obtain rfl := List.eq_nil_of_length_eq_zero h0
    exact tw6_head st x hx h
  · unfold tw4 at h
    rw [if_neg h0] at h
    simp only [List.cons_append, List.head?_cons, Option.some.injEq] at h
    exact hx2 h.symm
theorem tw3_head (val : ByteArray) (items : List (ByteArray × ByteArray)) (st : List Int) : ∀ x, x ≠ statsB → x ≠ itemsB → x ≠ valB → (tw3 val ++ (tw4 items ++ (tw5 items ++ tw6 st))).head? ≠ some x := by
  intro x hx hx2 hx3 h
  unfold tw3 at h
  split at h
  · exact tw4_head items st x hx hx2 h
  · simp only [List.cons_append, List.head?_cons, Option.some.injEq] at h
    exact hx3 h.symm
theorem st_zero {st st' : List Int} (hl : st.length = st'.length) (h : zeroS st = true) (h' : zeroS st' = true) : st = st' := by
  unfold zeroS at h h'
  rw [List.all_eq_true] at h h'
  apply List.ext_getElem hl
  intro i h1 h2
  have a := h _ (List.getElem_mem h1)
  have b := h' _ (List.getElem_mem h2)
  rw [beq_iff_eq] at a b
  rw [a, b]
theorem map_iB : ∀ {a b : List Int}, (∀ n ∈ a, (Lit.int .i64 n).wf = true) → (∀ n ∈ b, (Lit.int .i64 n).wf = true) → a.map iB = b.map iB → a = b
  | [], [], _, _, _ => rfl
  | [], _ :: _, _, _, h => by simp at h
  | _ :: _, [], _, _, h => by simp at h
  | x :: a, y :: b, ha, hb, h => by
    simp only [List.map_cons, List.cons.injEq] at h
    rw [iB_inj (ha x (by simp)) (hb y (by simp)) h.1, map_iB (fun n hn => ha n (by simp [hn])) (fun n hn => hb n (by simp [hn])) h.2]
theorem tw6_inj {st st' : List Int} (hl : st.length = st'.length) (ha : ∀ n ∈ st, (Lit.int .i64 n).wf = true) (hb : ∀ n ∈ st', (Lit.int .i64 n).wf = true) (h : tw6 st = tw6 st') : st = st' := by
  unfold tw6 at h
  split at h <;> split at h
  · exact st_zero hl (by assumption) (by assumption)
  · simp at h
  · simp at h
  · simp only [List.cons.injEq, true_and] at h
    exact map_iB ha hb h
theorem tw5_inj : ∀ {a b : List (ByteArray × ByteArray)}, tw5 a = tw5 b → a = b
  | [], [], _ => rfl
  | [], _ :: _, h => by simp [tw5] at h
  | _ :: _, [], h => by simp [tw5] at h
  | x :: a, y :: b, h => by
    have e1 : tw5 (x :: a) = wB x.1.data.toList :: wB x.2.data.toList :: tw5 a := rfl
    have e2 : tw5 (y :: b) = wB y.1.data.toList :: wB y.2.data.toList :: tw5 b := rfl
    rw [e1, e2] at h
    simp only [List.cons.injEq] at h
    obtain ⟨x1, x2⟩ := x
    obtain ⟨y1, y2⟩ := y
    have q1 : x1 = y1 := wB_word h.1
    have q2 : x2 = y2 := wB_word h.2.1
    rw [q1, q2, tw5_inj h.2.2]
theorem tell_inj {err err' : Int} {has has' : Bool} {val val' : ByteArray} {items items' : List (ByteArray × ByteArray)} {st st' : List Int}
    (he : (Lit.int .i64 err).wf = true) (he' : (Lit.int .i64 err').wf = true) (hi : items.length ≤ 100) (hi' : items'.length ≤ 100) (hl : st.length = st'.length) (ha : ∀ n ∈ st, (Lit.int .i64 n).wf = true) (hb : ∀ n ∈ st', (Lit.int .i64 n).wf = true)
    (h : tellW err has val items st = tellW err' has' val' items' st') : err = err' ∧ has = has' ∧ val = val' ∧ items = items' ∧ st = st' := by
  unfold tellW at h
  simp only [List.append_assoc] at h
  have h1 : err = err' ∧ tw2 has ++ (tw3 val ++ (tw4 items ++ (tw5 items ++ tw6 st))) = tw2 has' ++ (tw3 val' ++ (tw4 items' ++ (tw5 items' ++ tw6 st'))) := by
    unfold tw1 at h
    split at h <;> split at h
    · rename_i e e'
      simp only [List.cons_append, List.nil_append, List.cons.injEq, true_and] at h
      exact ⟨by rw [e, e'], h⟩
    · simp only [List.cons_append, List.nil_append, List.cons.injEq] at h
      exact absurd h.1 (by decide)
    · simp only [List.cons_append, List.nil_append, List.cons.injEq] at h
      exact absurd h.1 (by decide)
    · simp only [List.cons_append, List.nil_append, List.cons.injEq, true_and] at h
      exact ⟨iB_inj he he' h.1, h.2⟩
  obtain ⟨r1, h⟩ := h1
  have h2 : has = has' ∧ tw3 val ++ (tw4 items ++ (tw5 items ++ tw6 st)) = tw3 val' ++ (tw4 items' ++ (tw5 items' ++ tw6 st')) := by
    cases has <;> cases has'
    · exact ⟨rfl, h⟩
    · exfalso
      have e : (tw3 val ++ (tw4 items ++ (tw5 items ++ tw6 st))).head? = some hasB := by
        have : tw2 false ++ (tw3 val ++ (tw4 items ++ (tw5 items ++ tw6 st))) = tw3 val ++ (tw4 items ++ (tw5 items ++ tw6 st)) := rfl
        rw [← this, h]; rfl
      exact tw3_head _ _ _ hasB (by decide) (by decide) (by decide) e
    · exfalso
      have e : (tw3 val' ++ (tw4 items' ++ (tw5 items' ++ tw6 st'))).head? = some hasB := by
        have : tw2 false ++ (tw3 val' ++ (tw4 items' ++ (tw5 items' ++ tw6 st'))) = tw3 val' ++ (tw4 items' ++ (tw5 items' ++ tw6 st')) := rfl
        rw [← this, ← h]; rfl
      exact tw3_head _ _ _ hasB (by decide) (by decide) (by decide) e
    · exact ⟨rfl, (List.cons.inj h).2⟩
  obtain ⟨r2, h⟩ := h2
  have h3 : val = val' ∧ tw4 items ++ (tw5 items ++ tw6 st) = tw4 items' ++ (tw5 items' ++ tw6 st') := by
    by_cases e : val = ⟨#[]⟩ <;> by_cases e' : val' = ⟨#[]⟩
    · unfold tw3 at h
      rw [if_pos e, if_pos e'] at h
      exact ⟨by rw [e, e'], h⟩
    · exfalso
      unfold tw3 at h
      rw [if_pos e, if_neg e'] at h
      exact tw4_head items st valB (by decide) (by decide) (by
        have := congrArg List.head? h
        exact this)
    · exfalso
      unfold tw3 at h
      rw [if_neg e, if_pos e'] at h
      exact tw4_head items' st' valB (by decide) (by decide) (by
        have := congrArg List.head? h
        exact this.symm)
    · unfold tw3 at h
      rw [if_neg e, if_neg e'] at h
      simp only [List.cons_append, List.nil_append, List.cons.injEq, true_and] at h
      exact ⟨wB_word h.1, h.2⟩
  obtain ⟨r3, h⟩ := h3
  have h4 : items = items' ∧ tw6 st = tw6 st' := by
    by_cases e : items.length = 0 <;> by_cases e' : items'.length = 0
    · obtain rfl := List.eq_nil_of_length_eq_zero e
      obtain rfl := List.eq_nil_of_length_eq_zero e'
      exact ⟨rfl, h⟩
    · exfalso
      obtain rfl := List.eq_nil_of_length_eq_zero e
      unfold tw4 at h
      rw [if_neg e'] at h
      exact tw6_head st itemsB (by decide) (by
        have := congrArg List.head? h
        exact this)
    · exfalso
      obtain rfl := List.eq_nil_of_length_eq_zero e'
      unfold tw4 at h
      rw [if_neg e] at h
      exact tw6_head st' itemsB (by decide) (by
        have := congrArg List.head? h
        exact this.symm)
    · unfold tw4 at h
      rw [if_neg e, if_neg e'] at h
      simp only [List.cons_append, List.nil_append, List.cons.injEq, true_and] at h
      have hwf : ∀ n : Nat, n ≤ 100 → (Lit.int .i64 (n : Int)).wf = true := fun n hn => by
        have : n < 101 := by omega
        revert n; decide +kernel
      have hn := iB_inj (hwf _ hi) (hwf _ hi') h.1
      have h5 := List.append_inj h.2 (by rw [tw5_len, tw5_len]; omega)
      exact ⟨tw5_inj h5.1, h5.2⟩
  obtain ⟨r4, h⟩ := h4
  exact ⟨r1, r2, r3, r4, tw6_inj hl ha hb h⟩
theorem tell_same (err err' : Int) (has has' : Bool) (val val' : ByteArray) (items items' : List (ByteArray × ByteArray)) (st st' : List Int)
    (he : (Lit.int .i64 err).wf = true) (he' : (Lit.int .i64 err').wf = true) (hi : items.length ≤ 100) (hi' : items'.length ≤ 100) (hl : st.length = st'.length) (ha : ∀ n ∈ st, (Lit.int .i64 n).wf = true) (hb : ∀ n ∈ st', (Lit.int .i64 n).wf = true) :
    ((joinB (tellW err has val items st)).toList == (joinB (tellW err' has' val' items' st')).toList) = ansB err has val items st err' has' val' items' st' := by
  unfold ansB
  rw [Bool.eq_iff_iff, beq_iff_eq, ba_toList, decide_eq_true_iff]
  constructor
  · intro h
    exact tell_inj he he' hi hi' hl ha hb (joinB_inj h)
  · rintro ⟨rfl, rfl, rfl, rfl, rfl⟩; rfl
end Go.Proofs.YthhmdmfbaooldaaGreatDoor
