/-
  What a parameter's datum tells of its cells and of its sizes: whole numbers, texts, truths, rows and structs of them, to any depth.
-/
import Derived.Test.YthhmdmfbaooldaaGreatDoorKit
import Derived.Deep.Slices
import Derived.ChangeSame
import Derived.SizedLaws
namespace Go.Proofs.YthhmdmfbaooldaaGreatDoor
open Go.ChangeShapes Go.WideShapes Go.RowKit Go.Deep

section
variable {H : Type} {enc : TypeId × Value → H} {P : Program} {w : World}

def Fact (P : Program) (w : World) : Nat → TypeId → List Value → Prop
  | 0, _, _ => True
  | d + 1, t, cs => match P.underlying t with
    | some .bool => ∃ b, cs = [.bool b]
    | some (.int k) => ∃ n, cs = [.int k n] ∧ (Lit.int k n).wf = true
    | some .string => ∃ s : ByteArray, cs = [.string s] ∧ s.size ≤ 140737488351232
    | some (.slice e) => ∃ A len cap, cs = [.slice A len cap] ∧ len ≤ cap ∧ cap ≤ maxLen ∧ cap * P.bytesOf e ≤ 140737488351232 ∧
        ∀ i, i < len → ∃ a cs', A = some a ∧ cs'.length = P.cellsOf e ∧ (∀ j v, cs'[j]? = some v → w.cell? ((a.add (i * P.cellsOf e)).add j) = some v) ∧ Fact P w d e cs'
    | some (.struct fs) => cs.length = P.cellsOf t ∧ ∀ (i : Nat) (f : Field), fs[i]? = some f → Fact P w d f.type ((cs.drop f.offset).take (P.cellsOf f.type))
    | _ => True

theorem weights_mem_all {t : TypeId} : ∀ {ds : List (DataW H)} {d : DataW H}, d ∈ ds → ∀ n ∈ d.weights P t, n ∈ DataW.weightsAll P t ds
  | d0 :: ds, d, hd, n, hn => by
    simp only [DataW.weightsAll, List.mem_append]
    rcases List.mem_cons.1 hd with rfl | hd
    · exact Or.inl hn
    · exact Or.inr (weights_mem_all hd n hn)

theorem fact_of_trod : ∀ (d fuel : Nat) (t : TypeId) (cs : List Value) (x : DataW H × List MemPlace), DataW.trod enc P w 0 (fun _ => true) true fuel t cs = some x →
    (∀ n ∈ x.1.weights P t, n ≤ reachBytes) → Fact P w d t cs
  | 0, _, _, _, _, _, _ => trivial
  | d + 1, fuel, t, cs, x, h, hw => by
    unfold Fact
    split
    · rename_i ht
      obtain ⟨b, h1, _⟩ := DataW.trod_bool ht h
      exact ⟨b, h1⟩
    · rename_i k ht
      obtain ⟨n, h1, _, h2⟩ := DataW.trod_int ht h
      exact ⟨n, h1, h2⟩
    · rename_i ht
      obtain ⟨s, h1, h2, _⟩ := DataW.trod_string ht h
      refine ⟨s, h1, ?_⟩
      have := hw s.data.toList.length (by rw [h2]; simp [DataW.weights])
      rw [Array.length_toList] at this
      exact this
    · rename_i e ht
      rcases open_slice ht h with ⟨h1, _⟩ | ⟨a, len, cap, m, n, D, Pl, h1, _, hl, hm, hmm, hx, hc⟩
      · exact ⟨none, 0, 0, h1, Nat.le_refl _, Nat.zero_le _, by simp, fun i hi => by omega⟩
      · simp only [if_true] at hmm
        subst hmm
        refine ⟨some a, len, m, h1, hl, hm, ?_, fun i hi => ?_⟩
        · have := hw (m * P.bytesOf e) (by
            rw [hx]
            simp only [DataW.weights, ht, List.length_map, List.length_range]
            rw [show len + (m - len) = m by omega]
            exact List.mem_cons_self)
          exact this
        · obtain ⟨cs', h2, h3⟩ := hc i (by omega)
          obtain ⟨_, h4, h5⟩ := World.cells?_some h2
          refine ⟨a, cs', rfl, h4, fun j v hj => ?_, fact_of_trod d n e cs' _ h3 fun k hk => hw k ?_⟩
          · have hjl := (List.getElem?_eq_some_iff.1 hj).1
            rw [h5 j (by omega)]
            exact hj
          · rw [hx]
            simp only [DataW.weights, ht]
            refine List.mem_cons_of_mem _ (List.mem_append_left _ (weights_mem_all ?_ k hk))
            exact List.mem_map.2 ⟨i, by simpa using hi, rfl⟩
    · rename_i fs ht
      obtain ⟨xs, n, _, hx, hl, hlen, hf⟩ := DataW.trod_struct ht h
      refine ⟨hl, fun i f hi => ?_⟩
      have h1 := hf i f hi
      have hil : i < fs.size := (Array.getElem?_eq_some_iff.1 hi).1
      have hy : xs[i]? = some (xs[i]'(by omega)) := List.getElem?_eq_getElem (by omega)
      rw [hy] at h1
      refine fact_of_trod d n f.type _ _ h1 fun k hk => hw k ?_
      rw [hx]
      simp only [DataW.weights, ht]
      refine DataW.weights_mem_each (j := i) (t := f.type) (d := (xs[i]'(by omega)).1) ?_ ?_ k hk
      · simp [hi]
      · simp [hy]
    · trivial

/-- of a parameter -/
theorem fact_of {t : TypeId} {v : Value} {d : DataW H} {ps : List MemPlace} (n : Nat) (h : DataW.Trod enc P w 0 (fun _ => true) true t v d ps) {ts : List TypeId} {ds : List (DataW H)}
    (hs : (DataW.weightsEach P ts ds).all (· ≤ reachBytes) = true) {j : Nat} (ht : ts[j]? = some t) (hd : ds[j]? = some d) : Fact P w n t v.cells.toList := by
  obtain ⟨fuel, hf⟩ := h
  refine fact_of_trod n fuel t _ _ hf fun k hk => ?_
  have := List.all_eq_true.1 hs k (DataW.weights_mem_each ht hd k hk)
  simpa using this

theorem add_add' (a : Addr) (i j : Nat) : (a.add i).add j = a.add (i + j) := Go.Deep.add_add a i j

/-- a row's cells, an element behind the other -/
theorem fact_rows {d : Nat} {e : TypeId} {A : Option Addr} {len : Nat} (hpos : 0 < P.cellsOf e)
    (h : ∀ i, i < len → ∃ a cs', A = some a ∧ cs'.length = P.cellsOf e ∧ (∀ j v, cs'[j]? = some v → w.cell? ((a.add (i * P.cellsOf e)).add j) = some v) ∧ Fact P w d e cs') :
    ∃ vs : List (List Value), vs.length = len ∧ (∀ c ∈ vs, c.length = P.cellsOf e ∧ Fact P w d e c) ∧ Row w A vs.flatten := by
  rcases Nat.eq_zero_or_pos len with rfl | h0
  · exact ⟨[], rfl, by simp, .inl rfl⟩
  obtain ⟨a, cs0, rfl, hl0, hc0, _⟩ := h 0 h0
  have h' : ∀ i, i < len → ∃ cs' : List Value, cs'.length = P.cellsOf e ∧ (∀ j v, cs'[j]? = some v → w.cell? ((a.add (i * P.cellsOf e)).add j) = some v) ∧ Fact P w d e cs' := fun i hi => by
    obtain ⟨a', cs', ha, h1, h2, h3⟩ := h i hi
    injection ha with ha
    subst ha
    exact ⟨cs', h1, h2, h3⟩
  obtain ⟨F, hF⟩ := choose_lt (α := List Value) (p := fun i cs' => cs'.length = P.cellsOf e ∧ (∀ j v, cs'[j]? = some v → w.cell? ((a.add (i * P.cellsOf e)).add j) = some v) ∧ Fact P w d e cs') h'
  obtain ⟨b, off, sp⟩ := a
  have hc1 : ∃ v, w.cell? ((Addr.add ⟨b, off, sp⟩ 0)) = some v := by
    obtain ⟨v, hv⟩ : ∃ v, cs0[0]? = some v := ⟨cs0[0]'(by omega), List.getElem?_eq_getElem (by omega)⟩
    refine ⟨v, ?_⟩
    have := hc0 0 v hv
    rwa [Nat.zero_mul, add_add'] at this
  have hsp : sp = none := by
    obtain ⟨v, hv⟩ := hc1
    cases sp with
    | none => rfl
    | some s =>
      exfalso
      unfold Addr.add at hv
      unfold World.cell? at hv
      split at hv <;> simp_all
  subst hsp
  have hadd : ∀ k, Addr.add ⟨b, off, none⟩ k = ⟨b, off + k, none⟩ := fun k => by unfold Addr.add; split <;> simp_all
  have hlt : b < w.heap.size := by
    obtain ⟨v, hv⟩ := hc1
    have := World.block_lt_of_cell? w _ hv
    rwa [hadd] at this
  refine ⟨(List.range len).map F, by simp, ?_, .inr ⟨b, off, rfl, hlt, ?_⟩⟩
  · intro c hc
    obtain ⟨i, hi, rfl⟩ := List.mem_map.1 hc
    have := hF i (by simpa using hi)
    exact ⟨this.1, this.2.2⟩
  · have key : ∀ n s, n + s ≤ len → ∀ i v, (((List.range' s n).map F).flatten)[i]? = some v → w.cell? ⟨b, off + s * P.cellsOf e + i, none⟩ = some v := by
      intro n
      induction n with
      | zero => intro s _ i v hv; simp at hv
      | succ n ih =>
        intro s hs i v hv
        rw [List.range'_succ, List.map_cons, List.flatten_cons] at hv
        have hFs := hF s (by omega)
        by_cases hi : i < (F s).length
        · rw [List.getElem?_append_left hi] at hv
          have := hFs.2.1 i v hv
          rw [add_add', hadd] at this
          rw [← this]
          congr 2; omega
        · rw [List.getElem?_append_right (by omega)] at hv
          have := ih (s + 1) (by omega) (i - (F s).length) v hv
          rw [← this]
          congr 2
          rw [Nat.add_mul, Nat.one_mul]
          have := hFs.1
          omega
    intro i v hv
    have := key len 0 (by omega) i v (by rwa [← List.range_eq_range'])
    rwa [Nat.zero_mul, Nat.add_zero] at this

/-- lists whose elements are told one by one -/
theorem list_told {α β : Type} {f : α → β} {p : α → Prop} : ∀ {vs : List β}, (∀ c ∈ vs, ∃ x, c = f x ∧ p x) → ∃ xs : List α, vs = xs.map f ∧ ∀ x ∈ xs, p x
  | [], _ => ⟨[], rfl, by simp⟩
  | c :: vs, h => by
    obtain ⟨x, rfl, hx⟩ := h c (by simp)
    obtain ⟨xs, rfl, hxs⟩ := list_told (vs := vs) fun c hc => h c (List.mem_cons_of_mem _ hc)
    exact ⟨x :: xs, rfl, fun y hy => by rcases List.mem_cons.1 hy with rfl | hy; exact hx; exact hxs y hy⟩

theorem fact_string {d : Nat} {t : TypeId} {cs : List Value} (ht : P.underlying t = some .string) (h : Fact P w (d + 1) t cs) : ∃ s : ByteArray, cs = [.string s] ∧ s.size ≤ 140737488351232 := by
  unfold Fact at h; rw [ht] at h; exact h
theorem fact_int {d : Nat} {t : TypeId} {k : IntKind} {cs : List Value} (ht : P.underlying t = some (.int k)) (h : Fact P w (d + 1) t cs) : ∃ n, cs = [.int k n] ∧ (Lit.int k n).wf = true := by
  unfold Fact at h; rw [ht] at h; exact h
theorem fact_bool {d : Nat} {t : TypeId} {cs : List Value} (ht : P.underlying t = some .bool) (h : Fact P w (d + 1) t cs) : ∃ b, cs = [.bool b] := by
  unfold Fact at h; rw [ht] at h; exact h
theorem fact_struct {d : Nat} {t : TypeId} {fs : Array Field} {cs : List Value} (ht : P.underlying t = some (.struct fs)) (h : Fact P w (d + 1) t cs) :
    cs.length = P.cellsOf t ∧ ∀ (i : Nat) (f : Field), fs[i]? = some f → Fact P w d f.type ((cs.drop f.offset).take (P.cellsOf f.type)) := by
  unfold Fact at h; rw [ht] at h; exact h
/-- one field of one cell -/
theorem fact_field {d t i : Nat} {fs : Array Field} {cs : List Value} {v : Value} (h : ∀ (i : Nat) (f : Field), fs[i]? = some f → Fact P w d f.type ((cs.drop f.offset).take (P.cellsOf f.type)))
    (hf : (fs[i]?).map (fun f => (f.type, f.offset)) = some (t, i)) (hc : P.cellsOf t = 1) (hv : cs[i]? = some v) : Fact P w d t [v] := by
  obtain ⟨f, h1, h2⟩ := Option.map_eq_some_iff.1 hf
  injection h2 with e1 e2
  have := h i f h1
  rw [e1, e2, hc] at this
  have hl := (List.getElem?_eq_some_iff.1 hv)
  obtain ⟨hil, hiv⟩ := hl
  rw [List.drop_eq_getElem_cons hil, hiv] at this
  simpa using this
/-- one field, of whatever cells -/
theorem fact_sub {d t i o c : Nat} {fs : Array Field} {cs l : List Value} (h : ∀ (i : Nat) (f : Field), fs[i]? = some f → Fact P w d f.type ((cs.drop f.offset).take (P.cellsOf f.type)))
    (hf : (fs[i]?).map (fun f => (f.type, f.offset)) = some (t, o)) (hc : P.cellsOf t = c) (hl : (cs.drop o).take c = l) : Fact P w d t l := by
  obtain ⟨f, h1, h2⟩ := Option.map_eq_some_iff.1 hf
  injection h2 with e1 e2
  have := h i f h1
  rw [e1, e2, hc, hl] at this
  exact this
theorem fact_slice_shape {d : Nat} {t e : TypeId} {cs : List Value} (ht : P.underlying t = some (.slice e)) (h : Fact P w (d + 1) t cs) : ∃ A len cap, cs = [.slice A len cap] := by
  unfold Fact at h; rw [ht] at h
  obtain ⟨A, len, cap, he, _⟩ := h
  exact ⟨A, len, cap, he⟩
theorem fact_slice {d : Nat} {t e : TypeId} {A : Option Addr} {len cap : Nat} (ht : P.underlying t = some (.slice e)) (hpos : 0 < P.cellsOf e) (h : Fact P w (d + 1) t [.slice A len cap]) :
    len ≤ cap ∧ cap ≤ maxLen ∧ cap * P.bytesOf e ≤ 140737488351232 ∧ ∃ vs : List (List Value), vs.length = len ∧ (∀ c ∈ vs, c.length = P.cellsOf e ∧ Fact P w d e c) ∧ Row w A vs.flatten := by
  unfold Fact at h; rw [ht] at h
  obtain ⟨A', len', cap', he, h1, h2, h3, h4⟩ := h
  simp only [List.cons.injEq, Value.slice.injEq, and_true] at he
  obtain ⟨rfl, rfl, rfl⟩ := he
  exact ⟨h1, h2, h3, fact_rows hpos h4⟩
theorem fact_strs {d : Nat} {t e : TypeId} {A : Option Addr} {len cap : Nat} (ht : P.underlying t = some (.slice e)) (he : P.underlying e = some .string) (hc : P.cellsOf e = 1) (h : Fact P w (d + 2) t [.slice A len cap]) :
    len ≤ cap ∧ cap ≤ maxLen ∧ cap * P.bytesOf e ≤ 140737488351232 ∧ ∃ ss : List ByteArray, ss.length = len ∧ (∀ s ∈ ss, s.size ≤ 140737488351232) ∧ Row w A (strs ss) := by
  obtain ⟨h1, h2, h3, vs, h4, h5, h6⟩ := fact_slice ht (by rw [hc]; decide) h
  obtain ⟨ss, rfl, hs⟩ := list_told (f := fun s : ByteArray => [Value.string s]) (p := fun s => s.size ≤ 140737488351232) (vs := vs) fun c hc => by
    obtain ⟨s, e, hz⟩ := fact_string he (h5 c hc).2
    exact ⟨s, e, hz⟩
  refine ⟨h1, h2, h3, ss, by simpa using h4, hs, ?_⟩
  rw [← List.flatMap_def] at h6
  rw [← List.map_eq_flatMap] at h6
  exact h6
theorem fact_ints {d : Nat} {t e : TypeId} {k : IntKind} {A : Option Addr} {len cap : Nat} (ht : P.underlying t = some (.slice e)) (he : P.underlying e = some (.int k)) (hc : P.cellsOf e = 1) (h : Fact P w (d + 2) t [.slice A len cap]) :
    len ≤ cap ∧ cap ≤ maxLen ∧ cap * P.bytesOf e ≤ 140737488351232 ∧ ∃ ns : List Int, ns.length = len ∧ (∀ n ∈ ns, (Lit.int k n).wf = true) ∧ Row w A (ns.map (Value.int k)) := by
  obtain ⟨h1, h2, h3, vs, h4, h5, h6⟩ := fact_slice ht (by rw [hc]; decide) h
  obtain ⟨ns, rfl, hs⟩ := list_told (f := fun n : Int => [Value.int k n]) (p := fun n => (Lit.int k n).wf = true) (vs := vs) fun c hc => fact_int he (h5 c hc).2
  refine ⟨h1, h2, h3, ns, by simpa using h4, hs, ?_⟩
  rw [← List.flatMap_def] at h6
  rw [← List.map_eq_flatMap] at h6
  exact h6
theorem fact_bools {d : Nat} {t e : TypeId} {A : Option Addr} {len cap : Nat} (ht : P.underlying t = some (.slice e)) (he : P.underlying e = some .bool) (hc : P.cellsOf e = 1) (h : Fact P w (d + 2) t [.slice A len cap]) :
    len ≤ cap ∧ cap ≤ maxLen ∧ cap * P.bytesOf e ≤ 140737488351232 ∧ ∃ bs : List Bool, bs.length = len ∧ Row w A (bs.map Value.bool) := by
  obtain ⟨h1, h2, h3, vs, h4, h5, h6⟩ := fact_slice ht (by rw [hc]; decide) h
  obtain ⟨bs, rfl, hs⟩ := list_told (f := fun b : Bool => [Value.bool b]) (p := fun _ => True) (vs := vs) fun c hc => by
    obtain ⟨b, e⟩ := fact_bool he (h5 c hc).2
    exact ⟨b, e, trivial⟩
  refine ⟨h1, h2, h3, bs, by simpa using h4, ?_⟩
  rw [← List.flatMap_def] at h6
  rw [← List.map_eq_flatMap] at h6
  exact h6
end
end Go.Proofs.YthhmdmfbaooldaaGreatDoor
