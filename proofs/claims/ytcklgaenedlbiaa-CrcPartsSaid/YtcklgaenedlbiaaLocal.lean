/-
  A region that draws its order, taken operation by operation: no order is asked: each operation has a fact of its own, which the others leave as it is.
-/
import Derived.Test.YtcklgaenedlbiaaKit
import Derived.Orders
namespace Go.Proofs.Ytcklgaenedlbiaa
open Go.RowKit

theorem count_set_false : ∀ (l : List Bool) (i : Nat), l[i]? = some false → (l.set i true).count false + 1 = l.count false
  | b :: l, 0, h => by
    simp only [List.getElem?_cons_zero, Option.some.injEq] at h
    subst h
    simp
  | b :: l, i + 1, h => by
    have := count_set_false l i (by simpa using h)
    cases b with
    | false => simp; omega
    | true => simpa using this
theorem count_none : ∀ (l : List Bool), l.count false = 0 → ∀ i, l.getD i true = true
  | [], _, i => by simp
  | b :: l, h, i => by
    cases b with
    | false => simp at h
    | true =>
      cases i with
      | zero => simp
      | succ i =>
        have := count_none l (by simpa using h) i
        simpa using this
section
variable {P : Program} {ops : Array Oper} {Q : Exit → Act → World → Prop}
/-- the edges go back -/
def backB (ops : Array Oper) : Bool := (List.range ops.size).all fun i => match ops[i]? with
  | some o => o.after.all fun e => decide (e.on < i)
  | none => true
theorem backB_spec (h : backB ops = true) {i : Nat} {o : Oper} (ho : ops[i]? = some o) : ∀ e ∈ o.after, e.on < i := by
  intro e he
  have hi : i < ops.size := (Array.getElem?_eq_some_iff.1 ho).1
  have h1 := List.all_eq_true.1 h i (List.mem_range.2 hi)
  simp only [ho] at h1
  exact of_decide_eq_true (Array.all_eq_true_iff_forall_mem.1 h1 e he)
/-- where something is not listed yet, something may come up -/
theorem ready_some (hb : backB ops = true) {listed : Array Bool} (hs : listed.size = ops.size) : ∀ (n i : Nat), i ≤ n → i < ops.size → listed.getD i true = false → Region.ready .any ops listed ≠ [] := by
  intro n
  induction n with
  | zero =>
    intro i hi hlt hun h0
    have hmem : i ∈ Region.ready .any ops listed := by
      refine mem_ready.2 ⟨hun, ops[i], by simp [hlt], fun e he _ => ?_⟩
      have := backB_spec hb (i := i) (o := ops[i]) (by simp [hlt]) e he
      omega
    rw [h0] at hmem; cases hmem
  | succ n ih =>
    intro i hi hlt hun h0
    have hmem : i ∈ Region.ready .any ops listed := by
      refine mem_ready.2 ⟨hun, ops[i], by simp [hlt], fun e he _ => ?_⟩
      have hlti := backB_spec hb (i := i) (o := ops[i]) (by simp [hlt]) e he
      cases hc : listed.getD e.on true with
      | false => exact absurd h0 (ih e.on (by omega) (by omega) hc)
      | true =>
        have : e.on < listed.size := by omega
        simp only [Array.getD, this, dite_true] at hc ⊢
        exact hc
    rw [h0] at hmem; cases hmem
theorem wpAny_local (hb : backB ops = true) (G : Act → World → Prop) (T : Nat → Act → World → Prop)
    (step : ∀ i o, ops[i]? = some o → ∀ a w, G a w → (∀ e ∈ o.after, Region.binds .any e = true → T e.on a w) → wpOp P ops Q i (fun a' w' => G a' w' ∧ T i a' w' ∧ ∀ j, j ≠ i → T j a w → T j a' w') a w)
    (fin : ∀ a w, G a w → (∀ i, i < ops.size → T i a w) → Q .normal a w) :
    ∀ (fuel : Nat) (listed : Array Bool) (a : Act) (w : World), listed.size = ops.size → listed.toList.count false = fuel → G a w → (∀ i, listed.getD i false = true → T i a w) → wpAny P .any ops Q fuel listed a w := by
  intro fuel
  induction fuel with
  | zero =>
    intro listed a w hs hc hG hT
    have hall : ∀ i, listed.getD i true = true := fun i => by
      have := count_none listed.toList hc i
      simpa [Array.getD_eq_getD_getElem?, List.getD_eq_getElem?_getD] using this
    have hr : Region.ready .any ops listed = [] := by
      apply List.eq_nil_iff_forall_not_mem.2
      intro i hi
      have := (mem_ready.1 hi).1
      rw [hall i] at this; cases this
    refine ⟨hr, fin a w hG fun i hi => hT i ?_⟩
    have h1 := hall i
    have h2 : i < listed.size := by omega
    simp only [Array.getD, h2, dite_true] at h1 ⊢
    exact h1
  | succ fuel ih =>
    intro listed a w hs hc hG hT
    refine ⟨fun h0 => ?_, fun i hi => ?_⟩
    · exfalso
      have : ∃ i, i < ops.size ∧ listed.getD i true = false := by
        apply Classical.byContradiction
        intro hn
        have hz : listed.toList.count false = 0 := by
          rw [List.count_eq_zero]
          intro hm
          obtain ⟨i, hi, he⟩ := List.getElem_of_mem hm
          refine hn ⟨i, by simpa [hs] using hi, ?_⟩
          have h2 : i < listed.size := by simpa using hi
          simp only [Array.getD, h2, dite_true]
          simpa using he
        omega
      obtain ⟨i, hi, hun⟩ := this
      exact ready_some hb hs i i (Nat.le_refl _) hi hun h0
    · obtain ⟨hun, o, ho, hall⟩ := mem_ready.1 hi
      have hlt : i < ops.size := (Array.getElem?_eq_some_iff.1 ho).1
      refine wpOp_mono ?_ (step i o ho a w hG fun e he hbn => hT e.on (hall e he hbn))
      rintro a' w' ⟨g', t', keep⟩
      refine ih _ a' w' (by simp [hs]) ?_ g' fun j hj => ?_
      · have hf : listed.toList[i]? = some false := by
          have h2 : i < listed.size := by omega
          simp only [Array.getD, h2, dite_true] at hun
          simp [h2]
          simpa using hun
        have := count_set_false listed.toList i hf
        rw [Array.toList_setIfInBounds]
        omega
      · by_cases hji : j = i
        · subst hji; exact t'
        · refine keep j hji (hT j ?_)
          rwa [getD_set_ne false (Ne.symm hji)] at hj
/-- the law for the region -/
theorem wp_region_local {id : Nat} {a : Act} {w : World} (hm : P.follows .mixedOrders = true) (hb : backB ops = true) (G : Act → World → Prop) (T : Nat → Act → World → Prop) (h0 : G a w.drew)
    (step : ∀ i o, ops[i]? = some o → ∀ a w, G a w → (∀ e ∈ o.after, Region.binds .any e = true → T e.on a w) → wpOp P ops Q i (fun a' w' => G a' w' ∧ T i a' w' ∧ ∀ j, j ≠ i → T j a w → T j a' w') a w)
    (fin : ∀ a w, G a w → (∀ i, i < ops.size → T i a w) → Q .normal a w) : (Code.region id ops true).wp P Q a w := by
  refine wp_region_any hm (wpAny_local hb G T step fin ops.size _ a _ (by simp) ?_ h0 fun i hi => ?_)
  · rw [Array.toList_replicate, List.count_replicate_self]
  · simp [Array.getD_eq_getD_getElem?, Array.getElem?_replicate] at hi
    split at hi <;> simp at hi
/-- slots that stay; the world grows -/
def GL (w0 : World) (N : Nat) (fx : List (Nat × Value)) (a : Act) (w : World) : Prop := Below w0.heap.size w0 w ∧ a.tmps.size = N ∧ a.defers = [] ∧ ∀ x ∈ fx, a.eval (.tmp x.1) = x.2
/-- what an operation has left in its slot -/
def TL (D : Nat → Nat) (S : Nat → Value → World → Prop) (k : Nat) (a : Act) (w : World) : Prop := S k (a.eval (.tmp (D k))) w
structure LocalOk (D : Nat → Nat) (S : Nat → Value → World → Prop) (N : Nat) (fx : List (Nat × Value)) (k : Nat) : Prop where
  lt : D k < N
  fix : ∀ x ∈ fx, x.1 ≠ D k
  inj : ∀ j, j ≠ k → D j ≠ D k
  keep : ∀ j v w w', S j v w → Below w.heap.size w w' → S j v w'
theorem eval_put_same {a : Act} {d : Nat} {v : Value} (h : d < a.tmps.size) : (a.put (some d) v).eval (.tmp d) = v := by
  simp [Act.put, Act.eval, h]
theorem eval_put_ne {a : Act} {d t : Nat} {v : Value} (h : t ≠ d) : (a.put (some d) v).eval (.tmp t) = a.eval (.tmp t) :=
  Act.eval_put (fun d' hd e => by cases hd; cases e; exact h rfl)
theorem local_next {D : Nat → Nat} {S : Nat → Value → World → Prop} {N k : Nat} {fx : List (Nat × Value)} {w0 w w' : World} {a : Act} {v : Value} (hL : LocalOk D S N fx k) (hG : GL w0 N fx a w) (hb : Below w.heap.size w w') (hS : S k v w') :
    GL w0 N fx (a.put (some (D k)) v) w' ∧ TL D S k (a.put (some (D k)) v) w' ∧ ∀ j, j ≠ k → TL D S j a w → TL D S j (a.put (some (D k)) v) w' := by
  obtain ⟨h1, h2, hd, h3⟩ := hG
  refine ⟨⟨bt h1 hb, by simp [Act.put, h2], hd, fun x hx => ?_⟩, ?_, fun j hj hT => ?_⟩
  · rw [eval_put_ne (hL.fix x hx)]; exact h3 x hx
  · unfold TL; rw [eval_put_same (by rw [h2]; exact hL.lt)]; exact hS
  · unfold TL at hT ⊢
    rw [eval_put_ne (hL.inj j hj)]; exact hL.keep _ _ _ _ hT hb
theorem local_value {D : Nat → Nat} {S : Nat → Value → World → Prop} {N k : Nat} {fx : List (Nat × Value)} {w0 w w' : World} {a : Act} {v : Value} {o : Oper} (hL : LocalOk D S N fx k) (ho : ops[k]? = some o) (hd : o.dst = some (D k)) (hw : Region.wanted o (yielded ops a.tmps) = true)
    (hG : GL w0 N fx a w) (hr : (execOp a.eval o).run P w = .ok (.value v) w') (hb : Below w.heap.size w w') (hS : S k v w') :
    wpOp P ops Q k (fun a' w' => GL w0 N fx a' w' ∧ TL D S k a' w' ∧ ∀ j, j ≠ k → TL D S j a w → TL D S j a' w') a w := by
  unfold wpOp
  simp only [ho, hw, if_true]
  left
  unfold Oper.wp
  rw [hr, Oper.upon_value, hd]
  exact local_next hL hG hb hS
theorem local_call {D : Nat → Nat} {S : Nat → Value → World → Prop} {N k : Nat} {fx : List (Nat × Value)} {w0 w : World} {a : Act} {v : Value} {o : Oper} {f : FuncId} {args : Array Value} (hL : LocalOk D S N fx k) (ho : ops[k]? = some o) (hd : o.dst = some (D k)) (hw : Region.wanted o (yielded ops a.tmps) = true)
    (hG : GL w0 N fx a w) (hr : (execOp a.eval o).run P w = .ok (.enter f args) w) (hc : Calls P f args w fun e w' => e = .returned v ∧ Below w.heap.size w w') (hS : ∀ w', S k v w') :
    wpOp P ops Q k (fun a' w' => GL w0 N fx a' w' ∧ TL D S k a' w' ∧ ∀ j, j ≠ k → TL D S j a w → TL D S j a' w') a w := by
  unfold wpOp
  simp only [ho, hw, if_true]
  left
  unfold Oper.wp
  rw [hr, Oper.upon_enter]
  refine hc.mono ?_
  rintro e w' ⟨rfl, hb⟩
  simp only [hd]
  exact local_next hL hG hb (hS w')
theorem wanted_none {o : Oper} {y : Nat → Option Bool} (h : o.guard = none) : Region.wanted o y = true := by simp [Region.wanted, h]
theorem wanted_some {o og : Oper} {a : Act} {g t : Nat} {b : Bool} (h : o.guard = some (g, b)) (hg : ops[g]? = some og) (hd : og.dst = some t) (hv : a.eval (.tmp t) = .bool b) : Region.wanted o (yielded ops a.tmps) = true := by
  have h1 : a.tmps[t]? = some (.bool b) := by
    simp only [Act.eval] at hv
    rcases Nat.lt_or_ge t a.tmps.size with hl | hl
    · rw [Array.getD_eq_getD_getElem?, Array.getElem?_eq_getElem hl] at hv
      rw [Array.getElem?_eq_getElem hl]
      exact congrArg some hv
    · rw [Array.getD_eq_getD_getElem?, Array.getElem?_eq_none hl] at hv
      cases hv
  unfold Region.wanted
  rw [h]
  unfold yielded
  simp only [hg, Option.bind_some, hd, h1]
  simp
/-- each of a row, told one by one -/
def Each (Φ : Nat → Oper → Prop) : Nat → List Oper → Prop
  | _, [] => True
  | k, o :: l => Φ k o ∧ Each Φ (k + 1) l
theorem Each.nil {Φ : Nat → Oper → Prop} {k : Nat} : Each Φ k [] := trivial
theorem Each.cons {Φ : Nat → Oper → Prop} {k : Nat} {o : Oper} {l : List Oper} (h : Φ k o) (h2 : Each Φ (k + 1) l) : Each Φ k (o :: l) := ⟨h, h2⟩
theorem Each.at {Φ : Nat → Oper → Prop} (l : List Oper) : ∀ (k : Nat), Each Φ k l → ∀ i o, l[i]? = some o → Φ (k + i) o := by
  induction l with
  | nil => intro k _ i o h; simp at h
  | cons x l ih =>
    intro k h i o ho
    cases i with
    | zero =>
      rw [List.getElem?_cons_zero] at ho
      injection ho with ho
      rw [Nat.add_zero, ← ho]; exact h.1
    | succ i =>
      rw [List.getElem?_cons_succ] at ho
      have := ih (k + 1) h.2 i o ho
      rw [show k + 1 + i = k + (i + 1) by omega] at this
      exact this
theorem deps_of {o : Oper} {T : Nat → Prop} (h : ∀ e ∈ o.after, Region.binds .any e = true → T e.on) (j : Nat) (hj : (o.after.any fun e => e.on == j && Region.binds .any e) = true) : T j := by
  rw [Array.any_eq_true] at hj
  obtain ⟨i, hi, h1⟩ := hj
  simp only [Bool.and_eq_true, beq_iff_eq] at h1
  rw [← h1.1]
  exact h _ (Array.getElem_mem hi) h1.2
/-- the law, told for each operation of the row: behind it what its slot has -/
theorem wp_region_each {l : List Oper} {id : Nat} {a : Act} {w : World} (hm : P.follows .mixedOrders = true) (hb : backB l.toArray = true) (D : Nat → Nat) (S : Nat → Value → World → Prop) (w0 : World) (N : Nat) (fx : List (Nat × Value)) (h0 : GL w0 N fx a w.drew)
    (each : Each (fun k o => ∀ a w, GL w0 N fx a w → (∀ j, (o.after.any fun e => e.on == j && Region.binds .any e) = true → TL D S j a w) → wpOp P l.toArray Q k (fun a' w' => GL w0 N fx a' w' ∧ TL D S k a' w' ∧ ∀ j, j ≠ k → TL D S j a w → TL D S j a' w') a w) 0 l)
    (fin : ∀ a w, GL w0 N fx a w → (∀ i, i < l.length → TL D S i a w) → Q .normal a w) : (Code.region id l.toArray true).wp P Q a w := by
  refine wp_region_local hm hb (GL w0 N fx) (TL D S) h0 (fun i o ho a w hG hT => ?_) (fun a w hG hT => fin a w hG fun i hi => hT i (by simpa using hi))
  have h := Each.at l 0 each i o (by simpa using ho) a w hG (fun j hj => deps_of (T := fun j => TL D S j a w) hT j hj)
  rw [Nat.zero_add] at h
  exact h
end
end Go.Proofs.Ytcklgaenedlbiaa
