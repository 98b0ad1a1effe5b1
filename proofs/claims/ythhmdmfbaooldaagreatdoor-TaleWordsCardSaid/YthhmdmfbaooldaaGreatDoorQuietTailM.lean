/-
  A region that draws its order, of which the first m operations have been taken: those from m to n read or call quietly; the last ones come in one order.
-/
import Derived.Test.YthhmdmfbaooldaaGreatDoorQuietTail
namespace Go.Proofs.YthhmdmfbaooldaaGreatDoor
open Go.RowKit

section
variable {P : Program} {md : Region.Mode} {ops : Array Oper} {C : World → Prop}
/-- each of those from m to n is waited for -/
def sinkM (md : Region.Mode) (ops : Array Oper) (m n : Nat) : Bool :=
  (List.range n).all fun i => decide (i < m) || (List.range (n + 1)).any fun j => decide (i < j) && Region.waitsFor md ops j i
theorem tail_waitsM {m n : Nat} {listed : Array Bool} (hs : sinkM md ops m n = true) (hc : Region.chainB md ops n = true) (hn : n < ops.size) (inv : HeadInv md ops n listed) :
    ∀ (d i : Nat), n - i = d → m ≤ i → i < n → listed.getD i true = false → ∀ t, n ≤ t → t ∉ Region.ready md ops listed := by
  intro d
  induction d using Nat.strongRecOn with
  | _ d ih =>
    intro i hd hmi hi hun t ht hr
    obtain ⟨_, ot, hot, hall⟩ := mem_ready.1 hr
    have htlt : t < ops.size := (Array.getElem?_eq_some_iff.1 hot).1
    by_cases htn : t = n
    · subst htn
      have h1 := List.all_eq_true.1 hs i (List.mem_range.2 hi)
      simp only [Bool.or_eq_true, decide_eq_true_eq] at h1
      rcases h1 with h1 | h1
      · omega
      obtain ⟨j, hj, hj2⟩ := List.any_eq_true.1 h1
      simp only [Bool.and_eq_true, decide_eq_true_eq] at hj2
      obtain ⟨oj, hoj, e, he, hb, hon⟩ := Region.waitsFor_spec hj2.2
      have hjle : j ≤ t := by have := List.mem_range.1 hj; omega
      by_cases hjt : j = t
      · subst hjt
        have : oj = ot := Option.some.inj (hoj.symm.trans hot)
        subst this
        have h2 := hall e he hb
        rw [hon, getD_both hun] at h2
        cases h2
      · cases hl : listed.getD j false with
        | true =>
          have h2 := inv.closed j oj hoj hl e he hb
          rw [hon, getD_both hun] at h2
          cases h2
        | false =>
          have hjs : j < listed.size := by rw [inv.size]; omega
          exact ih (t - j) (by omega) j rfl (by omega) (by omega) (getD_in hjs hl) t (Nat.le_refl _) hr
    · have h1 := List.all_eq_true.1 hc t (List.mem_range.2 htlt)
      simp only [Bool.or_eq_true, decide_eq_true_eq] at h1
      rcases h1 with h1 | h1
      · omega
      · obtain ⟨o', ho', e, he, hb, hon⟩ := Region.waitsFor_spec h1
        have : o' = ot := Option.some.inj (ho'.symm.trans hot)
        subst this
        have h2 := hall e he hb
        rw [hon, getD_both (inv.tail (t - 1) (by omega) (by omega))] at h2
        cases h2
theorem headQ_firstM {m n i : Nat} {oi : Oper} {v : Value} {L : Array Bool → Act → Prop} (hi : ops[i]? = some oi) (hsel : ∀ (j : Nat) (o : Oper) cs b, ops[j]? = some o → o.op ≠ .select cs b)
    (hs : sinkM md ops m n = true) (hc : Region.chainB md ops n = true) (hn : n < ops.size) (hin : i < n) (him : m ≤ i) (hdone : ∀ listed a, L listed a → ∀ j ∈ Region.ready md ops listed, n ≤ j) :
    ∀ (f : Nat) (listed : Array Bool) (a : Act), HeadInv md ops n listed →
      (∀ j oj, ops[j]? = some oj → j ≠ i → listed.getD j true = false → (∀ e ∈ oj.after, Region.binds md e = true → e.on ≠ i) → oi.apart ops oj = true) →
      i ∈ Region.ready md ops listed → YieldsIn P ops C oi v a → headQ P md ops C n L f (listed.setIfInBounds i true) (a.put oi.dst v) → headQ P md ops C n L (f + 1) listed a := by
  intro f
  induction f with
  | zero =>
    intro listed a inv _ hr hy H
    refine ⟨fun h => (by rw [h] at hr; cases hr), fun j hj => ?_⟩
    have hjn : j < n := Nat.lt_of_not_le fun h => tail_waitsM hs hc hn inv _ i rfl him hin (mem_ready.1 hr).1 j h hj
    refine ⟨hjn, ?_⟩
    by_cases e : j = i
    · subst e; exact hy.qOp hi H
    · have := hdone _ _ H j (ready_mono hj e); omega
  | succ f ih =>
    intro listed a inv hfree hr hy H
    refine ⟨fun h => (by rw [h] at hr; cases hr), fun j hj => ?_⟩
    have hjn : j < n := Nat.lt_of_not_le fun h => tail_waitsM hs hc hn inv _ i rfl him hin (mem_ready.1 hr).1 j h hj
    refine ⟨hjn, ?_⟩
    by_cases e : j = i
    · subst e; exact hy.qOp hi H
    · obtain ⟨hjun, oj, hoj, hall⟩ := mem_ready.1 hj
      have hnot : ∀ d ∈ oj.after, Region.binds md d = true → d.on ≠ i := by
        intro d hd hb hq
        have h1 := hall d hd hb
        rw [hq, getD_both (mem_ready.1 hr).1] at h1
        cases h1
      have hap := hfree j oj hoj e hjun hnot
      have h2 := qOp_put hoj hap (fun cs b => hsel i oi cs b hi) (fun cs b => hsel j oj cs b hoj) hy (H.2 j (ready_mono hj e)).2
      refine qOp_weaken (fun a' h3 => ?_) h2
      refine ih (listed.setIfInBounds j true) a' (inv.set hj hjn) (fun k ok hk hki hun hno => hfree k ok hk hki ?_ hno) (ready_mono hr (Ne.symm e)) h3.1 ?_
      · by_cases hjk : j = k
        · subst hjk; exact hjun
        · rwa [getD_set_ne true hjk] at hun
      · rw [Array.setIfInBounds_comm _ _ e]; exact h3.2
theorem headQ_lexM {m n : Nat} {L : Array Bool → Act → Prop} {Q : Act → Prop} (hsel : Region.noSelect ops = true) (hs : sinkM md ops m n = true) (hc : Region.chainB md ops n = true) (hn : n < ops.size)
    (hdone : ∀ listed a, L listed a → ∀ j ∈ Region.ready md ops listed, n ≤ j) (l1 : Array Bool) (hL : ∀ a, Q a → L l1 a) :
    ∀ (l : List Oper) (k : Nat) (listed : Array Bool) (a : Act), (∀ j, j < l.length → l[j]? = ops[k + j]?) → m ≤ k → k + l.length = n → HeadInv md ops n listed →
      headLex md ops l.length k listed = (true, l1) → wpQuiet P ops C Q l a → headQ P md ops C n L l.length listed a
  | [], k, listed, a, _, _, _, _, hB, h => by
    simp only [List.length_nil, headLex, Prod.mk.injEq, true_and] at hB
    subst hB
    exact hL a h
  | o :: l, k, listed, a, hl, hmk, hk, inv, hB, h => by
    have h0 : ops[k]? = some o := by simpa using (hl 0 (by simp)).symm
    simp only [List.length_cons, headLex, Prod.mk.injEq, Bool.and_eq_true] at hB
    obtain ⟨⟨⟨hr, hf⟩, hB1⟩, hB2⟩ := hB
    have hkn : k < n := by simp at hk; omega
    have hr' : k ∈ Region.ready md ops listed := by simpa using hr
    have hst : qOp P ops C k (wpQuiet P ops C Q l) a := by unfold qOp; simp only [h0]; exact h
    obtain ⟨v, hy, hK⟩ := yieldsIn_of_qOp h0 hst
    exact headQ_firstM h0 (Region.noSelect_spec hsel) hs hc hn hkn hmk hdone l.length listed a inv (Region.free_spec h0 hf) hr' hy
      (headQ_lexM hsel hs hc hn hdone l1 hL l (k + 1) _ _ (fun j hj => by
        have := hl (j + 1) (by simp; omega)
        simpa [Nat.add_assoc, Nat.add_comm 1 j] using this) (by omega) (by simp at hk; omega) (inv.set hr' hkn) (Prod.ext hB1 hB2) hK)
/-- whether a listing is closed -/
def closedB (md : Region.Mode) (ops : Array Oper) (listed : Array Bool) : Bool := (List.range ops.size).all fun j => !listed.getD j false || match ops[j]? with
  | some oj => oj.after.all fun e => !Region.binds md e || listed.getD e.on false
  | none => true
theorem closedB_spec {listed : Array Bool} (h : closedB md ops listed = true) : ∀ j oj, ops[j]? = some oj → listed.getD j false = true → ∀ e ∈ oj.after, Region.binds md e = true → listed.getD e.on false = true := by
  intro j oj hj hl e he hb
  have hlt : j < ops.size := (Array.getElem?_eq_some_iff.1 hj).1
  have h1 := List.all_eq_true.1 h j (List.mem_range.2 hlt)
  simp only [hl, hj, Bool.not_true, Bool.false_or] at h1
  have h2 := Array.all_eq_true_iff_forall_mem.1 h1 e he
  simp only [hb, Bool.not_true, Bool.false_or] at h2
  exact h2
/-- the law: m taken; those up to n quiet in the class C; the others in their own order -/
theorem wpAny_quiet_tail (m n : Nat) {l : List Oper} {Q : Exit → Act → World → Prop} {a : Act} {w : World} {fuel : Nat} {ls0 : Array Bool}
    (hf : fuel = l.length - m)
    (hB : (Region.noSelect l.toArray && sinkM .any l.toArray m n && Region.chainB .any l.toArray n && decide (n < l.length) && decide (m ≤ n) && (ls0 == (List.replicate m true ++ List.replicate (l.length - m) false).toArray) && closedB .any l.toArray ls0 && (headLex .any l.toArray (n - m) m ls0).1 &&
      Region.seqB .any l.toArray (l.length - n) n (headLex .any l.toArray (n - m) m ls0).2 && ((Region.ready .any l.toArray (headLex .any l.toArray (n - m) m ls0).2).all fun j => decide (n ≤ j))) = true)
    (hC : C w) (h : wpQuiet P l.toArray C (fun a' => ∀ w', C w' → wpList P l.toArray Q (l.drop n) a' w') ((l.take n).drop m) a) : wpAny P .any l.toArray Q fuel ls0 a w := by
  simp only [Bool.and_eq_true, decide_eq_true_eq, beq_iff_eq] at hB
  obtain ⟨⟨⟨⟨⟨⟨⟨⟨⟨hsel, hs⟩, hc⟩, hn⟩, hmn⟩, hl0⟩, hcl⟩, hB⟩, hT⟩, hR⟩ := hB
  subst hf
  obtain ⟨ls, hls⟩ : ∃ ls, ls = (headLex .any l.toArray (n - m) m ls0).2 := ⟨_, rfl⟩
  rw [← hls] at hT hR
  have hsz : l.toArray.size = l.length := by simp
  have hlt : ((l.take n).drop m).length = n - m := by rw [List.length_drop, List.length_take]; omega
  have hld : (l.drop n).length = l.length - n := by rw [List.length_drop]
  have key := wpAny_of_headQ (P := P) (md := .any) (ops := l.toArray) (C := C) (n := n) (g := l.length - n) (L := fun listed a => listed = ls ∧ ∀ w', C w' → wpList P l.toArray Q (l.drop n) a w') (Q' := Q)
    (fun listed a w' hw' hl => by
      obtain ⟨rfl, hl⟩ := hl
      have h1 := wpAny_of_seq (md := .any) (P := P) (ops := l.toArray) (Q' := Q) (l.drop n) n listed a w' (fun j => by rw [List.getElem?_drop]; simp) (by rw [hld]; exact hT) (hl w' hw')
      rw [hld] at h1
      exact h1)
    (n - m) ls0 a w hC ?_
  · rw [show n - m + (l.length - n) = l.length - m by omega] at key
    exact key
  · have h2 := headQ_lexM (P := P) (md := .any) (ops := l.toArray) (C := C) (m := m) (n := n) (L := fun listed a => listed = ls ∧ ∀ w', C w' → wpList P l.toArray Q (l.drop n) a w') (Q := fun a' => ∀ w', C w' → wpList P l.toArray Q (l.drop n) a' w') hsel hs hc (by rw [hsz]; exact hn) ?_ ls (fun a h => ⟨rfl, h⟩) ((l.take n).drop m) m ls0 a (fun j hj => by
      rw [hlt] at hj
      rw [List.getElem?_drop, List.getElem?_take, if_pos (by omega)]; simp) (Nat.le_refl _) (by rw [hlt]; omega) ?_ (by rw [hlt]; exact Prod.ext hB hls.symm) h
    · rw [hlt] at h2; exact h2
    · rintro listed a ⟨rfl, _⟩ j hj
      exact of_decide_eq_true (List.all_eq_true.1 hR j hj)
    · refine ⟨by rw [hl0]; simp; omega, closedB_spec hcl, fun t ht ht' => ?_⟩
      have h3 : t < l.length := by rw [← hsz]; exact ht'
      rw [hl0]
      rw [Array.getD_eq_getD_getElem?, List.getElem?_toArray, List.getElem?_append_right (by rw [List.length_replicate]; omega), List.getElem?_replicate]
      rw [List.length_replicate, if_pos (by omega)]; rfl
end
end Go.Proofs.YthhmdmfbaooldaaGreatDoor
