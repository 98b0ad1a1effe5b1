/-
  A region that draws its order: all but its last operations read or call quietly; the last ones come in one order.
-/
import Derived.Test.YthhmdmfbaooldaaGreatDoorKit
import Derived.Deep.Quiet
import Derived.StillTailTactics
namespace Go.Proofs.YthhmdmfbaooldaaGreatDoor
open Go.RowKit

section
variable {P : Program} {md : Region.Mode} {ops : Array Oper} {C : World → Prop}
/-- the first n operations in any order, each quiet; then L -/
def headQ (P : Program) (md : Region.Mode) (ops : Array Oper) (C : World → Prop) (n : Nat) (L : Array Bool → Act → Prop) : Nat → Array Bool → Act → Prop
  | 0, listed, a => L listed a
  | f + 1, listed, a => Region.ready md ops listed ≠ [] ∧ ∀ i ∈ Region.ready md ops listed, i < n ∧ qOp P ops C i (headQ P md ops C n L f (listed.setIfInBounds i true)) a
theorem qOp_weaken {i : Nat} {K K' : Act → Prop} {a : Act} (h : ∀ a, K a → K' a) (hh : qOp P ops C i K a) : qOp P ops C i K' a := by
  unfold qOp at *
  split
  · rename_i h0; simp only [h0] at hh; exact h _ hh
  · rename_i o h0
    simp only [h0] at hh
    split
    · rename_i hw; simp only [hw, if_true] at hh; exact Oper.quiet_mono h hh
    · rename_i hw; simp only [hw] at hh; exact h _ hh
/-- what is free may be taken first -/
theorem headQ_first {n i : Nat} {oi : Oper} {v : Value} {L : Array Bool → Act → Prop} (hi : ops[i]? = some oi) (hsel : ∀ (j : Nat) (o : Oper) cs b, ops[j]? = some o → o.op ≠ .select cs b)
    (hs : Region.sinkB md ops n = true) (hc : Region.chainB md ops n = true) (hn : n < ops.size) (hin : i < n) (hdone : ∀ listed a, L listed a → ∀ j ∈ Region.ready md ops listed, n ≤ j) :
    ∀ (f : Nat) (listed : Array Bool) (a : Act), HeadInv md ops n listed →
      (∀ j oj, ops[j]? = some oj → j ≠ i → listed.getD j true = false → (∀ e ∈ oj.after, Region.binds md e = true → e.on ≠ i) → oi.apart ops oj = true) →
      i ∈ Region.ready md ops listed → YieldsIn P ops C oi v a → headQ P md ops C n L f (listed.setIfInBounds i true) (a.put oi.dst v) → headQ P md ops C n L (f + 1) listed a := by
  intro f
  induction f with
  | zero =>
    intro listed a inv _ hr hy H
    refine ⟨fun h => (by rw [h] at hr; cases hr), fun j hj => ?_⟩
    have hjn : j < n := Nat.lt_of_not_le fun h => tail_waits hs hc hn inv _ i rfl hin (mem_ready.1 hr).1 j h hj
    refine ⟨hjn, ?_⟩
    by_cases e : j = i
    · subst e; exact hy.qOp hi H
    · have := hdone _ _ H j (ready_mono hj e); omega
  | succ f ih =>
    intro listed a inv hfree hr hy H
    refine ⟨fun h => (by rw [h] at hr; cases hr), fun j hj => ?_⟩
    have hjn : j < n := Nat.lt_of_not_le fun h => tail_waits hs hc hn inv _ i rfl hin (mem_ready.1 hr).1 j h hj
    refine ⟨hjn, ?_⟩
    by_cases e : j = i
    · subst e; exact hy.qOp hi H
    · obtain ⟨hjun, oj, hoj, hall⟩ := mem_ready.1 hj
      have hnot : ∀ d ∈ oj.after, Region.binds md d = true → d.on ≠ i := by
        intro d hd hb hq
        have h1 := hall d hd hb
        rw [hq, getD_both (mem_ready.1 hr).1] at h1
        cases h1
      have hap := hfree j oj hoj e hjun hnot
      have h2 := qOp_put hoj hap (fun cs b => hsel i oi cs b hi) (fun cs b => hsel j oj cs b hoj) hy (H.2 j (ready_mono hj e)).2
      refine qOp_weaken (fun a' h3 => ?_) h2
      refine ih (listed.setIfInBounds j true) a' (inv.set hj hjn) (fun k ok hk hki hun hno => hfree k ok hk hki ?_ hno) (ready_mono hr (Ne.symm e)) h3.1 ?_
      · by_cases hjk : j = k
        · subst hjk; exact hjun
        · rwa [getD_set_ne true hjk] at hun
      · rw [Array.setIfInBounds_comm _ _ e]; exact h3.2
/-- whether the order of the text serves for the first n -/
def headLex (md : Region.Mode) (ops : Array Oper) : Nat → Nat → Array Bool → Bool × Array Bool
  | 0, _, listed => (true, listed)
  | g + 1, k, listed => ((Region.ready md ops listed).contains k && Region.free md ops listed k && (headLex md ops g (k + 1) (listed.setIfInBounds k true)).1, (headLex md ops g (k + 1) (listed.setIfInBounds k true)).2)
theorem headQ_lex {n : Nat} {L : Array Bool → Act → Prop} {Q : Act → Prop} (hsel : Region.noSelect ops = true) (hs : Region.sinkB md ops n = true) (hc : Region.chainB md ops n = true) (hn : n < ops.size)
    (hdone : ∀ listed a, L listed a → ∀ j ∈ Region.ready md ops listed, n ≤ j) (l1 : Array Bool) (hL : ∀ a, Q a → L l1 a) :
    ∀ (l : List Oper) (k : Nat) (listed : Array Bool) (a : Act), (∀ j, j < l.length → l[j]? = ops[k + j]?) → k + l.length = n → HeadInv md ops n listed →
      headLex md ops l.length k listed = (true, l1) → wpQuiet P ops C Q l a → headQ P md ops C n L l.length listed a
  | [], k, listed, a, _, _, _, hB, h => by
    simp only [List.length_nil, headLex, Prod.mk.injEq, true_and] at hB
    subst hB
    exact hL a h
  | o :: l, k, listed, a, hl, hk, inv, hB, h => by
    have h0 : ops[k]? = some o := by simpa using (hl 0 (by simp)).symm
    simp only [List.length_cons, headLex, Prod.mk.injEq, Bool.and_eq_true] at hB
    obtain ⟨⟨⟨hr, hf⟩, hB1⟩, hB2⟩ := hB
    have hkn : k < n := by simp at hk; omega
    have hr' : k ∈ Region.ready md ops listed := by simpa using hr
    have hst : qOp P ops C k (wpQuiet P ops C Q l) a := by unfold qOp; simp only [h0]; exact h
    obtain ⟨v, hy, hK⟩ := yieldsIn_of_qOp h0 hst
    exact headQ_first h0 (Region.noSelect_spec hsel) hs hc hn hkn hdone l.length listed a inv (Region.free_spec h0 hf) hr' hy
      (headQ_lex hsel hs hc hn hdone l1 hL l (k + 1) _ _ (fun j hj => by
        have := hl (j + 1) (by simp; omega)
        simpa [Nat.add_assoc, Nat.add_comm 1 j] using this) (by simp at hk; omega) (inv.set hr' hkn) (Prod.ext hB1 hB2) hK)
theorem wpAny_of_headQ {n g : Nat} {L : Array Bool → Act → Prop} {Q' : Exit → Act → World → Prop} (hL : ∀ listed a w, C w → L listed a → wpAny P md ops Q' g listed a w) :
    ∀ (f : Nat) (listed : Array Bool) (a : Act) (w : World), C w → headQ P md ops C n L f listed a → wpAny P md ops Q' (f + g) listed a w
  | 0, _, _, _, hw, h => by rw [Nat.zero_add]; exact hL _ _ _ hw h
  | f + 1, _, _, _, hw, h => by
    rw [show f + 1 + g = (f + g) + 1 by omega]
    exact ⟨fun h0 => absurd h0 h.1, fun i hi => wpOp_of_qOp hw (fun a' w' hw' => wpAny_of_headQ hL f _ a' w' hw') (h.2 i hi).2⟩
/-- the law: the first n quiet in the class C; the others in their own order -/
theorem wp_region_quiet_tail (n : Nat) {id : Nat} {l : List Oper} {Q : Exit → Act → World → Prop} {a : Act} {w : World} (hm : P.follows .mixedOrders = true)
    (hB : (Region.noSelect l.toArray && Region.sinkB .any l.toArray n && Region.chainB .any l.toArray n && decide (n < l.length) && (headLex .any l.toArray n 0 (Array.replicate l.length false)).1 &&
      Region.seqB .any l.toArray (l.length - n) n (headLex .any l.toArray n 0 (Array.replicate l.length false)).2 && ((Region.ready .any l.toArray (headLex .any l.toArray n 0 (Array.replicate l.length false)).2).all fun j => decide (n ≤ j))) = true)
    (hC : C w.drew) (h : wpQuiet P l.toArray C (fun a' => ∀ w', C w' → wpList P l.toArray Q (l.drop n) a' w') (l.take n) a) : (Code.region id l.toArray true).wp P Q a w := by
  simp only [Bool.and_eq_true, decide_eq_true_eq] at hB
  obtain ⟨⟨⟨⟨⟨⟨hsel, hs⟩, hc⟩, hn⟩, hB⟩, hT⟩, hR⟩ := hB
  obtain ⟨ls, hls⟩ : ∃ ls, ls = (headLex .any l.toArray n 0 (Array.replicate l.length false)).2 := ⟨_, rfl⟩
  rw [← hls] at hT hR
  refine wp_region_any hm ?_
  have hsz : l.toArray.size = l.length := by simp
  have hlt : (l.take n).length = n := by rw [List.length_take]; omega
  have hld : (l.drop n).length = l.length - n := by rw [List.length_drop]
  have key := wpAny_of_headQ (P := P) (md := .any) (ops := l.toArray) (C := C) (n := n) (g := l.length - n) (L := fun listed a => listed = ls ∧ ∀ w', C w' → wpList P l.toArray Q (l.drop n) a w') (Q' := Q)
    (fun listed a w' hw' hl => by
      obtain ⟨rfl, hl⟩ := hl
      have h1 := wpAny_of_seq (md := .any) (P := P) (ops := l.toArray) (Q' := Q) (l.drop n) n listed a w' (fun j => by rw [List.getElem?_drop]; simp) (by rw [hld]; exact hT) (hl w' hw')
      rw [hld] at h1
      exact h1)
    n (Array.replicate l.length false) a w.drew hC ?_
  · rw [hsz]
    rw [show n + (l.length - n) = l.length by omega] at key
    exact key
  · have h2 := headQ_lex (P := P) (md := .any) (ops := l.toArray) (C := C) (n := n) (L := fun listed a => listed = ls ∧ ∀ w', C w' → wpList P l.toArray Q (l.drop n) a w') (Q := fun a' => ∀ w', C w' → wpList P l.toArray Q (l.drop n) a' w') hsel hs hc (by rw [hsz]; exact hn) ?_ ls (fun a h => ⟨rfl, h⟩) (l.take n) 0 (Array.replicate l.length false) a (fun j hj => by
      rw [hlt] at hj
      rw [List.getElem?_take, if_pos hj]; simp) (by omega) ?_ (by rw [hlt]; exact Prod.ext hB hls.symm) h
    · rw [hlt] at h2; exact h2
    · rintro listed a ⟨rfl, _⟩ j hj
      exact of_decide_eq_true (List.all_eq_true.1 hR j hj)
    · refine ⟨by simp, fun j oj hj hl => ?_, fun t ht ht' => ?_⟩
      · rw [getD_replicate_false] at hl; cases hl
      · have h3 : t < l.length := by rw [← hsz]; exact ht'
        simp [h3]
end
end Go.Proofs.YthhmdmfbaooldaaGreatDoor
