/-
  Sectors of two blocks, mixed: plain laws.
-/
import Derived.Test.YtcklgaenedlbiaaSlabPure
namespace Go.Proofs.Ytcklgaenedlbiaa
open Go.RowKit

theorem sec_split (b : List UInt8) (i : Nat) : (b.drop (64 * i)).take 64 = markOf b i ++ partOf b i := by
  unfold markOf partOf
  rw [show (64 : Nat) = 8 + 56 from rfl, List.take_add, List.drop_drop]
/-- sectors of two blocks, mixed -/
def mixN (kp : Nat → Bool) (A B : List UInt8) : Nat → List UInt8
  | 0 => []
  | k + 1 => mixN kp A B k ++ ((if kp k then B else A).drop (64 * k)).take 64
def cntN (kp : Nat → Bool) : Nat → Nat
  | 0 => 0
  | k + 1 => cntN kp k + (if kp k then 1 else 0)
theorem cntN_le (kp : Nat → Bool) : ∀ k, cntN kp k ≤ k
  | 0 => Nat.le_refl _
  | k + 1 => by
    have := cntN_le kp k
    simp only [cntN]
    split <;> omega
theorem mixN_cat (kp : Nat → Bool) (A B : List UInt8) : mixN kp A B 4 = cat4 (fun i => markOf (if kp i then B else A) i) (fun i => partOf (if kp i then B else A) i) := by
  simp only [mixN, cat4, sec_split, List.nil_append, List.append_assoc]
theorem self_cat {e q : Nat} {f : List UInt8} (hf : f.length = 224) : cat4 (fun i => markOf (stampB e q f) i) (fun i => partOf (stampB e q f) i) = stampB e q f := by
  have h := fun i hi => stampB_marks e q f hf i hi
  unfold cat4
  simp only []
  rw [(h 0 (by decide)).1, (h 1 (by decide)).1, (h 2 (by decide)).1, (h 3 (by decide)).1, (h 0 (by decide)).2, (h 1 (by decide)).2, (h 2 (by decide)).2, (h 3 (by decide)).2, stampB_cat]
  rfl
/-- what is read of it -/
theorem mixed_read {e1 q1 e2 q2 : Nat} {f g : List UInt8} (hf : f.length = 224) (hg : g.length = 224) (hne : markB e1 q1 ≠ markB e2 q2) (kp : Nat → Bool) :
    (cntN kp 4 = 0 ∧ mixN kp (stampB e1 q1 f) (stampB e2 q2 g) 4 = stampB e1 q1 f) ∨ (cntN kp 4 = 4 ∧ mixN kp (stampB e1 q1 f) (stampB e2 q2 g) 4 = stampB e2 q2 g) ∨
      (cntN kp 4 ≠ 0 ∧ cntN kp 4 ≠ 4 ∧ readR (mixN kp (stampB e1 q1 f) (stampB e2 q2 g) 4) = .error 5) := by
  rw [mixN_cat]
  have hm : ∀ i, i < 4 → markOf (if kp i then stampB e2 q2 g else stampB e1 q1 f) i = if kp i then markB e2 q2 else markB e1 q1 := by
    intro i hi
    split
    · exact (stampB_marks e2 q2 g hg i hi).1
    · exact (stampB_marks e1 q1 f hf i hi).1
  have hml : ∀ i, i < 4 → (markOf (if kp i then stampB e2 q2 g else stampB e1 q1 f) i).length = 8 := by
    intro i hi
    rw [hm i hi]
    split <;> exact markB_length _ _
  have hpl : ∀ i, i < 4 → (partOf (if kp i then stampB e2 q2 g else stampB e1 q1 f) i).length = 56 := by
    intro i hi
    split
    · rw [(stampB_marks e2 q2 g hg i hi).2]; exact part_length g hg i hi
    · rw [(stampB_marks e1 q1 f hf i hi).2]; exact part_length f hf i hi
  have hmix : ∀ i j, i < 4 → j < 4 → kp i = true → kp j = false → readR (cat4 (fun i => markOf (if kp i then stampB e2 q2 g else stampB e1 q1 f) i) (fun i => partOf (if kp i then stampB e2 q2 g else stampB e1 q1 f) i)) = .error 5 := by
    intro i j hi hj h1 h2
    refine readR_mixed _ _ hml hpl i j hi hj ?_
    rw [hm i hi, hm j hj, h1, h2]
    intro h
    simp only [if_true, Bool.false_eq_true, if_false] at h
    exact hne h.symm
  have hc : cntN kp 4 = (if kp 0 then 1 else 0) + (if kp 1 then 1 else 0) + (if kp 2 then 1 else 0) + (if kp 3 then 1 else 0) := by
    simp [cntN]
  rw [hc]
  cases h0 : kp 0 <;> cases h1 : kp 1 <;> cases h2 : kp 2 <;> cases h3 : kp 3
  case false.false.false.false =>
    left
    refine ⟨rfl, ?_⟩
    unfold cat4
    simp only [h0, h1, h2, h3, Bool.false_eq_true, if_false]
    exact self_cat hf
  case true.true.true.true =>
    right; left
    refine ⟨rfl, ?_⟩
    unfold cat4
    simp only [h0, h1, h2, h3, if_true]
    exact self_cat hg
  all_goals
    right; right
    refine ⟨by decide, by decide, ?_⟩
    first
      | exact hmix 0 1 (by decide) (by decide) h0 h1
      | exact hmix 0 2 (by decide) (by decide) h0 h2
      | exact hmix 0 3 (by decide) (by decide) h0 h3
      | exact hmix 1 0 (by decide) (by decide) h1 h0
      | exact hmix 2 0 (by decide) (by decide) h2 h0
      | exact hmix 3 0 (by decide) (by decide) h3 h0
      | exact hmix 1 2 (by decide) (by decide) h1 h2
      | exact hmix 1 3 (by decide) (by decide) h1 h3
      | exact hmix 2 1 (by decide) (by decide) h2 h1
      | exact hmix 2 3 (by decide) (by decide) h2 h3
      | exact hmix 3 1 (by decide) (by decide) h3 h1
      | exact hmix 3 2 (by decide) (by decide) h3 h2


theorem mixN_mark {A B : List UInt8} (hA : A.length = 256) (hB : B.length = 256) (kp : Nat → Bool) (i : Nat) (hi : i < 4) : markOf (mixN kp A B 4) i = markOf (if kp i then B else A) i := by
  rw [mixN_cat]
  have hl : ∀ j, (if kp j then B else A).length = 256 := fun j => by split <;> assumption
  have h1 : ∀ j, j < 4 → (markOf (if kp j then B else A) j).length = 8 := fun j hj => by unfold markOf; rw [List.length_take, List.length_drop, hl]; omega
  have h2 : ∀ j, j < 4 → (partOf (if kp j then B else A) j).length = 56 := fun j hj => by unfold partOf; rw [List.length_take, List.length_drop, hl]; omega
  exact (cat4_marks (m := fun j => markOf (if kp j then B else A) j) (p := fun j => partOf (if kp j then B else A) j) h1 h2 i hi).1
theorem secs_self {A : List UInt8} (hA : A.length = 256) : (A.drop 0).take 64 ++ (A.drop 64).take 64 ++ (A.drop 128).take 64 ++ (A.drop 192).take 64 = A := by
  have e3 : (A.drop 192).take 64 = A.drop 192 := List.take_of_length_le (by rw [List.length_drop, hA]; omega)
  have s3 : (A.drop 128).take 64 ++ A.drop 192 = A.drop 128 := by rw [show 192 = 128 + 64 from rfl, ← List.drop_drop]; exact List.take_append_drop _ _
  have s2 : (A.drop 64).take 64 ++ A.drop 128 = A.drop 64 := by rw [show 128 = 64 + 64 from rfl, ← List.drop_drop]; exact List.take_append_drop _ _
  have s1 : (A.drop 0).take 64 ++ A.drop 64 = A := by rw [List.drop_zero]; exact List.take_append_drop _ _
  rw [e3, List.append_assoc, List.append_assoc, s3, s2, s1]
theorem mixN_same {A B : List UInt8} {kp : Nat → Bool} {o : Bool} (h : ∀ i, i < 4 → kp i = o) (hl : (if o then B else A).length = 256) : mixN kp A B 4 = if o then B else A := by
  simp only [mixN, h 0 (by decide), h 1 (by decide), h 2 (by decide), h 3 (by decide), List.nil_append]
  exact secs_self hl
/-- a sector without marks: nothing is read -/
theorem readR_zero (L : List UInt8) (i : Nat) (hi : i < 4) (h : markOf L i = List.replicate 8 0) : readR L = .error 5 := by
  unfold readR
  by_cases hm : marksOk L = true
  · rw [if_neg (by rw [hm]; simp), if_pos]
    left
    rw [(marks_head L).1, marksOk_all hm 0 i (by decide) hi, h]
    decide
  · rw [if_pos (by simpa using hm)]
theorem mark_zeros (i : Nat) (hi : i < 4) : markOf (List.replicate 256 0) i = List.replicate 8 0 := by
  unfold markOf
  rw [List.drop_replicate, List.take_replicate]
  congr 1
  omega
/-- with zeros, mixed: none of them, or nothing is read -/
theorem mix_zeros {A : List UInt8} (hA : A.length = 256) (kp : Nat → Bool) : mixN kp A (List.replicate 256 0) 4 = A ∨ readR (mixN kp A (List.replicate 256 0) 4) = .error 5 := by
  by_cases h : ∀ i, i < 4 → kp i = false
  · exact .inl (mixN_same (o := false) h hA)
  · right
    obtain ⟨i, hi⟩ := Classical.not_forall.1 h
    obtain ⟨hi4, hk⟩ := Classical.not_imp.1 hi
    refine readR_zero _ i hi4 ?_
    rw [mixN_mark hA (List.length_replicate) kp i hi4, show kp i = true by simpa using hk]
    exact mark_zeros i hi4
theorem zeros_mix {A : List UInt8} (hA : A.length = 256) (kp : Nat → Bool) : mixN kp (List.replicate 256 0) A 4 = A ∨ readR (mixN kp (List.replicate 256 0) A 4) = .error 5 := by
  by_cases h : ∀ i, i < 4 → kp i = true
  · exact .inl (mixN_same (o := true) h hA)
  · right
    obtain ⟨i, hi⟩ := Classical.not_forall.1 h
    obtain ⟨hi4, hk⟩ := Classical.not_imp.1 hi
    refine readR_zero _ i hi4 ?_
    rw [mixN_mark List.length_replicate hA kp i hi4, show kp i = false by simpa using hk]
    exact mark_zeros i hi4
end Go.Proofs.Ytcklgaenedlbiaa
