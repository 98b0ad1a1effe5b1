/-
  The plain law behind KeyParts: of keys' order, of what two ranges have, of a range's parts.
-/
import Derived.Test.YtapmnnfnhgopcaaKeyCut
namespace Go.Proofs.Ytapmnnfnhgopcaa
open Go.RowKit

theorem bl_eq : ∀ (x y : List UInt8), Op.bytesLess x y = decide (x < y)
  | [], [] => by simp [Op.bytesLess]
  | _ :: _, [] => by simp [Op.bytesLess]
  | [], _ :: _ => by simp [Op.bytesLess]
  | a :: x, b :: y => by
    rw [Op.bytesLess, bl_eq x y]
    simp only [List.cons_lt_cons_iff]
    by_cases h1 : a < b <;> by_cases h2 : a = b <;> by_cases h3 : x < y <;> simp [h1, h2, h3]

theorem bl_irrefl (x : List UInt8) : Op.bytesLess x x = false := by
  rw [bl_eq]; simp [List.lt_irrefl]
theorem bl_trans {x y z : List UInt8} (h : Op.bytesLess x y = true) (k : Op.bytesLess y z = true) : Op.bytesLess x z = true := by
  rw [bl_eq, decide_eq_true_eq] at *; exact List.lt_trans h k
theorem bl_nil (x : List UInt8) : Op.bytesLess x [] = false := by cases x <;> rfl
theorem nil_bl (x : List UInt8) : Op.bytesLess [] x = !(x == []) := by cases x <;> rfl
theorem bl_tri {x y : List UInt8} (h : Op.bytesLess x y = false) (k : Op.bytesLess y x = false) : x = y := by
  rw [bl_eq, decide_eq_false_iff_not] at *
  exact List.le_antisymm (List.not_lt.1 k) (List.not_lt.1 h)
theorem bl_asymm {x y : List UInt8} (h : Op.bytesLess x y = true) : Op.bytesLess y x = false := by
  cases hk : Op.bytesLess y x with
  | false => rfl
  | true => have := bl_trans h hk; rw [bl_irrefl] at this; cases this
/-- not ahead, and not ahead -/
theorem bl_le {x y z : List UInt8} (h : Op.bytesLess y x = false) (k : Op.bytesLess z y = false) : Op.bytesLess z x = false := by
  cases hz : Op.bytesLess z x with
  | false => rfl
  | true =>
    cases hy : Op.bytesLess x y with
    | true => rw [bl_trans hz hy] at k; cases k
    | false => rw [bl_tri h hy] at k; rw [hz] at k; cases k

theorem empty_toList : (⟨#[]⟩ : ByteArray).toList = [] := by rw [ByteArray.toList_eq]
theorem zero_toList : (⟨#[0]⟩ : ByteArray).toList = [0] := by rw [ByteArray.toList_eq]
theorem ba_ext {a b : ByteArray} (h : a.toList = b.toList) : a = b := by
  rw [ByteArray.toList_eq, ByteArray.toList_eq] at h
  cases a; cases b
  simp only [Array.toList_inj] at h
  rw [h]
theorem ba_nil {a : ByteArray} (h : a.toList = []) : a = ⟨#[]⟩ := ba_ext (by rw [h, ByteArray.toList_eq])
theorem ba_size (a : ByteArray) : a.size = a.toList.length := by rw [ByteArray.toList_eq]; rfl

theorem maxK_has (a b k : ByteArray) : ahead k (maxK a b) = (ahead k a || ahead k b) := by
  unfold maxK ahead
  cases h : Op.bytesLess a.toList b.toList with
  | true =>
    simp only [if_true]
    cases hk : Op.bytesLess k.toList b.toList with
    | true => simp
    | false =>
      cases ha : Op.bytesLess k.toList a.toList with
      | false => rfl
      | true => rw [bl_trans ha h] at hk; cases hk
  | false =>
    simp only [if_false, Bool.false_eq_true]
    cases hk : Op.bytesLess k.toList a.toList with
    | true => simp
    | false => rw [bl_le h hk]; rfl

/-- has an end: not behind it -/
def inEnd (e k : ByteArray) : Bool := e.toList == [] || ahead k e
theorem endK_has (a b k : ByteArray) : inEnd (endK a b) k = (inEnd a k && inEnd b k) := by
  unfold inEnd endK
  cases ha : (a.toList == []) with
  | true => simp [ha]
  | false =>
    cases hb : (b.toList == []) with
    | true => simp [ha, hb]
    | false =>
      simp only [Bool.not_false, Bool.true_and, if_false, Bool.false_eq_true, Bool.false_or]
      unfold ahead
      cases h : Op.bytesLess b.toList a.toList with
      | true =>
        simp only [if_true, hb, Bool.false_or]
        cases hk : Op.bytesLess k.toList b.toList with
        | false => simp
        | true => rw [bl_trans hk h]; rfl
      | false =>
        simp only [if_false, Bool.false_eq_true, ha, Bool.false_or]
        cases hk : Op.bytesLess k.toList a.toList with
        | false => simp
        | true =>
          cases hkb : Op.bytesLess k.toList b.toList with
          | true => rfl
          | false => rw [bl_le h hkb] at hk; cases hk

theorem rangeHas_eq (lo hi k : ByteArray) : rangeHas lo hi k = (keyIs k && !ahead k lo && inEnd hi k) := rfl

theorem turned_none {lo hi k : ByteArray} (h : turnedB lo hi = true) : (!ahead k lo && inEnd hi k) = false := by
  unfold turnedB at h
  simp only [Bool.and_eq_true, Bool.not_eq_true'] at h
  obtain ⟨h1, h2, h3⟩ := h
  unfold inEnd
  rw [h1, Bool.false_or]
  unfold ahead at *
  cases h4 : Op.bytesLess k.toList hi.toList with
  | false => simp
  | true =>
    cases h5 : Op.bytesLess k.toList lo.toList with
    | true => rfl
    | false => rw [bl_le h2 h5] at h4; cases h4
theorem same_none (lo k : ByteArray) (h : (lo.toList == []) = false) : (!ahead k lo && inEnd lo k) = false := by
  unfold inEnd
  rw [h, Bool.false_or]
  cases ahead k lo <;> rfl
theorem turned_lo {lo hi : ByteArray} (h : turnedB lo hi = true) : (lo.toList == []) = false := by
  unfold turnedB ahead at h
  simp only [Bool.and_eq_true, Bool.not_eq_true'] at h
  obtain ⟨h1, h2, h3⟩ := h
  cases h4 : (lo.toList == []) with
  | false => rfl
  | true =>
    rw [beq_iff_eq] at h4
    rw [h4, nil_bl, h1] at h2
    cases h2

theorem meet_has (lo hi lo' hi' k : ByteArray) : rangeHas (meetLo lo hi lo' hi') (meetHi lo hi lo' hi') k = (rangeHas lo hi k && rangeHas lo' hi' k) := by
  rw [rangeHas_eq, rangeHas_eq, rangeHas_eq]
  have hm : (!ahead k (meetLo lo hi lo' hi') && inEnd (meetHi lo hi lo' hi') k) = ((!ahead k lo && inEnd hi k) && (!ahead k lo' && inEnd hi' k)) := by
    have h1 : (!ahead k (maxK lo lo') && inEnd (endK hi hi') k) = ((!ahead k lo && inEnd hi k) && (!ahead k lo' && inEnd hi' k)) := by
      rw [maxK_has, endK_has]
      cases ahead k lo <;> cases ahead k lo' <;> cases inEnd hi k <;> cases inEnd hi' k <;> rfl
    rw [← h1]
    unfold meetLo meetHi
    cases ht : turnedB (maxK lo lo') (endK hi hi') with
    | false => rfl
    | true => simp only [if_true]; rw [turned_none ht, same_none _ _ (turned_lo ht)]
  rw [Bool.and_assoc, hm]
  cases keyIs k <;> simp

theorem maxK_or (a b : ByteArray) : maxK a b = a ∨ maxK a b = b := by unfold maxK; split; exact .inr rfl; exact .inl rfl
theorem endK_or (a b : ByteArray) : endK a b = a ∨ endK a b = b := by
  unfold endK; split
  · exact .inr rfl
  · split; exact .inr rfl; exact .inl rfl
theorem turned_self (a : ByteArray) : turnedB a a = false := by unfold turnedB; simp
theorem rangeIs_iff (lo hi : ByteArray) : rangeIs lo hi = true ↔ lo.size ≤ 8 ∧ hi.size ≤ 8 ∧ turnedB lo hi = false := by
  unfold rangeIs
  simp only [Bool.and_eq_true, decide_eq_true_eq, Bool.not_eq_true']
  constructor
  · rintro ⟨⟨a, b⟩, c⟩; exact ⟨by omega, by omega, c⟩
  · rintro ⟨a, b, c⟩; exact ⟨⟨by omega, by omega⟩, c⟩
theorem meetHi_or (lo hi lo' hi' : ByteArray) : meetHi lo hi lo' hi' = meetLo lo hi lo' hi' ∨ meetHi lo hi lo' hi' = endK hi hi' := by
  unfold meetHi meetLo; split; exact .inl rfl; exact .inr rfl
theorem meet_is {lo hi lo' hi' : ByteArray} (h : rangeIs lo hi = true) (h' : rangeIs lo' hi' = true) : rangeIs (meetLo lo hi lo' hi') (meetHi lo hi lo' hi') = true := by
  rw [rangeIs_iff] at *
  have hl : (maxK lo lo').size ≤ 8 := by rcases maxK_or lo lo' with e | e <;> rw [e]; exact h.1; exact h'.1
  have he : (endK hi hi').size ≤ 8 := by rcases endK_or hi hi' with e | e <;> rw [e]; exact h.2.1; exact h'.2.1
  unfold meetLo meetHi
  cases ht : turnedB (maxK lo lo') (endK hi hi') with
  | false => exact ⟨hl, he, ht⟩
  | true => exact ⟨hl, hl, turned_self _⟩

theorem maxK_comm (a b : ByteArray) : maxK a b = maxK b a := by
  unfold maxK
  cases h : Op.bytesLess a.toList b.toList with
  | true => rw [bl_asymm h]; rfl
  | false =>
    cases h2 : Op.bytesLess b.toList a.toList with
    | true => rfl
    | false => exact ba_ext (bl_tri h h2)
theorem endK_comm (a b : ByteArray) : endK a b = endK b a := by
  unfold endK ahead
  cases ha : (a.toList == []) with
  | true =>
    cases hb : (b.toList == []) with
    | true =>
      rw [beq_iff_eq] at ha hb
      rw [ba_nil ha, ba_nil hb]
    | false => rfl
  | false =>
    cases hb : (b.toList == []) with
    | true => rfl
    | false =>
      simp only [Bool.not_false, Bool.true_and, if_false, Bool.false_eq_true]
      cases h : Op.bytesLess a.toList b.toList with
      | true => rw [bl_asymm h]; rfl
      | false =>
        cases h2 : Op.bytesLess b.toList a.toList with
        | true => rfl
        | false => exact ba_ext (bl_tri h h2)
theorem meet_comm (lo hi lo' hi' : ByteArray) : meetLo lo hi lo' hi' = meetLo lo' hi' lo hi ∧ meetHi lo hi lo' hi' = meetHi lo' hi' lo hi := by
  unfold meetLo meetHi
  rw [maxK_comm lo lo', endK_comm hi hi']
  exact ⟨rfl, rfl⟩

/-- a range that has a key has its first one -/
theorem empty_not {lo hi k : ByteArray} (h8 : lo.size ≤ 8) (h : rangeHas lo hi k = true) : rangeEmpty lo hi = false := by
  rw [rangeHas_eq] at h
  simp only [Bool.and_eq_true, Bool.not_eq_true'] at h
  obtain ⟨⟨h1, h2⟩, h3⟩ := h
  unfold rangeEmpty
  rw [rangeHas_eq]
  unfold keyIs at h1
  simp only [Bool.and_eq_true, decide_eq_true_eq] at h1
  unfold firstK
  cases hl : (lo.toList == []) with
  | true =>
    simp only [if_true]
    rw [beq_iff_eq] at hl
    have hk : (k.toList == []) = false := by
      rw [beq_eq_false_iff_ne]
      intro e
      have := ba_size k
      rw [e, List.length_nil] at this
      omega
    have h0k : ahead k ⟨#[0]⟩ = false := by
      unfold ahead
      rw [zero_toList]
      cases hk2 : k.toList with
      | nil => rw [hk2] at hk; cases hk
      | cons x l => rw [Op.bytesLess, bl_nil]; simp
    have e1 : keyIs ⟨#[0]⟩ = true := by decide
    have e2 : ahead ⟨#[0]⟩ lo = false := by unfold ahead; rw [hl, bl_nil]
    have e3 : inEnd hi ⟨#[0]⟩ = true := by
      unfold inEnd at *
      cases hh : (hi.toList == []) with
      | true => rfl
      | false =>
        rw [hh, Bool.false_or] at h3
        rw [Bool.false_or]
        unfold ahead at *
        cases h5 : Op.bytesLess (⟨#[0]⟩ : ByteArray).toList hi.toList with
        | true => rfl
        | false => rw [bl_le h5 h0k] at h3; cases h3
    rw [e1, e2, e3]; rfl
  | false =>
    simp only [if_false, Bool.false_eq_true]
    have e1 : keyIs lo = true := by
      unfold keyIs
      simp only [Bool.and_eq_true, decide_eq_true_eq]
      refine ⟨?_, h8⟩
      rw [beq_eq_false_iff_ne] at hl
      have := ba_size lo
      cases hlo : lo.toList with
      | nil => exact absurd hlo hl
      | cons x l => rw [hlo, List.length_cons] at this; omega
    have e2 : ahead lo lo = false := bl_irrefl _
    have e3 : inEnd hi lo = true := by
      unfold inEnd at *
      cases hh : (hi.toList == []) with
      | true => rfl
      | false =>
        rw [hh, Bool.false_or] at h3
        rw [Bool.false_or]
        unfold ahead at *
        cases h5 : Op.bytesLess lo.toList hi.toList with
        | true => rfl
        | false => rw [bl_le h5 h2] at h3; cases h3
    rw [e1, e2, e3]; rfl

/-- how many of some ranges have a key -/
def hasN (l : List (ByteArray × ByteArray)) (k : ByteArray) : Nat := l.countP fun r => rangeHas r.1 r.2 k
theorem hasN_snoc (l : List (ByteArray × ByteArray)) (a b k : ByteArray) : hasN (l ++ [(a, b)]) k = hasN l k + (if rangeHas a b k then 1 else 0) := by
  unfold hasN
  rw [List.countP_append, List.countP_singleton]

theorem hasN_take (l : List (ByteArray × ByteArray)) (k : ByteArray) (i : Nat) (h : i < l.length) : hasN (l.take (i + 1)) k = hasN (l.take i) k + (if rangeHas l[i].1 l[i].2 k then 1 else 0) := by
  rw [List.take_succ_eq_append_getElem h]
  exact hasN_snoc _ l[i].1 l[i].2 k
theorem hasN_le (l : List (ByteArray × ByteArray)) (k : ByteArray) : hasN l k ≤ l.length := List.countP_le_length

/-- pivots that rise -/
def rise (ps : List ByteArray) : Prop := ∀ i, i < ps.length → ((ps.getD i ⟨#[]⟩).toList == []) = false ∧ (0 < i → ahead (ps.getD (i - 1) ⟨#[]⟩) (ps.getD i ⟨#[]⟩) = true)

theorem cutN_has (lo hi : ByteArray) (ps : List ByteArray) (k : ByteArray) (hr : rise ps) : ∀ i, i ≤ ps.length →
    hasN (cutN lo hi ps i) k = if rangeHas lo hi k && (decide (0 < i) && ahead k (ps.getD (i - 1) ⟨#[]⟩)) then 1 else 0
  | 0, _ => by simp [cutN, hasN]
  | i + 1, hi' => by
    rw [cutN_succ, hasN_snoc, cutN_has lo hi ps k hr i (by omega), meet_has]
    have hri := hr i (by omega)
    obtain ⟨p, hp⟩ : ∃ p, p = ps.getD i ⟨#[]⟩ := ⟨_, rfl⟩
    simp only [Nat.add_sub_cancel, Nat.zero_lt_succ, decide_true, Bool.true_and]
    rw [← hp] at hri ⊢
    cases hk : rangeHas lo hi k with
    | false => simp
    | true =>
      have hkk : keyIs k = true := by rw [rangeHas_eq] at hk; simp only [Bool.and_eq_true] at hk; exact hk.1.1
      rw [rangeHas_eq, hkk]
      unfold inEnd
      rw [hri.1]
      cases i with
      | zero =>
        have : ahead k ⟨#[]⟩ = false := by unfold ahead; rw [empty_toList, bl_nil]
        simp [this]
      | succ j =>
        have hq := hri.2 (by omega)
        simp only [Nat.add_sub_cancel, List.getD_cons_succ, Nat.zero_lt_succ, decide_true, Bool.true_and, Bool.false_or] at hq ⊢
        cases ha : ahead k (ps.getD j ⟨#[]⟩) with
        | false => simp
        | true =>
          have : ahead k p = true := bl_trans ha hq
          simp [this]

theorem cutK_has (lo hi : ByteArray) (ps : List ByteArray) (k : ByteArray) (hr : rise ps) : hasN (cutK lo hi ps) k = if rangeHas lo hi k then 1 else 0 := by
  unfold cutK
  split
  · simp [hasN, List.countP_singleton]
  · rename_i hne
    rw [hasN_snoc, cutN_has lo hi ps k hr _ (Nat.le_refl _), meet_has]
    obtain ⟨n, hn⟩ : ∃ n, ps.length = n + 1 := by cases ps with | nil => exact absurd rfl hne | cons x l => exact ⟨l.length, rfl⟩
    rw [hn]
    simp only [Nat.add_sub_cancel, Nat.zero_lt_succ, decide_true, Bool.true_and, List.getD_cons_succ]
    cases hk : rangeHas lo hi k with
    | false => simp
    | true =>
      have hkk : keyIs k = true := by rw [rangeHas_eq] at hk; simp only [Bool.and_eq_true] at hk; exact hk.1.1
      rw [rangeHas_eq, hkk]
      have : inEnd ⟨#[]⟩ k = true := by unfold inEnd; rw [empty_toList]; rfl
      rw [this]
      cases ahead k (ps.getD n ⟨#[]⟩) <;> simp
theorem cutK_length (lo hi : ByteArray) (ps : List ByteArray) : (cutK lo hi ps).length = ps.length + 1 := by
  unfold cutK
  split
  · rename_i h; rw [h]; rfl
  · rw [List.length_append, cutN_length]; rfl
end Go.Proofs.Ytapmnnfnhgopcaa
