/-
  Words of layer 28: plain laws, without a program.
-/
import Derived.Test.YthhmdmfbaooldaaGreatDoorKit
namespace Go.Proofs.YthhmdmfbaooldaaGreatDoor

def plainB (b : UInt8) : Bool := (decide (97 ≤ b) && decide (b ≤ 122)) || (decide (48 ≤ b) && decide (b ≤ 57))
def digB (n : Nat) : UInt8 := if n < 10 then UInt8.ofNat (48 + n) else UInt8.ofNat (87 + n)
/-- a digit's number -/
def undigB (b : UInt8) : Option Nat := (List.range 16).find? fun n => digB n == b
def word1 (b : UInt8) : List UInt8 := if plainB b = true then [b] else [37, digB (b.toNat / 16), digB (b.toNat % 16)]
def wordL (l : List UInt8) : List UInt8 := l.flatMap word1
def wordT (l : List UInt8) : List UInt8 := if l = [] then [37] else wordL l
def textL : List UInt8 → Option (List UInt8)
  | [] => some []
  | [c] => if c = 37 then some [] else some [c]
  | [c, a] => if c = 37 then none else (textL [a]).map (c :: ·)
  | c :: a :: b :: r => if c = 37 then match undigB a, undigB b with
      | some x, some y => (textL r).map (UInt8.ofNat (16 * x + y) :: ·)
      | _, _ => none
    else (textL (a :: b :: r)).map (c :: ·)
def textT (w : List UInt8) : Option (List UInt8) := match textL w with
  | some l => if wordT l = w then some l else none
  | none => none
theorem undig_dig : ∀ n, n < 16 → undigB (digB n) = some n := by decide
theorem plain_not (b : UInt8) (h : plainB b = true) : b ≠ 37 := by
  rintro rfl
  revert h; decide
theorem textL_plain (b : UInt8) (h : b ≠ 37) (r : List UInt8) : textL (b :: r) = (textL r).map (b :: ·) := by
  match r with
  | [] => simp [textL, h]
  | [a] => simp only [textL, if_neg h]
  | a :: c :: r => simp only [textL, if_neg h]
theorem textL_word : ∀ l : List UInt8, textL (wordL l) = some l
  | [] => rfl
  | b :: l => by
    have ih := textL_word l
    show textL (word1 b ++ wordL l) = _
    unfold word1
    by_cases h : plainB b = true
    · rw [if_pos h, List.singleton_append, textL_plain b (plain_not b h), ih]; rfl
    · rw [if_neg h]
      have h1 : b.toNat < 256 := b.toNat_lt
      show textL (37 :: digB (b.toNat / 16) :: digB (b.toNat % 16) :: wordL l) = _
      rw [textL, if_pos rfl, undig_dig _ (by omega), undig_dig _ (Nat.mod_lt _ (by decide)), ih]
      simp only [Option.map_some, Option.some.injEq, List.cons.injEq, and_true]
      rw [show 16 * (b.toNat / 16) + b.toNat % 16 = b.toNat by omega]
      exact UInt8.ofNat_toNat
/-- a text's word is read as the text -/
theorem text_word (l : List UInt8) : textT (wordT l) = some l := by
  unfold textT
  by_cases h : l = []
  · subst h; rfl
  · have : wordT l = wordL l := by unfold wordT; rw [if_neg h]
    rw [this, textL_word]
    simp only [this, if_pos]
/-- unlike texts have unlike words -/
theorem word_inj {a b : List UInt8} (h : wordT a = wordT b) : a = b := by
  have := text_word a
  rw [h, text_word b] at this
  injection this with h
  exact h.symm
/-- two words that are read as one text are the same -/
theorem text_inj {v w a : List UInt8} (h : textT v = some a) (h2 : textT w = some a) : v = w := by
  have key : ∀ {v}, textT v = some a → wordT a = v := by
    intro v h
    unfold textT at h
    cases hl : textL v with
    | none => rw [hl] at h; cases h
    | some l =>
      rw [hl] at h
      simp only at h
      split at h
      · rename_i he
        injection h with h
        rw [← h]; exact he
      · cases h
  rw [← key h, ← key h2]
theorem dig_print : ∀ n, n < 16 → 32 < digB n ∧ digB n ≤ 126 := by decide
theorem word1_print (b : UInt8) : ∀ c ∈ word1 b, 32 < c ∧ c ≤ 126 := by
  intro c hc
  unfold word1 at hc
  by_cases h : plainB b = true
  · rw [if_pos h] at hc
    rw [List.mem_singleton.1 hc]
    unfold plainB at h
    simp only [Bool.or_eq_true, Bool.and_eq_true, decide_eq_true_eq, UInt8.le_iff_toNat_le] at h
    rw [UInt8.lt_iff_toNat_lt, UInt8.le_iff_toNat_le]
    have e1 : (97 : UInt8).toNat = 97 := rfl
    have e2 : (122 : UInt8).toNat = 122 := rfl
    have e3 : (48 : UInt8).toNat = 48 := rfl
    have e4 : (57 : UInt8).toNat = 57 := rfl
    have e5 : (32 : UInt8).toNat = 32 := rfl
    have e6 : (126 : UInt8).toNat = 126 := rfl
    omega
  · rw [if_neg h] at hc
    have h1 : b.toNat < 256 := b.toNat_lt
    simp only [List.mem_cons, List.not_mem_nil, or_false] at hc
    rcases hc with rfl | rfl | rfl
    · decide
    · exact dig_print _ (by omega)
    · exact dig_print _ (Nat.mod_lt _ (by decide))
/-- a word has no blank, and is not empty -/
theorem word_print (l : List UInt8) : wordT l ≠ [] ∧ ∀ c ∈ wordT l, 32 < c ∧ c ≤ 126 := by
  unfold wordT
  by_cases h : l = []
  · rw [if_pos h]
    refine ⟨by simp, fun c hc => ?_⟩
    rw [List.mem_singleton.1 hc]; decide
  · rw [if_neg h]
    refine ⟨fun he => ?_, fun c hc => ?_⟩
    · obtain ⟨b, l', rfl⟩ := List.exists_cons_of_ne_nil h
      unfold wordL word1 at he
      rw [List.flatMap_cons] at he
      split at he <;> simp at he
    · obtain ⟨b, _, hb⟩ := List.mem_flatMap.1 hc
      exact word1_print b c hb
end Go.Proofs.YthhmdmfbaooldaaGreatDoor
