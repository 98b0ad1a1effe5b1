/-
  What is read of a line: plain laws.
-/
import Derived.Test.YthhmdmfbaooldaaGreatDoorTaleTell
import Derived.Test.YthhmdmfbaooldaaGreatDoorTaleSplit
namespace Go.Proofs.YthhmdmfbaooldaaGreatDoor
open Go.RowKit

theorem noblank_word (l : List UInt8) : 32 ∉ wordT l := fun h => by
  have := (word_print l).2 32 h
  exact absurd this.1 (by decide)
theorem dec_print (n : Nat) : ∀ c ∈ Lib.decDigits n, 48 ≤ c ∧ c ≤ 57 := by
  induction n using Nat.strongRecOn with
  | _ n ih =>
    intro c hc
    have key : ∀ d, d < 10 → 48 ≤ UInt8.ofNat (48 + d) ∧ UInt8.ofNat (48 + d) ≤ 57 := by decide
    rw [Lib.decDigits] at hc
    split at hc
    · rename_i h
      rw [List.mem_singleton.1 hc]; exact key n h
    · rcases List.mem_append.1 hc with h | h
      · exact ih (n / 10) (by omega) c h
      · rw [List.mem_singleton.1 h]; exact key (n % 10) (Nat.mod_lt _ (by decide))
theorem noblank_dec (n : Nat) : 32 ∉ Lib.decDigits n := fun h => by
  have := (dec_print n 32 h).1
  exact absurd this (by decide)
theorem name_print (K : Int) : ∀ c ∈ nameL K, 97 ≤ c ∧ c ≤ 122 := by
  unfold nameL
  split
  · decide
  repeat (split; · decide)
  simp
theorem noblank_name (K : Int) : 32 ∉ nameL K := fun h => by
  have := (name_print K 32 h).1
  exact absurd this (by decide)
theorem name_ne {K : Int} (h : kindB K = true) : nameL K ≠ [] := by
  have hK : 1 ≤ K ∧ K ≤ 8 := of_decide_eq_true h
  have : K = 1 ∨ K = 2 ∨ K = 3 ∨ K = 4 ∨ K = 5 ∨ K = 6 ∨ K = 7 ∨ K = 8 := by omega
  rcases this with rfl | rfl | rfl | rfl | rfl | rfl | rfl | rfl <;> decide
theorem kind_name {K : Int} (h : kindB K = true) : (kindL (nameL K) : Int) = K := by
  have hK : 1 ≤ K ∧ K ≤ 8 := of_decide_eq_true h
  have : K = 1 ∨ K = 2 ∨ K = 3 ∨ K = 4 ∨ K = 5 ∨ K = 6 ∨ K = 7 ∨ K = 8 := by omega
  rcases this with rfl | rfl | rfl | rfl | rfl | rfl | rfl | rfl <;> decide
/-- the bytes of an order's words -/
def wordsL (K : Int) (key val : ByteArray) (n : Nat) (lo hi : ByteArray) : List (List UInt8) := (wordsB K key val n lo hi).map (·.data.toList)
theorem words_noblank (K : Int) (key val : ByteArray) (n : Nat) (lo hi : ByteArray) : ∀ w ∈ wordsL K key val n lo hi, 32 ∉ w := by
  intro w hw
  unfold wordsL wordsB at hw
  simp only [List.map_cons, List.mem_cons] at hw
  rcases hw with rfl | hw
  · exact noblank_name K
  · split at hw
    · simp only [List.map_cons, List.map_nil, List.mem_cons, List.not_mem_nil, or_false] at hw
      rcases hw with rfl | rfl <;> exact noblank_word _
    · split at hw
      · simp only [List.map_cons, List.map_nil, List.mem_cons, List.not_mem_nil, or_false] at hw
        subst hw; exact noblank_word _
      · split at hw
        · simp only [List.map_cons, List.map_nil, List.mem_cons, List.not_mem_nil, or_false] at hw
          rcases hw with rfl | rfl
          · exact noblank_word _
          · exact noblank_dec _
        · split at hw
          · simp only [List.map_cons, List.map_nil, List.mem_cons, List.not_mem_nil, or_false] at hw
            rcases hw with rfl | rfl <;> exact noblank_word _
          · simp at hw
theorem words_ne (K : Int) (key val : ByteArray) (n : Nat) (lo hi : ByteArray) : wordsL K key val n lo hi ≠ [] := by unfold wordsL wordsB; simp
theorem words_some {K : Int} (h : kindB K = true) (key val : ByteArray) (n : Nat) (lo hi : ByteArray) : ∀ w ∈ wordsL K key val n lo hi, w ≠ [] := by
  have hw : ∀ l, wordT l ≠ [] := fun l => (word_print l).1
  intro w hm
  unfold wordsL wordsB at hm
  simp only [List.map_cons, List.mem_cons] at hm
  rcases hm with rfl | hm
  · exact name_ne h
  · split at hm
    · simp only [List.map_cons, List.map_nil, List.mem_cons, List.not_mem_nil, or_false] at hm
      rcases hm with rfl | rfl <;> exact hw _
    · split at hm
      · simp only [List.map_cons, List.map_nil, List.mem_cons, List.not_mem_nil, or_false] at hm
        subst hm; exact hw _
      · split at hm
        · simp only [List.map_cons, List.map_nil, List.mem_cons, List.not_mem_nil, or_false] at hm
          rcases hm with rfl | rfl
          · exact hw _
          · exact dec_ne _
        · split at hm
          · simp only [List.map_cons, List.map_nil, List.mem_cons, List.not_mem_nil, or_false] at hm
            rcases hm with rfl | rfl <;> exact hw _
          · simp at hm
theorem line_data (K : Int) (key val : ByteArray) (n : Nat) (lo hi : ByteArray) : (lineB K key val n lo hi).data.toList = Lib.join (wordsL K key val n lo hi) [32] := rfl
/-- a line's words -/
theorem line_words (K : Int) (key val : ByteArray) (n : Nat) (lo hi : ByteArray) : splitL (lineB K key val n lo hi).data.toList = wordsL K key val n lo hi := by
  rw [line_data, splitL_join _ (words_ne _ _ _ _ _ _) (words_noblank _ _ _ _ _ _)]
theorem splitT_map (s : ByteArray) : (splitT s).map (·.data.toList) = splitL s.data.toList := splitT_data s
theorem rw_at (s : ByteArray) (ws : List (List UInt8)) (h : splitL s.data.toList = ws) : rw0 s = (ws ++ [[], []]).getD 0 [] ∧ rw1 s = (ws ++ [[], []]).getD 1 [] ∧ rw2 s = (ws ++ [[], []]).getD 2 [] := by
  have h1 : (readW28 s).map (·.data.toList) = ws ++ [[], []] := by
    unfold readW28
    rw [List.map_append, splitT_map, h]; rfl
  rw [← h1]
  have key : ∀ i, ((readW28 s).getD i ⟨#[]⟩).data.toList = ((readW28 s).map (·.data.toList)).getD i [] := by
    intro i
    rw [List.getD_eq_getElem?_getD, List.getD_eq_getElem?_getD, List.getElem?_map]
    cases (readW28 s)[i]? <;> rfl
  exact ⟨key 0, key 1, key 2⟩
theorem textA_word (s : ByteArray) : textA (wordT s.data.toList) = s := by
  rw [(textA_some (text_word s.data.toList)).1]
theorem numA_dec (n : Nat) (h : n < 18446744073709551616) : numA (Lib.decDigits n) = n := (numA_some (numT_dec n h)).1
theorem textA_nil : textA [] = ⟨#[]⟩ := by
  have : textT [] = none := by decide
  exact (textA_none this).1

/-- WHAT WAS TOLD IS READ AS IT WAS -/
theorem read_line {K : Int} {key val lo hi : ByteArray} {n : Nat} (ho : ordB K key val n lo hi = true) (hn : n < 18446744073709551616) (s : ByteArray) (hs : s = lineB K key val n lo hi) :
    (kindL (rw0 s) : Int) = K ∧ rKey (kindL (rw0 s)) (rw1 s) = key ∧ rVal (kindL (rw0 s)) (rw2 s) = val ∧ rN (kindL (rw0 s)) (rw2 s) = n ∧ rLo (kindL (rw0 s)) (rw1 s) = lo ∧ rLo (kindL (rw0 s)) (rw2 s) = hi ∧ readIs s = true := by
  obtain ⟨hk, ⟨b1, b2, b3, b4, b5⟩, _⟩ := ordB_parts ho
  have hw := line_words K key val n lo hi
  rw [← hs] at hw
  obtain ⟨r0, r1, r2⟩ := rw_at s _ hw
  have hK : 1 ≤ K ∧ K ≤ 8 := of_decide_eq_true hk
  have hkk : (kindL (rw0 s) : Int) = K := by
    have : rw0 s = nameL K := by rw [r0]; rfl
    rw [this]; exact kind_name hk
  obtain ⟨k, hkd⟩ : ∃ k, k = kindL (rw0 s) := ⟨_, rfl⟩
  rw [← hkd] at hkk
  have main : rKey k (rw1 s) = key ∧ rVal k (rw2 s) = val ∧ rN k (rw2 s) = n ∧ rLo k (rw1 s) = lo ∧ rLo k (rw2 s) = hi := by
    rw [r1, r2]
    clear r0 r1 r2 hkd hw hs ho
    unfold bKey at b1
    unfold bVal at b2
    unfold bN at b3
    unfold bLo at b4 b5
    have hcs : k = 1 ∨ k = 2 ∨ k = 3 ∨ k = 4 ∨ k = 5 ∨ k = 6 ∨ k = 7 ∨ k = 8 := by omega
    rcases hcs with rfl | rfl | rfl | rfl | rfl | rfl | rfl | rfl <;> obtain rfl := hkk.symm <;> simp at b1 b2 b3 b4 b5
    · subst b4 b5; obtain rfl : n = 0 := by omega
      exact ⟨textA_word key, textA_word val, rfl, rfl, rfl⟩
    · subst b2 b4 b5; obtain rfl : n = 0 := by omega
      exact ⟨textA_word key, rfl, rfl, rfl, rfl⟩
    · subst b2 b4 b5
      exact ⟨textA_word key, rfl, numA_dec n hn, rfl, rfl⟩
    · subst b2 b4 b5; obtain rfl : n = 0 := by omega
      exact ⟨textA_word key, rfl, rfl, rfl, rfl⟩
    · subst b1 b2; obtain rfl : n = 0 := by omega
      exact ⟨rfl, rfl, rfl, textA_word lo, textA_word hi⟩
    all_goals
      subst b1 b2 b4 b5; obtain rfl : n = 0 := by omega
      exact ⟨rfl, rfl, rfl, rfl, rfl⟩
  rw [← hkd]
  refine ⟨hkk, main.1, main.2.1, main.2.2.1, main.2.2.2.1, main.2.2.2.2, ?_⟩
  unfold readIs
  rw [← hkd, main.1, main.2.1, main.2.2.1, main.2.2.2.1, main.2.2.2.2, hkk, ho, ← hs]
  simp
/-- a line that is read would be told so -/
theorem read_is {s : ByteArray} (h : readIs s = true) : ∃ (K : Int) (key val lo hi : ByteArray) (n : Nat), ordB K key val n lo hi = true ∧ n < 18446744073709551616 ∧ s = lineB K key val n lo hi := by
  unfold readIs at h
  rw [Bool.and_eq_true, decide_eq_true_eq] at h
  refine ⟨_, _, _, _, _, _, h.1, ?_, h.2.symm⟩
  unfold rN
  split
  · exact numA_lt _
  · decide
theorem name_prefix : ∀ k k' : Fin 9, 1 ≤ k.val → 1 ≤ k'.val → (nameL k.val).isPrefixOf (nameL k'.val) = true → k = k' := by decide +kernel
theorem wordsL_len {K : Int} (key val : ByteArray) (n : Nat) (lo hi : ByteArray) (key' val' : ByteArray) (n' : Nat) (lo' hi' : ByteArray) : (wordsL K key val n lo hi).length = (wordsL K key' val' n' lo' hi').length := by
  unfold wordsL wordsB
  simp only [List.length_map, List.length_cons]
  split
  · rfl
  · split
    · rfl
    · split
      · rfl
      · split <;> rfl
/-- with a blank more it is none's -/
theorem read_more {K : Int} {key val lo hi : ByteArray} {n : Nat} (ho : ordB K key val n lo hi = true) (s' : ByteArray) (a b : List UInt8) (hs : (lineB K key val n lo hi).data.toList = a ++ b) (hs' : s'.data.toList = a ++ 32 :: b) : readIs s' = false := by
  cases h : readIs s' with
  | false => rfl
  | true =>
    exfalso
    obtain ⟨K', key', val', lo', hi', n', ho', hn', rfl⟩ := read_is h
    obtain ⟨hk, _⟩ := ordB_parts ho
    obtain ⟨hk', _⟩ := ordB_parts ho'
    have hw := line_words K key val n lo hi
    have hw' := line_words K' key' val' n' lo' hi'
    rw [hs] at hw
    rw [hs'] at hw'
    obtain ⟨A, x, y, B, _, _, h3, h4⟩ := splitL_append a b
    rw [h3] at hw
    rw [h4] at hw'
    have hsome := words_some hk' key' val' n' lo' hi'
    rw [← hw'] at hsome
    have hK : 1 ≤ K ∧ K ≤ 8 := of_decide_eq_true hk
    have hK' : 1 ≤ K' ∧ K' ≤ 8 := of_decide_eq_true hk'
    have hd : wordsL K key val n lo hi = nameL K :: (wordsL K key val n lo hi).tail := rfl
    have hd' : wordsL K' key' val' n' lo' hi' = nameL K' :: (wordsL K' key' val' n' lo' hi').tail := rfl
    have hpre : nameL K' <+: nameL K → K' = K := by
      intro hp
      have := name_prefix ⟨K'.toNat, by omega⟩ ⟨K.toNat, by omega⟩ (by simp only; omega) (by simp only; omega) (by
        simp only
        rw [show ((K'.toNat : Nat) : Int) = K' by omega, show ((K.toNat : Nat) : Int) = K by omega]
        exact List.isPrefixOf_iff_prefix.2 hp)
      injection this with this
      omega
    have hKK : K' = K := by
      cases A with
      | nil =>
        rw [hd] at hw
        rw [hd'] at hw'
        simp only [List.nil_append, List.cons_append, List.cons.injEq] at hw hw'
        exact hpre (by rw [← hw.1, ← hw'.1]; exact List.prefix_append x y)
      | cons w A =>
        rw [hd] at hw
        rw [hd'] at hw'
        simp only [List.cons_append, List.cons.injEq] at hw hw'
        exact hpre (by rw [← hw.1, ← hw'.1]; exact List.prefix_refl w)
    subst hKK
    have hl := wordsL_len (K := K') key val n lo hi key' val' n' lo' hi'
    rw [← hw, ← hw'] at hl
    simp at hl
end Go.Proofs.YthhmdmfbaooldaaGreatDoor
