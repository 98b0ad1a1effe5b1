/-
  Words between blanks: plain laws: split, joined, one blank more.
-/
import Derived.Test.YthhmdmfbaooldaaGreatDoorKit
import Derived.Lib.SplitLaws
import Derived.Lib.Join
namespace Go.Proofs.YthhmdmfbaooldaaGreatDoor

/-- what is between blanks -/
def splitL : List UInt8 → List (List UInt8)
  | [] => [[]]
  | c :: l => if c = 32 then [] :: splitL l else match splitL l with
    | w :: ws => (c :: w) :: ws
    | [] => [[c]]
theorem splitL_none : ∀ (l : List UInt8), 32 ∉ l → splitL l = [l]
  | [], _ => rfl
  | c :: l, h => by
    have h1 : c ≠ 32 := fun e => h (by rw [e]; exact List.mem_cons_self)
    have h2 := splitL_none l (fun e => h (List.mem_cons_of_mem _ e))
    rw [splitL, if_neg h1, h2]
theorem splitL_hit : ∀ (a b : List UInt8), 32 ∉ a → splitL (a ++ 32 :: b) = a :: splitL b
  | [], b, _ => by rw [List.nil_append, splitL, if_pos rfl]
  | c :: a, b, h => by
    have h1 : c ≠ 32 := fun e => h (by rw [e]; exact List.mem_cons_self)
    have h2 := splitL_hit a b (fun e => h (List.mem_cons_of_mem _ e))
    rw [List.cons_append, splitL, if_neg h1, h2]
theorem splitL_ne : ∀ (l : List UInt8), splitL l ≠ []
  | [] => by simp [splitL]
  | c :: l => by
    rw [splitL]
    split
    · simp
    · split <;> simp
/-- where it is cut once more -/
theorem splitL_append : ∀ (a b : List UInt8), ∃ A x y B, splitL a = A ++ [x] ∧ splitL b = y :: B ∧ splitL (a ++ b) = A ++ [x ++ y] ++ B ∧ splitL (a ++ 32 :: b) = A ++ [x, y] ++ B
  | [], b => by
    obtain ⟨y, B, h⟩ := List.exists_cons_of_ne_nil (splitL_ne b)
    refine ⟨[], [], y, B, rfl, h, by simpa using h, ?_⟩
    rw [List.nil_append, splitL, if_pos rfl, h]; rfl
  | c :: a, b => by
    obtain ⟨A, x, y, B, h1, h2, h3, h4⟩ := splitL_append a b
    by_cases hc : c = 32
    · subst hc
      refine ⟨[] :: A, x, y, B, ?_, h2, ?_, ?_⟩
      · rw [splitL, if_pos rfl, h1]; rfl
      · rw [List.cons_append, splitL, if_pos rfl, h3]; rfl
      · rw [List.cons_append, splitL, if_pos rfl, h4]; rfl
    · cases A with
      | nil =>
        refine ⟨[], c :: x, y, B, ?_, h2, ?_, ?_⟩
        · rw [splitL, if_neg hc, h1]; rfl
        · rw [List.cons_append, splitL, if_neg hc, h3]; rfl
        · rw [List.cons_append, splitL, if_neg hc, h4]; rfl
      | cons w A =>
        refine ⟨(c :: w) :: A, x, y, B, ?_, h2, ?_, ?_⟩
        · rw [splitL, if_neg hc, h1]; rfl
        · rw [List.cons_append, splitL, if_neg hc, h3]; rfl
        · rw [List.cons_append, splitL, if_neg hc, h4]; rfl
/-- joined words are split as they were -/
theorem splitL_join : ∀ (ws : List (List UInt8)), ws ≠ [] → (∀ w ∈ ws, 32 ∉ w) → splitL (Lib.join ws [32]) = ws
  | [], h, _ => absurd rfl h
  | [w], _, h => by rw [Lib.join_one]; exact splitL_none w (h w (by simp))
  | w :: v :: ws, _, h => by
    have ih := splitL_join (v :: ws) (by simp) (fun x hx => h x (List.mem_cons_of_mem _ hx))
    have e : Lib.join (w :: v :: ws) [32] = w ++ 32 :: Lib.join (v :: ws) [32] := by simp [Lib.join, List.intercalate]
    rw [e, splitL_hit w _ (h w (by simp)), ih]
/-- what is split is joined as it was -/
theorem join_splitL : ∀ (l : List UInt8), Lib.join (splitL l) [32] = l
  | [] => rfl
  | c :: l => by
    have ih := join_splitL l
    obtain ⟨w, ws, h⟩ := List.exists_cons_of_ne_nil (splitL_ne l)
    rw [h] at ih
    rw [splitL]
    split
    · rename_i hc
      subst hc
      rw [h]
      have e : Lib.join ([] :: w :: ws) [32] = 32 :: Lib.join (w :: ws) [32] := by simp [Lib.join, List.intercalate]
      rw [e, ih]
    · rw [h]
      simp only
      rw [Lib.join_cons] at ih ⊢
      rw [List.cons_append, ih]
theorem index_hit : ∀ (a b : List UInt8), 32 ∉ a → Lib.index (a ++ 32 :: b) [32] = (a.length : Int)
  | [], b, _ => by simp [Lib.index]
  | c :: a, b, h => by
    have h1 : c ≠ 32 := fun e => h (by rw [e]; exact List.mem_cons_self)
    have ih := index_hit a b (fun e => h (List.mem_cons_of_mem _ e))
    rw [List.cons_append, Lib.index, if_neg (by simp [List.isPrefixOf]; exact fun e => h1 e.symm), ih, if_neg (by simp)]
    simp
theorem index_none : ∀ (l : List UInt8), 32 ∉ l → Lib.index l [32] = -1
  | [], _ => rfl
  | c :: l, h => by
    have h1 : c ≠ 32 := fun e => h (by rw [e]; exact List.mem_cons_self)
    have ih := index_none l (fun e => h (List.mem_cons_of_mem _ e))
    rw [Lib.index, if_neg (by simp [List.isPrefixOf]; exact fun e => h1 e.symm), ih]; rfl
theorem splitK_eq (n : Nat) : ∀ (l : List UInt8), l.length ≤ n → Lib.splitK [32] 0 (Lib.count l [32]) l = splitL l := by
  induction n with
  | zero =>
    intro l hl
    obtain rfl := List.length_eq_zero_iff.1 (Nat.le_zero.1 hl)
    rfl
  | succ n ih =>
    intro l hl
    by_cases h : 32 ∈ l
    · obtain ⟨a, b, rfl, ha⟩ := List.eq_append_cons_of_mem h
      have hi := index_hit a b ha
      rw [Lib.count_hit (by simp) hi, splitL_hit a b ha, Nat.add_comm 1, Lib.splitK, if_neg (by rw [hi]; simp), hi]
      have hd : (a ++ 32 :: b).drop (a.length + [(32 : UInt8)].length) = b := by simp
      simp only [Int.toNat_natCast, Nat.add_zero]
      rw [hd, List.take_left, ih b (by simp at hl; omega)]
    · rw [Lib.count_miss (index_none l h), splitL_none l h]; rfl
theorem splitT_data (s : ByteArray) : (Lib.splitB ⟨#[32]⟩ 0 (Lib.countB s ⟨#[32]⟩) s).map (·.data.toList) = splitL s.data.toList := by
  rw [Lib.splitB_data]
  exact splitK_eq _ _ (Nat.le_refl _)
end Go.Proofs.YthhmdmfbaooldaaGreatDoor
