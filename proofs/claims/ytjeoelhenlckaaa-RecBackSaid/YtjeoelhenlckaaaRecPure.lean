/-
  Messages as texts: how they are parted: plain laws.
-/
import Derived.Test.YtjeoelhenlckaaaMsgF
namespace Go.Proofs.Ytjeoelhenlckaaa
open Go.RowKit

/-- a message's weight -/
def wt (x : Msg3) : Nat := 3 + x.2.1.size + x.2.2.size
def sw (l : List Msg3) : Nat := (l.map wt).sum
theorem sw_cons (x : Msg3) (l : List Msg3) : sw (x :: l) = wt x + sw l := by simp [sw]
theorem sw_append (l m : List Msg3) : sw (l ++ m) = sw l + sw m := by simp [sw]
/-- how many fit behind so many bytes -/
def fillF : Nat → List Msg3 → Nat
  | _, [] => 0
  | s, x :: l => if 218 < s + wt x then 0 else 1 + fillF (s + wt x) l
theorem fillF_le : ∀ (s : Nat) (l : List Msg3), fillF s l ≤ l.length
  | _, [] => Nat.le_refl _
  | s, x :: l => by
    unfold fillF
    split
    · exact Nat.zero_le _
    · have := fillF_le (s + wt x) l; simp only [List.length_cons]; omega
/-- as many in each as fit -/
def groupsF : Nat → List Msg3 → List (List Msg3)
  | 0, _ => []
  | _ + 1, [] => []
  | f + 1, x :: l => (x :: l).take (fillF 1 (x :: l)) :: groupsF f ((x :: l).drop (fillF 1 (x :: l)))
/-- one by one -/
def g2 : List Msg3 → List Msg3 → List (List Msg3)
  | cur, [] => if cur = [] then [] else [cur]
  | cur, x :: l => if cur ≠ [] ∧ 218 < 1 + sw cur + wt x then cur :: g2 [x] l else g2 (cur ++ [x]) l
theorem g2_cons (cur : List Msg3) (x : Msg3) (l : List Msg3) : g2 cur (x :: l) = if cur ≠ [] ∧ 218 < 1 + sw cur + wt x then cur :: g2 [x] l else g2 (cur ++ [x]) l := rfl
theorem fillF_cons (s : Nat) (x : Msg3) (l : List Msg3) : fillF s (x :: l) = if 218 < s + wt x then 0 else 1 + fillF (s + wt x) l := rfl
theorem g2_fill : ∀ (l cur : List Msg3), cur ≠ [] → g2 cur l = (cur ++ l.take (fillF (1 + sw cur) l)) :: g2 [] (l.drop (fillF (1 + sw cur) l))
  | [], cur, h => by simp [g2, h, fillF]
  | x :: l, cur, h => by
    rw [g2_cons, fillF_cons]
    by_cases hc : 218 < 1 + sw cur + wt x
    · rw [if_pos ⟨h, hc⟩, if_pos hc, List.take_zero, List.append_nil, List.drop_zero, g2_cons, if_neg (by simp)]
      rfl
    · rw [if_neg (fun hh => hc hh.2), if_neg hc, g2_fill l (cur ++ [x]) (by simp), sw_append, sw_cons]
      have e : sw ([] : List Msg3) = 0 := rfl
      rw [e, Nat.add_zero, ← Nat.add_assoc, Nat.add_comm 1 (fillF _ l), List.take_succ_cons, List.drop_succ_cons, List.append_assoc]
      rfl
theorem groups_g2 : ∀ (f : Nat) (l : List Msg3), l.length ≤ f → (∀ x ∈ l, wt x ≤ 217) → groupsF f l = g2 [] l
  | 0, l, h, _ => by
    obtain rfl : l = [] := List.length_eq_zero_iff.1 (by omega)
    rfl
  | f + 1, [], _, _ => rfl
  | f + 1, x :: l, h, hw => by
    have hx := hw x (List.mem_cons_self ..)
    have e1 : fillF 1 (x :: l) = fillF (1 + wt x) l + 1 := by
      conv => lhs; unfold fillF
      rw [if_neg (by omega), Nat.add_comm]
    have hle := fillF_le (1 + wt x) l
    unfold groupsF
    rw [e1, List.take_succ_cons, List.drop_succ_cons]
    rw [groups_g2 f _ (by rw [List.length_drop]; simp only [List.length_cons] at h; omega) (fun y hy => hw y (List.mem_cons_of_mem _ (List.mem_of_mem_drop hy)))]
    have e2 : g2 [] (x :: l) = g2 [x] l := by
      conv => lhs; unfold g2
      rw [if_neg (by simp)]
      rfl
    rw [e2, g2_fill l [x] (by simp)]
    simp [sw]
/-- a message more -/
theorem g2_snoc : ∀ (l cur : List Msg3) (m : Msg3), (g2 cur (l ++ [m])).length = (g2 cur l).length ∨ (g2 cur (l ++ [m])).length = (g2 cur l).length + 1
  | [], cur, m => by
    simp only [List.nil_append, g2]
    by_cases h : cur = []
    · subst h; simp
    · by_cases h2 : 218 < 1 + sw cur + wt m
      · rw [if_pos ⟨h, h2⟩, if_neg h]; simp
      · rw [if_neg (fun hh => h2 hh.2), if_neg h]; simp
  | x :: l, cur, m => by
    simp only [List.cons_append, g2]
    split
    · have := g2_snoc l [x] m
      simp only [List.length_cons]; omega
    · exact g2_snoc l (cur ++ [x]) m
theorem sw_le : ∀ (l : List Msg3), (∀ x ∈ l, wt x ≤ 27) → sw l ≤ 27 * l.length
  | [], _ => by simp [sw]
  | x :: l, h => by
    have := sw_le l (fun y hy => h y (List.mem_cons_of_mem _ hy))
    have := h x (List.mem_cons_self ..)
    rw [sw_cons, List.length_cons]; omega
theorem g2_bound : ∀ (l cur : List Msg3), (∀ x ∈ cur, wt x ≤ 27) → (∀ x ∈ l, wt x ≤ 27) → cur ++ l ≠ [] → 8 * ((g2 cur l).length - 1) + 1 ≤ cur.length + l.length ∧ 1 ≤ (g2 cur l).length
  | [], cur, hc, _, hne => by
    have : cur ≠ [] := by simpa using hne
    have h1 := List.length_pos_iff.2 this
    simp [g2, this]; omega
  | x :: l, cur, hc, hl, _ => by
    simp only [g2]
    have hx := hl x (List.mem_cons_self ..)
    split
    · rename_i h
      have h1 := g2_bound l [x] (by intro y hy; simp at hy; subst hy; exact hx) (fun y hy => hl y (List.mem_cons_of_mem _ hy)) (by simp)
      have h2 := sw_le cur hc
      simp only [List.length_cons, List.length_nil] at h1 ⊢
      omega
    · have h1 := g2_bound l (cur ++ [x]) (by intro y hy; rcases List.mem_append.1 hy with hy | hy; exact hc y hy; simp at hy; subst hy; exact hx) (fun y hy => hl y (List.mem_cons_of_mem _ hy)) (by simp)
      simp only [List.length_append, List.length_cons, List.length_nil] at h1 ⊢
      omega
theorem g2_flat : ∀ (l cur : List Msg3), (g2 cur l).flatten = cur ++ l
  | [], cur => by
    simp only [g2]
    split
    · rename_i h; subst h; rfl
    · simp
  | x :: l, cur => by
    simp only [g2]
    split
    · rw [List.flatten_cons, g2_flat l [x]]; rfl
    · rw [g2_flat l (cur ++ [x])]; simp
end Go.Proofs.Ytjeoelhenlckaaa
