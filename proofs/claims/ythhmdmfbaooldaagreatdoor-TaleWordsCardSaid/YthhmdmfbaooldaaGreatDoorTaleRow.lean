/-
  A row of words that a call builds: begun, more of them, joined.
-/
import Derived.Test.YthhmdmfbaooldaaGreatDoorTaleNum
namespace Go.Proofs.YthhmdmfbaooldaaGreatDoor
open Go.RowKit

/-- the words so far, in a row of the call's own -/
def WRow (w wx : World) (V : Value) (ss : List ByteArray) : Prop := wx.ownsRowF 0 9 1 V ss.length (strs ss) ∧ Below w.heap.size w wx ∧ ∀ k, V.ownBlock = some k → w.heap.size ≤ k
theorem WRow.below {w wx w' : World} {V : Value} {ss : List ByteArray} (h : WRow w wx V ss) (hb : Below wx.heap.size wx w') : WRow w w' V ss :=
  ⟨ownsRowF_below h.1 hb, bt h.2.1 hb, h.2.2⟩
theorem WRow.new {w wx : World} (hb : Below w.heap.size w wx) (cs : Array Value) (ss : List ByteArray) (h : cs.toList = strs ss) (h0 : 0 < ss.length) (hm : ss.length ≤ 1000) :
    WRow w (wx.alloc (.cells cs 9)) (.slice (some ⟨wx.heap.size, 0, none⟩) cs.size cs.size) ss := by
  have hsz : cs.size = ss.length := by rw [← Array.length_toList, h]; simp [strs]
  refine ⟨⟨by simp [strs], .inr ⟨wx.heap.size, cs.size, cs, (0, 0), ?_, Nat.zero_le _, heap_alloc_new wx _, Nat.zero_le _, ?_, ?_, ?_, ?_⟩⟩, bt hb (below_alloc _ _), ?_⟩
  · rw [hsz]
  · omega
  · rw [hsz]; simp only [maxLen]; omega
  · omega
  · rw [h, Nat.mul_one, List.take_of_length_le (by simp [strs])]
  · intro k hk
    simp only [Value.ownBlock, Option.some.injEq] at hk
    rw [← hk]; exact hb.size
theorem info_str : (Tryz.prog.info? 9).map (fun i => (i.zero, i.size, i.bytes)) = some (some (.string ⟨#[]⟩), 1, 16) := by kernel_rfl

section
variable {ops : Array Oper} {rest : List Oper} {o : Oper} {a : Act} {w : World} {Q : Exit → Act → World → Prop}
/-- more words behind them -/
theorem wpList_more (hgd : o.guard = none) (s x : Operand) (ho : o.op = .call { callee := .builtin .append, args := #[s, x], argTypes := #[78, 78] })
    {w0 : World} {V : Value} {ss : List ByteArray} (ts : List ByteArray) (hs : a.eval s = V) (hW : WRow w0 w V ss) (A : Option Addr) (m c : Nat) (hx : a.eval x = .slice A m c) (hl : ts.length = m) (hr : Row w A (strs ts)) (hb : ss.length + ts.length ≤ 100000)
    (h : ∀ V' w', WRow w0 w' V' (ss ++ ts) → wpList Tryz.prog ops Q rest (a.put o.dst V') w') : wpList Tryz.prog ops Q (o :: rest) a w := by
  obtain ⟨i0, hi0, hz0, hz1, hz2⟩ := info_parts info_str
  refine wpList_append_row hgd s x 78 9 ho i0 _ 1 16 Tryz.underlying78 hi0 hz0 hz1 hz2 rfl (by decide) V ss.length (strs ss) hs hW.1 A m c (strs ts) hx (by simp [strs, hl]) hr ?_ (by simp only [maxLen]; omega) (by omega) ?_
  · intro u hu
    obtain ⟨y, _, rfl⟩ := List.mem_map.1 hu
    rfl
  · intro V' w' h1 h2 h3
    refine h V' w' ⟨?_, Keeps.below hW.2.1 h2 (fun k hk => hW.2.2 k (by simpa using hk)), fun k hk => ?_⟩
    · have e : strs (ss ++ ts) = strs ss ++ strs ts := by simp [strs]
      rw [e, List.length_append, hl]; exact h1
    · rcases h3 k hk with h' | h'
      · exact hW.2.2 k h'
      · exact Nat.le_trans hW.2.1.size h'
end

section
variable {ops : Array Oper} {rest : List Oper} {o : Oper} {a : Act} {w : World} {Q : Exit → Act → World → Prop}
/-- more words behind them; what else is as it was -/
theorem wpList_more2 (hgd : o.guard = none) (s x : Operand) (ho : o.op = .call { callee := .builtin .append, args := #[s, x], argTypes := #[78, 78] })
    {w0 : World} {V : Value} {ss : List ByteArray} (ts : List ByteArray) (hs : a.eval s = V) (hW : WRow w0 w V ss) (A : Option Addr) (m c : Nat) (hx : a.eval x = .slice A m c) (hl : ts.length = m) (hr : Row w A (strs ts)) (hb : ss.length + ts.length ≤ 100000)
    (h : ∀ V' w', WRow w0 w' V' (ss ++ ts) → Keeps V.ownBlock.toList w w' → (∀ k, V'.ownBlock = some k → V.ownBlock = some k ∨ w.heap.size ≤ k) → wpList Tryz.prog ops Q rest (a.put o.dst V') w') : wpList Tryz.prog ops Q (o :: rest) a w := by
  obtain ⟨i0, hi0, hz0, hz1, hz2⟩ := info_parts info_str
  refine wpList_append_row hgd s x 78 9 ho i0 _ 1 16 Tryz.underlying78 hi0 hz0 hz1 hz2 rfl (by decide) V ss.length (strs ss) hs hW.1 A m c (strs ts) hx (by simp [strs, hl]) hr ?_ (by simp only [maxLen]; omega) (by omega) ?_
  · intro u hu
    obtain ⟨y, _, rfl⟩ := List.mem_map.1 hu
    rfl
  · intro V' w' h1 h2 h3
    refine h V' w' ⟨?_, Keeps.below hW.2.1 h2 (fun k hk => hW.2.2 k (by simpa using hk)), fun k hk => ?_⟩ h2 h3
    · have e : strs (ss ++ ts) = strs ss ++ strs ts := by simp [strs]
      rw [e, List.length_append, hl]; exact h1
    · rcases h3 k hk with h' | h'
      · exact hW.2.2 k h'
      · exact Nat.le_trans hW.2.1.size h'
end
theorem WRow.lt {w wx : World} {V : Value} {ss : List ByteArray} (h : WRow w wx V ss) : ∀ k, V.ownBlock = some k → k < wx.heap.size := by
  intro k hk
  rcases h.1.2 with ⟨hv, _⟩ | ⟨g, cap, cur, fz, hv, _, hg, _⟩
  · rw [hv] at hk; cases hk
  · rw [hv] at hk
    simp only [Value.ownBlock, Option.some.injEq] at hk
    rw [← hk]; exact (Array.getElem?_eq_some_iff.1 hg).1
/-- a row that stands elsewhere -/
def Aside (wx : World) (V : Value) (b : Nat) (vs : List Value) : Prop := b < wx.heap.size ∧ (∀ i v, vs[i]? = some v → wx.cell? ⟨b, i, none⟩ = some v) ∧ ∀ k, V.ownBlock = some k → k ≠ b
theorem Aside.below {wx w' : World} {V : Value} {b : Nat} {vs : List Value} (h : Aside wx V b vs) (hb : Below wx.heap.size wx w') : Aside w' V b vs :=
  ⟨Nat.lt_of_lt_of_le h.1 hb.size, fun i v hv => by rw [hb.cell (p := ⟨b, i, none⟩) h.1]; exact h.2.1 i v hv, h.2.2⟩
theorem Aside.keeps {wx w' : World} {V V' : Value} {b : Nat} {vs : List Value} (h : Aside wx V b vs) (hk : Keeps V.ownBlock.toList wx w') (hv : ∀ k, V'.ownBlock = some k → V.ownBlock = some k ∨ wx.heap.size ≤ k) : Aside w' V' b vs := by
  have hn : b ∉ V.ownBlock.toList := fun hm => h.2.2 b (by simpa using hm) rfl
  refine ⟨Nat.lt_of_lt_of_le h.1 hk.size, fun i v hv => by rw [hk.cell h.1 hn]; exact h.2.1 i v hv, fun k h1 => ?_⟩
  rcases hv k h1 with h2 | h2
  · exact h.2.2 k h2
  · have := h.1; omega
/-- what a row of words is, handed back -/
def WordsR (ss : List ByteArray) (w : World) (e : Ending) (w' : World) : Prop := ∃ b cap, e = .returned (.slice (some ⟨b, 0, none⟩) ss.length cap) ∧ ss.length ≤ cap ∧ b < w'.heap.size ∧ (∀ (j : Nat) x, ss[j]? = some x → w'.cell? ⟨b, 0 + j, none⟩ = some (.string x)) ∧ Below w.heap.size w w'
theorem WRow.parts {w wx : World} {V : Value} {ss : List ByteArray} (h : WRow w wx V ss) (h0 : 0 < ss.length) :
    ∃ b cap, V = .slice (some ⟨b, 0, none⟩) ss.length cap ∧ ss.length ≤ cap ∧ b < wx.heap.size ∧ (∀ (j : Nat) x, ss[j]? = some x → wx.cell? ⟨b, 0 + j, none⟩ = some (.string x)) ∧ Below w.heap.size w wx := by
  obtain ⟨⟨_, h1⟩, h2, h3⟩ := h
  rcases h1 with ⟨_, hn⟩ | ⟨g, cap, cur, fz, hv, _, hg, _, hnc, _, _, ht⟩
  · omega
  · refine ⟨g, cap, hv, hnc, (Array.getElem?_eq_some_iff.1 hg).1, fun j x hj => ?_, h2⟩
    rw [Nat.zero_add, cell_of_row wx g j _ _ _ hg, ← Array.getElem?_toList]
    have hj' : (strs ss)[j]? = some (.string x) := by simp [strs, hj]
    rw [← ht, List.getElem?_take] at hj'
    split at hj'
    · exact hj'
    · cases hj'
/-- joined by blanks -/
def joinB (ss : List ByteArray) : ByteArray := ⟨(Lib.join (ss.map (·.data.toList)) [32]).toArray⟩
theorem Join_any (b cap : Nat) (ss : List ByteArray) (w : World) (hc : ∀ (j : Nat) x, ss[j]? = some x → w.cell? ⟨b, 0 + j, none⟩ = some (.string x)) (hb : b < w.heap.size) (hcap : ss.length ≤ cap) (hn : ss.length ≤ 100000)
    (hl : (Lib.join (ss.map (·.data.toList)) [32]).length ≤ 140737488355328) :
    Calls Tryz.prog 34 #[.slice (some ⟨b, 0, none⟩) ss.length cap, .string ⟨#[32]⟩] w fun e w' => e = .returned (.string (joinB ss)) ∧ Below w.heap.size w w' :=
  Tryz.strings_Join b 0 cap ss ⟨#[32]⟩ w hc hb (by omega) hcap hl
theorem join_len : ∀ (l : List (List UInt8)) (M : Nat), (∀ x ∈ l, x.length ≤ M) → (Lib.join l [32]).length ≤ l.length * (M + 1)
  | [], M, _ => by simp [Lib.join]
  | [x], M, h => by
    have := h x (by simp)
    rw [Lib.join_one]; simp; omega
  | x :: y :: l, M, h => by
    have h1 := h x (by simp)
    have ih := join_len (y :: l) M (fun z hz => h z (List.mem_cons_of_mem _ hz))
    have e : Lib.join (x :: y :: l) [32] = x ++ [32] ++ Lib.join (y :: l) [32] := by
      simp [Lib.join, List.intercalate]
    rw [e]
    simp only [List.length_append, List.length_cons, List.length_nil] at ih ⊢
    have : (l.length + 1 + 1) * (M + 1) = (l.length + 1) * (M + 1) + (M + 1) := by rw [Nat.add_mul (l.length + 1) 1, Nat.one_mul]
    omega
end Go.Proofs.YthhmdmfbaooldaaGreatDoor
