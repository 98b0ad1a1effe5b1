/-
  Appending onto a row that the call made: where the row then lies: where it lay, or in a new block.
-/
import Derived.Test.YthhmdmfbaooldaaGreatDoorKit
import Derived.Lib.FrozenHead2
namespace Go.Proofs.YthhmdmfbaooldaaGreatDoor
open Go.RowKit

section
variable {P : Program} {w : World}

theorem append_where (t ty e : TypeId) (i : TypeInfo) (z : Value) (size bytes : Nat) (ht : P.underlying t = some (.slice e)) (hi : P.info? e = some i) (hz : i.zero = some z)
    (hsize : i.size = size) (hby : i.bytes = bytes) (hzs : z.cells.size = size) (hsz : 0 < size)
    (v : Value) (n : Nat) (xs : List Value) (hown : w.ownsRowF 0 e size v n xs)
    (a : Addr) (m c : Nat) (news : List Value) (hl : news.length = m * size) (hnews : ∀ j u, news[j]? = some u → w.cell? (a.add j) = some u) (h1 : ∀ u ∈ news, u.oneCell' = true)
    (h63 : n + m ≤ maxLen) (hbytes : (n + m) * bytes ≤ 140737488355328) :
    ∃ v' w', (Builtin.append_ #[t, t] ty #[v, .slice (some a) m c]).run P w = .ok v' w' ∧ w'.ownsRowF 0 e size v' (n + m) (xs ++ news) ∧ w.grownBy w' v.ownBlock ∧ (∀ k, v'.ownBlock = some k → v.ownBlock = some k ∨ w.heap.size ≤ k) := by
  rcases hown.2 with ⟨rfl, rfl⟩ | ⟨g, cap, cur, fz, rfl, hbg, hg, hfz, hnc, hcm, hcs, htake⟩
  · obtain ⟨v', w', r1, r2, r3, _⟩ := run_append_ownF (P := P) w w.heap.size t ty e i z size bytes ht hi hz hsize hby hzs hsz (.slice none 0 0) 0 xs ⟨hown.1, .inl ⟨rfl, rfl⟩⟩ a m c news hl hnews h1 h63 hbytes (Nat.le_refl _)
    refine ⟨v', w', r1, ⟨r2.1, ?_⟩, r3, fun k hk => .inr (r2.lt k hk).1⟩
    rcases r2.2 with h | ⟨g, cap, cur, fz, h1, _, h2⟩
    · exact .inl h
    · exact .inr ⟨g, cap, cur, fz, h1, Nat.zero_le _, h2⟩
  · obtain ⟨v', w', r1, r2, r3, _⟩ := run_append_ownF (P := P) w 0 t ty e i z size bytes ht hi hz hsize hby hzs hsz _ n xs hown a m c news hl hnews h1 h63 hbytes (Nat.zero_le _)
    refine ⟨v', w', r1, r2, r3, ?_⟩
    subst hsize
    by_cases hroom : n + m ≤ cap
    · have hr := run_append_roomF (P := P) w t ty e i ht hi g n cap cur fz hg hfz a m c news hl hnews h1 hroom (by rw [hl, hcs, ← Nat.add_mul]; exact Nat.mul_le_mul_right _ hroom)
      rw [hr] at r1
      injection r1 with e1 _
      subst e1
      intro k hk
      exact .inl hk
    · have hr := run_append_grow (P := P) w t ty e i z ht hi hz ⟨g, 0, none⟩ n cap xs hown.1 (hown.cells (g := g) rfl) a m c news hl hnews (by omega) (by simp only [maxLen] at h63; omega) (by subst hby; exact growslice_fits (by omega) hbytes)
      rw [hr] at r1
      injection r1 with e1 _
      subst e1
      intro k hk
      simp only [Value.ownBlock, Option.some.injEq] at hk
      right; omega

theorem append_where_string (t u ty e : TypeId) (i : TypeInfo) (ht : P.underlying t = some (.slice e)) (hu : P.underlying u = some .string) (hi : P.info? e = some i) (hz : i.zero = some (.int .u8 0))
    (hsize : i.size = 1) (hby : i.bytes = 1)
    (v : Value) (n : Nat) (xs : List Value) (hown : w.ownsRowF 0 e 1 v n xs) (s : ByteArray)
    (h63 : n + s.size ≤ maxLen) (hbytes : n + s.size ≤ 140737488355328) :
    ∃ v' w', (Builtin.append_ #[t, u] ty #[v, .string s]).run P w = .ok v' w' ∧ w'.ownsRowF 0 e 1 v' (n + s.size) (xs ++ Lib.strCells s) ∧ w.grownBy w' v.ownBlock ∧ (∀ k, v'.ownBlock = some k → v.ownBlock = some k ∨ w.heap.size ≤ k) := by
  rcases hown.2 with ⟨rfl, rfl⟩ | ⟨g, cap, cur, fz, rfl, hbg, hg, hfz, hnc, hcm, hcs, htake⟩
  · obtain ⟨v', w', r1, r2, r3, _⟩ := Lib.run_append_own_stringF (P := P) w w.heap.size t u ty e i ht hu hi hz hsize hby (.slice none 0 0) 0 xs ⟨hown.1, .inl ⟨rfl, rfl⟩⟩ s h63 hbytes (Nat.le_refl _)
    refine ⟨v', w', r1, ⟨r2.1, ?_⟩, r3, fun k hk => .inr (r2.lt k hk).1⟩
    rcases r2.2 with h | ⟨g, cap, cur, fz, h1, _, h2⟩
    · exact .inl h
    · exact .inr ⟨g, cap, cur, fz, h1, Nat.zero_le _, h2⟩
  · obtain ⟨v', w', r1, r2, r3, _⟩ := Lib.run_append_own_stringF (P := P) w 0 t u ty e i ht hu hi hz hsize hby _ n xs hown s h63 hbytes (Nat.zero_le _)
    refine ⟨v', w', r1, r2, r3, ?_⟩
    by_cases hroom : n + s.size ≤ cap
    · have hr := Lib.run_append_room_stringF (P := P) w t u ty e i ht hu hi hsize g n cap cur fz hg (by simpa using hfz) s hroom (by omega)
      rw [hr] at r1
      injection r1 with e1 _
      subst e1
      intro k hk
      exact .inl hk
    · have hr := Lib.run_append_grow_string (P := P) w t u ty e i (.int .u8 0) ht hu hi hz ⟨g, 0, none⟩ n cap xs (by rw [hsize]; exact hown.1) (hown.cells (g := g) rfl) s (by omega) (by simp only [maxLen] at h63; omega) (by rw [hby]; exact growslice_fits (by omega) (by omega))
      rw [hr] at r1
      injection r1 with e1 _
      subst e1
      intro k hk
      simp only [Value.ownBlock, Option.some.injEq] at hk
      right; omega

variable {ops : Array Oper} {rest : List Oper} {o : Oper} {act : Act} {Q : Exit → Act → World → Prop}

/-- the operations, for the walk -/
theorem wpList_append_w (hgd : o.guard = none) (s x : Operand) (t e : TypeId) (ho : o.op = .call { callee := .builtin .append, args := #[s, x], argTypes := #[t, t] })
    (i : TypeInfo) (z : Value) (size bytes : Nat) (ht : P.underlying t = some (.slice e)) (hi : P.info? e = some i) (hz : i.zero = some z)
    (hsize : i.size = size) (hby : i.bytes = bytes) (hzs : z.cells.size = size) (hsz : 0 < size)
    (v : Value) (n : Nat) (xs : List Value) (hs : act.eval s = v) (hown : w.ownsRowF 0 e size v n xs)
    (ad : Addr) (m c : Nat) (news : List Value) (hx : act.eval x = .slice (some ad) m c) (hl : news.length = m * size) (hnews : ∀ j u, news[j]? = some u → w.cell? (ad.add j) = some u) (h1 : ∀ u ∈ news, u.oneCell' = true)
    (h63 : n + m ≤ maxLen) (hbytes : (n + m) * bytes ≤ 140737488355328)
    (h : ∀ v' w', w'.ownsRowF 0 e size v' (n + m) (xs ++ news) → w.grownBy w' v.ownBlock → (∀ k, v'.ownBlock = some k → v.ownBlock = some k ∨ w.heap.size ≤ k) → wpList P ops Q rest (act.put o.dst v') w') : wpList P ops Q (o :: rest) act w := by
  refine wpList_plain hgd fun K hK => ?_
  obtain ⟨v', w', hr, h2, h3, h4⟩ := append_where (P := P) (w := w) t o.type e i z size bytes ht hi hz hsize hby hzs hsz v n xs hown ad m c news hl hnews h1 h63 hbytes
  unfold Oper.wp execOp
  simp only [ho, resolve, invoke, builtin, Sem.run_bind, Sem.run_pure, Result.andThen_ok, List.map_toArray, List.map_cons, List.map_nil, hs, hx, hr]
  exact hK _ _ (h v' w' h2 h3 h4)

theorem wpList_append_w_string (hgd : o.guard = none) (sl x : Operand) (t u e : TypeId) (ho : o.op = .call { callee := .builtin .append, args := #[sl, x], argTypes := #[t, u] })
    (i : TypeInfo) (ht : P.underlying t = some (.slice e)) (hu : P.underlying u = some .string) (hi : P.info? e = some i) (hz : i.zero = some (.int .u8 0)) (hsize : i.size = 1) (hby : i.bytes = 1)
    (v : Value) (n : Nat) (xs : List Value) (hs : act.eval sl = v) (hown : w.ownsRowF 0 e 1 v n xs) (s : ByteArray) (hx : act.eval x = .string s)
    (h63 : n + s.size ≤ maxLen) (hbytes : n + s.size ≤ 140737488355328)
    (h : ∀ v' w', w'.ownsRowF 0 e 1 v' (n + s.size) (xs ++ Lib.strCells s) → w.grownBy w' v.ownBlock → (∀ k, v'.ownBlock = some k → v.ownBlock = some k ∨ w.heap.size ≤ k) → wpList P ops Q rest (act.put o.dst v') w') : wpList P ops Q (o :: rest) act w := by
  refine wpList_plain hgd fun K hK => ?_
  obtain ⟨v', w', hr, h2, h3, h4⟩ := append_where_string (P := P) (w := w) t u o.type e i ht hu hi hz hsize hby v n xs hown s h63 hbytes
  unfold Oper.wp execOp
  simp only [ho, resolve, invoke, builtin, Sem.run_bind, Sem.run_pure, Result.andThen_ok, List.map_toArray, List.map_cons, List.map_nil, hs, hx, hr]
  exact hK _ _ (h v' w' h2 h3 h4)
/-- 'make([]T, 0, n)' -/
theorem wpList_make_0 (hg : o.guard = none) (l c : Operand) (t : TypeId) (hop : o.op = Op.makeSlice t l c)
    (e : TypeId) (i : TypeInfo) (z : Value) (size bytes : Nat) (h1 : P.underlying t = some (.slice e)) (h2 : P.info? e = some i) (h3 : i.zero = some z) (h4 : i.size = size) (h5 : i.bytes = bytes) (hzs : z.cells.size = size) (hpos : 0 < size)
    (kl kc : IntKind) (C : Int) (n : Nat) (hl : act.eval l = .int kl 0) (hc : act.eval c = .int kc C) (hC : C = (n : Int)) (b2 : (bytes : Int) * (n : Int) ≤ 281474976710656) (b3 : n ≤ maxLen)
    (hK : ∀ v w', w'.ownsRowF 0 e size v 0 [] → Below w.heap.size w w' → (∀ k, v.ownBlock = some k → w.heap.size ≤ k) → wpList P ops Q rest (act.put o.dst v) w') :
    wpList P ops Q (o :: rest) act w := by
  refine wpList_plain hg fun K hK' => ?_
  subst h4 h5 hC
  have hr := run_make (P := P) w t e i z h1 h2 h3 kl kc 0 n (by omega) (by omega) b2 (by simp only [maxLen] at b3; omega)
  simp only [Int.toNat_natCast, Int.toNat_zero] at hr
  unfold Oper.wp
  simp only [execOp, hop, hl, hc, Sem.run_bind, hr, Result.andThen, Sem.run_pure]
  refine hK' _ _ (hK _ _ ⟨by simp, .inr ⟨w.heap.size, n, _, (0, 0), rfl, Nat.zero_le _, heap_alloc_new w _, Nat.zero_le _, Nat.zero_le _, b3, ?_, by simp⟩⟩ (below_alloc _ _) (by simp [Value.ownBlock]))
  simp [madeCells]

theorem grownBy_below {w0 w1 w2 : World} {v : Value} (h : Below w0.heap.size w0 w1) (hg : w1.grownBy w2 v.ownBlock) (hv : ∀ k, v.ownBlock = some k → w0.heap.size ≤ k) : Below w0.heap.size w0 w2 :=
  ⟨hg.os.trans h.os, hg.tape.trans h.tape, hg.output.trans h.output, Nat.le_trans h.size hg.size, fun k hk => (hg.block k (Nat.lt_of_lt_of_le hk h.size) (fun e => by have := hv k e.symm; omega)).trans (h.block k hk)⟩

theorem ownsRowF_below {e : TypeId} {size n : Nat} {v : Value} {xs : List Value} {w w' : World} (h : w.ownsRowF 0 e size v n xs) (hb : Below w.heap.size w w') : w'.ownsRowF 0 e size v n xs := by
  refine ⟨h.1, ?_⟩
  rcases h.2 with hn | ⟨g, cap, cur, fz, hv, h0, hg, r⟩
  · exact .inl hn
  · exact .inr ⟨g, cap, cur, fz, hv, h0, by rw [hb.block g (Array.getElem?_eq_some_iff.1 hg).1]; exact hg, r⟩

theorem ownsRowF_row {e : TypeId} {size n : Nat} {v : Value} {xs : List Value} (h : w.ownsRowF 0 e size v n xs) : ∃ A cap, v = .slice A n cap ∧ Row w A xs := by
  rcases h.2 with ⟨rfl, rfl⟩ | ⟨g, cap, cur, fz, rfl, _, hg, _, hn, _, hc, ht⟩
  · refine ⟨none, 0, rfl, .inl ?_⟩
    have := h.1
    simpa using this
  · refine ⟨_, cap, rfl, .inr ⟨g, 0, rfl, (Array.getElem?_eq_some_iff.1 hg).1, fun i u hu => ?_⟩⟩
    rw [Nat.zero_add, cell_of_row w g i _ _ _ hg, ← Array.getElem?_toList]
    rw [← ht] at hu
    rw [List.getElem?_take] at hu
    split at hu
    · exact hu
    · cases hu
theorem grownBy_blk {w1 w2 : World} {o : Option Nat} {g : Nat} {e : TypeId} {vs : List Value} (h : Blk w1 g e vs) (hg : w1.grownBy w2 o) (hne : o ≠ some g) : Blk w2 g e vs := by
  have hl := h.lt
  obtain ⟨fr, h, hf⟩ := h
  exact ⟨fr, by rw [hg.block g hl (fun e => hne e.symm)]; exact h, hf⟩
theorem add_at (g j : Nat) : Addr.add ⟨g, 0, none⟩ j = ⟨g, j, none⟩ := by unfold Addr.add; split <;> simp_all
end
end Go.Proofs.YthhmdmfbaooldaaGreatDoor
