/-
  Small laws of no program, more of them: a byte string copied into a block, an element appended.
-/
import Derived.Test.YthhmdmfbaooldaaGreatDoorAppend
import Derived.Laws.IdiomCopy
import Derived.Lib.LazyBuf
import Derived.StillTailTactics
namespace Go.Proofs.YthhmdmfbaooldaaGreatDoor
open Go.RowKit

/-- bytes laid over others -/
def over (l : List UInt8) (o : Nat) (m : List UInt8) : List UInt8 := l.take o ++ m ++ l.drop (o + m.length)
theorem over_length (l : List UInt8) (o : Nat) (m : List UInt8) (h : o + m.length ≤ l.length) : (over l o m).length = l.length := by
  simp only [over, List.length_append, List.length_take, List.length_drop]; omega

theorem Blk.setCells {e : TypeId} {g : Nat} : ∀ (us : List Value) (o : Nat) (w : World) (vs : List Value), Blk w g e vs → o + us.length ≤ vs.length → Blk (w.setCells g o us) g e (vs.take o ++ us ++ vs.drop (o + us.length))
  | [], o, w, vs, h, _ => by simpa [World.setCells] using h
  | u :: us, o, w, vs, h, hl => by
    have hl' : o + us.length + 1 ≤ vs.length := by simp only [List.length_cons] at hl; omega
    have h1 := Blk.setCells us (o + 1) (w.setCell ⟨g, o, none⟩ u) (vs.set o u) (h.set o u) (by rw [List.length_set]; omega)
    have e1 := list_seg_step vs o u us (by omega)
    rw [World.setCells]
    simp only [List.length_cons]
    rw [← e1]
    exact h1
theorem keeps_setCells {g : Nat} : ∀ (us : List Value) (o : Nat) (w : World), Keeps [g] w (w.setCells g o us)
  | [], _, w => Keeps.refl _ w
  | u :: us, o, w => ((Keeps.refl [g] w).setCell (p := ⟨g, o, none⟩) (by simp) u).trans (keeps_setCells us (o + 1) _)
theorem u8s_over (vs : List UInt8) (o : Nat) (m : List UInt8) : (u8s vs).take o ++ u8s m ++ (u8s vs).drop (o + (u8s m).length) = u8s (over vs o m) := by
  simp [u8s, over, List.map_take, List.map_drop]

section
variable {P : Program} {ops : Array Oper} {rest : List Oper} {o : Oper} {a : Act} {w : World} {Q : Exit → Act → World → Prop}

theorem size1 {elem : TypeId} (hs : (P.info? elem).map (·.size) = some 1) (w : World) : (Go.sizeOf elem).run P w = .ok 1 w := by
  cases hq : P.info? elem with
  | none => simp [hq] at hs
  | some i => simp [hq] at hs; simp [sizeOf, typeInfo, hq, hs]

/-- 'copy(dst, s)' of a string that fits -/
theorem wpList_copy_str (hgd : o.guard = none) (d s : Operand) (dT sT : TypeId)
    (ho : o.op = .call { callee := .builtin .copy, args := #[d, s], argTypes := #[dT, sT] }) (e : TypeId) (hu : P.underlying dT = some (.slice e)) (hsz : (P.info? e).map (·.size) = some 1)
    (g off dLen dCap : Nat) (hd : a.eval d = .slice (some ⟨g, off, none⟩) dLen dCap) (t : ByteArray) (hs : a.eval s = .string t) (hle : t.size ≤ dLen)
    (T : TypeId) (vs : List UInt8) (hB : Blk w g T (u8s vs)) (hfit : off + t.size ≤ vs.length)
    (h : ∀ w', Blk w' g T (u8s (over vs off t.data.toList)) → Keeps [g] w w' → wpList P ops Q rest (a.put o.dst (goInt t.size)) w') : wpList P ops Q (o :: rest) a w := by
  refine wpList_plain hgd fun K hK => ?_
  have hl : (u8s vs).length = vs.length := by simp [u8s]
  have hrun := run_copy_string (P := P) w dT sT o.type e g off dLen dCap t hu (size1 hsz) hle
    (fun j hj => by rw [hB.cell, List.getElem?_eq_getElem (by omega)]; rfl) (fun j hj => hB.free (by omega))
  unfold Oper.wp
  simp only [execOp, ho, resolve, invoke, builtin, Sem.run_bind, Sem.run_pure, Result.andThen_ok, List.map_toArray, List.map_cons, List.map_nil, hd, hs, hrun]
  refine hK _ _ (h _ ?_ (keeps_setCells _ _ _))
  have h1 := Blk.setCells (u8s t.data.toList) off w _ hB (by simp only [u8s, List.length_map]; have : t.data.toList.length = t.size := by simp
                                                             omega)
  rw [u8s_over] at h1
  exact h1

/-- a string that may be longer: its beginning goes over -/
theorem wpList_copy_str_part (hgd : o.guard = none) (d s : Operand) (dT sT : TypeId)
    (ho : o.op = .call { callee := .builtin .copy, args := #[d, s], argTypes := #[dT, sT] }) (e : TypeId) (hu : P.underlying dT = some (.slice e)) (hsz : (P.info? e).map (·.size) = some 1)
    (g off dLen dCap : Nat) (hd : a.eval d = .slice (some ⟨g, off, none⟩) dLen dCap) (t : ByteArray) (hs : a.eval s = .string t) (hle : dLen ≤ t.size)
    (T : TypeId) (vs : List UInt8) (hB : Blk w g T (u8s vs)) (hfit : off + dLen ≤ vs.length)
    (h : ∀ w', Blk w' g T (u8s (over vs off (t.data.toList.take dLen))) → Keeps [g] w w' → wpList P ops Q rest (a.put o.dst (goInt dLen)) w') : wpList P ops Q (o :: rest) a w := by
  refine wpList_plain hgd fun K hK => ?_
  have hl : (u8s vs).length = vs.length := by simp [u8s]
  have htl : t.data.toList.length = t.size := by simp
  have hml : (u8s (t.data.toList.take dLen)).length = dLen := by simp only [u8s, List.length_map, List.length_take]; omega
  have hrun : (Builtin.copy_ #[dT, sT] o.type #[.slice (some ⟨g, off, none⟩) dLen dCap, .string t]).run P w = .ok (goInt dLen) (w.setCells g off (u8s (t.data.toList.take dLen))) := by
    have hst := run_storeCells_cells (P := P) g off (u8s (t.data.toList.take dLen)) 0 w
      (by rw [hml]; intro j hj; rw [Nat.add_zero, hB.cell, List.getElem?_eq_getElem (by omega)]; rfl)
      (by rw [hml]; intro j hj; rw [Nat.add_zero]; exact hB.free (by omega))
      (by intro v hv
          obtain ⟨x, _, rfl⟩ := List.mem_map.1 hv
          rfl)
    have hmin : Nat.min t.size dLen = dLen := Nat.min_eq_right hle
    have hz : ∀ w, (Go.sizeOf e).run P w = .ok 1 w := size1 hsz
    simp [Builtin.copy_, run_underlying hu, Builtin.lenOf, Builtin.firstCells, hz, hmin]
    have e1 : (u8s (t.data.toList.take dLen)) = List.take dLen (List.map (fun b => Value.int IntKind.u8 ↑b.toNat) t.data.toList) := by unfold u8s; rw [List.map_take]
    rw [e1] at hst
    rw [hst]
    simp [Result.andThen, u8s]
  unfold Oper.wp
  simp only [execOp, ho, resolve, invoke, builtin, Sem.run_bind, Sem.run_pure, Result.andThen_ok, List.map_toArray, List.map_cons, List.map_nil, hd, hs, hrun]
  refine hK _ _ (h _ ?_ (keeps_setCells _ _ _))
  have h1 := Blk.setCells (u8s (t.data.toList.take dLen)) off w _ hB (by omega)
  rw [u8s_over] at h1
  exact h1

theorem keeps_grown {w1 w2 : World} {v : Option Nat} (hg : w1.grownBy w2 v) : Keeps v.toList w1 w2 :=
  ⟨hg.os, hg.tape, hg.output, hg.size, fun k hk hf => hg.block k hk (fun e => hf (by rw [← e]; simp))⟩

/-- one element more, that stands in the call itself -/
theorem wpList_append_one (hgd : o.guard = none) (s x : Operand) (t e : TypeId) (ho : o.op = .call { callee := .builtin .append, args := #[s, x], argTypes := #[t, t] })
    (i : TypeInfo) (z : Value) (size bytes : Nat) (ht : P.underlying t = some (.slice e)) (hi : P.info? e = some i) (hz : i.zero = some z)
    (hsize : i.size = size) (hby : i.bytes = bytes) (hzs : z.cells.size = size) (hsz : 0 < size)
    (v : Value) (n : Nat) (xs : List Value) (hs : a.eval s = v) (w1 : World) (cs : Array Value) (hw : w = w1.alloc (.cells cs e)) (hown : w1.ownsRowF 0 e size v n xs)
    (g : Nat) (hg : w1.heap.size = g) (c : Nat) (hx : a.eval x = .slice (some ⟨g, 0, none⟩) 1 c) (hl : cs.size = size) (h1 : cs.all (·.oneCell') = true)
    (h63 : n + 1 ≤ maxLen) (hbytes : (n + 1) * bytes ≤ 140737488355328)
    (h : ∀ v' w', w'.ownsRowF 0 e size v' (n + 1) (xs ++ cs.toList) → Keeps v.ownBlock.toList w1 w' → (∀ k, v'.ownBlock = some k → v.ownBlock = some k ∨ w1.heap.size ≤ k) → wpList P ops Q rest (a.put o.dst v') w') : wpList P ops Q (o :: rest) a w := by
  subst hw
  subst hg
  have hA := below_alloc w1 (.cells cs e)
  have hN := Blk.new w1 cs e
  refine wpList_append_w hgd s x t e ho i z size bytes ht hi hz hsize hby hzs hsz v n xs hs (ownsRowF_below hown hA) ⟨w1.heap.size, 0, none⟩ 1 c cs.toList hx (by rw [Array.length_toList, hl, Nat.one_mul]) ?_ ?_ h63 hbytes ?_
  · intro j u hj
    rw [add_at]
    exact hN.at hj
  · intro u hu
    rw [Array.all_eq_true_iff_forall_mem] at h1
    exact h1 u (Array.mem_toList_iff.1 hu)
  · intro v' w' g1 g2 g3
    refine h v' w' g1 ((Keeps.of hA).trans (keeps_grown g2)) (fun k hk => ?_)
    rcases g3 k hk with h | h
    · exact .inl h
    · exact .inr (Nat.le_trans hA.size h)

/-- a row appended that may be nil -/
theorem wpList_append_row (hgd : o.guard = none) (s x : Operand) (t e : TypeId) (ho : o.op = .call { callee := .builtin .append, args := #[s, x], argTypes := #[t, t] })
    (i : TypeInfo) (z : Value) (size bytes : Nat) (ht : P.underlying t = some (.slice e)) (hi : P.info? e = some i) (hz : i.zero = some z)
    (hsize : i.size = size) (hby : i.bytes = bytes) (hzs : z.cells.size = size) (hsz : 0 < size)
    (v : Value) (n : Nat) (xs : List Value) (hs : a.eval s = v) (hown : w.ownsRowF 0 e size v n xs)
    (A : Option Addr) (m c : Nat) (news : List Value) (hx : a.eval x = .slice A m c) (hl : news.length = m * size) (hr : Row w A news) (h1 : ∀ u ∈ news, u.oneCell' = true)
    (h63 : n + m ≤ maxLen) (hbytes : (n + m) * bytes ≤ 140737488355328)
    (h : ∀ v' w', w'.ownsRowF 0 e size v' (n + m) (xs ++ news) → Keeps v.ownBlock.toList w w' → (∀ k, v'.ownBlock = some k → v.ownBlock = some k ∨ w.heap.size ≤ k) → wpList P ops Q rest (a.put o.dst v') w') : wpList P ops Q (o :: rest) a w := by
  cases A with
  | none =>
    have hn : news = [] := by
      rcases hr with h | ⟨_, _, h, _⟩
      · exact h
      · cases h
    subst hn
    have hm : m = 0 := by
      rcases Nat.mul_eq_zero.1 hl.symm with h | h
      · exact h
      · omega
    subst hm
    refine wpList_plain hgd fun K hK => ?_
    have h0 : (Builtin.append_ #[t, t] o.type #[v, .slice none 0 c]).run P w = .ok v w := by
      rcases hown.2 with ⟨rfl, rfl⟩ | ⟨g, cap, cur, fz, rfl, _, _, _, hnc, _, _, _⟩
      · simp [Builtin.append_, run_underlying ht, sizeOf, typeInfo, hi, Builtin.lenOf, Builtin.firstCells]
      · simp [Builtin.append_, run_underlying ht, sizeOf, typeInfo, hi, Builtin.lenOf, Builtin.firstCells, hnc, storeCells]
    unfold Oper.wp execOp
    simp only [ho, resolve, invoke, builtin, Sem.run_bind, Sem.run_pure, Result.andThen_ok, List.map_toArray, List.map_cons, List.map_nil, hs, hx, h0]
    exact hK _ _ (h v w (by rw [List.append_nil]; exact hown) (Keeps.refl _ _) (fun k hk => .inl hk))
  | some ad =>
    refine wpList_append_w hgd s x t e ho i z size bytes ht hi hz hsize hby hzs hsz v n xs hs hown ad m c news hx hl ?_ h1 h63 hbytes ?_
    · intro j u hj
      rcases hr with h | ⟨b, off, h, _, hc⟩
      · subst h; cases hj
      · injection h with h
        subst h
        have : (⟨b, off, none⟩ : Addr).add j = ⟨b, off + j, none⟩ := by unfold Addr.add; split <;> simp_all
        rw [this]
        exact hc j u hj
    · intro v' w' g1 g2 g3
      exact h v' w' g1 (keeps_grown g2) g3
end
end Go.Proofs.YthhmdmfbaooldaaGreatDoor
