/-
  Small laws of no program, more of them: a byte string copied into a block, an element appended.
  Messages (layer 8), walked; rows of them; messages written.
-/
import Derived.Test.YtcklgaenedlbiaaGreatGWalExact02
import Derived.Laws.IdiomCopy
import Derived.Lib.LazyBuf
import Derived.StillTailTactics
import Derived.Test.YtcklgaenedlbiaaGreatGWalExact01
import Derived.Test.YtcklgaenedlbiaaGreatGWalExact04
import Derived.Shelf.Abstract

namespace Go.Proofs.YtcklgaenedlbiaaGreat
open Go.RowKit

/-- bytes laid over others -/
def over (l : List UInt8) (o : Nat) (m : List UInt8) : List UInt8 := l.take o ++ m ++ l.drop (o + m.length)
theorem over_length (l : List UInt8) (o : Nat) (m : List UInt8) (h : o + m.length ≤ l.length) : (over l o m).length = l.length := by
  simp only [over, List.length_append, List.length_take, List.length_drop]; omega

theorem Blk.setCells {e : TypeId} {g : Nat} : ∀ (us : List Value) (o : Nat) (w : World) (vs : List Value), Blk w g e vs → o + us.length ≤ vs.length → Blk (w.setCells g o us) g e (vs.take o ++ us ++ vs.drop (o + us.length))
  | [], o, w, vs, h, _ => by simpa [World.setCells] using h
  | u :: us, o, w, vs, h, hl => by
    have hl' : o + us.length + 1 ≤ vs.length := by simp only [List.length_cons] at hl; omega
    have h1 := Blk.setCells us (o + 1) (w.setCell ⟨g, o, none⟩ u) (vs.set o u) (h.set o u) (by rw [List.length_set]; omega)
    have e1 := list_seg_step vs o u us (by omega)
    rw [World.setCells]
    simp only [List.length_cons]
    rw [← e1]
    exact h1
theorem keeps_setCells {g : Nat} : ∀ (us : List Value) (o : Nat) (w : World), Keeps [g] w (w.setCells g o us)
  | [], _, w => Keeps.refl _ w
  | u :: us, o, w => ((Keeps.refl [g] w).setCell (p := ⟨g, o, none⟩) (by simp) u).trans (keeps_setCells us (o + 1) _)
theorem u8s_over (vs : List UInt8) (o : Nat) (m : List UInt8) : (u8s vs).take o ++ u8s m ++ (u8s vs).drop (o + (u8s m).length) = u8s (over vs o m) := by
  simp [u8s, over, List.map_take, List.map_drop]

section
variable {P : Program} {ops : Array Oper} {rest : List Oper} {o : Oper} {a : Act} {w : World} {Q : Exit → Act → World → Prop}

theorem size1 {elem : TypeId} (hs : (P.info? elem).map (·.size) = some 1) (w : World) : (Go.sizeOf elem).run P w = .ok 1 w := by
  cases hq : P.info? elem with
  | none => simp [hq] at hs
  | some i => simp [hq] at hs; simp [sizeOf, typeInfo, hq, hs]

/-- 'copy(dst, s)' of a string that fits -/
theorem wpList_copy_str (hgd : o.guard = none) (d s : Operand) (dT sT : TypeId)
    (ho : o.op = .call { callee := .builtin .copy, args := #[d, s], argTypes := #[dT, sT] }) (e : TypeId) (hu : P.underlying dT = some (.slice e)) (hsz : (P.info? e).map (·.size) = some 1)
    (g off dLen dCap : Nat) (hd : a.eval d = .slice (some ⟨g, off, none⟩) dLen dCap) (t : ByteArray) (hs : a.eval s = .string t) (hle : t.size ≤ dLen)
    (T : TypeId) (vs : List UInt8) (hB : Blk w g T (u8s vs)) (hfit : off + t.size ≤ vs.length)
    (h : ∀ w', Blk w' g T (u8s (over vs off t.data.toList)) → Keeps [g] w w' → wpList P ops Q rest (a.put o.dst (goInt t.size)) w') : wpList P ops Q (o :: rest) a w := by
  refine wpList_plain hgd fun K hK => ?_
  have hl : (u8s vs).length = vs.length := by simp [u8s]
  have hrun := run_copy_string (P := P) w dT sT o.type e g off dLen dCap t hu (size1 hsz) hle
    (fun j hj => by rw [hB.cell, List.getElem?_eq_getElem (by omega)]; rfl) (fun j hj => hB.free (by omega))
  unfold Oper.wp
  simp only [execOp, ho, resolve, invoke, builtin, Sem.run_bind, Sem.run_pure, Result.andThen_ok, List.map_toArray, List.map_cons, List.map_nil, hd, hs, hrun]
  refine hK _ _ (h _ ?_ (keeps_setCells _ _ _))
  have h1 := Blk.setCells (u8s t.data.toList) off w _ hB (by simp only [u8s, List.length_map]; have : t.data.toList.length = t.size := by simp
                                                             omega)
  rw [u8s_over] at h1
  exact h1

/-- a string that may be longer: its beginning goes over -/
theorem wpList_copy_str_part (hgd : o.guard = none) (d s : Operand) (dT sT : TypeId)
    (ho : o.op = .call { callee := .builtin .copy, args := #[d, s], argTypes := #[dT, sT] }) (e : TypeId) (hu : P.underlying dT = some (.slice e)) (hsz : (P.info? e).map (·.size) = some 1)
    (g off dLen dCap : Nat) (hd : a.eval d = .slice (some ⟨g, off, none⟩) dLen dCap) (t : ByteArray) (hs : a.eval s = .string t) (hle : dLen ≤ t.size)
    (T : TypeId) (vs : List UInt8) (hB : Blk w g T (u8s vs)) (hfit : off + dLen ≤ vs.length)
    (h : ∀ w', Blk w' g T (u8s (over vs off (t.data.toList.take dLen))) → Keeps [g] w w' → wpList P ops Q rest (a.put o.dst (goInt dLen)) w') : wpList P ops Q (o :: rest) a w := by
  refine wpList_plain hgd fun K hK => ?_
  have hl : (u8s vs).length = vs.length := by simp [u8s]
  have htl : t.data.toList.length = t.size := by simp
  have hml : (u8s (t.data.toList.take dLen)).length = dLen := by simp only [u8s, List.length_map, List.length_take]; omega
  have hrun : (Builtin.copy_ #[dT, sT] o.type #[.slice (some ⟨g, off, none⟩) dLen dCap, .string t]).run P w = .ok (goInt dLen) (w.setCells g off (u8s (t.data.toList.take dLen))) := by
    have hst := run_storeCells_cells (P := P) g off (u8s (t.data.toList.take dLen)) 0 w
      (by rw [hml]; intro j hj; rw [Nat.add_zero, hB.cell, List.getElem?_eq_getElem (by omega)]; rfl)
      (by rw [hml]; intro j hj; rw [Nat.add_zero]; exact hB.free (by omega))
      (by intro v hv
          obtain ⟨x, _, rfl⟩ := List.mem_map.1 hv
          rfl)
    have hmin : Nat.min t.size dLen = dLen := Nat.min_eq_right hle
    have hz : ∀ w, (Go.sizeOf e).run P w = .ok 1 w := size1 hsz
    simp [Builtin.copy_, run_underlying hu, Builtin.lenOf, Builtin.firstCells, hz, hmin]
    have e1 : (u8s (t.data.toList.take dLen)) = List.take dLen (List.map (fun b => Value.int IntKind.u8 ↑b.toNat) t.data.toList) := by unfold u8s; rw [List.map_take]
    rw [e1] at hst
    rw [hst]
    simp [Result.andThen, u8s]
  unfold Oper.wp
  simp only [execOp, ho, resolve, invoke, builtin, Sem.run_bind, Sem.run_pure, Result.andThen_ok, List.map_toArray, List.map_cons, List.map_nil, hd, hs, hrun]
  refine hK _ _ (h _ ?_ (keeps_setCells _ _ _))
  have h1 := Blk.setCells (u8s (t.data.toList.take dLen)) off w _ hB (by omega)
  rw [u8s_over] at h1
  exact h1

theorem keeps_grown {w1 w2 : World} {v : Option Nat} (hg : w1.grownBy w2 v) : Keeps v.toList w1 w2 :=
  ⟨hg.os, hg.tape, hg.output, hg.size, fun k hk hf => hg.block k hk (fun e => hf (by rw [← e]; simp))⟩

/-- one element more, that stands in the call itself -/
theorem wpList_append_one (hgd : o.guard = none) (s x : Operand) (t e : TypeId) (ho : o.op = .call { callee := .builtin .append, args := #[s, x], argTypes := #[t, t] })
    (i : TypeInfo) (z : Value) (size bytes : Nat) (ht : P.underlying t = some (.slice e)) (hi : P.info? e = some i) (hz : i.zero = some z)
    (hsize : i.size = size) (hby : i.bytes = bytes) (hzs : z.cells.size = size) (hsz : 0 < size)
    (v : Value) (n : Nat) (xs : List Value) (hs : a.eval s = v) (w1 : World) (cs : Array Value) (hw : w = w1.alloc (.cells cs e)) (hown : w1.ownsRowF 0 e size v n xs)
    (g : Nat) (hg : w1.heap.size = g) (c : Nat) (hx : a.eval x = .slice (some ⟨g, 0, none⟩) 1 c) (hl : cs.size = size) (h1 : cs.all (·.oneCell') = true)
    (h63 : n + 1 ≤ maxLen) (hbytes : (n + 1) * bytes ≤ 140737488355328)
    (h : ∀ v' w', w'.ownsRowF 0 e size v' (n + 1) (xs ++ cs.toList) → Keeps v.ownBlock.toList w1 w' → (∀ k, v'.ownBlock = some k → v.ownBlock = some k ∨ w1.heap.size ≤ k) → wpList P ops Q rest (a.put o.dst v') w') : wpList P ops Q (o :: rest) a w := by
  subst hw
  subst hg
  have hA := below_alloc w1 (.cells cs e)
  have hN := Blk.new w1 cs e
  refine wpList_append_w hgd s x t e ho i z size bytes ht hi hz hsize hby hzs hsz v n xs hs (ownsRowF_below hown hA) ⟨w1.heap.size, 0, none⟩ 1 c cs.toList hx (by rw [Array.length_toList, hl, Nat.one_mul]) ?_ ?_ h63 hbytes ?_
  · intro j u hj
    rw [add_at]
    exact hN.at hj
  · intro u hu
    rw [Array.all_eq_true_iff_forall_mem] at h1
    exact h1 u (Array.mem_toList_iff.1 hu)
  · intro v' w' g1 g2 g3
    refine h v' w' g1 ((Keeps.of hA).trans (keeps_grown g2)) (fun k hk => ?_)
    rcases g3 k hk with h | h
    · exact .inl h
    · exact .inr (Nat.le_trans hA.size h)

/-- a row appended that may be nil -/
theorem wpList_append_row (hgd : o.guard = none) (s x : Operand) (t e : TypeId) (ho : o.op = .call { callee := .builtin .append, args := #[s, x], argTypes := #[t, t] })
    (i : TypeInfo) (z : Value) (size bytes : Nat) (ht : P.underlying t = some (.slice e)) (hi : P.info? e = some i) (hz : i.zero = some z)
    (hsize : i.size = size) (hby : i.bytes = bytes) (hzs : z.cells.size = size) (hsz : 0 < size)
    (v : Value) (n : Nat) (xs : List Value) (hs : a.eval s = v) (hown : w.ownsRowF 0 e size v n xs)
    (A : Option Addr) (m c : Nat) (news : List Value) (hx : a.eval x = .slice A m c) (hl : news.length = m * size) (hr : Row w A news) (h1 : ∀ u ∈ news, u.oneCell' = true)
    (h63 : n + m ≤ maxLen) (hbytes : (n + m) * bytes ≤ 140737488355328)
    (h : ∀ v' w', w'.ownsRowF 0 e size v' (n + m) (xs ++ news) → Keeps v.ownBlock.toList w w' → (∀ k, v'.ownBlock = some k → v.ownBlock = some k ∨ w.heap.size ≤ k) → wpList P ops Q rest (a.put o.dst v') w') : wpList P ops Q (o :: rest) a w := by
  cases A with
  | none =>
    have hn : news = [] := by
      rcases hr with h | ⟨_, _, h, _⟩
      · exact h
      · cases h
    subst hn
    have hm : m = 0 := by
      rcases Nat.mul_eq_zero.1 hl.symm with h | h
      · exact h
      · omega
    subst hm
    refine wpList_plain hgd fun K hK => ?_
    have h0 : (Builtin.append_ #[t, t] o.type #[v, .slice none 0 c]).run P w = .ok v w := by
      rcases hown.2 with ⟨rfl, rfl⟩ | ⟨g, cap, cur, fz, rfl, _, _, _, hnc, _, _, _⟩
      · simp [Builtin.append_, run_underlying ht, sizeOf, typeInfo, hi, Builtin.lenOf, Builtin.firstCells]
      · simp [Builtin.append_, run_underlying ht, sizeOf, typeInfo, hi, Builtin.lenOf, Builtin.firstCells, hnc, storeCells]
    unfold Oper.wp execOp
    simp only [ho, resolve, invoke, builtin, Sem.run_bind, Sem.run_pure, Result.andThen_ok, List.map_toArray, List.map_cons, List.map_nil, hs, hx, h0]
    exact hK _ _ (h v w (by rw [List.append_nil]; exact hown) (Keeps.refl _ _) (fun k hk => .inl hk))
  | some ad =>
    refine wpList_append_w hgd s x t e ho i z size bytes ht hi hz hsize hby hzs hsz v n xs hs hown ad m c news hx hl ?_ h1 h63 hbytes ?_
    · intro j u hj
      rcases hr with h | ⟨b, off, h, _, hc⟩
      · subst h; cases hj
      · injection h with h
        subst h
        have : (⟨b, off, none⟩ : Addr).add j = ⟨b, off + j, none⟩ := by unfold Addr.add; split <;> simp_all
        rw [this]
        exact hc j u hj
    · intro v' w' g1 g2 g3
      exact h v' w' g1 (keeps_grown g2) g3
end
end Go.Proofs.YtcklgaenedlbiaaGreat

namespace Go.Proofs.YtcklgaenedlbiaaGreat
open Go.RowKit


def msgIs (K : Int) (k v : ByteArray) : Bool := keyIs k && (if K = 1 then decide ((v.size : Int) ≤ 16) else if K = 2 then v.toList == [] else if K = 3 then ((v.size : Int) == 8) else false)

set_option maxHeartbeats 4000000 in
set_option maxRecDepth 100000 in
theorem msg_Is_any (K : Int) (k v : ByteArray) (w : World) :
    Calls Tryz.prog 32 #[.agg #[.int .i64 K, .string k, .string v]] w fun e w' => e = .returned (.bool (msgIs K k v)) ∧ Below w.heap.size w w' := by
  obtain ⟨f, hf⟩ : ∃ f, f = keyIs k := ⟨_, rfl⟩
  obtain ⟨r, hr⟩ : ∃ r, r = msgIs K k v := ⟨_, rfl⟩
  rw [← hr]
  unfold msgIs at hr
  rw [← hf] at hr
  have HF := hid hf; clear hf
  cases f with
  | false =>
    rw [Bool.false_and] at hr
    subst hr
    go_enter Tryz.func32, Tryz.ntmps32
    go_wp2_with (with_reducible refine at_op (.box 39 (.tmp 0)) rfl ?_; refine Stopped.go ?_)
    refine Stopped.mk (wpList_box rfl #[.int .i64 K, .string k, .string v] 39 (by go_simp) ?_)
    intro g w1 hg_ Bg hb_ hz_
    have hb := hb_
    clear hg_ hz_ hb_
    have cg_0 : w1.cell? ⟨g, 0, none⟩ = some (.int .i64 K) := Bg.at rfl
    have cg_1 : w1.cell? ⟨g, 1, none⟩ = some (.string k) := Bg.at rfl
    have cg_2 : w1.cell? ⟨g, 2, none⟩ = some (.string v) := Bg.at rfl
    clear Bg
    go_wp2_with fail
    refine (key_Is_any _ _).mono ?_; rintro e w2 ⟨rfl, rfl⟩; rw [← HF.out]
    go_wp2_with fail
    go_ret
    exact ⟨rfl, hb⟩
  | true =>
    rw [Bool.true_and] at hr
    by_cases h1 : K = 1
    · subst h1
      rw [if_pos rfl] at hr
      have HR := hid hr; clear hr
      go_enter Tryz.func32, Tryz.ntmps32
      go_wp2_with (with_reducible refine at_op (.box 39 (.tmp 0)) rfl ?_; refine Stopped.go ?_)
      refine Stopped.mk (wpList_box rfl #[.int .i64 1, .string k, .string v] 39 (by go_simp) ?_)
      intro g w1 hg_ Bg hb_ hz_
      have hb := hb_
      clear hg_ hz_ hb_
      have cg_0 : w1.cell? ⟨g, 0, none⟩ = some (.int .i64 1) := Bg.at rfl
      have cg_1 : w1.cell? ⟨g, 1, none⟩ = some (.string k) := Bg.at rfl
      have cg_2 : w1.cell? ⟨g, 2, none⟩ = some (.string v) := Bg.at rfl
      clear Bg
      go_wp2_with fail
      refine (key_Is_any _ _).mono ?_; rintro e w2 ⟨rfl, rfl⟩; rw [← HF.out]
      go_wp2_with fail
      refine (key_IsVal_any _ _).mono ?_; rintro e w3 ⟨rfl, rfl⟩; rw [← HR.out]
      go_wp2_with fail
      go_ret
      exact ⟨rfl, hb⟩
    rw [if_neg h1] at hr
    by_cases h2 : K = 2
    · subst h2
      rw [if_pos rfl] at hr
      cases h0 : (v.toList == [])
      all_goals
        rw [h0] at hr
        subst hr
        go_enter Tryz.func32, Tryz.ntmps32
        go_wp2_with (with_reducible refine at_op (.box 39 (.tmp 0)) rfl ?_; refine Stopped.go ?_)
        refine Stopped.mk (wpList_box rfl #[.int .i64 2, .string k, .string v] 39 (by go_simp) ?_)
        intro g w1 hg_ Bg hb_ hz_
        have hb := hb_
        clear hg_ hz_ hb_
        have cg_0 : w1.cell? ⟨g, 0, none⟩ = some (.int .i64 2) := Bg.at rfl
        have cg_1 : w1.cell? ⟨g, 1, none⟩ = some (.string k) := Bg.at rfl
        have cg_2 : w1.cell? ⟨g, 2, none⟩ = some (.string v) := Bg.at rfl
        clear Bg
        go_wp2_with fail
        refine (key_Is_any _ _).mono ?_; rintro e w2 ⟨rfl, rfl⟩; rw [← HF.out]
        go_wp2_with fail
        go_ret
        exact ⟨rfl, hb⟩
    rw [if_neg h2] at hr
    by_cases h3 : K = 3
    · subst h3
      rw [if_pos rfl] at hr
      cases h0 : ((v.size : Int) == 8)
      all_goals
        rw [h0] at hr
        subst hr
        go_enter Tryz.func32, Tryz.ntmps32
        go_wp2_with (with_reducible refine at_op (.box 39 (.tmp 0)) rfl ?_; refine Stopped.go ?_)
        refine Stopped.mk (wpList_box rfl #[.int .i64 3, .string k, .string v] 39 (by go_simp) ?_)
        intro g w1 hg_ Bg hb_ hz_
        have hb := hb_
        clear hg_ hz_ hb_
        have cg_0 : w1.cell? ⟨g, 0, none⟩ = some (.int .i64 3) := Bg.at rfl
        have cg_1 : w1.cell? ⟨g, 1, none⟩ = some (.string k) := Bg.at rfl
        have cg_2 : w1.cell? ⟨g, 2, none⟩ = some (.string v) := Bg.at rfl
        clear Bg
        go_wp2_with fail
        refine (key_Is_any _ _).mono ?_; rintro e w2 ⟨rfl, rfl⟩; rw [← HF.out]
        go_wp2_with fail
        go_ret
        exact ⟨rfl, hb⟩
    rw [if_neg h3] at hr
    subst hr
    have e1 : (K == 1) = false := by simpa using h1
    have e2 : (K == 2) = false := by simpa using h2
    have e3 : (K == 3) = false := by simpa using h3
    go_enter Tryz.func32, Tryz.ntmps32
    go_wp2_with (with_reducible refine at_op (.box 39 (.tmp 0)) rfl ?_; refine Stopped.go ?_)
    refine Stopped.mk (wpList_box rfl #[.int .i64 K, .string k, .string v] 39 (by go_simp) ?_)
    intro g w1 hg_ Bg hb_ hz_
    have hb := hb_
    clear hg_ hz_ hb_
    have cg_0 : w1.cell? ⟨g, 0, none⟩ = some (.int .i64 K) := Bg.at rfl
    have cg_1 : w1.cell? ⟨g, 1, none⟩ = some (.string k) := Bg.at rfl
    have cg_2 : w1.cell? ⟨g, 2, none⟩ = some (.string v) := Bg.at rfl
    clear Bg
    go_wp2_with fail
    refine (key_Is_any _ _).mono ?_; rintro e w2 ⟨rfl, rfl⟩; rw [← HF.out]
    go_wp2_with fail
    go_ret
    exact ⟨rfl, hb⟩

set_option maxHeartbeats 4000000 in
set_option maxRecDepth 100000 in
theorem msg_isNot_any (K : Int) (k v : ByteArray) (w : World) :
    Calls Tryz.prog 103 #[.agg #[.int .i64 K, .string k, .string v]] w fun e w' => e = .returned (.bool (!msgIs K k v)) ∧ Below w.heap.size w w' := by
  obtain ⟨f, hf⟩ : ∃ f, f = msgIs K k v := ⟨_, rfl⟩
  rw [← hf]
  have HF := hid hf; clear hf
  go_enter Tryz.func103, Tryz.ntmps103
  go_wp2_with (with_reducible refine at_op (.box 39 (.tmp 0)) rfl ?_; refine Stopped.go ?_)
  refine Stopped.mk (wpList_box rfl #[.int .i64 K, .string k, .string v] 39 (by go_simp) ?_)
  intro g w1 hg_ Bg hb_ hz_
  have hb := hb_
  clear hg_ hz_ hb_
  have cg_0 : w1.cell? ⟨g, 0, none⟩ = some (.int .i64 K) := Bg.at rfl
  have cg_1 : w1.cell? ⟨g, 1, none⟩ = some (.string k) := Bg.at rfl
  have cg_2 : w1.cell? ⟨g, 2, none⟩ = some (.string v) := Bg.at rfl
  clear Bg
  go_wp2_with fail
  refine (msg_Is_any K k v _).mono ?_; rintro e w2 ⟨rfl, hb_⟩; rw [← HF.out]
  replace hb := bt hb hb_; clear hb_ cg_0 cg_1 cg_2
  cases f
  all_goals
    go_wp2_with fail
    go_ret
    exact ⟨rfl, hb⟩

set_option maxHeartbeats 4000000 in
set_option maxRecDepth 100000 in
theorem msg_Weight_any (K : Int) (k v : ByteArray) (hk : k.size ≤ 140737488351232) (hv : v.size ≤ 140737488351232) (w : World) :
    Calls Tryz.prog 106 #[.agg #[.int .i64 K, .string k, .string v]] w fun e w' => e = .returned (.int .i64 (3 + (k.size : Int) + (v.size : Int))) ∧ Below w.heap.size w w' := by
  have e1 : IntKind.i64.wrap (3 + (k.size : Int)) = 3 + (k.size : Int) := by rw [IntKind.wrap_i64]; omega
  have e2 : IntKind.i64.wrap (3 + (k.size : Int) + (v.size : Int)) = 3 + (k.size : Int) + (v.size : Int) := by rw [IntKind.wrap_i64]; omega
  go_enter Tryz.func106, Tryz.ntmps106
  go_wp2_with (with_reducible refine at_op (.box 39 (.tmp 0)) rfl ?_; refine Stopped.go ?_)
  refine Stopped.mk (wpList_box rfl #[.int .i64 K, .string k, .string v] 39 (by go_simp) ?_)
  intro g w1 hg_ Bg hb_ hz_
  have hb := hb_
  clear hg_ hz_ hb_
  have cg_0 : w1.cell? ⟨g, 0, none⟩ = some (.int .i64 K) := Bg.at rfl
  have cg_1 : w1.cell? ⟨g, 1, none⟩ = some (.string k) := Bg.at rfl
  have cg_2 : w1.cell? ⟨g, 2, none⟩ = some (.string v) := Bg.at rfl
  clear Bg
  go_wp2_with fail
  go_ret
  exact ⟨rfl, hb⟩

set_option maxHeartbeats 4000000 in
set_option maxRecDepth 100000 in
theorem msg_OfDel_any (k : ByteArray) (w : World) :
    Calls Tryz.prog 26 #[.string k] w fun e w' => e = .returned (.agg #[.int .i64 2, .string k, .string ⟨#[]⟩]) ∧ Below w.heap.size w w' := by
  have hu := Tryz.underlying39
  have hA := below_alloc w (.cells #[.int .i64 2, .string k, .string ⟨#[]⟩] 39)
  have hN : (w.alloc (.cells #[.int .i64 2, .string k, .string ⟨#[]⟩] 39)).heap[w.heap.size]? = some (.cells #[.int .i64 2, .string k, .string ⟨#[]⟩] 39 (0, 0)) := heap_alloc_new w _
  have HA := hid hA; have HN := hid hN; clear hA hN
  go_enter Tryz.func26, Tryz.ntmps26
  go_wp2_with fail
  (try simp only [Exit.inBlock, Exit.then])
  exact bodyPost_ret (results_cell_row rfl _ _ _ _ _ (0, 0) _ rfl HN.out hu rfl (by kernel_rfl)) rfl ⟨rfl, HA.out⟩

def numB (v : ByteArray) : Bool := decide (v.size = 8)
theorem ba_size' (a : ByteArray) : a.size = a.toList.length := by rw [ByteArray.toList_eq]; rfl
theorem msgIs_kind {K : Int} {k v : ByteArray} (h : msgIs K k v = true) : K = 1 ∨ K = 2 ∨ K = 3 := by
  unfold msgIs at h
  by_cases h1 : K = 1
  · exact .inl h1
  by_cases h2 : K = 2
  · exact .inr (.inl h2)
  by_cases h3 : K = 3
  · exact .inr (.inr h3)
  rw [if_neg h1, if_neg h2, if_neg h3, Bool.and_false] at h
  cases h
theorem msgIs_num {k v : ByteArray} (h : msgIs 3 k v = true) : numB v = true := by
  unfold msgIs at h
  rw [if_neg (by decide), if_neg (by decide), if_pos rfl] at h
  have h := (Bool.and_eq_true _ _ ▸ h).2
  rw [beq_iff_eq] at h
  exact decide_eq_true (by omega)

theorem msgIs_key {K : Int} {k v : ByteArray} (h : msgIs K k v = true) : keyIs k = true := (Bool.and_eq_true _ _ ▸ h).1
theorem msgIs_put_size {k v : ByteArray} (h : msgIs 1 k v = true) : v.size ≤ 16 := by
  unfold msgIs at h
  rw [if_pos rfl] at h
  have := of_decide_eq_true (Bool.and_eq_true _ _ ▸ h).2
  omega
theorem numB_size {v : ByteArray} (h : numB v = true) : v.size = 8 := of_decide_eq_true h
/-- a message in a block of its own -/
def MsgAt (w : World) (g : Nat) (K : Int) (k v : ByteArray) : Prop := w.heap[g]? = some (.cells #[.int .i64 K, .string k, .string v] 39 (0, 0))
theorem MsgAt.lt {w : World} {g : Nat} {K : Int} {k v : ByteArray} (h : MsgAt w g K k v) : g < w.heap.size := (Array.getElem?_eq_some_iff.1 h).1
theorem MsgAt.keeps {w w' : World} {g : Nat} {K : Int} {k v : ByteArray} {F : List Nat} (h : MsgAt w g K k v) (hk : Keeps F w w') (hf : g ∉ F) : MsgAt w' g K k v := (hk.block g h.lt hf).trans h
theorem MsgAt.below {w w' : World} {g : Nat} {K : Int} {k v : ByteArray} (h : MsgAt w g K k v) (hb : Below w.heap.size w w') : MsgAt w' g K k v := h.keeps (Keeps.of (F := []) hb) (by simp)
theorem MsgAt.at0 {w : World} {g : Nat} {K : Int} {k v : ByteArray} (h : MsgAt w g K k v) : w.cell? ⟨g, 0, none⟩ = some (.int .i64 K) := by rw [cell_of_row w g 0 _ _ _ h]; rfl
theorem MsgAt.at1 {w : World} {g : Nat} {K : Int} {k v : ByteArray} (h : MsgAt w g K k v) : w.cell? ⟨g, 1, none⟩ = some (.string k) := by rw [cell_of_row w g 1 _ _ _ h]; rfl
theorem MsgAt.at2 {w : World} {g : Nat} {K : Int} {k v : ByteArray} (h : MsgAt w g K k v) : w.cell? ⟨g, 2, none⟩ = some (.string v) := by rw [cell_of_row w g 2 _ _ _ h]; rfl
theorem MsgAt.new (w : World) (K : Int) (k v : ByteArray) : MsgAt (w.alloc (.cells #[.int .i64 K, .string k, .string v] 39)) w.heap.size K k v := heap_alloc_new w _

section
variable {P : Program} {ops : Array Oper} {rest : List Oper} {o : Oper} {a : Act} {w : World} {Q : Exit → Act → World → Prop}
theorem wpList_store_row_keeps (hgd : o.guard = none) (ty : TypeId) (x y : Operand) (ho : o.op = .store ty x y)
    (g : Nat) (cells : Array Value) (hx : a.eval x = .pointer (some ⟨g, 0, none⟩)) (hy : a.eval y = .agg cells)
    (t : TypeId) (old : Array Value) (hg : w.heap[g]? = some (.cells old t (0, 0))) (hi : (P.info? ty).map (·.size) = some cells.size)
    (hold : old.size = cells.size) (h1 : cells.all (·.oneCell') = true)
    (h : ∀ w', w'.heap[g]? = some (.cells cells t (0, 0)) → Keeps [g] w w' → wpList P ops Q rest (a.put o.dst undef) w') : wpList P ops Q (o :: rest) a w := by
  refine wpList_store_row hgd ty x y ho g cells hx hy t old hg hi hold h1 (h _ (setRow_heap w g old cells t _ hg) ?_)
  exact ⟨rfl, rfl, rfl, by simp, fun k hk hf => setRow_other w g k _ (by simpa using hf)⟩
end



abbrev Msg3 := Int × ByteArray × ByteArray
def msgCells (x : Msg3) : List Value := [.int .i64 x.1, .string x.2.1, .string x.2.2]
theorem msg_at : ∀ (l : List Msg3) (i j : Nat) (x : Msg3) (v : Value), l[i]? = some x → (msgCells x)[j]? = some v → (l.flatMap msgCells)[i * 3 + j]? = some v
  | y :: l, 0, j, x, v, h, hv => by
    simp only [List.getElem?_cons_zero, Option.some.injEq] at h
    subst h
    rw [List.flatMap_cons, List.getElem?_append_left (by have := (List.getElem?_eq_some_iff.1 hv).1; omega)]
    simpa using hv
  | y :: l, i + 1, j, x, v, h, hv => by
    have := msg_at l i j x v (by simpa using h) hv
    rw [List.flatMap_cons, List.getElem?_append_right (by show (msgCells y).length ≤ _; simp [msgCells]; omega)]
    rw [show (i + 1) * 3 + j - (msgCells y).length = i * 3 + j by simp [msgCells]; omega]
    exact this
def isB (x : Msg3) : Bool := msgIs x.1 x.2.1 x.2.2
/-- a message's bytes -/
def msgB (x : Msg3) : List UInt8 := UInt8.ofNat x.1.toNat :: (textB x.2.1 ++ textB x.2.2)

set_option maxHeartbeats 4000000 in
set_option maxRecDepth 100000 in
theorem IndexFunc_msgs (eg : ∀ args w, (callFunc 103 args).run Tryz.prog w = .ok (.enter 103 args) w) (A : Option Addr) (cap : Nat) (l : List Msg3) (hlen : l.length ≤ 9223372036854775807) (w : World) (hr : Row w A (l.flatMap msgCells))
    (hall : ∀ x ∈ l, isB x = true) :
    Calls Tryz.prog 82 #[.slice A l.length cap, .func (.func 103) #[] #[]] w fun e w' => e = .returned (.int .i64 (-1)) ∧ Below w.heap.size w w' := by
  have HA := hid hall; clear hall
  have HR := hid hr; clear hr
  go_enter Tryz.func82, Tryz.ntmps82
  go_wp2_with fail
  go_loopg [8] l.length (fun g j wx => ∃ k : Nat, k + g = l.length ∧ j = .int .i64 k ∧ Hid (Below w.heap.size w wx))
  case atStart => exact ⟨0, by omega, rfl, Below.refl _ _⟩
  case round =>
    obtain ⟨k, hk, rfl, HB⟩ := hrel
    by_cases hlt : k < l.length
    · obtain ⟨b, off, rfl, hb, hc⟩ := row_cell HR.out (by intro e; have h := msg_at l k 0 l[k] (.int .i64 l[k].1) (by simp [hlt]) rfl; rw [e] at h; cases h)
      have hx1 : isB l[k] = true := HA.out _ (List.getElem_mem _)
      obtain ⟨⟨K, kk, v⟩, hx⟩ : ∃ x, x = l[k] := ⟨_, rfl⟩
      have hxi : l[k]? = some (K, kk, v) := by rw [hx]; simp [hlt]
      rw [← hx] at hx1
      have c0 := hc _ _ (msg_at l k 0 _ (.int .i64 K) hxi rfl)
      rw [← HB.out.cell (p := ⟨b, off + (k * 3 + 0), none⟩) hb, ← Nat.add_assoc, Nat.add_zero] at c0
      have c1 := hc _ _ (msg_at l k 1 _ (.string kk) hxi rfl)
      rw [← HB.out.cell (p := ⟨b, off + (k * 3 + 1), none⟩) hb, ← Nat.add_assoc] at c1
      have c2 := hc _ _ (msg_at l k 2 _ (.string v) hxi rfl)
      rw [← HB.out.cell (p := ⟨b, off + (k * 3 + 2), none⟩) hb, ← Nat.add_assoc] at c2
      have H1 := hid (show msgIs K kk v = true from hx1)
      clear hc hb hx hxi hx1
      go_wp2_with fail
      refine (msg_isNot_any K kk v _).mono ?_; rintro e w1 ⟨rfl, hb1⟩; rw [H1.out]
      have HB1 := hid (bt HB.out hb1)
      clear hb1 c0 c1 c2
      go_wp2_with fail
      go_roundg (l.length - (k + 1))
      case measure => omega
      case rel => exact ⟨k + 1, by omega, by go_num, HB1.out⟩
    · go_wp2_with fail
      go_ret
      exact ⟨rfl, HB.out⟩

theorem isNot_enters : ∀ args w, (callFunc 103 args).run Tryz.prog w = .ok (.enter 103 args) w := enters_of Tryz.func103 (by kernel_rfl) rfl

set_option maxHeartbeats 1000000 in
theorem ContainsFunc_msgs (A : Option Addr) (cap : Nat) (l : List Msg3) (hlen : l.length ≤ 9223372036854775807) (w : World) (hr : Row w A (l.flatMap msgCells))
    (hall : ∀ x ∈ l, isB x = true) :
    Calls Tryz.prog 58 #[.slice A l.length cap, .func (.func 103) #[] #[]] w fun e w' => e = .returned (.bool false) ∧ Below w.heap.size w w' := by
  have HA := hid hall; clear hall
  have HR := hid hr; clear hr
  go_enter Tryz.func58, Tryz.ntmps58
  go_wp2_with fail
  refine (IndexFunc_msgs isNot_enters A cap l hlen _ HR.out HA.out).mono ?_; rintro e w1 ⟨rfl, hb⟩
  go_wp2_with fail
  go_ret
  exact ⟨rfl, hb⟩

/-! reading by lists of bytes -/
theorem ba_of (r : ByteArray) {l : List UInt8} (h : r.data.toList = l) : r = ⟨l.toArray⟩ := by cases r; subst h; rfl
theorem ext_list (l : List UInt8) (a b : Nat) : (⟨l.toArray⟩ : ByteArray).extract a b = ⟨((l.take b).drop a).toArray⟩ := by
  apply ba_of
  rw [Lib.extract_data]
  simp [List.drop_take]
theorem list_size (l : List UInt8) : (⟨l.toArray⟩ : ByteArray).size = l.length := by show l.toArray.size = _; simp
theorem In_Byte (p : Nat) (x : UInt8) (l : List UInt8) (w : World) (h : InAt w p ⟨(x :: l).toArray⟩ false) :
    Calls Tryz.prog 77 #[.pointer (some ⟨p, 0, none⟩), .int .i64 1] w fun e w' => e = .returned (.int .i64 x.toNat) ∧ Keeps [p] w w' ∧ InAt w' p ⟨l.toArray⟩ false := by
  refine (In_Num1 p _ w h x (by simp)).mono ?_
  rintro e w' ⟨rfl, hk, hi⟩
  refine ⟨rfl, hk, ?_⟩
  rw [list_size (x :: l), ext_list] at hi
  simpa using hi
theorem In_TextL (p : Nat) (s : ByteArray) (l : List UInt8) (most : Int) (w : World) (h : InAt w p ⟨(textB s ++ l).toArray⟩ false) (hs : s.size ≤ 255) (hm : (s.size : Int) ≤ most) :
    Calls Tryz.prog 102 #[.pointer (some ⟨p, 0, none⟩), .int .i64 most] w fun e w' => e = .returned (.string s) ∧ Keeps [p] w w' ∧ InAt w' p ⟨l.toArray⟩ false := by
  have hx : (UInt8.ofNat s.size).toNat = s.size := by
    have : (UInt8.ofNat s.size).toNat = s.size % 256 := by simp
    omega
  have hl : s.data.toList.length = s.size := by simp
  refine (In_Text_yes p _ most w h (UInt8.ofNat s.size) (by simp [textB]) (by rw [hx]; exact hm) (by rw [hx, list_size (textB s ++ l), List.length_append, textB_length]; omega)).mono ?_
  rintro e w' ⟨rfl, hk, hi⟩
  have h1 : (⟨(textB s ++ l).toArray⟩ : ByteArray).extract 1 (⟨(textB s ++ l).toArray⟩ : ByteArray).size = ⟨(s.data.toList ++ l).toArray⟩ := by
    rw [list_size (textB s ++ l), ext_list, List.take_length]
    rfl
  rw [h1, hx] at hi ⊢
  refine ⟨?_, hk, ?_⟩
  · rw [ext_list]
    congr 2
    rw [List.take_append_of_le_length (by omega), List.take_of_length_le (by omega)]
    exact (ba_of s rfl).symm
  · rw [list_size (s.data.toList ++ l), ext_list, List.take_length] at hi
    rw [List.drop_append_of_le_length (by omega), List.drop_of_length_le (by omega)] at hi
    exact hi

theorem msg_kind8 {x : Msg3} (h : isB x = true) : x.1 = 1 ∨ x.1 = 2 ∨ x.1 = 3 := msgIs_kind h
theorem msg_keysz {x : Msg3} (h : isB x = true) : x.2.1.size ≤ 8 := by
  have := msgIs_key h
  unfold keyIs at this
  rw [Bool.and_eq_true] at this
  exact of_decide_eq_true this.2
theorem msg_valsz {x : Msg3} (h : isB x = true) : x.2.2.size ≤ 16 := by
  obtain ⟨K, k, v⟩ := x
  rcases msg_kind8 h with e | e | e <;> simp only at e <;> subst e
  · exact msgIs_put_size h
  · have h2 := h
    unfold isB msgIs at h2
    simp only [if_neg (show ¬ (2 : Int) = 1 by decide), if_true, Bool.and_eq_true, beq_iff_eq] at h2
    rw [ba_size', h2.2]; decide
  · have h2 := numB_size (msgIs_num h)
    show v.size ≤ 16
    rw [h2]; decide
theorem msg_num {x : Msg3} (h : isB x = true) : numOk 1 [x.1] = true ∧ beAll (1 : Int).toNat [x.1] = [UInt8.ofNat x.1.toNat] := by
  rcases msg_kind8 h with e | e | e <;> rw [e] <;> exact ⟨by kernel_rfl, by kernel_rfl⟩
theorem msg_text {x : Msg3} (h : isB x = true) : textOk [x.2.1, x.2.2] = true ∧ textAll [x.2.1, x.2.2] = textB x.2.1 ++ textB x.2.2 := by
  have h1 := msg_keysz h; have h2 := msg_valsz h
  refine ⟨?_, by simp [textAll]⟩
  simp [textOk]; omega
theorem msgB_len (x : Msg3) : (msgB x).length = 3 + x.2.1.size + x.2.2.size := by
  simp only [msgB, List.length_cons, List.length_append, textB_length]; omega

set_option maxHeartbeats 8000000 in
set_option maxRecDepth 100000 in
theorem msg_Write_yes (w0 : World) (p : Nat) (l0 : List UInt8) (A : Option Addr) (cap : Nat) (xs : List Msg3) (w : World) (hP : Pen w0 w p l0) (hr : Row w0 A (xs.flatMap msgCells)) (hall : ∀ x ∈ xs, isB x = true) (hlen : xs.length ≤ 1000) (hl0 : l0.length ≤ 1000) :
    Calls Tryz.prog 85 #[.pointer (some ⟨p, 0, none⟩), .slice A xs.length cap] w fun e w' => e = .returned (.int .i64 0) ∧ Pen w0 w' p (l0 ++ xs.flatMap msgB) := by
  have HP := hid hP; have HR := hid hr; have HALL := hid hall
  clear hP hr hall
  go_enter Tryz.func85, Tryz.ntmps85
  go_wp2_with fail
  refine (ContainsFunc_msgs A cap xs (by omega) _ (HR.out.below HP.out.bel) HALL.out).mono ?_; rintro e w1 ⟨rfl, hb1⟩
  have HP1 := hid (HP.out.below hb1)
  clear hb1 HP
  go_wp2_with fail
  go_loopg [15] xs.length (fun g j wx => ∃ k : Nat, k + g = xs.length ∧ j = .int .i64 k ∧ Hid (Pen w0 wx p (l0 ++ (xs.take k).flatMap msgB) ∧ ((xs.take k).flatMap msgB).length ≤ 100 * k))
  case atStart => exact ⟨0, by omega, rfl, by simpa using HP1.out, by simp⟩
  case round =>
    obtain ⟨k, hk, rfl, HS⟩ := hrel
    by_cases hlt : k < xs.length
    · obtain ⟨b, off, rfl, hb, hc⟩ := row_cell HR.out (by intro e; have h := msg_at xs k 0 xs[k] (.int .i64 xs[k].1) (by simp [hlt]) rfl; rw [e] at h; cases h)
      have hx1 : isB xs[k] = true := HALL.out _ (List.getElem_mem _)
      have hsn : (xs.take (k + 1)).flatMap msgB = (xs.take k).flatMap msgB ++ msgB xs[k] := by rw [List.take_succ_eq_append_getElem hlt, List.flatMap_append]; simp
      obtain ⟨⟨K, kk, v⟩, hx⟩ : ∃ x, x = xs[k] := ⟨_, rfl⟩
      have hxi : xs[k]? = some (K, kk, v) := by rw [hx]; simp [hlt]
      rw [← hx] at hx1 hsn
      have c0 := hc _ _ (msg_at xs k 0 _ (.int .i64 K) hxi rfl)
      rw [← HS.out.1.bel.cell (p := ⟨b, off + (k * 3 + 0), none⟩) hb, ← Nat.add_assoc, Nat.add_zero] at c0
      have c1 := hc _ _ (msg_at xs k 1 _ (.string kk) hxi rfl)
      rw [← HS.out.1.bel.cell (p := ⟨b, off + (k * 3 + 1), none⟩) hb, ← Nat.add_assoc] at c1
      have c2 := hc _ _ (msg_at xs k 2 _ (.string v) hxi rfl)
      rw [← HS.out.1.bel.cell (p := ⟨b, off + (k * 3 + 2), none⟩) hb, ← Nat.add_assoc] at c2
      have HX := hid hx1; have HSN := hid hsn
      clear hc hb hx hxi hx1 hsn
      have hA := below_alloc wr (.cells #[.int .i64 K, .string kk, .string v] 39)
      have BX := Blk.new wr #[.int .i64 K, .string kk, .string v] 39
      obtain ⟨gx, hgx⟩ : ∃ g, g = wr.heap.size := ⟨_, rfl⟩
      rw [← hgx] at BX
      obtain ⟨F, g1, g2, g3⟩ := HS.out.1
      have hxF : gx ∉ F := fun h => by have := g1.sizes _ h; omega
      have G1 := hid (g1.below hA); have G2 := hid (bt g2 hA); have G3 := hid g3; have GX := hid hxF; have HGX := hid hgx
      have x0 : (wr.alloc (.cells #[.int .i64 K, .string kk, .string v] 39)).cell? ⟨gx, 0, none⟩ = some (.int .i64 K) := BX.at rfl
      have HBX := hid BX
      clear hA BX hgx g1 g2 g3 hxF
      go_wp2_with (with_reducible refine at_op (.buildSlice 60 1 #[(0, .tmp 21)]) rfl ?_; refine Stopped.go ?_)
      clear c0 c1 c2 x0
      rw [← HGX.out]
      have BX := HBX.out; clear HBX
      generalize wr.alloc (.cells #[.int .i64 K, .string kk, .string v] 39) = w2 at *
      refine Stopped.mk ?_
      have hA2 := below_alloc w2 (.cells #[.int .i64 K] 3)
      have hR2 : Row (w2.alloc (.cells #[.int .i64 K] 3)) (some ⟨w2.heap.size, 0, none⟩) (i64s [K]) := row_new w2 #[.int .i64 K] _
      have H2 := hid (show OutAt 113 (w2.alloc (.cells #[.int .i64 K] 3)) p _ F ∧ Below w0.heap.size w0 (w2.alloc (.cells #[.int .i64 K] 3)) ∧ Row (w2.alloc (.cells #[.int .i64 K] 3)) (some ⟨w2.heap.size, 0, none⟩) (i64s [K]) ∧ Blk (w2.alloc (.cells #[.int .i64 K] 3)) gx 39 [.int .i64 K, .string kk, .string v] ∧ (∀ a, some (⟨w2.heap.size, 0, none⟩ : Addr) = some a → a.block ∉ F) from
        ⟨G1.out.below hA2, bt G2.out hA2, hR2, BX.belowS hA2, fun a ha => by injection ha with ha; subst ha; exact fun h => absurd (G1.out.sizes _ h) (Nat.lt_irrefl _)⟩)
      clear hA2 hR2 BX
      go_wp2_with fail
      obtain ⟨hw, hf⟩ := numOk_yes (msg_num HX.out).1
      refine (Out_Num_yes p _ F 1 [K] _ 1 _ H2.out.1 H2.out.2.2.1 H2.out.2.2.2.2 (by simp) hw hf (by have h1 := HS.out.2; rw [List.length_append]; simp only [List.length_cons, List.length_nil]; omega)).mono ?_
      rintro e w3 ⟨rfl, F', k1, k2, k3⟩
      rw [show beAll 1 [K] = [UInt8.ofNat K.toNat] from (msg_num HX.out).2] at k1
      have HP3 := hid (Pen.next H2.out.2.1 G3.out k1 k2 k3)
      have BX := Blk.keeps H2.out.2.2.2.1 k2 GX.out
      have x1 : w3.cell? ⟨gx, 1, none⟩ = some (.string kk) := BX.at rfl
      have x2 : w3.cell? ⟨gx, 2, none⟩ = some (.string v) := BX.at rfl
      clear BX k1 k2 k3 hw hf H2 G1 G2 G3 GX HGX
      go_wp2_with fail
      clear x1 x2
      obtain ⟨ht1, ht2⟩ := msg_text HX.out
      refine (pen_Text HP3.out [kk, v] #[.string kk, .string v] 9 rfl 2 (by simp) (by
        have h1 := HS.out.2; have h2 := msg_keysz HX.out; have h3 := msg_valsz HX.out
        rw [ht2]
        simp only [List.length_append, textB_length, List.length_cons, List.length_nil] at h2 h3 ⊢
        omega)).mono ?_
      rintro e w4 ⟨rfl, P4⟩
      rw [show textOk [kk, v] = true from ht1, show textAll [kk, v] = textB kk ++ textB v from ht2] at P4
      rw [show textOk [kk, v] = true from ht1]
      simp only [if_true] at P4 ⊢
      have HP4 := hid P4
      clear P4 ht1 ht2
      go_wp2_with fail
      go_roundg (xs.length - (k + 1))
      case measure => omega
      case rel =>
        refine ⟨k + 1, by omega, by go_num, ?_, ?_⟩
        · rw [HSN.out]
          have := HP4.out
          simpa [msgB] using this
        · rw [HSN.out, List.length_append, msgB_len]
          have h1 := HS.out.2; have h2 := msg_keysz HX.out; have h3 := msg_valsz HX.out
          simp only at h2 h3 ⊢
          omega
    · have hkk : k = xs.length := by omega
      subst hkk
      go_wp2_with fail
      go_ret
      refine ⟨rfl, ?_⟩
      have := HS.out.1
      rwa [List.take_length] at this
end Go.Proofs.YtcklgaenedlbiaaGreat
