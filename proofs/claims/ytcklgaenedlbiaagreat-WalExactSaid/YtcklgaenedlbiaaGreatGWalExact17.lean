/-
  append as one step of a region that draws.
  A log of layer 23: what a world holds of it; where its blocks stand; its small deeds.
-/
import Derived.Test.YtcklgaenedlbiaaGreatGWalExact05
import Derived.Deep.RegionLaw
import Derived.Test.YtcklgaenedlbiaaGreatGWalExact12
import Derived.Test.YtcklgaenedlbiaaGreatGWalExact11
import Derived.Test.YtcklgaenedlbiaaGreatGWalExact16

namespace Go.Proofs.YtcklgaenedlbiaaGreat
open Go.RowKit

section
variable {P : Program}
/-- append as one step of a region that draws: onto a row that the call made -/
theorem step_append_row {ops : Array Oper} {o : Oper} {a : Act} {w : World} {K : Act → World → Prop} {Q : Exit → Act → World → Prop} {E : Prop}
    (hg : o.guard = none) (s x : Operand) (t e : TypeId) (hop : o.op = Op.call { callee := Callee.builtin Builtin.append, args := #[s, x], argTypes := #[t, t] })
    (i : TypeInfo) (z : Value) (size bytes : Nat) (ht : P.underlying t = some (.slice e)) (hi : P.info? e = some i) (hz : i.zero = some z)
    (hsize : i.size = size) (hby : i.bytes = bytes) (hzs : z.cells.size = size) (hsz : 0 < size)
    (v : Value) (n : Nat) (xs : List Value) (hs : a.eval s = v) (hown : w.ownsRowF 0 e size v n xs)
    (A : Option Addr) (m c : Nat) (news : List Value) (hx : a.eval x = .slice A m c) (hl : news.length = m * size) (hr : Row w A news) (h1 : ∀ u ∈ news, u.oneCell' = true)
    (h63 : n + m ≤ maxLen) (hbytes : (n + m) * bytes ≤ 140737488355328)
    (hK : ∀ v' w', w'.ownsRowF 0 e size v' (n + m) (xs ++ news) → Keeps v.ownBlock.toList w w' → (∀ k, v'.ownBlock = some k → v.ownBlock = some k ∨ w.heap.size ≤ k) → K (a.put o.dst v') w') :
    if Region.wanted o (yielded ops a.tmps) = true then Oper.wp P o a w K Q else E := by
  have hw : Region.wanted o (yielded ops a.tmps) = true := by simp [Region.wanted, hg]
  rw [if_pos hw]
  obtain ⟨v', w', hrun, r1, r2, r3⟩ : ∃ v' w', (Builtin.append_ #[t, t] o.type #[v, .slice A m c]).run P w = .ok v' w' ∧ w'.ownsRowF 0 e size v' (n + m) (xs ++ news) ∧ Keeps v.ownBlock.toList w w' ∧ (∀ k, v'.ownBlock = some k → v.ownBlock = some k ∨ w.heap.size ≤ k) := by
    cases A with
    | none =>
      have hn : news = [] := by
        rcases hr with h | ⟨_, _, h, _⟩
        · exact h
        · cases h
      subst hn
      have hm : m = 0 := by
        rcases Nat.mul_eq_zero.1 hl.symm with h | h
        · exact h
        · omega
      subst hm
      refine ⟨v, w, ?_, by rw [List.append_nil]; exact hown, Keeps.refl _ _, fun k hk => .inl hk⟩
      rcases hown.2 with ⟨rfl, rfl⟩ | ⟨g, cap, cur, fz, rfl, _, _, _, hnc, _, _, _⟩
      · simp [Builtin.append_, run_underlying ht, sizeOf, typeInfo, hi, Builtin.lenOf, Builtin.firstCells]
      · simp [Builtin.append_, run_underlying ht, sizeOf, typeInfo, hi, Builtin.lenOf, Builtin.firstCells, hnc, storeCells]
    | some ad =>
      obtain ⟨v', w', r1, r2, r3, r4⟩ := append_where (P := P) (w := w) t o.type e i z size bytes ht hi hz hsize hby hzs hsz v n xs hown ad m c news hl (fun j u hj => by
        rcases hr with h | ⟨b, off, h, _, hc⟩
        · rw [h] at hj; cases hj
        · injection h with h
          subst h
          rw [Addr.add_mid]
          exact hc j u hj) h1 h63 hbytes
      exact ⟨v', w', r1, r2, keeps_grown r3, r4⟩
  unfold Oper.wp
  simp [execOp, hop, resolve, invoke, builtin, hs, hx, hrun, Result.andThen]
  exact hK v' w' r1 r2 r3
/-- the same, of a guarded one that is wanted -/
theorem step_append_rowG {ops : Array Oper} {o : Oper} {a : Act} {w : World} {K : Act → World → Prop} {Q : Exit → Act → World → Prop} {E : Prop}
    (hw : Region.wanted o (yielded ops a.tmps) = true) (s x : Operand) (t e : TypeId) (hop : o.op = Op.call { callee := Callee.builtin Builtin.append, args := #[s, x], argTypes := #[t, t] })
    (i : TypeInfo) (z : Value) (size bytes : Nat) (ht : P.underlying t = some (.slice e)) (hi : P.info? e = some i) (hz : i.zero = some z)
    (hsize : i.size = size) (hby : i.bytes = bytes) (hzs : z.cells.size = size) (hsz : 0 < size)
    (v : Value) (n : Nat) (xs : List Value) (hs : a.eval s = v) (hown : w.ownsRowF 0 e size v n xs)
    (A : Option Addr) (m c : Nat) (news : List Value) (hx : a.eval x = .slice A m c) (hl : news.length = m * size) (hr : Row w A news) (h1 : ∀ u ∈ news, u.oneCell' = true)
    (h63 : n + m ≤ maxLen) (hbytes : (n + m) * bytes ≤ 140737488355328)
    (hK : ∀ v' w', w'.ownsRowF 0 e size v' (n + m) (xs ++ news) → Keeps v.ownBlock.toList w w' → (∀ k, v'.ownBlock = some k → v.ownBlock = some k ∨ w.heap.size ≤ k) → K (a.put o.dst v') w') :
    if Region.wanted o (yielded ops a.tmps) = true then Oper.wp P o a w K Q else E := by
  rw [if_pos hw]
  obtain ⟨v', w', hrun, r1, r2, r3⟩ : ∃ v' w', (Builtin.append_ #[t, t] o.type #[v, .slice A m c]).run P w = .ok v' w' ∧ w'.ownsRowF 0 e size v' (n + m) (xs ++ news) ∧ Keeps v.ownBlock.toList w w' ∧ (∀ k, v'.ownBlock = some k → v.ownBlock = some k ∨ w.heap.size ≤ k) := by
    cases A with
    | none =>
      have hn : news = [] := by
        rcases hr with h | ⟨_, _, h, _⟩
        · exact h
        · cases h
      subst hn
      have hm : m = 0 := by
        rcases Nat.mul_eq_zero.1 hl.symm with h | h
        · exact h
        · omega
      subst hm
      refine ⟨v, w, ?_, by rw [List.append_nil]; exact hown, Keeps.refl _ _, fun k hk => .inl hk⟩
      rcases hown.2 with ⟨rfl, rfl⟩ | ⟨g, cap, cur, fz, rfl, _, _, _, hnc, _, _, _⟩
      · simp [Builtin.append_, run_underlying ht, sizeOf, typeInfo, hi, Builtin.lenOf, Builtin.firstCells]
      · simp [Builtin.append_, run_underlying ht, sizeOf, typeInfo, hi, Builtin.lenOf, Builtin.firstCells, hnc, storeCells]
    | some ad =>
      obtain ⟨v', w', r1, r2, r3, r4⟩ := append_where (P := P) (w := w) t o.type e i z size bytes ht hi hz hsize hby hzs hsz v n xs hown ad m c news hl (fun j u hj => by
        rcases hr with h | ⟨b, off, h, _, hc⟩
        · rw [h] at hj; cases hj
        · injection h with h
          subst h
          rw [Addr.add_mid]
          exact hc j u hj) h1 h63 hbytes
      exact ⟨v', w', r1, r2, keeps_grown r3, r4⟩
  unfold Oper.wp
  simp [execOp, hop, resolve, invoke, builtin, hs, hx, hrun, Result.andThen]
  exact hK v' w' r1 r2 r3
end
end Go.Proofs.YtcklgaenedlbiaaGreat

namespace Go.Proofs.YtcklgaenedlbiaaGreat
open Go.RowKit

structure Wl where
  size : Nat
  epoch : Int
  from_ : Nat
  used : Nat
  pend : List Msg3
def wlCells (p : Nat) (v : Wl) (P : Value) : List Value := [.pointer (some ⟨p, 0, none⟩), .int .i64 v.size, .int .i64 v.epoch, .int .i64 v.from_, .int .i64 v.used, P]
structure WlIn (w : World) (r p : Nat) (v : Wl) (P : Value) : Prop where
  box : Blk w r 69 (wlCells p v P)
  pend : w.ownsRowF 0 39 3 P v.pend.length (v.pend.flatMap msgCells)
/-- a log at block r, over the device at p, of the blocks G alone, all of them new -/
structure WlAt (w0 w : World) (r p : Nat) (v : Wl) (G : List Nat) : Prop where
  own : ∀ k, k ∈ G → w0.heap.size ≤ k ∧ k < w.heap.size
  mem : r ∈ G
  inn : ∃ P, WlIn w r p v P ∧ ∀ k, P.ownBlock = some k → k ∈ G
theorem WlIn.keeps {w w' : World} {r p : Nat} {v : Wl} {P : Value} {F : List Nat} (h : WlIn w r p v P) (hk : Keeps F w w') (hr : r ∉ F) (hP : ∀ k, P.ownBlock = some k → k ∉ F) : WlIn w' r p v P :=
  ⟨h.box.keeps hk hr, ownsRowF_keeps h.pend hk hP⟩
theorem WlAt.keeps {w0 w w' : World} {r p : Nat} {v : Wl} {G F : List Nat} (h : WlAt w0 w r p v G) (hk : Keeps F w w') (hd : ∀ k, k ∈ G → k ∉ F) : WlAt w0 w' r p v G := by
  obtain ⟨P, h1, h2⟩ := h.inn
  exact ⟨fun k hk' => ⟨(h.own k hk').1, Nat.lt_of_lt_of_le (h.own k hk').2 hk.size⟩, h.mem, P, h1.keeps hk (hd _ h.mem) (fun k hk => hd _ (h2 k hk)), h2⟩
theorem WlAt.below {w0 w w' : World} {r p : Nat} {v : Wl} {G : List Nat} (h : WlAt w0 w r p v G) (hb : Below w.heap.size w w') : WlAt w0 w' r p v G := h.keeps (F := []) (Keeps.of hb) (by simp)
theorem WlIn.row {w : World} {r p : Nat} {v : Wl} {P : Value} (h : WlIn w r p v P) : ∃ A cap, P = .slice A v.pend.length cap ∧ v.pend.length ≤ cap ∧ Row w A (v.pend.flatMap msgCells) := ownsRowF_cap h.pend

/-- where block k of the log stands -/
def Wl.at_ (v : Wl) (k : Nat) : Nat := 2 + (v.from_ + k) % v.size

set_option maxHeartbeats 1000000 in
set_option maxRecDepth 100000 in
theorem wal_at {w : World} {r p : Nat} {v : Wl} {P : Value} (h : WlIn w r p v P) (k : Nat) (hs : 1 ≤ v.size) (hs2 : v.size ≤ 1000) (hf : v.from_ ≤ 1000) (hk : k ≤ 1000000) :
    Calls Tryz.prog 40 #[.pointer (some ⟨r, 0, none⟩), .int .i64 k] w fun e w' => e = .returned (.int .i64 (v.at_ k : Nat)) ∧ Below w.heap.size w w' := by
  have c3 : w.cell? ⟨r, 3, none⟩ = some (.int .i64 v.from_) := h.box.at rfl
  have c1 : w.cell? ⟨r, 1, none⟩ = some (.int .i64 v.size) := h.box.at rfl
  obtain ⟨q, hq⟩ : ∃ q, q = (v.from_ + k) % v.size := ⟨_, rfl⟩
  have hat : v.at_ k = 2 + q := by rw [hq]; rfl
  have hql : q < v.size := by rw [hq]; exact Nat.mod_lt _ (by omega)
  obtain ⟨s, hs'⟩ : ∃ s, s = v.from_ + k := ⟨_, rfl⟩
  have e1 : IntKind.i64.wrap ((v.from_ : Int) + (k : Int)) = (s : Int) := by rw [IntKind.wrap_i64]; omega
  have e2 : ((s : Nat) : Int).tmod (v.size : Int) = (q : Int) := by rw [hq, hs']; exact (Int.ofNat_tmod _ _).symm
  have e3 : IntKind.i64.wrap (2 + (q : Int)) = ((2 + q : Nat) : Int) := by rw [IntKind.wrap_i64]; omega
  have e4 : ¬ (v.size : Int) = 0 := by omega
  have e5 : ((v.size : Int) == 0) = false := by simpa using e4
  have e6 : ¬ v.size = 0 := by omega
  have HA := hid hat; have HQ := hid hq; have HS := hid hs'
  clear h hat hq hs' hql hs hs2 hf hk
  generalize v.size = sz at *
  go_enter Tryz.func40, Tryz.ntmps40
  go_wp2_with fail
  go_still_tail 12, (by kernel_rfl)
  change wpList _ _ _ _ _ w.drew
  go_wp2_with fail
  go_ret
  exact ⟨by rw [HA.out]; rfl, (Below.refl _ _).drew⟩

set_option maxHeartbeats 1000000 in
set_option maxRecDepth 100000 in
theorem wal_Used {w : World} {r p : Nat} {v : Wl} {P : Value} (h : WlIn w r p v P) :
    Calls Tryz.prog 19 #[.pointer (some ⟨r, 0, none⟩)] w fun e w' => e = .returned (.int .i64 v.used) ∧ w = w' := by
  have c4 : w.cell? ⟨r, 4, none⟩ = some (.int .i64 v.used) := h.box.at rfl
  clear h
  go_enter Tryz.func19, Tryz.ntmps19
  go_wp2_with fail
  go_ret
  exact ⟨rfl, rfl⟩
theorem wal_Used_nil (w : World) : Calls Tryz.prog 19 #[.pointer none] w fun e w' => e = .returned (.int .i64 0) ∧ w = w' := by
  go_enter Tryz.func19, Tryz.ntmps19
  go_wp2_with fail
  go_ret
  exact ⟨rfl, rfl⟩

set_option maxHeartbeats 1000000 in
set_option maxRecDepth 100000 in
theorem wal_Next {w : World} {r p : Nat} {v : Wl} {P : Value} (h : WlIn w r p v P) (hs : 1 ≤ v.size) (hs2 : v.size ≤ 1000) (hf : v.from_ ≤ 1000) (hk : v.used ≤ 1000000) :
    Calls Tryz.prog 20 #[.pointer (some ⟨r, 0, none⟩)] w fun e w' => e = .returned (.int .i64 ((v.from_ + v.used) % v.size : Nat)) ∧ Below w.heap.size w w' := by
  have c3 : w.cell? ⟨r, 3, none⟩ = some (.int .i64 v.from_) := h.box.at rfl
  have c1 : w.cell? ⟨r, 1, none⟩ = some (.int .i64 v.size) := h.box.at rfl
  have c4 : w.cell? ⟨r, 4, none⟩ = some (.int .i64 v.used) := h.box.at rfl
  obtain ⟨q, hq⟩ : ∃ q, q = (v.from_ + v.used) % v.size := ⟨_, rfl⟩
  obtain ⟨s, hs'⟩ : ∃ s, s = v.from_ + v.used := ⟨_, rfl⟩
  have e1 : IntKind.i64.wrap ((v.from_ : Int) + (v.used : Int)) = (s : Int) := by rw [IntKind.wrap_i64]; omega
  have e2 : ((s : Nat) : Int).tmod (v.size : Int) = (q : Int) := by rw [hq, hs']; exact (Int.ofNat_tmod _ _).symm
  have e4 : ¬ (v.size : Int) = 0 := by omega
  have e5 : ((v.size : Int) == 0) = false := by simpa using e4
  have e6 : ¬ v.size = 0 := by omega
  rw [← hq]
  have HQ := hid hq; have HS := hid hs'
  clear h hq hs' hs hs2 hf hk
  generalize v.size = sz at *
  go_enter Tryz.func20, Tryz.ntmps20
  go_wp2_with fail
  go_still_tail 14, (by kernel_rfl)
  change wpList _ _ _ _ _ w.drew
  go_wp2_with fail
  go_ret
  exact ⟨rfl, (Below.refl _ _).drew⟩
theorem wal_Next_nil (w : World) : Calls Tryz.prog 20 #[.pointer none] w fun e w' => e = .returned (.int .i64 0) ∧ w = w' := by
  go_enter Tryz.func20, Tryz.ntmps20
  go_wp2_with fail
  go_ret
  exact ⟨rfl, rfl⟩

set_option maxHeartbeats 1000000 in
set_option maxRecDepth 100000 in
theorem wal_Pending {w : World} {r p : Nat} {v : Wl} {P : Value} (h : WlIn w r p v P) (hl : v.pend.length ≤ 1000) :
    Calls Tryz.prog 18 #[.pointer (some ⟨r, 0, none⟩)] w fun e w' => ∃ V, e = .returned V ∧ w'.ownsRow w.heap.size 39 3 V v.pend.length (v.pend.flatMap msgCells) ∧ Below w.heap.size w w' := by
  obtain ⟨A, cap, rfl, _, hr⟩ := h.row
  have c5 : w.cell? ⟨r, 5, none⟩ = some (.slice A v.pend.length cap) := h.box.at rfl
  have HR := hid hr
  clear h hr
  go_enter Tryz.func18, Tryz.ntmps18
  go_wp2_with fail
  refine (Clone_msgs A cap v.pend hl w HR.out).mono ?_; rintro e w1 ⟨V, rfl, ho, hb⟩
  have HO := hid ho; have HB := hid hb
  clear ho hb
  go_wp2_with fail
  go_ret
  exact ⟨V, rfl, HO.out, HB.out⟩
theorem wal_Pending_nil (w : World) : Calls Tryz.prog 18 #[.pointer none] w fun e w' => e = .returned (.slice none 0 0) ∧ w = w' := by
  go_enter Tryz.func18, Tryz.ntmps18
  go_wp2_with fail
  go_ret
  exact ⟨rfl, rfl⟩
end Go.Proofs.YtcklgaenedlbiaaGreat
