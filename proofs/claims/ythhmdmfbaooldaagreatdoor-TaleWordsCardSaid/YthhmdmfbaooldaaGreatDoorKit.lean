/-
  Small laws of no program: rows of one-cell values, bytes of strings, worlds that only grow.
-/
import Derived.WalkKit
import Derived.WalkSpells
import Derived.WalkLawsBesides
import Derived.Deep.LoopGhost
import Derived.Deep.QuietTactic
import Derived.BigQuiet
import Derived.Deep.RegionWith
import Derived.Deep.RegionHeld3
import Derived.Lib.ConvBytes
import Derived.KernelRfl
namespace Go.Proofs.YthhmdmfbaooldaaGreatDoor
open Go.RowKit

theorem hid {p : Prop} (h : p) : Hid p := h

/-- The cells of a row of values that stand one behind the other. -/
def Row (w : World) (A : Option Addr) (vs : List Value) : Prop :=
  vs = [] ∨ ∃ b off, A = some ⟨b, off, none⟩ ∧ b < w.heap.size ∧ ∀ i v, vs[i]? = some v → w.cell? ⟨b, off + i, none⟩ = some v

theorem Row.nil (w : World) (A : Option Addr) : Row w A [] := .inl rfl

theorem Row.below {w w' : World} {A : Option Addr} {vs : List Value} (h : Row w A vs) (hb : Below w.heap.size w w') : Row w' A vs := by
  rcases h with h | ⟨b, off, rfl, hlt, h⟩
  · exact .inl h
  · exact .inr ⟨b, off, rfl, Nat.lt_of_lt_of_le hlt hb.size, fun i v hv => by rw [hb.cell (p := ⟨b, off + i, none⟩) hlt]; exact h i v hv⟩

theorem Row.belowN {w w' : World} {A : Option Addr} {vs : List Value} {B : Nat} (h : Row w A vs) (hb : Below B w w') (hB : B = w.heap.size) : Row w' A vs := by
  subst hB; exact h.below hb

theorem Row.take {w : World} {A : Option Addr} {vs : List Value} (h : Row w A vs) (n : Nat) : Row w A (vs.take n) := by
  rcases h with rfl | ⟨b, off, rfl, hlt, h⟩
  · exact .inl (by simp)
  · refine .inr ⟨b, off, rfl, hlt, fun i v hv => h i v ?_⟩
    rw [List.getElem?_take] at hv
    split at hv
    · exact hv
    · cases hv

/-- Ending equations. -/
theorem ret_int {k : IntKind} {a b : Int} (h : a = b) : Ending.returned (.int k a) = .returned (.int k b) := by rw [h]
theorem ret_bool {a b : Bool} (h : a = b) : Ending.returned (.bool a) = .returned (.bool b) := by rw [h]
theorem ret_str {a b : ByteArray} (h : a = b) : Ending.returned (.string a) = .returned (.string b) := by rw [h]

theorem bytesWorld_below (w : World) (e : TypeId) (s : ByteArray) : Below w.heap.size w (Lib.bytesWorld w e s) := by
  refine ⟨?_, ?_, ?_, ?_, fun k hk => Lib.bytesWorld_at_old w e s k hk⟩
  · unfold Lib.bytesWorld World.freeze; split <;> rfl
  · unfold Lib.bytesWorld World.freeze; split <;> rfl
  · unfold Lib.bytesWorld World.freeze; split <;> rfl
  · rw [Lib.bytesWorld_size]; omega

theorem data_getD (s : ByteArray) (k : Nat) (h : k < s.size) : s.data.toList.getD k 0 = s[k] := by
  have h' : k < s.data.toList.length := by simpa using h
  rw [List.getD_eq_getElem?_getD, List.getElem?_eq_getElem h']
  rfl

theorem take_snoc (s : ByteArray) (k : Nat) (h : k < s.size) : s.data.toList.take (k + 1) = s.data.toList.take k ++ [s.data.toList.getD k 0] := by
  rw [List.take_succ_eq_append_getElem (by simpa using h), data_getD s k h]; rfl

theorem take_all (s : ByteArray) : s.data.toList.take s.size = s.data.toList := List.take_of_length_le (by simp)

/-- what a world that grew still has -/
theorem bcell {W w1 : World} {B : Nat} (hb : Below B W w1) : (∀ b o, b < B → w1.cell? ⟨b, o, none⟩ = W.cell? ⟨b, o, none⟩) ∧ (∀ b o, b < B → w1.frozen? ⟨b, o, none⟩ = W.frozen? ⟨b, o, none⟩) :=
  ⟨fun b o h => hb.cell (p := ⟨b, o, none⟩) h, fun b o h => hb.frozen (p := ⟨b, o, none⟩) h⟩

section laws
variable {P : Program} {ops : Array Oper} {rest : List Oper} {o : Oper} {a : Act} {w : World} {Q : Exit → Act → World → Prop}

/-- a gate: the operation is that one -/
theorem at_op (X : Op) (_h : o.op = X) (k : wpList P ops Q (o :: rest) a w) : wpList P ops Q (o :: rest) a w := k

/-- a whole row stored into a block that was laid: the world behind it by what it has -/
theorem wpList_store_row_k (hgd : o.guard = none) (ty : TypeId) (x y : Operand) (ho : o.op = .store ty x y)
    (g : Nat) (cells : Array Value) (hx : a.eval x = .pointer (some ⟨g, 0, none⟩)) (hy : a.eval y = .agg cells)
    (t : TypeId) (old : Array Value) (hg : w.heap[g]? = some (.cells old t (0, 0))) (hi : (P.info? ty).map (·.size) = some cells.size)
    (hold : old.size = cells.size) (h1 : cells.all (·.oneCell') = true)
    (h : ∀ w', w'.heap[g]? = some (.cells cells t (0, 0)) → (∀ B, B ≤ g → Below B w w') → w'.heap.size = w.heap.size → wpList P ops Q rest (a.put o.dst undef) w') : wpList P ops Q (o :: rest) a w := by
  refine wpList_store_row hgd ty x y ho g cells hx hy t old hg hi hold h1 (h _ (setRow_heap w g old cells t _ hg) ?_ (by simp))
  intro B hB
  exact ⟨rfl, rfl, rfl, by simp, fun k hk => setRow_other w g k _ (by omega)⟩

end laws

theorem below_alloc (w : World) (o : Obj) : Below w.heap.size w (w.alloc o) := (Below.refl _ w).alloc (Nat.le_refl _) o

/-- A block of cells, wholly known, none of them frozen. -/
def Blk (w : World) (g : Nat) (e : TypeId) (vs : List Value) : Prop := ∃ fr, w.heap[g]? = some (.cells vs.toArray e fr) ∧ (fr = (0, 0) ∨ vs.length ≤ fr.1)

theorem Blk.lt {w : World} {g : Nat} {e : TypeId} {vs : List Value} (h : Blk w g e vs) : g < w.heap.size := by
  obtain ⟨fr, h, _⟩ := h
  exact (Array.getElem?_eq_some_iff.1 h).1
theorem Blk.cell {w : World} {g : Nat} {e : TypeId} {vs : List Value} (h : Blk w g e vs) (i : Nat) : w.cell? ⟨g, i, none⟩ = vs[i]? := by
  obtain ⟨fr, h, _⟩ := h
  rw [cell_of_row w g i _ e _ h]; simp
theorem Blk.at {w : World} {g : Nat} {e : TypeId} {vs : List Value} (h : Blk w g e vs) {i : Nat} {v : Value} (hv : vs[i]? = some v) : w.cell? ⟨g, i, none⟩ = some v := (h.cell i).trans hv
theorem Blk.free {w : World} {g : Nat} {e : TypeId} {vs : List Value} (h : Blk w g e vs) {i : Nat} (hi : i < vs.length) : w.frozen? ⟨g, i, none⟩ = false := by
  obtain ⟨⟨lo, hi'⟩, h, hf⟩ := h
  simp only [World.frozen?, h]
  rcases hf with hf | hf
  · simp only [Prod.mk.injEq] at hf
    simp [hf.1, hf.2]
  · have : ¬ lo ≤ i := by simp only at hf; omega
    simp [this]
theorem Blk.set {w : World} {g : Nat} {e : TypeId} {vs : List Value} (h : Blk w g e vs) (i : Nat) (v : Value) : Blk (w.setCell ⟨g, i, none⟩ v) g e (vs.set i v) := by
  obtain ⟨fr, h, hf⟩ := h
  refine ⟨fr, ?_, by rwa [List.length_set]⟩
  simp only [World.setCell, Array.getElem?_modify, if_true, h, Option.map_some]
  simp
theorem Blk.other {w : World} {g : Nat} {e : TypeId} {vs : List Value} (h : Blk w g e vs) (a : Addr) (v : Value) (hne : g ≠ a.block) : Blk (w.setCell a v) g e vs := by
  obtain ⟨fr, h, hf⟩ := h
  exact ⟨fr, by rw [heap_setCell_other w a g v hne]; exact h, hf⟩
theorem Blk.below {w w' : World} {g B : Nat} {e : TypeId} {vs : List Value} (h : Blk w g e vs) (hb : Below B w w') (hg : g < B) : Blk w' g e vs := by
  obtain ⟨fr, h, hf⟩ := h
  exact ⟨fr, by rw [hb.block g hg]; exact h, hf⟩
theorem Blk.belowS {w w' : World} {g : Nat} {e : TypeId} {vs : List Value} (h : Blk w g e vs) (hb : Below w.heap.size w w') : Blk w' g e vs := h.below hb h.lt
theorem Blk.alloc {w : World} {g : Nat} {e : TypeId} {vs : List Value} (h : Blk w g e vs) (o : Obj) : Blk (w.alloc o) g e vs := by
  have hl := h.lt
  obtain ⟨fr, h, hf⟩ := h
  exact ⟨fr, (Below.heap_alloc w o g hl).trans h, hf⟩
theorem Blk.drew {w : World} {g : Nat} {e : TypeId} {vs : List Value} (h : Blk w g e vs) : Blk w.drew g e vs := h
theorem Blk.new (w : World) (cs : Array Value) (e : TypeId) : Blk (w.alloc (.cells cs e)) w.heap.size e cs.toList := by
  exact ⟨(0, 0), by rw [heap_alloc_new], .inl rfl⟩
theorem Blk.row {w : World} {g : Nat} {e : TypeId} {vs : List Value} (h : Blk w g e vs) : Row w (some ⟨g, 0, none⟩) vs :=
  .inr ⟨g, 0, rfl, h.lt, fun i v hv => by rw [Nat.zero_add]; exact h.at hv⟩

theorem row_new (w : World) (cs : Array Value) (e : TypeId) : Row (w.alloc (.cells cs e)) (some ⟨w.heap.size, 0, none⟩) cs.toList := (Blk.new w cs e).row
theorem row_new2 (w : World) (o : Obj) (cs : Array Value) (e : TypeId) : Row ((w.alloc o).alloc (.cells cs e)) (some ⟨w.heap.size + 1, 0, none⟩) cs.toList := by
  have h := row_new (w.alloc o) cs e
  rwa [show (w.alloc o).heap.size = w.heap.size + 1 by simp] at h
theorem row_new3 (w : World) (o o' : Obj) (cs : Array Value) (e : TypeId) : Row (((w.alloc o).alloc o').alloc (.cells cs e)) (some ⟨w.heap.size + 1 + 1, 0, none⟩) cs.toList := by
  have h := row_new2 (w.alloc o) o' cs e
  rwa [show (w.alloc o).heap.size = w.heap.size + 1 by simp] at h
theorem row_new_d (w : World) (cs : Array Value) (e : TypeId) : Row (w.alloc (.cells cs e)).drew (some ⟨w.heap.size, 0, none⟩) cs.toList := row_new w cs e

/-- a list of bytes as cells -/
def u8s (l : List UInt8) : List Value := l.map fun b => Value.int .u8 b.toNat
theorem u8s_at {l : List UInt8} {i : Nat} (h : i < l.length) : (u8s l)[i]? = some (.int .u8 (l[i].toNat : Int)) := by simp [u8s, h]
theorem wf_u32 {c : Int} (h : (Lit.int .u32 c).wf = true) : 0 ≤ c ∧ c < 4294967296 := by
  have : IntKind.u32.min ≤ c ∧ c ≤ IntKind.u32.max := by simpa [Lit.wf] using h
  have e1 : IntKind.u32.min = 0 := by decide
  have e2 : IntKind.u32.max = 4294967295 := by decide
  omega
theorem wf_i64 {c : Int} (h : (Lit.int .i64 c).wf = true) : -9223372036854775808 ≤ c ∧ c ≤ 9223372036854775807 := by
  have : IntKind.i64.min ≤ c ∧ c ≤ IntKind.i64.max := by simpa [Lit.wf] using h
  have e1 : IntKind.i64.min = -9223372036854775808 := by decide
  have e2 : IntKind.i64.max = 9223372036854775807 := by decide
  omega
theorem wf_u64 {c : Int} (h : (Lit.int .u64 c).wf = true) : 0 ≤ c ∧ c ≤ 18446744073709551615 := by
  have : IntKind.u64.min ≤ c ∧ c ≤ IntKind.u64.max := by simpa [Lit.wf] using h
  have e1 : IntKind.u64.min = 0 := by decide
  have e2 : IntKind.u64.max = 18446744073709551615 := by decide
  omega
theorem wf_u8 {c : Int} (h : (Lit.int .u8 c).wf = true) : 0 ≤ c ∧ c ≤ 255 := by
  have : IntKind.u8.min ≤ c ∧ c ≤ IntKind.u8.max := by simpa [Lit.wf] using h
  have e1 : IntKind.u8.min = 0 := by decide
  have e2 : IntKind.u8.max = 255 := by decide
  omega

theorem u8s_set (l : List UInt8) (z : List Value) (i : Nat) (y : UInt8) (h : i < l.length) : (u8s l ++ z).set i (.int .u8 (y.toNat : Int)) = u8s (l.set i y) ++ z := by
  rw [List.set_append_left _ _ (by simpa [u8s] using h)]
  congr 1
  unfold u8s
  rw [List.map_set]

/-- 'uint(a) % uint(n)' -/
theorem umod (a n : Int) (hn : 0 < n) : ∃ i : Nat, (IntKind.u64.wrap a).tmod n = (i : Int) ∧ (i : Int) < n := by
  have h0 : 0 ≤ IntKind.u64.wrap a := by rw [IntKind.wrap_u64]; omega
  rw [Int.tmod_eq_emod_of_nonneg h0]
  refine ⟨(IntKind.u64.wrap a % n).toNat, ?_, ?_⟩
  · have := Int.emod_nonneg (IntKind.u64.wrap a) (show n ≠ 0 by omega); omega
  · have := Int.emod_lt_of_pos (IntKind.u64.wrap a) hn
    have := Int.emod_nonneg (IntKind.u64.wrap a) (show n ≠ 0 by omega); omega

/-- one step more, from a world that was reached -/
theorem bt {w a b : World} (h : Below w.heap.size w a) (k : Below a.heap.size a b) : Below w.heap.size w b := h.trans (k.mono h.size)
theorem ba {w a b : World} {o : Obj} (h : Below w.heap.size w a) (k : Below (a.alloc o).heap.size (a.alloc o) b) : Below w.heap.size w b := bt (bt h (below_alloc a o)) k
theorem bd {w a b : World} (h : Below w.heap.size w a) (k : Below a.drew.heap.size a.drew b) : Below w.heap.size w b := h.trans (Below.mono (show Below a.drew.heap.size a b from ⟨k.os, k.tape, k.output, k.size, k.block⟩) h.size)

/-- where the walk is to stand -/
def Stopped (p : Prop) : Prop := p
theorem Stopped.go {p : Prop} (h : Stopped p) : p := h
theorem Stopped.mk {p : Prop} (h : p) : Stopped p := h

/-- 'Below', behind a name of its own -/
def Kept (w wx : World) : Prop := Below w.heap.size w wx
theorem Kept.go {w a b : World} (h : Kept w a) (k : Below a.heap.size a b) : Kept w b := bt h k
theorem Kept.alloc {w a : World} (h : Kept w a) (o : Obj) : Kept w (a.alloc o) := bt h (below_alloc a o)
theorem Kept.drew {w a : World} (h : Kept w a) : Kept w a.drew := Below.drew h

/-- All blocks but those of F are as they were; none has gone. -/
structure Keeps (F : List Nat) (w w' : World) : Prop where
  os : w'.os = w.os
  tape : w'.tape = w.tape
  output : w'.output = w.output
  size : w.heap.size ≤ w'.heap.size
  block : ∀ k, k < w.heap.size → k ∉ F → w'.heap[k]? = w.heap[k]?

theorem Keeps.refl (F : List Nat) (w : World) : Keeps F w w := ⟨rfl, rfl, rfl, Nat.le_refl _, fun _ _ _ => rfl⟩
theorem Keeps.trans {F : List Nat} {a b c : World} (h : Keeps F a b) (k : Keeps F b c) : Keeps F a c :=
  ⟨k.os.trans h.os, k.tape.trans h.tape, k.output.trans h.output, Nat.le_trans h.size k.size, fun i hi hf => (k.block i (Nat.lt_of_lt_of_le hi h.size) hf).trans (h.block i hi hf)⟩
theorem Keeps.mono {F G : List Nat} {w w' : World} (h : Keeps F w w') (hs : ∀ k, k ∈ F → k ∈ G) : Keeps G w w' := ⟨h.os, h.tape, h.output, h.size, fun k hk hf => h.block k hk (fun hm => hf (hs k hm))⟩
/-- what may be written is new, or among F -/
theorem Keeps.anew {F G : List Nat} {w w' : World} (h : Keeps F w w') (hs : ∀ k, k ∈ F → k ∈ G ∨ w.heap.size ≤ k) : Keeps G w w' :=
  ⟨h.os, h.tape, h.output, h.size, fun k hk hf => h.block k hk (fun hm => by rcases hs k hm with h | h; exact hf h; omega)⟩
theorem Keeps.go {F G : List Nat} {w a b : World} (h : Keeps F w a) (k : Keeps G a b) (hs : ∀ x, x ∈ G → x ∈ F ∨ w.heap.size ≤ x) : Keeps F w b :=
  ⟨k.os.trans h.os, k.tape.trans h.tape, k.output.trans h.output, Nat.le_trans h.size k.size, fun i hi hf => (k.block i (Nat.lt_of_lt_of_le hi h.size) (fun hm => by rcases hs i hm with h | h; exact hf h; omega)).trans (h.block i hi hf)⟩
theorem Keeps.of {F : List Nat} {w w' : World} (h : Below w.heap.size w w') : Keeps F w w' := ⟨h.os, h.tape, h.output, h.size, fun k hk _ => h.block k hk⟩
theorem Keeps.below {F : List Nat} {w a w' : World} (h : Below w.heap.size w a) (k : Keeps F a w') (hF : ∀ x, x ∈ F → w.heap.size ≤ x) : Below w.heap.size w w' :=
  ⟨k.os.trans h.os, k.tape.trans h.tape, k.output.trans h.output, Nat.le_trans h.size k.size, fun i hi => (k.block i (Nat.lt_of_lt_of_le hi h.size) (fun hm => by have := hF i hm; omega)).trans (h.block i hi)⟩
theorem Keeps.below1 {p : Nat} {w a w' : World} (h : Below w.heap.size w a) (k : Keeps [p] a w') (hp : w.heap.size ≤ p) : Below w.heap.size w w' :=
  Keeps.below h k (fun x hx => by simp at hx; omega)
theorem Keeps.toBelow {w w' : World} (k : Keeps [] w w') : Below w.heap.size w w' := ⟨k.os, k.tape, k.output, k.size, fun i hi => k.block i hi (by simp)⟩
theorem Keeps.setCell {F : List Nat} {w a : World} (h : Keeps F w a) {p : Addr} (hp : p.block ∈ F) (u : Value) : Keeps F w (a.setCell p u) :=
  h.trans ⟨rfl, rfl, rfl, by simp [World.setCell], fun k _ hk => Below.heap_setCell _ _ _ _ (fun e => hk (e ▸ hp))⟩
theorem Keeps.alloc {F : List Nat} {w a : World} (h : Keeps F w a) (o : Obj) : Keeps F w (a.alloc o) := h.trans (Keeps.of (below_alloc a o))
theorem Keeps.drew {F : List Nat} {w a : World} (h : Keeps F w a) : Keeps F w a.drew := ⟨h.os, h.tape, h.output, h.size, h.block⟩
theorem Keeps.cell {F : List Nat} {w w' : World} (h : Keeps F w w') {b o : Nat} (hb : b < w.heap.size) (hf : b ∉ F) : w'.cell? ⟨b, o, none⟩ = w.cell? ⟨b, o, none⟩ := by
  simp only [World.cell?, h.block b hb hf]
theorem Blk.keeps {F : List Nat} {w w' : World} {g : Nat} {e : TypeId} {vs : List Value} (h : Blk w g e vs) (hk : Keeps F w w') (hg : g ∉ F) : Blk w' g e vs := by
  have hl := h.lt
  obtain ⟨fr, h, hf⟩ := h
  exact ⟨fr, by rw [hk.block g hl hg]; exact h, hf⟩
theorem Blk.ne {w : World} {g g' : Nat} {e e' : TypeId} {vs vs' : List Value} (h : Blk w g e vs) (h' : Blk w g' e' vs') (he : e ≠ e') : g ≠ g' := by
  rintro rfl
  obtain ⟨_, h, _⟩ := h
  obtain ⟨_, h', _⟩ := h'
  rw [h] at h'
  simp only [Option.some.injEq, Obj.cells.injEq] at h'
  exact he h'.2.1

section laws2
variable {P : Program} {ops : Array Oper} {rest : List Oper} {o : Oper} {a : Act} {w : World} {Q : Exit → Act → World → Prop}

/-- 'make([]T, n)', T of one cell -/
theorem wpList_make_k (hg : o.guard = none) (l c : Operand) (t : TypeId) (hop : o.op = Op.makeSlice t l c)
    (e : TypeId) (i : TypeInfo) (z : Value) (h1 : P.underlying t = some (.slice e)) (h2 : P.info? e = some i) (h3 : i.zero = some z) (h4 : i.size = 1) (hz1 : z.cells = #[z])
    (kl kc : IntKind) (L C : Int) (n : Nat) (hl : a.eval l = .int kl L) (hc : a.eval c = .int kc C) (hL : L = (n : Int)) (hC : C = (n : Int)) (b2 : (i.bytes : Int) * (n : Int) ≤ 281474976710656) (b3 : (n : Int) ≤ 9223372036854775807)
    (hK : ∀ w', Blk w' w.heap.size e (List.replicate n z) → Below w.heap.size w w' → w'.heap.size = w.heap.size + 1 → wpList P ops Q rest (a.put o.dst (.slice (some ⟨w.heap.size, 0, none⟩) n n)) w') :
    wpList P ops Q (o :: rest) a w := by
  refine wpList_plain hg fun K hK' => ?_
  have hr := run_make (P := P) w t e i z h1 h2 h3 kl kc n n (by omega) (Int.le_refl _) b2 b3
  simp only [Int.toNat_natCast, h4, Nat.mul_one, hz1] at hr
  subst hL hC
  unfold Oper.wp
  simp only [execOp, hop, hl, hc, Sem.run_bind, hr, Result.andThen, Sem.run_pure]
  refine hK' _ _ (hK _ ?_ (below_alloc _ _) (by simp))
  have := Blk.new w (madeCells #[z] n) e
  rwa [toList_madeCells_one] at this

/-- 'string(b)' of a row of bytes -/
theorem wpList_string (hg : o.guard = none) (src dst e : TypeId) (x : Operand) (ho : o.op = .convert src dst x) (A : Addr) (n cap : Nat) (l : List UInt8) (hx : a.eval x = .slice (some A) n cap) (hn : n = l.length)
    (hs : P.underlying src = some (.slice e)) (he : P.underlying e = some (.int .u8)) (hd : P.underlying dst = some .string)
    (hc : ∀ j (hj : j < l.length), w.cell? (A.add j) = some (.int .u8 (l[j].toNat : Int)))
    (h : wpList P ops Q rest (a.put o.dst (.string ⟨l.toArray⟩)) w) : wpList P ops Q (o :: rest) a w := by
  subst hn
  refine wpList_plain hg fun K hK => ?_
  unfold Oper.wp
  simp only [execOp, ho, hx, Sem.run_bind, run_convert_bytes_back w src dst e A cap l hs he hd hc, Result.andThen, Sem.run_pure]
  exact hK _ _ h

/-- a value laid into a block of its own -/
theorem wpList_box (hg : o.guard = none) (cs : Array Value) (t : TypeId)
    (hrun : (execOp a.eval o).run P w = .ok (.value (.pointer (some ⟨w.heap.size, 0, none⟩))) (w.alloc (.cells cs t)))
    (h : ∀ g w1, g = w.heap.size → Blk w1 g t cs.toList → Below w.heap.size w w1 → w1.heap.size = w.heap.size + 1 → wpList P ops Q rest (a.put o.dst (.pointer (some ⟨g, 0, none⟩))) w1) : wpList P ops Q (o :: rest) a w := by
  refine wpList_plain hg fun K hK => ?_
  unfold Oper.wp
  simp only [hrun, Oper.upon]
  exact hK _ _ (h _ _ rfl (Blk.new w cs t) (below_alloc _ _) (by simp))

/-- '[]byte(s)' -/
theorem wpList_bytes (hgd : o.guard = none) (src dst e : TypeId) (x : Operand) (ho : o.op = .convert src dst x) (s : ByteArray) (hx : a.eval x = .string s)
    (hs : P.underlying src = some .string) (hd : P.underlying dst = some (.slice e)) (he : P.underlying e = some (.int .u8))
    (h : ∀ c w', Below w.heap.size w w' → w'.heap.size = w.heap.size + 1 → s.size ≤ c → Blk w' w.heap.size e (u8s s.data.toList ++ List.replicate (c - s.size) (.int .u8 0)) →
      wpList P ops Q rest (a.put o.dst (.slice (some ⟨w.heap.size, 0, none⟩) s.size c)) w') : wpList P ops Q (o :: rest) a w := by
  refine wpList_plain hgd fun K hK => ?_
  unfold Oper.wp
  simp only [execOp, ho, hx, Sem.run_bind, Lib.run_convert_string_bytes w src dst e s hs hd he, Result.andThen, Sem.run_pure]
  refine hK _ _ (h _ _ (bytesWorld_below w e s) (Lib.bytesWorld_size w e s) (grownCap_ge _ _ _ _) ⟨((Lib.bytesCells w e s).size, (Lib.bytesCells w e s).size + 1), ?_, ?_⟩)
  · rw [Lib.bytesWorld_at_new]
    congr 2
    apply Array.ext'
    simp [Lib.bytesCells, u8s]
  · right
    simp [Lib.bytesCells, u8s]
theorem bytes_at {w : World} {g : Nat} {e : TypeId} {s : ByteArray} {vs : List Value} (h : Blk w g e (u8s s.data.toList ++ vs)) {j : Nat} (hj : j < s.size) : w.cell? ⟨g, j, none⟩ = some (.int .u8 (s.data.toList.getD j 0).toNat) := by
  rw [h.cell j, List.getElem?_append_left (by simpa [u8s] using hj), u8s_at (by simpa using hj)]
  congr 3
  simp [List.getD_eq_getElem?_getD, hj]
end laws2
theorem Blk.bytes {w : World} {g : Nat} {e : TypeId} {l : List UInt8} {vs : List Value} (h : Blk w g e (u8s l ++ vs)) : ∀ j (hj : j < l.length), w.cell? ((⟨g, 0, none⟩ : Addr).add j) = some (.int .u8 (l[j].toNat : Int)) := by
  intro j hj
  have e : (⟨g, 0, none⟩ : Addr).add j = ⟨g, j, none⟩ := by unfold Addr.add; split <;> simp_all
  rw [e, h.cell j, List.getElem?_append_left (by simpa [u8s] using hj)]
  exact u8s_at hj
theorem Blk.bytes' {w : World} {g : Nat} {e : TypeId} {l : List UInt8} (h : Blk w g e (u8s l)) : ∀ j (hj : j < l.length), w.cell? ((⟨g, 0, none⟩ : Addr).add j) = some (.int .u8 (l[j].toNat : Int)) :=
  Blk.bytes (vs := []) (by rwa [List.append_nil])

/-- rows of one-cell values -/
theorem row_cell {w : World} {A : Option Addr} {vs : List Value} (h : Row w A vs) (hne : vs ≠ []) : ∃ b off, A = some ⟨b, off, none⟩ ∧ b < w.heap.size ∧ ∀ i v, vs[i]? = some v → w.cell? ⟨b, off + i, none⟩ = some v := by
  rcases h with h | h
  · exact absurd h hne
  · exact h

def strs (l : List ByteArray) : List Value := l.map Value.string
def i64s (l : List Int) : List Value := l.map (Value.int .i64)

end Go.Proofs.YthhmdmfbaooldaaGreatDoor
