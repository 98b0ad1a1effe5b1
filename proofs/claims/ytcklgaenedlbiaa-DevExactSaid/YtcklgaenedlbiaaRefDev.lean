/-
  The document's device (grangerref03): what a world holds of it; its deeds, walked.
-/
import Derived.Test.YtcklgaenedlbiaaRefDevP
import Derived.Test.YtcklgaenedlbiaaDevLaws
namespace Go.Proofs.Ytcklgaenedlbiaa
open Go.RowKit

def r3Cells (d : Dv) (L : Value) (KA : Option Addr) (kc : Nat) : List Value := [.string ⟨d.safe.toArray⟩, L, .bool (!d.off), .int .i64 d.fuse, .slice KA d.keep.length kc, .int .i64 d.rd, .int .i64 d.wr, .int .i64 d.fl]
/-- its box and its writes -/
structure R3In (w : World) (q : Nat) (d : Dv) (L : Value) (KA : Option Addr) (kc : Nat) : Prop where
  box : Blk w q 43 (r3Cells d L KA kc)
  loose : w.ownsRowF 0 50 2 L d.loose.length (d.loose.flatMap wrCells)
/-- the document's device at block q, of the blocks G alone, all of them new; what its fuse keeps stands in an elder row -/
structure R3 (w0 w : World) (q : Nat) (d : Dv) (G : List Nat) : Prop where
  bel : Below w0.heap.size w0 w
  own : ∀ k, k ∈ G → w0.heap.size ≤ k ∧ k < w.heap.size
  mem : q ∈ G
  inn : ∃ L KA kc, R3In w q d L KA kc ∧ Row w0 KA (bools d.keep) ∧ ∀ k, L.ownBlock = some k → k ∈ G
theorem R3In.keeps {w w' : World} {q : Nat} {d : Dv} {L : Value} {KA : Option Addr} {kc : Nat} {F : List Nat} (h : R3In w q d L KA kc) (hk : Keeps F w w') (hq : q ∉ F) (hL : ∀ k, L.ownBlock = some k → k ∉ F) : R3In w' q d L KA kc :=
  ⟨h.box.keeps hk hq, ownsRowF_keeps h.loose hk hL⟩
theorem R3.keeps {w0 w w' : World} {q : Nat} {d : Dv} {G F : List Nat} (h : R3 w0 w q d G) (hk : Keeps F w w') (hF : ∀ k, k ∈ F → w0.heap.size ≤ k) (hd : ∀ k, k ∈ G → k ∉ F) : R3 w0 w' q d G := by
  obtain ⟨L, KA, kc, h1, h2, h3⟩ := h.inn
  exact ⟨Keeps.below h.bel hk hF, fun k hk' => ⟨(h.own k hk').1, Nat.lt_of_lt_of_le (h.own k hk').2 hk.size⟩, h.mem, L, KA, kc, h1.keeps hk (hd _ h.mem) (fun k hk => hd _ (h3 k hk)), h2, h3⟩
theorem R3.below {w0 w w' : World} {q : Nat} {d : Dv} {G : List Nat} (h : R3 w0 w q d G) (hb : Below w.heap.size w w') : R3 w0 w' q d G := h.keeps (F := []) (Keeps.of hb) (by simp) (by simp)
theorem R3In.free {w : World} {q : Nat} {d : Dv} {L : Value} {KA : Option Addr} {kc : Nat} (h : R3In w q d L KA kc) (i : Nat) (hi : i < 8) : w.frozen? ⟨q, i, none⟩ = false := h.box.free hi
theorem R3In.put {w : World} {q : Nat} {d d' : Dv} {L : Value} {KA : Option Addr} {kc : Nat} (h : R3In w q d L KA kc) (i : Nat) (u : Value) (hc : (r3Cells d L KA kc).set i u = r3Cells d' L KA kc) (h2 : d'.loose = d.loose) : R3In (w.setCell ⟨q, i, none⟩ u) q d' L KA kc :=
  ⟨hc ▸ h.box.set i u, by rw [h2]; exact ownsRowF_setCell h.loose h.box (by decide)⟩
theorem R3In.putL {w : World} {q : Nat} {d : Dv} {L L' : Value} {KA : Option Addr} {kc : Nat} {l : List (Nat × ByteArray)} (h : R3In w q d L KA kc) (hl : w.ownsRowF 0 50 2 L' l.length (l.flatMap wrCells)) : R3In (w.setCell ⟨q, 1, none⟩ L') q { d with loose := l } L' KA kc :=
  ⟨h.box.set 1 L', ownsRowF_setCell hl h.box (by decide)⟩
theorem own_row {w : World} {e : TypeId} {size n cap : Nat} {A : Option Addr} {xs : List Value} (h : w.ownsRowF 0 e size (.slice A n cap) n xs) : Row w A xs := by
  obtain ⟨A', cap', e, hr⟩ := ownsRowF_row h
  injection e with e1 _ _
  rw [e1]; exact hr

def r3new (s : ByteArray) : Dv := ⟨s.data.toList, [], false, -1, [], 0, 0, 0⟩
set_option maxHeartbeats 1000000 in
set_option maxRecDepth 100000 in
theorem r3_New (w0 w : World) (hb : Below w0.heap.size w0 w) (s : ByteArray) :
    Calls Try.prog 14 #[.string s] w fun e w' => ∃ q G, e = .returned (.pointer (some ⟨q, 0, none⟩)) ∧ R3 w0 w' q (r3new s) G ∧ Below w.heap.size w w' ∧ ∀ k, k ∈ G → w.heap.size ≤ k := by
  have hB := Blk.new w #[.string s, .slice none 0 0, .bool true, .int .i64 (-1), .slice none 0 0, .int .i64 0, .int .i64 0, .int .i64 0] 43
  have hA := below_alloc w (.cells #[.string s, .slice none 0 0, .bool true, .int .i64 (-1), .slice none 0 0, .int .i64 0, .int .i64 0, .int .i64 0] 43)
  have HB := hid hB; have HA := hid hA; have HW := hid hb
  clear hB hA hb
  go_enter Try.func14, Try.ntmps14
  go_wp2_with fail
  go_ret
  have hz := HW.out.size
  refine ⟨w.heap.size, rfl, [w.heap.size], ⟨bt HW.out HA.out, fun k hk => ?_, by simp, .slice none 0 0, none, 0, ⟨HB.out, World.ownsRowF_nil _ _ _ _⟩, .inl rfl, fun k hk => by cases hk⟩, HA.out, fun k hk => by simp at hk; omega⟩
  simp at hk
  subst hk
  exact ⟨hz, HB.out.lt⟩

set_option maxHeartbeats 1000000 in
set_option maxRecDepth 100000 in
theorem r3_lay (w : World) (l : List UInt8) (o : Nat) (t : ByteArray) (hf : o + t.size ≤ l.length) (hl : l.length ≤ 140737488351232) :
    Calls Try.prog 59 #[.string ⟨l.toArray⟩, .int .i64 o, .string t] w fun e w' => e = .returned (.string ⟨(over l o t.data.toList).toArray⟩) ∧ Below w.heap.size w w' := by
  obtain ⟨s, hs⟩ : ∃ s : ByteArray, s = ⟨l.toArray⟩ := ⟨_, rfl⟩
  have hsz : s.size = l.length := by rw [hs]; exact List.size_toArray ..
  have hsl : s.data.toList = l := by rw [hs]
  obtain ⟨r, hr⟩ : ∃ r, r = o + t.size := ⟨_, rfl⟩
  have w1 : IntKind.i64.wrap ((o : Int) + (t.size : Int)) = (r : Int) := by rw [IntKind.wrap_i64]; omega
  have b0 : (0 : Int) ≤ (o : Int) := by omega
  have b1 : (o : Int) ≤ (s.size : Int) := by omega
  have b2 : (0 : Int) ≤ (r : Int) := by omega
  have b3 : (r : Int) ≤ (s.size : Int) := by omega
  have he : (s.extract 0 o ++ t) ++ s.extract r s.size = (⟨(over l o t.data.toList).toArray⟩ : ByteArray) := by
    apply ByteArray.ext
    apply Array.toList_inj.1
    rw [ByteArray.data_append, ByteArray.data_append, Array.toList_append, Array.toList_append, Lib.extract_data, Lib.extract_data, hsl]
    unfold over
    have ht : t.data.toList.length = t.size := by simp
    rw [ht, ← hr, List.drop_zero, Nat.sub_zero, List.take_of_length_le (l := l.drop r) (by rw [List.length_drop]; omega)]
  obtain ⟨x, hx⟩ : ∃ x, x = s.extract 0 o := ⟨_, rfl⟩
  obtain ⟨y, hy⟩ : ∃ y, y = s.extract r s.size := ⟨_, rfl⟩
  have z1 : x.size = o := by rw [hx, ByteArray.size_extract]; omega
  have z2 : y.size = s.size - r := by rw [hy, ByteArray.size_extract]; omega
  rw [← hx, ← hy] at he
  have s1 : ¬ (9223372036854775807 < x.size + t.size) := by omega
  have s2 : ¬ (9223372036854775807 < x.size + t.size + y.size) := by omega
  have HE := hid he
  rw [← hs]
  replace hx := hx.symm
  replace hy := hy.symm
  clear hs hsz hsl hr he hf hl z1 z2
  go_enter Try.func59, Try.ntmps59
  go_wp2_with fail
  go_still_tail 12, (by kernel_rfl)
  change wpList _ _ _ _ _ w.drew
  go_wp2_with fail
  go_ret
  exact ⟨ret_str HE.out, by first | exact Below.refl _ _ | exact (Below.refl _ _).drew⟩
end Go.Proofs.Ytcklgaenedlbiaa
