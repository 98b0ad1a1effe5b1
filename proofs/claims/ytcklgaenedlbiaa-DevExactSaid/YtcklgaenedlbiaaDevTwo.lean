/-
  Two devices side by side: the program's and the document's; and boxes beside them.
-/
import Derived.Test.YtcklgaenedlbiaaRefDevMore
import Derived.Test.YtcklgaenedlbiaaDevAll
import Derived.Lib.QuietBelow
import Derived.Deep.Cut
import Derived.Deep.CutRange
import Derived.Deep.CutBlock
import Derived.Deep.Light
namespace Go.Proofs.Ytcklgaenedlbiaa
open Go.RowKit Go.Sort

theorem regrown_eq {P : Program} {f : FuncId} {args : Array Value} {w : World} {d : Nat} {os : Array Obj} {v : Value}
    (h : Calls P f args (grow (redrawn w d) os) fun e w' => e = .returned v ∧ grow (redrawn w d) os = w') : Calls P f args (grow (redrawn w d) os) fun e w'' => e = .returned v ∧ ∃ p : Regrown, w'' = grow (redrawn w p.d) p.os :=
  h.mono fun _ _ ⟨he, hb⟩ => ⟨he, ⟨d, os⟩, hb.symm⟩
/-- a deed of a row -/
structure ActV where
  kind : Int
  at_ : Int
  n : UInt8
  KA : Option Addr
  kc : Nat
  keep : List Bool
def ActV.cells (a : ActV) : List Value := [.int .i64 a.kind, .int .i64 a.at_, .int .u8 a.n.toNat, .slice a.KA a.keep.length a.kc]
theorem act_at : ∀ (l : List ActV) (i j : Nat) (x : ActV) (v : Value), l[i]? = some x → x.cells[j]? = some v → (l.flatMap ActV.cells)[i * 4 + j]? = some v
  | y :: l, 0, j, x, v, h, hv => by
    simp only [List.getElem?_cons_zero, Option.some.injEq] at h
    subst h
    rw [List.flatMap_cons, List.getElem?_append_left (by have := (List.getElem?_eq_some_iff.1 hv).1; omega)]
    rw [Nat.zero_mul, Nat.zero_add]; exact hv
  | y :: l, i + 1, j, x, v, h, hv => by
    rw [List.getElem?_cons_succ] at h
    have ih := act_at l i j x v h hv
    rw [List.flatMap_cons, List.getElem?_append_right (by show 4 ≤ _; omega)]
    rw [show (i + 1) * 4 + j - (y.cells).length = i * 4 + j by show (i + 1) * 4 + j - 4 = _; omega]
    exact ih

structure DX (w0 wx : World) (p q n : Nat) (d u : Dv) (F G : List Nat) (bs : List (Nat × List Value)) : Prop where
  dev : Dev w0 wx p n d F
  ref : R3 w0 wx q u G
  sep : ∀ k, k ∈ F → k ∉ G
  box : ∀ x ∈ bs, Blk wx x.1 35 x.2 ∧ x.1 ∉ F ∧ x.1 ∉ G
section
variable {w0 wx w' : World} {p q n : Nat} {d d' u u' : Dv} {F F' G G' : List Nat} {bs : List (Nat × List Value)}
theorem DX.dev1 (h : DX w0 wx p q n d u F G bs) (hd : Dev w0 w' p n d' F') (hk : Keeps F wx w') (hF : ∀ k, k ∈ F' → k ∈ F ∨ wx.heap.size ≤ k) : DX w0 w' p q n d' u F' G bs := by
  refine ⟨hd, h.ref.keeps hk h.dev.own (sep_comm h.sep), fun k hk' => ?_, fun x hx => ⟨(h.box x hx).1.keeps hk (h.box x hx).2.1, fun hm => ?_, (h.box x hx).2.2⟩⟩
  · rcases hF k hk' with h1 | h1
    · exact h.sep k h1
    · intro hg; have := (h.ref.own k hg).2; omega
  · rcases hF _ hm with h1 | h1
    · exact (h.box x hx).2.1 h1
    · have := (h.box x hx).1.lt; omega
theorem DX.dev0 (h : DX w0 wx p q n d u F G bs) (hd : Dev w0 w' p n d' F) (hk : Keeps F wx w') : DX w0 w' p q n d' u F G bs := h.dev1 hd hk (fun _ h => .inl h)
theorem DX.ref1 (h : DX w0 wx p q n d u F G bs) (hr : R3 w0 w' q u' G') (hk : Keeps G wx w') (hG : ∀ k, k ∈ G' → k ∈ G ∨ wx.heap.size ≤ k) : DX w0 w' p q n d u' F G' bs := by
  refine ⟨⟨h.dev.at_.keeps hk h.sep, hr.bel, h.dev.own, h.dev.ok, h.dev.kl, h.dev.ll⟩, hr, fun k hk' hm => ?_, fun x hx => ⟨(h.box x hx).1.keeps hk (h.box x hx).2.2, (h.box x hx).2.1, fun hm => ?_⟩⟩
  · rcases hG k hm with h1 | h1
    · exact h.sep k hk' h1
    · have := h.dev.at_.sizes k hk'; omega
  · rcases hG _ hm with h1 | h1
    · exact (h.box x hx).2.2 h1
    · have := (h.box x hx).1.lt; omega
theorem DX.ref0 (h : DX w0 wx p q n d u F G bs) (hr : R3 w0 w' q u' G) (hk : Keeps G wx w') : DX w0 w' p q n d u' F G bs := h.ref1 hr hk (fun _ h => .inl h)
theorem DX.below (h : DX w0 wx p q n d u F G bs) (hb : Below wx.heap.size wx w') : DX w0 w' p q n d u F G bs :=
  ⟨h.dev.below hb, h.ref.below hb, h.sep, fun x hx => ⟨(h.box x hx).1.belowS hb, (h.box x hx).2⟩⟩
theorem DX.push (h : DX w0 wx p q n d u F G bs) (cs : Array Value) : DX w0 (wx.alloc (.cells cs 35)) p q n d u F G ((wx.heap.size, cs.toList) :: bs) := by
  have h2 := h.below (below_alloc wx (.cells cs 35))
  refine ⟨h2.dev, h2.ref, h2.sep, fun x hx => ?_⟩
  rcases List.mem_cons.1 hx with rfl | hx
  · exact ⟨Blk.new wx cs _, fun hm => by have := h.dev.at_.sizes _ hm; simp only at this; omega, fun hm => by have := (h.ref.own _ hm).2; simp only at this; omega⟩
  · exact h2.box x hx
theorem DX.bare (h : DX w0 wx p q n d u F G bs) : DX w0 wx p q n d u F G [] := ⟨h.dev, h.ref, h.sep, by simp⟩
end

/-- the power comes: the two cells -/
theorem R3.come {w0 w : World} {q : Nat} {d : Dv} {G : List Nat} (h : R3 w0 w q d G) (hof : d.off = true) :
    R3 w0 ((w.setCell ⟨q, 2, none⟩ (.bool true)).setCell ⟨q, 3, none⟩ (.int .i64 (-1))) q d.come G ∧ Keeps G w ((w.setCell ⟨q, 2, none⟩ (.bool true)).setCell ⟨q, 3, none⟩ (.int .i64 (-1))) := by
  have he : d.come = { d with off := false, fuse := -1 } := by unfold Dv.come; rw [if_pos hof]
  rw [he]
  have H := h
  obtain ⟨_, _, _, L, KA, kc, h1, hkr, hL⟩ := h
  have g := H.set (d' := { d with off := false }) h1 hL hkr 2 (.bool true) rfl rfl
  have g1 := h1.put (d' := { d with off := false }) 2 (.bool true) rfl rfl
  have g2 := g.1.set (d' := { d with off := false, fuse := -1 }) g1 hL hkr 3 (.int .i64 (-1)) rfl rfl
  exact ⟨g2.1, g.2.trans g2.2⟩
/-- the fuse is set: the two cells -/
theorem R3.fuse {w0 w : World} {q : Nat} {d : Dv} {G : List Nat} (h : R3 w0 w q d G) (x : Int) (KA' : Option Addr) (kc' : Nat) (keep : List Bool) (hr : Row w0 KA' (bools keep)) :
    R3 w0 ((w.setCell ⟨q, 3, none⟩ (.int .i64 x)).setCell ⟨q, 4, none⟩ (.slice KA' keep.length kc')) q { d with fuse := x, keep := keep } G ∧ Keeps G w ((w.setCell ⟨q, 3, none⟩ (.int .i64 x)).setCell ⟨q, 4, none⟩ (.slice KA' keep.length kc')) := by
  have H := h
  obtain ⟨_, _, _, L, KA, kc, h1, hkr, hL⟩ := h
  have g := H.set (d' := { d with fuse := x }) h1 hL hkr 3 (.int .i64 x) rfl rfl
  have g1 := h1.put (d' := { d with fuse := x }) 3 (.int .i64 x) rfl rfl
  have hk : Keeps G (w.setCell ⟨q, 3, none⟩ (.int .i64 x)) ((w.setCell ⟨q, 3, none⟩ (.int .i64 x)).setCell ⟨q, 4, none⟩ (.slice KA' keep.length kc')) := (Keeps.refl G _).setCell (p := ⟨q, 4, none⟩) g.1.mem _
  refine ⟨⟨Keeps.below g.1.bel hk (fun x hx => (g.1.own x hx).1), fun k hk' => ⟨(g.1.own k hk').1, Nat.lt_of_lt_of_le (g.1.own k hk').2 hk.size⟩, g.1.mem, L, KA', kc', ⟨g1.box.set 4 (.slice KA' keep.length kc'), ownsRowF_setCell g1.loose g1.box (by decide)⟩, hr, hL⟩, g.2.trans hk⟩
/-- one number of its box -/
theorem R3.num {w0 w : World} {q : Nat} {d : Dv} {G : List Nat} (h : R3 w0 w q d G) : ∃ L KA kc, R3In w q d L KA kc ∧ Row w0 KA (bools d.keep) ∧ ∀ k, L.ownBlock = some k → k ∈ G := h.inn
/-- a write more -/
theorem R3.write {w0 w w1 : World} {q : Nat} {d : Dv} {G : List Nat} (h : R3 w0 w q d G) {L L' : Value} {KA : Option Addr} {kc : Nat} (hi : R3In w q d L KA kc) (hL : ∀ k, L.ownBlock = some k → k ∈ G) (hr : Row w0 KA (bools d.keep)) (x : Nat × ByteArray)
    (ho : w1.ownsRowF 0 50 2 L' (d.loose ++ [x]).length ((d.loose ++ [x]).flatMap wrCells)) (hk : Keeps L.ownBlock.toList w w1) (hL' : ∀ k, L'.ownBlock = some k → L.ownBlock = some k ∨ w.heap.size ≤ k) :
    R3 w0 ((w1.setCell ⟨q, 1, none⟩ L').setCell ⟨q, 6, none⟩ (.int .i64 ((d.wr : Int) + 1))) q { d with loose := d.loose ++ [x], wr := d.wr + 1 } (G ++ L'.ownBlock.toList) ∧
    Keeps G w ((w1.setCell ⟨q, 1, none⟩ L').setCell ⟨q, 6, none⟩ (.int .i64 ((d.wr : Int) + 1))) ∧ ∀ k, k ∈ G ++ L'.ownBlock.toList → k ∈ G ∨ w.heap.size ≤ k := by
  have hb : Blk w1 q 43 (r3Cells d L KA kc) := hi.box.keeps hk (by
    intro hm
    exact ownsRowF_ne hi.loose hi.box (by decide) (Option.mem_toList.1 hm))
  have b1 := hb.set 1 L'
  have o1 := ownsRowF_setCell (u := L') (i := 1) ho hb (by decide)
  have b2 := b1.set 6 (.int .i64 ((d.wr : Int) + 1))
  have o2 := ownsRowF_setCell (u := .int .i64 ((d.wr : Int) + 1)) (i := 6) o1 b1 (by decide)
  have hk2 : Keeps G w ((w1.setCell ⟨q, 1, none⟩ L').setCell ⟨q, 6, none⟩ (.int .i64 ((d.wr : Int) + 1))) := ((hk.mono (fun x hx => hL x (Option.mem_toList.1 hx))).setCell (p := ⟨q, 1, none⟩) h.mem L').setCell (p := ⟨q, 6, none⟩) h.mem _
  have hG : ∀ k, k ∈ G ++ L'.ownBlock.toList → k ∈ G ∨ w.heap.size ≤ k := by
    intro k hk
    rcases List.mem_append.1 hk with h1 | h1
    · exact .inl h1
    · rcases hL' k (Option.mem_toList.1 h1) with h2 | h2
      · exact .inl (hL k h2)
      · exact .inr h2
  refine ⟨⟨Keeps.below h.bel hk2 (fun x hx => (h.own x hx).1), fun k hk' => ?_, List.mem_append_left _ h.mem, L', KA, kc, ⟨?_, o2⟩, hr, fun k hk => List.mem_append_right _ (Option.mem_toList.2 hk)⟩, hk2, hG⟩
  · rcases List.mem_append.1 hk' with h1 | h1
    · exact ⟨(h.own k h1).1, Nat.lt_of_lt_of_le (h.own k h1).2 hk2.size⟩
    · have h3 := ownsRowF_new o2 k (Option.mem_toList.1 h1)
      refine ⟨?_, h3⟩
      rcases hG k hk' with h4 | h4
      · exact (h.own k h4).1
      · exact Nat.le_trans h.bel.size h4
  · have e : (((r3Cells d L KA kc).set 1 L').set 6 (.int .i64 ((d.wr : Int) + 1))) = r3Cells { d with loose := d.loose ++ [x], wr := d.wr + 1 } L' KA kc := by
      show _ = [_, _, _, _, _, _, Value.int .i64 ((d.wr + 1 : Nat) : Int), _]
      rw [show ((d.wr + 1 : Nat) : Int) = (d.wr : Int) + 1 by omega]
      rfl
    rw [← e]
    exact b2
end Go.Proofs.Ytcklgaenedlbiaa
