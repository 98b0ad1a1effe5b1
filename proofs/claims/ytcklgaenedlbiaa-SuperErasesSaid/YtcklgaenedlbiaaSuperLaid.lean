/-
  Superblocks' places laid, and a device among boxes: walked.
-/
import Derived.Test.YtcklgaenedlbiaaSuperAwake
namespace Go.Proofs.Ytcklgaenedlbiaa
open Go.RowKit Go.Sort

def laidV (a b : ByteArray) : Dv := { Dv.new 64 with safe := flushN (Dv.new 64).safe [(0, a), (1, b)], wr := 2, fl := 1 }
theorem laid_still {a b : ByteArray} (ha : a.size = 256) (hb : b.size = 256) : Still 64 (laidV a b) ∧ (laidV a b).fuse < 0 ∧ blkL (laidV a b).safe 0 = a.data.toList ∧ blkL (laidV a b).safe 1 = b.data.toList ∧ (laidV a b).room = 3 := by
  have h0 := (DvOk.new 64 (by decide) (by decide)).size
  have h1 : (flushN (Dv.new 64).safe [(0, a)]).length = 256 * 64 := flushN_length _ _ (by simp [ha]) h0
  have e : (laidV a b).safe = flushN (flushN (Dv.new 64).safe [(0, a)]) [(1, b)] := rfl
  have hok := DvOk.new 64 (by decide) (by decide)
  refine ⟨⟨⟨hok.n1, hok.n2, ?_, ?_, hok.fuse⟩, rfl, rfl⟩, by show (-1 : Int) < 0; decide, ?_, ?_, rfl⟩
  · rw [e]; exact flushN_length _ _ (by simp [hb]) h1
  · show ∀ x ∈ ([] : List (Nat × ByteArray)), _
    simp
  · rw [e, flush1_blk (n := 64) h1 ⟨show 1 < 64 by decide, hb⟩ 0 (by decide), if_neg (show ¬ 0 = 1 by decide), flush1_blk (n := 64) h0 ⟨show 0 < 64 by decide, ha⟩ 0 (by decide), if_pos rfl]
  · rw [e, flush1_blk (n := 64) h1 ⟨show 1 < 64 by decide, hb⟩ 1 (by decide), if_pos rfl]

set_option maxHeartbeats 4000000 in
set_option maxRecDepth 100000 in
theorem law21_laid {w0 w : World} (hb0 : Below w0.heap.size w0 w) (a b : ByteArray) (ha : a.size = 256) (hb : b.size = 256) :
    Calls Try.prog 33 #[.string a, .string b] w fun e w' => ∃ p F, e = .returned (.tuple #[.pointer (some ⟨p, 0, none⟩), .bool true]) ∧ Dev w0 w' p 64 (laidV a b) F ∧ Below w.heap.size w w' ∧ ∀ k, k ∈ F → w.heap.size ≤ k := by
  have qa : (a.size : Int) = 256 := by omega
  have qb : (b.size : Int) = 256 := by omega
  obtain ⟨d1, hd1⟩ : ∃ d, d = (Dv.new 64).write (0, a) := ⟨_, rfl⟩
  obtain ⟨d2, hd2⟩ : ∃ d, d = d1.write (1, b) := ⟨_, rfl⟩
  have e1 : d1 = { Dv.new 64 with loose := [(0, a)], wr := 1 } := by rw [hd1, Dv.write_none (by decide) rfl]; rfl
  have e2 : d2 = { Dv.new 64 with loose := [(0, a), (1, b)], wr := 2 } := by rw [hd2, e1, Dv.write_none (by show (-1 : Int) < 0; decide) rfl]; rfl
  have b0 : (Dv.new 64).burn.off = false := by rw [Dv.burn_none (by decide)]; rfl
  have b1 : d1.burn.off = false := by rw [e1, Dv.burn_none (by show (-1 : Int) < 0; decide)]; rfl
  have b2 : d2.burn = d2 := Dv.burn_none (by rw [e2]; show (-1 : Int) < 0; decide)
  have b2' : d2.burn.off = false := by rw [b2, e2]; rfl
  have e3 : d2.flush = laidV a b := by unfold Dv.flush; rw [b2', b2, e2]; rfl
  have r1 : d1.loose.length + d1.rd + d1.wr + d1.fl ≤ 990 := by rw [e1]; show 1 + 0 + 1 + 0 ≤ 990; decide
  have r2 : d2.loose.length + d2.rd + d2.wr + d2.fl ≤ 990 := by rw [e2]; show 2 + 0 + 2 + 0 ≤ 990; decide
  have HA := hid ha; have HBB := hid hb; have HD1 := hid hd1; have HD2 := hid hd2; have B0 := hid b0; have B1 := hid b1; have B2 := hid b2'; have E3 := hid e3; have R1 := hid r1; have R2 := hid r2; have HB0 := hid hb0
  clear e1 e2 b0 b1 b2 b2' e3 r1 r2 hd1 hd2 ha hb hb0
  go_enter Try.func33, Try.ntmps33
  go_wp2_with fail
  refine (dv_New (w0 := w) (w := w) (Below.refl _ _) 64 (by decide) (by decide)).mono ?_; rintro e w1 ⟨p, F, rfl, hD1, hb1, hF1⟩
  have hC := dv_Write hD1 0 a (by decide) HA.out (by decide)
  rw [B0.out, ← HD1.out] at hC
  have HC := hid hC
  have HF1 := hid hF1
  clear hD1 hb1 hF1 hC
  go_wp2_with fail
  refine HC.out.mono ?_; rintro e w2 ⟨rfl, F2, hD2, hk2, hF2⟩
  have hC := dv_Write hD2 1 b (by decide) HBB.out R1.out
  rw [B1.out, ← HD2.out] at hC
  have HC2 := hid hC
  clear hD2 hk2 hF2 hC HC
  go_wp2_with fail
  refine HC2.out.mono ?_; rintro e w3 ⟨rfl, F3, hD3, hk3, hF3⟩
  have hC := dv_Flush hD3 R2.out
  rw [B2.out, E3.out] at hC
  have HC3 := hid hC
  clear hD3 hk3 hF3 hC HC2
  go_wp2_with fail
  refine HC3.out.mono ?_; rintro e w4 ⟨rfl, hD4, hk4⟩
  have H4 := hid (And.intro hD4 hD4)
  clear hD4 hk4 HC3
  go_wp2_with fail
  go_ret2
  exact ⟨p, F3, rfl, ⟨H4.out.1.at_, bt HB0.out H4.out.1.bel, fun k hk => Nat.le_trans HB0.out.size (H4.out.1.own k hk), H4.out.1.ok, H4.out.1.kl, H4.out.1.ll⟩, H4.out.1.bel, H4.out.1.own⟩
set_option maxHeartbeats 4000000 in
set_option maxRecDepth 100000 in
theorem law21_laid_no (w : World) (a b : ByteArray) (h : a.size ≠ 256 ∨ b.size ≠ 256) :
    Calls Try.prog 33 #[.string a, .string b] w fun e w' => e = .returned (.tuple #[.pointer none, .bool false]) ∧ Below w.heap.size w w' := by
  by_cases ha : a.size = 256
  · have hb : b.size ≠ 256 := by
      rcases h with h | h
      · exact absurd ha h
      · exact h
    have qa : (a.size : Int) = 256 := by omega
    have qb : ¬ (b.size : Int) = 256 := by omega
    clear h ha hb
    go_enter Try.func33, Try.ntmps33
    go_wp2_with fail
    refine (dv_New (w0 := w) (w := w) (Below.refl _ _) 64 (by decide) (by decide)).mono ?_; rintro e w1 ⟨p, F, rfl, hD1, hb1, hF1⟩
    have HB := hid hb1
    clear hD1 hb1 hF1
    go_wp2_with fail
    go_ret2
    exact ⟨rfl, HB.out⟩
  · have qa : ¬ (a.size : Int) = 256 := by omega
    clear h ha
    go_enter Try.func33, Try.ntmps33
    go_wp2_with fail
    refine (dv_New (w0 := w) (w := w) (Below.refl _ _) 64 (by decide) (by decide)).mono ?_; rintro e w1 ⟨p, F, rfl, hD1, hb1, hF1⟩
    have HB := hid hb1
    clear hD1 hb1 hF1
    go_wp2_with fail
    go_ret2
    exact ⟨rfl, HB.out⟩

/-! ## a device, and boxes of superblocks -/
structure St (w0 wx : World) (p : Nat) (d : Dv) (F : List Nat) (gs : List (Nat × Array Value)) : Prop where
  dev : Dev w0 wx p 64 d F
  box : ∀ x ∈ gs, x.1 ∉ F ∧ w0.heap.size ≤ x.1 ∧ R0 wx x.1 60 x.2
theorem St.below {w0 wx w' : World} {p : Nat} {d : Dv} {F : List Nat} {gs : List (Nat × Array Value)} (h : St w0 wx p d F gs) (hb : Below wx.heap.size wx w') : St w0 w' p d F gs :=
  ⟨h.dev.below hb, fun x hx => ⟨(h.box x hx).1, (h.box x hx).2.1, (h.box x hx).2.2.belowS hb⟩⟩
theorem St.deed {w0 wx w' : World} {p : Nat} {d d' : Dv} {F : List Nat} {gs : List (Nat × Array Value)} (h : St w0 wx p d F gs) (hP : DPost w0 wx w' p 64 d' F) : ∃ F', St w0 w' p d' F' gs := by
  obtain ⟨F', h1, h2, h3⟩ := hP
  refine ⟨F', h1, fun x hx => ⟨fun hh => ?_, (h.box x hx).2.1, (h.box x hx).2.2.keeps h2 (h.box x hx).1⟩⟩
  rcases h3 _ hh with h4 | h4
  · exact (h.box x hx).1 h4
  · have := (h.box x hx).2.2.lt; omega
theorem St.look {w0 wx w' : World} {p : Nat} {d d' : Dv} {F : List Nat} {gs : List (Nat × Array Value)} (h : St w0 wx p d F gs) (hD : Dev w0 w' p 64 d' F) (hk : Keeps F wx w') : St w0 w' p d' F gs :=
  ⟨hD, fun x hx => ⟨(h.box x hx).1, (h.box x hx).2.1, (h.box x hx).2.2.keeps hk (h.box x hx).1⟩⟩
theorem St.push {w0 wx : World} {p : Nat} {d : Dv} {F : List Nat} {gs : List (Nat × Array Value)} (h : St w0 wx p d F gs) (cs : Array Value) : St w0 (wx.alloc (.cells cs 60)) p d F ((wx.heap.size, cs) :: gs) := by
  have hb := below_alloc wx (.cells cs 60)
  have h2 := h.below hb
  refine ⟨h2.dev, fun x hx => ?_⟩
  rcases List.mem_cons.1 hx with rfl | hx
  · exact ⟨fun hh => by have := h.dev.at_.sizes _ hh; simp only at this; omega, h.dev.bel.size, heap_alloc_new wx _⟩
  · exact h2.box x hx
theorem St.store {w0 wx w' : World} {p g : Nat} {cs : Array Value} {d : Dv} {F : List Nat} {gs gs' : List (Nat × Array Value)} (h : St w0 wx p d F gs) (hg : g ∉ F) (hg0 : w0.heap.size ≤ g) (hk : Keeps [g] wx w') (hn : R0 w' g 60 cs)
    (hgs : ∀ x ∈ gs', x = (g, cs) ∨ (x ∈ gs ∧ x.1 ≠ g)) : St w0 w' p d F gs' := by
  refine ⟨h.dev.other hk hg hg0, fun x hx => ?_⟩
  rcases hgs x hx with rfl | ⟨h1, h2⟩
  · exact ⟨hg, hg0, hn⟩
  · exact ⟨(h.box x h1).1, (h.box x h1).2.1, (h.box x h1).2.2.keeps hk (by simpa using h2)⟩
theorem St.cells {w0 wx : World} {p g : Nat} {d : Dv} {F : List Nat} {gs : List (Nat × Array Value)} {v0 v1 v2 v3 v4 v5 v6 : Value} (h : St w0 wx p d F gs) (hm : (g, #[v0, v1, v2, v3, v4, v5, v6]) ∈ gs) :
    wx.cell? ⟨g, 0, none⟩ = some v0 ∧ wx.cell? ⟨g, 1, none⟩ = some v1 ∧ wx.cell? ⟨g, 2, none⟩ = some v2 ∧ wx.cell? ⟨g, 3, none⟩ = some v3 ∧ wx.cell? ⟨g, 4, none⟩ = some v4 ∧ wx.cell? ⟨g, 5, none⟩ = some v5 ∧ wx.cell? ⟨g, 6, none⟩ = some v6 :=
  cells7 (h.box _ hm).2.2.blk
theorem superLay_no {s : Sup} (h : ¬ goodB s = true) : superLayV s = (⟨#[]⟩, 1) := by unfold superLayV; rw [if_neg h]
theorem R0.set {wx : World} {g : Nat} {T : TypeId} {cs : Array Value} (h : R0 wx g T cs) (i : Nat) (v : Value) : R0 (wx.setCell ⟨g, i, none⟩ v) g T (cs.setIfInBounds i v) ∧ Keeps [g] wx (wx.setCell ⟨g, i, none⟩ v) := by
  refine ⟨?_, (Keeps.refl [g] wx).setCell (p := ⟨g, i, none⟩) (by simp) v⟩
  unfold R0 at h ⊢
  simp only [World.setCell, Array.getElem?_modify, if_true, h, Option.map_some]
  simp
end Go.Proofs.Ytcklgaenedlbiaa
