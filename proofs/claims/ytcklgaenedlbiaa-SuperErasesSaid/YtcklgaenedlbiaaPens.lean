/-
  Two writers of layer 1 that the call made, none of which has a block of the other.
-/
import Derived.Test.YtcklgaenedlbiaaPenAt
import Derived.Test.YtcklgaenedlbiaaKit2
namespace Go.Proofs.Ytcklgaenedlbiaa
open Go.RowKit

def Two (w wx : World) (a : Nat) (la : List UInt8) (b : Nat) (lb : List UInt8) : Prop := ∃ Fa Fb, OutAt 131 wx a la Fa ∧ OutAt 131 wx b lb Fb ∧ Below w.heap.size w wx ∧ (∀ k, k ∈ Fa → w.heap.size ≤ k) ∧ (∀ k, k ∈ Fb → w.heap.size ≤ k) ∧ (∀ k, k ∈ Fa → k ∉ Fb)

section
variable {w wx w' : World} {a b : Nat} {la lb : List UInt8}
theorem Two.bel (h : Two w wx a la b lb) : Below w.heap.size w wx := by obtain ⟨_, _, _, _, h, _⟩ := h; exact h
theorem Two.below (h : Two w wx a la b lb) (hb : Below wx.heap.size wx w') : Two w w' a la b lb := by
  obtain ⟨Fa, Fb, h1, h2, h3, h4, h5, h6⟩ := h
  exact ⟨Fa, Fb, h1.below hb, h2.below hb, bt h3 hb, h4, h5, h6⟩
theorem Two.rot (h : Two w wx a la b lb) : Two w wx b lb a la := by
  obtain ⟨Fa, Fb, h1, h2, h3, h4, h5, h6⟩ := h
  exact ⟨Fb, Fa, h2, h1, h3, h5, h4, fun k h7 h8 => h6 k h8 h7⟩
theorem Two.pen (h : Two w wx a la b lb) : Pen w wx a la := by
  obtain ⟨Fa, Fb, h1, h2, h3, h4, h5, h6⟩ := h
  exact ⟨Fa, h1, h3, h4⟩
/-- a second one is made -/
theorem Two.new (h : Pen w wx a la) : Two w (wx.alloc (.cells #[.pointer none, .slice none 0 0] 131)) wx.heap.size [] a la := by
  obtain ⟨F, h1, h2, h3⟩ := h
  have hA := below_alloc wx (.cells #[.pointer none, .slice none 0 0] 131)
  refine ⟨[wx.heap.size], F, OutAt.new _ wx, h1.below hA, bt h2 hA, fun k hk => by simp at hk; rw [hk]; exact h2.size, h3, fun k hk hm => ?_⟩
  simp at hk
  have := h1.sizes k hm
  omega
/-- a deed of the first, its row made for the call -/
theorem two_call {o : Obj} {f : Nat} {args : Array Value} {r : Ending} {la' : List UInt8} (h : Two w wx a la b lb)
    (hc : ∀ Fa, OutAt 131 (wx.alloc o) a la Fa → (∀ k, k ∈ Fa → k < wx.heap.size) → Calls Try.prog f args (wx.alloc o) fun e w' => e = r ∧ ∃ Fa', OutAt 131 w' a la' Fa' ∧ Keeps Fa (wx.alloc o) w' ∧ ∀ k, k ∈ Fa' → k ∈ Fa ∨ (wx.alloc o).heap.size ≤ k) :
    Calls Try.prog f args (wx.alloc o) fun e w' => e = r ∧ Two w w' a la' b lb := by
  obtain ⟨Fa, Fb, h1, h2, h3, h4, h5, h6⟩ := h
  have hA := below_alloc wx o
  refine (hc Fa (h1.below hA) h1.sizes).mono ?_
  rintro e w' ⟨rfl, Fa', k1, k2, k3⟩
  refine ⟨rfl, Fa', Fb, k1, (h2.below hA).keeps k2 (fun k hk hm => h6 k hm hk), Keeps.below (bt h3 hA) k2 h4, fun k hk => ?_, h5, fun k hk hm => ?_⟩
  · rcases k3 k hk with h | h
    · exact h4 k h
    · exact Nat.le_trans (bt h3 hA).size h
  · rcases k3 k hk with h | h
    · exact h6 k h hm
    · have := h2.sizes k hm; have := hA.size; omega
/-- .. without one -/
theorem two_call0 {f : Nat} {args : Array Value} {r : Ending} {la' : List UInt8} (h : Two w wx a la b lb)
    (hc : ∀ Fa, OutAt 131 wx a la Fa → Calls Try.prog f args wx fun e w' => e = r ∧ ∃ Fa', OutAt 131 w' a la' Fa' ∧ Keeps Fa wx w' ∧ ∀ k, k ∈ Fa' → k ∈ Fa ∨ wx.heap.size ≤ k) :
    Calls Try.prog f args wx fun e w' => e = r ∧ Two w w' a la' b lb := by
  obtain ⟨Fa, Fb, h1, h2, h3, h4, h5, h6⟩ := h
  refine (hc Fa h1).mono ?_
  rintro e w' ⟨rfl, Fa', k1, k2, k3⟩
  refine ⟨rfl, Fa', Fb, k1, h2.keeps k2 (fun k hk hm => h6 k hm hk), Keeps.below h3 k2 h4, fun k hk => ?_, h5, fun k hk hm => ?_⟩
  · rcases k3 k hk with h | h
    · exact h4 k h
    · exact Nat.le_trans h3.size h
  · rcases k3 k hk with h | h
    · exact h6 k h hm
    · have := h2.sizes k hm; omega
theorem two_Raw (h : Two w wx a la b lb) (s : ByteArray) (hroom : la.length + s.size ≤ 140737488355328) :
    Calls Try.prog 82 #[.pointer (some ⟨a, 0, none⟩), .string s] wx fun e w' => e = .returned (.tuple #[]) ∧ Two w w' a (la ++ s.data.toList) b lb :=
  two_call0 h fun Fa h1 => Out_Raw_any a la Fa s wx h1 hroom
theorem two_Bytes (h : Two w wx a la b lb) :
    Calls Try.prog 84 #[.pointer (some ⟨a, 0, none⟩)] wx fun e w' => e = .returned (.string ⟨la.toArray⟩) ∧ Two w w' a la b lb :=
  two_call0 h fun Fa h1 => (Out_Bytes_any a la Fa wx h1).mono fun e w' ⟨he, g1, g2⟩ => ⟨he, Fa, g1, g2, fun k hk => .inl hk⟩
theorem two_Num (h : Two w wx a la b lb) (W : Nat) (ns : List Int) (vs : Array Value) (hvs : vs.toList = i64s ns) (hw : isW (W : Int) = true) (hf : (ns.any fun n => !fitsB (W : Int) n) = false) (hlen : ns.length ≤ 1000) (hroom : la.length + 8 * ns.length ≤ 140737488355328) (cap c : Nat) (hc : c = ns.length) :
    Calls Try.prog 83 #[.pointer (some ⟨a, 0, none⟩), .int .i64 W, .slice (some ⟨wx.heap.size, 0, none⟩) c cap] (wx.alloc (.cells vs 3)) fun e w' => e = .returned (.int .i64 0) ∧ Two w w' a (la ++ beAll W ns) b lb := by
  subst hc
  refine two_call h fun Fa h1 hs => ?_
  have hr := row_new wx vs 3
  rw [hvs] at hr
  have hW8 : W ≤ 8 := by rcases isW_cases hw with h | h | h | h <;> omega
  refine Out_Num_yes a la Fa W ns (some ⟨wx.heap.size, 0, none⟩) cap _ h1 hr (fun x hx hm => ?_) (by omega) hw hf (by have := Nat.mul_le_mul_right ns.length hW8; omega)
  injection hx with hx
  subst hx
  exact absurd (hs _ hm) (Nat.lt_irrefl _)
end
end Go.Proofs.Ytcklgaenedlbiaa
