/-
  A superblock's text, read: plain laws.
-/
import Derived.Test.YtcklgaenedlbiaaSuperLay
import Derived.Test.YtcklgaenedlbiaaSlabRef3
import Derived.Test.YtcklgaenedlbiaaSlabVals
namespace Go.Proofs.Ytcklgaenedlbiaa
open Go.RowKit

/-- what is read behind the name, and what is left -/
structure Got where
  (n1 n2 n3 n4 n5 n6 : Int)
  (r : ByteArray)
  (b : Bool)
def got (r : ByteArray) (b : Bool) : Got :=
  let a1 := numT r b 2
  let a2 := numT a1.2.1 a1.2.2 2
  let a3 := numT a2.2.1 a2.2.2 2
  let a4 := numT a3.2.1 a3.2.2 2
  let a5 := numT a4.2.1 a4.2.2 4
  let a6 := numT a5.2.1 a5.2.2 4
  ⟨a1.1, a2.1, a3.1, a4.1, a5.1, a6.1, a6.2.1, a6.2.2⟩
def Got.sup (g : Got) (e : Int) : Sup := ⟨g.n1, e, g.n2, g.n3, g.n4, g.n5, g.n6⟩
theorem numT_short {r : ByteArray} {W : Nat} (h : r.size < W) : numT r false (W : Int) = (0, emptyB, true) := by
  unfold numT
  rw [if_neg (by rintro ⟨_, _, h2⟩; omega)]
theorem numT_badW (r : ByteArray) (W : Int) : numT r true W = (0, emptyB, true) := by unfold numT; rw [if_neg (by simp)]
theorem numT_good {r : ByteArray} {W : Nat} (hw : isW (W : Int) = true) (hW : W ≤ 4) (h : W ≤ r.size) : ∃ n : Nat, numT r false (W : Int) = ((n : Int), r.extract W r.size, false) ∧ n = be (r.data.toList.take W) ∧ (r.extract W r.size).size = r.size - W := by
  obtain ⟨n, h1, _, h2⟩ := num_part r W hw h hW
  exact ⟨n, h2, h1, by simp⟩
/-- once bad, always bad -/
theorem got_bad (r : ByteArray) : got r true = ⟨0, 0, 0, 0, 0, 0, emptyB, true⟩ := by
  unfold got
  simp only [numT_badW]
theorem endE_zero' {r : ByteArray} {b : Bool} : endE r b = 0 ↔ b = false ∧ r.size = 0 := by
  unfold endE
  cases b <;> simp
theorem endE_cases (r : ByteArray) (b : Bool) : endE r b = 0 ∨ endE r b = 5 := by
  unfold endE
  split
  · exact .inr rfl
  · exact .inl rfl
/-- it ends well just where there are sixteen bytes -/
theorem got_end (r : ByteArray) : endE (got r false).r (got r false).b = 0 ↔ r.size = 16 := by
  rw [endE_zero']
  unfold got
  by_cases h1 : r.size < 2
  · rw [show (2 : Int) = ((2 : Nat) : Int) from rfl, numT_short h1]
    simp only [numT_badW]
    constructor
    · rintro ⟨h, _⟩; cases h
    · omega
  obtain ⟨a1, e1, _, s1⟩ := numT_good (r := r) (W := 2) (by decide) (by decide) (by omega)
  rw [show (2 : Int) = ((2 : Nat) : Int) from rfl, e1]
  simp only
  generalize r.extract 2 r.size = r1 at s1 ⊢
  by_cases h2 : r1.size < 2
  · rw [numT_short h2]
    simp only [numT_badW]
    constructor
    · rintro ⟨h, _⟩; cases h
    · omega
  obtain ⟨a2, e2, _, s2⟩ := numT_good (r := r1) (W := 2) (by decide) (by decide) (by omega)
  rw [e2]
  simp only
  generalize r1.extract 2 r1.size = r2 at s2 ⊢
  by_cases h3 : r2.size < 2
  · rw [numT_short h3]
    simp only [numT_badW]
    constructor
    · rintro ⟨h, _⟩; cases h
    · omega
  obtain ⟨a3, e3, _, s3⟩ := numT_good (r := r2) (W := 2) (by decide) (by decide) (by omega)
  rw [e3]
  simp only
  generalize r2.extract 2 r2.size = r3 at s3 ⊢
  by_cases h4 : r3.size < 2
  · rw [numT_short h4]
    simp only [numT_badW]
    constructor
    · rintro ⟨h, _⟩; cases h
    · omega
  obtain ⟨a4, e4, _, s4⟩ := numT_good (r := r3) (W := 2) (by decide) (by decide) (by omega)
  rw [e4]
  simp only
  generalize r3.extract 2 r3.size = r4 at s4 ⊢
  by_cases h5 : r4.size < 4
  · rw [show (4 : Int) = ((4 : Nat) : Int) from rfl, numT_short h5]
    simp only [numT_badW]
    constructor
    · rintro ⟨h, _⟩; cases h
    · omega
  obtain ⟨a5, e5, _, s5⟩ := numT_good (r := r4) (W := 4) (by decide) (by decide) (by omega)
  rw [show (4 : Int) = ((4 : Nat) : Int) from rfl, e5]
  simp only
  generalize r4.extract 4 r4.size = r5 at s5 ⊢
  by_cases h6 : r5.size < 4
  · rw [numT_short h6]
    constructor
    · rintro ⟨h, _⟩; cases h
    · omega
  obtain ⟨a6, e6, _, s6⟩ := numT_good (r := r5) (W := 4) (by decide) (by decide) (by omega)
  rw [e6]
  simp only
  constructor
  · rintro ⟨_, h⟩; omega
  · intro h; exact ⟨trivial, by omega⟩
def zeroSup : Sup := ⟨0, 0, 0, 0, 0, 0, 0⟩
/-- a text, read: the superblock; its error -/
def superParse (e q : Int) (t : ByteArray) : Sup × Int :=
  if t.size = 23 ∧ t.data.toList.take 7 = nameS.data.toList ∧ q = 0 ∧ goodB ((got (t.extract 7 t.size) false).sup e) = true then ((got (t.extract 7 t.size) false).sup e, 0) else (zeroSup, 5)
/-- a block, read -/
def superReadV (b : ByteArray) : Sup × Int := if (readV b).2.2.2 = 0 then superParse (readV b).1 (readV b).2.1 (readV b).2.2.1 else (zeroSup, (readV b).2.2.2)
/-- what was laid is read so -/
theorem got_laid {s : Sup} (h : goodB s = true) (r : ByteArray) (hr : r.data.toList = beAll 2 [s.blocks, s.root, s.from_, s.nodes] ++ beAll 4 [s.items, s.weight]) (e : Int) : (got r false).sup e = ⟨s.blocks, e, s.root, s.from_, s.nodes, s.items, s.weight⟩ := by
  obtain ⟨p, hp, f1, f2, f3, f4, f5, f6, f6', f7, f8, f9, f10, f11, f12, f13, f14, f15, f16, f17⟩ := good_facts h
  have step : ∀ (r : ByteArray) (W : Nat) (n : Int) (rest : List UInt8), r.data.toList = beB W n.toNat ++ rest → isW (W : Int) = true → 0 ≤ n → n < ((256 ^ W : Nat) : Int) → n < 9223372036854775808 →
      ∃ r', numT r false (W : Int) = (n, r', false) ∧ r'.data.toList = rest := by
    intro r W n rest hr hw h0 h1 h2
    obtain ⟨h3, h4⟩ := num_back r W n.toNat rest hr hw (by omega) (by omega)
    exact ⟨_, by rw [h3, Int.toNat_of_nonneg h0], h4⟩
  simp only [beAll, List.map_cons, List.map_nil, List.flatten_cons, List.flatten_nil, List.append_nil, List.append_assoc] at hr
  obtain ⟨r1, e1, g1⟩ := step r 2 s.blocks _ hr (by decide) (by omega) (by simp; omega) (by omega)
  obtain ⟨r2, e2, g2⟩ := step r1 2 s.root _ g1 (by decide) (by omega) (by simp; omega) (by omega)
  obtain ⟨r3, e3, g3⟩ := step r2 2 s.from_ _ g2 (by decide) (by omega) (by simp; omega) (by omega)
  obtain ⟨r4, e4, g4⟩ := step r3 2 s.nodes _ g3 (by decide) (by omega) (by simp; omega) (by omega)
  obtain ⟨r5, e5, g5⟩ := step r4 4 s.items _ g4 (by decide) (by omega) (by simp; omega) (by omega)
  obtain ⟨r6, e6, g6⟩ := step r5 4 s.weight [] (by rw [List.append_nil]; exact g5) (by decide) (by omega) (by simp; omega) (by omega)
  unfold got Got.sup
  rw [show (2 : Int) = ((2 : Nat) : Int) from rfl, show (4 : Int) = ((4 : Nat) : Int) from rfl, e1]
  simp only
  rw [e2]
  simp only
  rw [e3]
  simp only
  rw [e4]
  simp only
  rw [e5]
  simp only
  rw [e6]
theorem parse_laid {s : Sup} (h : goodB s = true) : superParse s.epoch 0 (superS s) = (s, 0) := by
  have hd : (superS s).data.toList = superT s := by unfold superS; simp
  have hr : ((superS s).extract 7 (superS s).size).data.toList = beAll 2 [s.blocks, s.root, s.from_, s.nodes] ++ beAll 4 [s.items, s.weight] := by
    rw [cut_list, hd, superS_size, List.take_of_length_le (by rw [superT_length]; exact Nat.le_refl _)]
    unfold superT
    rw [List.append_assoc, List.drop_left' (show nameS.data.toList.length = 7 from rfl)]
  have hg := got_laid h _ hr s.epoch
  unfold superParse
  rw [hg, if_pos]
  refine ⟨superS_size s, ?_, rfl, h⟩
  rw [hd]
  unfold superT
  rw [List.append_assoc, List.take_left' (show nameS.data.toList.length = 7 from rfl)]
theorem superRead_laid {s : Sup} (h : goodB s = true) : superLayV s = ((stampV s.epoch 0 (superS s)).1, 0) ∧ (superLayV s).1.size = 256 ∧ superReadV (superLayV s).1 = (s, 0) := by
  obtain ⟨p, hp, f1, f2, f3, f4, f5, f6, f6', f7, f8, f9, f10, f11, f12, f13, f14, f15, f16, f17⟩ := good_facts h
  obtain ⟨h1, h2, h3⟩ := readV_stamp (e := s.epoch) (q := 0) (s := superS s) (by rw [superS_size]; decide) (by omega) (by omega) (by omega) (by omega)
  have hv : superLayV s = stampV s.epoch 0 (superS s) := by unfold superLayV; rw [h]; rfl
  rw [hv]
  refine ⟨by rw [h1], h2, ?_⟩
  unfold superReadV
  rw [h3]
  simp only [if_true]
  exact parse_laid h
end Go.Proofs.Ytcklgaenedlbiaa
