/-
  Ranges of layer 7, walked: isTurned, Is, end, first, IsEmpty.
-/
import Derived.Test.YtapmnnfnhgopcaaKey
namespace Go.Proofs.Ytapmnnfnhgopcaa
open Go.RowKit

def turnedB (lo hi : ByteArray) : Bool := !(hi.toList == []) && (!ahead lo hi && !(lo.toList == hi.toList))
def rangeIs (lo hi : ByteArray) : Bool := decide ((lo.size : Int) ≤ 8) && decide ((hi.size : Int) ≤ 8) && !turnedB lo hi
def endK (a b : ByteArray) : ByteArray := if a.toList == [] then b else if !(b.toList == []) && ahead b a then b else a

set_option maxHeartbeats 2000000 in
set_option maxRecDepth 100000 in
theorem key_isTurned_any (lo hi : ByteArray) (w : World) :
    Calls Try.prog 83 #[.agg #[.string lo, .string hi]] w fun e w' => e = .returned (.bool (turnedB lo hi)) ∧ Below w.heap.size w w' := by
  obtain ⟨f, hf⟩ : ∃ f, f = turnedB lo hi := ⟨_, rfl⟩
  rw [← hf]
  unfold turnedB ahead at hf
  cases h1 : (hi.toList == []) <;> cases h2 : Op.bytesLess lo.toList hi.toList <;> cases h3 : (lo.toList == hi.toList)
  all_goals
    rw [h1, h2, h3] at hf
    simp only [Bool.not_true, Bool.not_false, Bool.true_and, Bool.false_and] at hf
    subst hf
    go_enter Try.func83, Try.ntmps83
    go_wp2_with (with_reducible refine at_op (.box 58 (.tmp 0)) rfl ?_; refine Stopped.go ?_)
    refine Stopped.mk (wpList_box rfl #[.string lo, .string hi] 58 (by go_simp) ?_)
    intro g w1 hg hB hb hz
    have c0 : w1.cell? ⟨g, 0, none⟩ = some (.string lo) := hB.at rfl
    have c1 : w1.cell? ⟨g, 1, none⟩ = some (.string hi) := hB.at rfl
    clear hg hB hz
    go_wp2_with fail
    go_ret
    exact ⟨rfl, hb⟩

set_option maxHeartbeats 1000000 in
theorem key_end_any (a b : ByteArray) (w : World) :
    Calls Try.prog 84 #[.string a, .string b] w fun e w' => e = .returned (.string (endK a b)) ∧ w = w' := by
  obtain ⟨r, hr⟩ : ∃ r, r = endK a b := ⟨_, rfl⟩
  rw [← hr]
  unfold endK ahead at hr
  cases h1 : (a.toList == []) <;> cases h2 : (b.toList == []) <;> cases h3 : Op.bytesLess b.toList a.toList
  all_goals
    rw [h1, h2, h3] at hr
    simp only [Bool.not_true, Bool.not_false, Bool.true_and, Bool.false_and, if_true, if_false, Bool.false_eq_true] at hr
    subst hr
    go_enter Try.func84, Try.ntmps84
    go_wp2_with fail
    go_ret
    exact ⟨rfl, rfl⟩

set_option maxHeartbeats 4000000 in
set_option maxRecDepth 100000 in
theorem key_rangeIs_any (lo hi : ByteArray) (w : World) :
    Calls Try.prog 37 #[.agg #[.string lo, .string hi]] w fun e w' => e = .returned (.bool (rangeIs lo hi)) ∧ Below w.heap.size w w' := by
  have hu := Try.underlying58
  obtain ⟨f, hf⟩ : ∃ f, f = rangeIs lo hi := ⟨_, rfl⟩
  rw [← hf]
  unfold rangeIs at hf
  obtain ⟨t, ht⟩ : ∃ t, t = turnedB lo hi := ⟨_, rfl⟩
  rw [← ht] at hf
  have HT := hid ht; clear ht
  by_cases h1 : (lo.size : Int) ≤ 8 <;> by_cases h2 : (hi.size : Int) ≤ 8 <;> cases t
  all_goals
    first | rw [decide_eq_true h1] at hf | rw [decide_eq_false h1] at hf
    first | rw [decide_eq_true h2] at hf | rw [decide_eq_false h2] at hf
    simp only [Bool.not_true, Bool.not_false, Bool.and_true, Bool.and_false] at hf
    subst hf
    go_enter Try.func37, Try.ntmps37
    go_wp2_with (with_reducible refine at_op (.box 58 (.tmp 0)) rfl ?_; refine Stopped.go ?_)
    refine Stopped.mk (wpList_box rfl #[.string lo, .string hi] 58 (by go_simp) ?_)
    intro g w1 hg hB hb hz
    have c0 : w1.cell? ⟨g, 0, none⟩ = some (.string lo) := hB.at rfl
    have c1 : w1.cell? ⟨g, 1, none⟩ = some (.string hi) := hB.at rfl
    clear hg hB hz
    go_wp2_with fail
    first
    | (go_ret
       exact ⟨rfl, hb⟩)
    | (refine (key_isTurned_any lo hi _).mono ?_; rintro e w2 ⟨rfl, hb2⟩; rw [← HT.out]
       replace hb2 := bt hb hb2
       clear hb c0 c1
       go_wp2_with fail
       go_ret
       exact ⟨rfl, hb2⟩)
def firstK (lo : ByteArray) : ByteArray := if lo.toList == [] then ⟨#[0]⟩ else lo

set_option maxHeartbeats 4000000 in
set_option maxRecDepth 100000 in
theorem key_first_any (lo hi : ByteArray) (h8 : (lo.size : Int) ≤ 8) (w : World) :
    Calls Try.prog 85 #[.agg #[.string lo, .string hi]] w fun e w' => e = .returned (.tuple #[.string (firstK lo), .bool true]) ∧ Below w.heap.size w w' := by
  obtain ⟨r, hr⟩ : ∃ r, r = firstK lo := ⟨_, rfl⟩
  rw [← hr]
  unfold firstK at hr
  cases h1 : (lo.toList == [])
  all_goals
    rw [h1] at hr
    simp only [if_true, if_false, Bool.false_eq_true] at hr
    subst hr
    go_enter Try.func85, Try.ntmps85
    go_wp2_with (with_reducible refine at_op (.box 58 (.tmp 0)) rfl ?_; refine Stopped.go ?_)
    first
    | refine Stopped.mk (wpList_box rfl #[.string lo, .string hi] 58 (by go_simp) ?_)
    | refine Stopped.mk (wpList_box rfl #[.string r, .string hi] 58 (by go_simp) ?_)
    intro g w1 hg hB hb hz
    have c0 := hB.at (i := 0) rfl
    have c1 := hB.at (i := 1) rfl
    clear hg hB hz
    go_wp2_with fail
    go_ret2
    exact ⟨rfl, hb⟩

def rangeEmpty (lo hi : ByteArray) : Bool := !rangeHas lo hi (firstK lo)

set_option maxHeartbeats 4000000 in
set_option maxRecDepth 100000 in
theorem key_IsEmpty_any (lo hi : ByteArray) (h8 : (lo.size : Int) ≤ 8) (w : World) :
    Calls Try.prog 41 #[.agg #[.string lo, .string hi]] w fun e w' => e = .returned (.bool (rangeEmpty lo hi)) ∧ Below w.heap.size w w' := by
  have hu := Try.underlying58
  obtain ⟨f, hf⟩ : ∃ f, f = rangeHas lo hi (firstK lo) := ⟨_, rfl⟩
  unfold rangeEmpty
  rw [← hf]
  have HF := hid hf; have H8 := hid h8; clear hf h8
  cases f
  all_goals
    go_enter Try.func41, Try.ntmps41
    go_wp2_with (with_reducible refine at_op (.box 58 (.tmp 0)) rfl ?_; refine Stopped.go ?_)
    refine Stopped.mk (wpList_box rfl #[.string lo, .string hi] 58 (by go_simp) ?_)
    intro g w1 hg hB hb hz
    have c0 : w1.cell? ⟨g, 0, none⟩ = some (.string lo) := hB.at rfl
    have c1 : w1.cell? ⟨g, 1, none⟩ = some (.string hi) := hB.at rfl
    have HB := hid hB
    clear hg hB hz
    go_wp2_with fail
    refine (key_first_any lo hi H8.out _).mono ?_; rintro e w2 ⟨rfl, hb2⟩
    have hB2 := HB.out.belowS hb2
    have d0 : w2.cell? ⟨g, 0, none⟩ = some (.string lo) := hB2.at rfl
    have d1 : w2.cell? ⟨g, 1, none⟩ = some (.string hi) := hB2.at rfl
    replace hb2 := bt hb hb2
    clear hb c0 c1 hB2
    go_wp2_with fail
    refine (key_Has_any lo hi _ _).mono ?_; rintro e w3 ⟨rfl, hb3⟩; rw [← HF.out]
    replace hb3 := bt hb2 hb3
    clear hb2 d0 d1
    go_wp2_with fail
    go_ret
    exact ⟨rfl, hb3⟩

end Go.Proofs.Ytapmnnfnhgopcaa
