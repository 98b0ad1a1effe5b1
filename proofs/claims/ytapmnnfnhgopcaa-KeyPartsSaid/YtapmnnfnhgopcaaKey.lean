/-
  Layer 7, walked: Is, IsVal, Has; Next and Sep where awake asks them.
-/
import Derived.Test.YtapmnnfnhgopcaaKeyNum
namespace Go.Proofs.Ytapmnnfnhgopcaa
open Go.RowKit

def keyIs (k : ByteArray) : Bool := decide (1 ≤ k.size) && decide (k.size ≤ 8)
/-- which of two texts is ahead -/
def ahead (a b : ByteArray) : Bool := Op.bytesLess a.toList b.toList

set_option maxHeartbeats 400000 in
theorem key_Is_any (k : ByteArray) (w : World) :
    Calls Try.prog 81 #[.string k] w fun e w' => e = .returned (.bool (keyIs k)) ∧ w = w' := by
  obtain ⟨f, hf⟩ : ∃ f, f = keyIs k := ⟨_, rfl⟩
  rw [← hf]
  by_cases h1 : 1 ≤ (k.size : Int)
  · by_cases h2 : (k.size : Int) ≤ 8
    · have : f = true := by rw [hf]; simp [keyIs]; omega
      subst this; clear hf
      go_enter Try.func81, Try.ntmps81
      go_wp2_with fail
      go_ret
      exact ⟨rfl, rfl⟩
    · have : f = false := by rw [hf]; simp [keyIs]; omega
      subst this; clear hf
      go_enter Try.func81, Try.ntmps81
      go_wp2_with fail
      go_ret
      exact ⟨rfl, rfl⟩
  · have : f = false := by rw [hf]; simp [keyIs]; omega
    subst this; clear hf
    go_enter Try.func81, Try.ntmps81
    go_wp2_with fail
    go_ret
    exact ⟨rfl, rfl⟩

set_option maxHeartbeats 400000 in
theorem key_IsVal_any (k : ByteArray) (w : World) :
    Calls Try.prog 82 #[.string k] w fun e w' => e = .returned (.bool (decide ((k.size : Int) ≤ 16))) ∧ w = w' := by
  by_cases h1 : (k.size : Int) ≤ 16
  all_goals
    go_enter Try.func82, Try.ntmps82
    go_wp2_with fail
    go_ret
    exact ⟨ret_bool (by simp; omega), rfl⟩

set_option maxHeartbeats 1000000 in
theorem key_Next_less (k : ByteArray) (h1 : (1 : Int) ≤ k.size) (h8 : (k.size : Int) < 8) (hI : keyIs k = true) (w : World) :
    Calls Try.prog 79 #[.string k] w fun e w' => e = .returned (.tuple #[.string (k ++ ⟨#[0]⟩), .bool true]) ∧ w = w' := by
  go_enter Try.func79, Try.ntmps79
  go_wp2_with fail
  refine (key_Is_any _ _).mono ?_; rintro e w1 ⟨rfl, rfl⟩
  rw [hI]
  go_wp2_with fail
  go_ret2
  exact ⟨rfl, rfl⟩

set_option maxHeartbeats 2000000 in
set_option maxRecDepth 100000 in
theorem key_Next_full (k : ByteArray) (hk : k.size = 8) (hI : keyIs k = true) (x : UInt8) (hx : k.data.toList.getD 7 0 = x) (y : UInt8) (hxx : (x.toNat : Int) + 1 = (y.toNat : Int)) (w : World) :
    Calls Try.prog 79 #[.string k] w fun e w' => e = .returned (.tuple #[.string (k.extract 0 7 ++ ⟨#[y]⟩), .bool true]) ∧ Below w.heap.size w w' := by
  have h8 : (k.size : Int) = 8 := by omega
  have hx7 : ∀ h : 7 < k.size, k[7]'h = x := by
    intro h
    rw [← hx, data_getD k 7 h]
  have hyl : (y.toNat : Int) < 256 := by have := y.toNat_lt; omega
  have hnx : ((x.toNat : Int) == 255) = false := by rw [beq_eq_false_iff_ne]; omega
  go_enter Try.func79, Try.ntmps79
  go_wp2_with fail
  refine (key_Is_any _ _).mono ?_; rintro e w1 ⟨rfl, rfl⟩
  rw [hI]
  go_wp2_with fail
  refine wp_loop_rounds 1 ?_
  rw [rounds_succ]
  go_wp2_with fail
  have hcv : (convert 35 9 (.slice (some ⟨w.heap.size, 0, none⟩) 1 1)).run Try.prog ((w.alloc (.cells #[.int .u8 (y.toNat : Int)] 5)).drew) = .ok (.string ⟨#[y]⟩) ((w.alloc (.cells #[.int .u8 (y.toNat : Int)] 5)).drew) := run_convert_bytes_back (P := Try.prog) ((w.alloc (.cells #[.int .u8 (y.toNat : Int)] 5)).drew) 35 9 5 ⟨w.heap.size, 0, none⟩ 1 [y] Try.underlying35 Try.underlying5 Try.underlying9 (by
    intro j hj
    match j, hj with
    | 0, _ => exact (cell_of_row ((w.alloc (.cells #[.int .u8 (y.toNat : Int)] 5)).drew) w.heap.size 0 _ _ _ (heap_alloc_new w _)).trans rfl)
  go_region
  go_wp2_with fail
  go_ret2
  exact ⟨rfl, (below_alloc w _).drew⟩

set_option maxHeartbeats 2000000 in
theorem key_Sep_three (a b : ByteArray) (hI : keyIs a = true) (hJ : keyIs b = true) (hab : Op.bytesLess a.toList b.toList = true) (hz : (3 : Int) ≤ b.size)
    (c1 : Op.bytesLess (b.extract 0 1).toList a.toList = true) (c2 : Op.bytesLess (b.extract 0 2).toList a.toList = true) (c3 : Op.bytesLess (b.extract 0 3).toList a.toList = false) (c4 : ((b.extract 0 3).toList == a.toList) = false) (w : World) :
    Calls Try.prog 80 #[.string a, .string b] w fun e w' => e = .returned (.tuple #[.string (b.extract 0 3), .bool true]) ∧ w = w' := by
  go_enter Try.func80, Try.ntmps80
  go_wp2_with fail
  refine (key_Is_any _ _).mono ?_; rintro e w1 ⟨rfl, rfl⟩
  rw [hI]
  go_wp2_with fail
  refine (key_Is_any _ _).mono ?_; rintro e w1 ⟨rfl, rfl⟩
  rw [hJ]
  go_wp2_with fail
  refine wp_loop_rounds 3 ?_
  rw [rounds_succ]
  go_wp2_with fail
  rw [rounds_succ]
  go_wp2_with fail
  rw [rounds_succ]
  go_wp2_with fail
  go_ret2
  exact ⟨rfl, rfl⟩

/-- whether a range has a key -/
def rangeHas (lo hi k : ByteArray) : Bool := keyIs k && (!ahead k lo) && (hi.toList == [] || ahead k hi)

set_option maxHeartbeats 2000000 in
set_option maxRecDepth 100000 in
theorem key_Has_any (lo hi k : ByteArray) (w : World) :
    Calls Try.prog 39 #[.agg #[.string lo, .string hi], .string k] w fun e w' => e = .returned (.bool (rangeHas lo hi k)) ∧ Below w.heap.size w w' := by
  obtain ⟨f, hf⟩ : ∃ f, f = rangeHas lo hi k := ⟨_, rfl⟩
  rw [← hf]
  unfold rangeHas ahead at hf
  obtain ⟨i, hi0⟩ : ∃ i, i = keyIs k := ⟨_, rfl⟩
  rw [← hi0] at hf
  have HI := hid hi0; clear hi0
  cases i with
  | false =>
    replace hf : f = false := hf
    subst hf
    go_enter Try.func39, Try.ntmps39
    go_wp2_with (with_reducible refine at_op (.box 58 (.tmp 0)) rfl ?_; refine Stopped.go ?_)
    refine Stopped.mk (wpList_box rfl #[.string lo, .string hi] 58 (by go_simp) ?_)
    intro g w1 hg hB hb hz
    have c0 : w1.cell? ⟨g, 0, none⟩ = some (.string lo) := hB.at rfl
    have c1 : w1.cell? ⟨g, 1, none⟩ = some (.string hi) := hB.at rfl
    clear hg hB hz
    go_wp2_with fail
    refine (key_Is_any _ _).mono ?_; rintro e w2 ⟨rfl, rfl⟩
    rw [← HI.out]
    go_wp2_with fail
    go_ret
    exact ⟨rfl, hb⟩
  | true =>
    cases h1 : Op.bytesLess k.toList lo.toList with
    | true =>
      rw [h1] at hf
      replace hf : f = false := hf
      subst hf
      go_enter Try.func39, Try.ntmps39
      go_wp2_with (with_reducible refine at_op (.box 58 (.tmp 0)) rfl ?_; refine Stopped.go ?_)
      refine Stopped.mk (wpList_box rfl #[.string lo, .string hi] 58 (by go_simp) ?_)
      intro g w1 hg hB hb hz
      have c0 : w1.cell? ⟨g, 0, none⟩ = some (.string lo) := hB.at rfl
      have c1 : w1.cell? ⟨g, 1, none⟩ = some (.string hi) := hB.at rfl
      clear hg hB hz
      go_wp2_with fail
      refine (key_Is_any _ _).mono ?_; rintro e w2 ⟨rfl, rfl⟩
      rw [← HI.out]
      go_wp2_with fail
      go_ret
      exact ⟨rfl, hb⟩
    | false =>
      rw [h1] at hf
      cases h2 : (hi.toList == []) with
      | true =>
        rw [h2] at hf
        replace hf : f = true := hf
        subst hf
        go_enter Try.func39, Try.ntmps39
        go_wp2_with (with_reducible refine at_op (.box 58 (.tmp 0)) rfl ?_; refine Stopped.go ?_)
        refine Stopped.mk (wpList_box rfl #[.string lo, .string hi] 58 (by go_simp) ?_)
        intro g w1 hg hB hb hz
        have c0 : w1.cell? ⟨g, 0, none⟩ = some (.string lo) := hB.at rfl
        have c1 : w1.cell? ⟨g, 1, none⟩ = some (.string hi) := hB.at rfl
        clear hg hB hz
        go_wp2_with fail
        refine (key_Is_any _ _).mono ?_; rintro e w2 ⟨rfl, rfl⟩
        rw [← HI.out]
        go_wp2_with fail
        go_ret
        exact ⟨rfl, hb⟩
      | false =>
        rw [h2] at hf
        replace hf : f = Op.bytesLess k.toList hi.toList := hf
        cases h3 : Op.bytesLess k.toList hi.toList with
        | true =>
          rw [h3] at hf
          subst hf
          go_enter Try.func39, Try.ntmps39
          go_wp2_with (with_reducible refine at_op (.box 58 (.tmp 0)) rfl ?_; refine Stopped.go ?_)
          refine Stopped.mk (wpList_box rfl #[.string lo, .string hi] 58 (by go_simp) ?_)
          intro g w1 hg hB hb hz
          have c0 : w1.cell? ⟨g, 0, none⟩ = some (.string lo) := hB.at rfl
          have c1 : w1.cell? ⟨g, 1, none⟩ = some (.string hi) := hB.at rfl
          clear hg hB hz
          go_wp2_with fail
          refine (key_Is_any _ _).mono ?_; rintro e w2 ⟨rfl, rfl⟩
          rw [← HI.out]
          go_wp2_with fail
          go_ret
          exact ⟨rfl, hb⟩
        | false =>
          rw [h3] at hf
          subst hf
          go_enter Try.func39, Try.ntmps39
          go_wp2_with (with_reducible refine at_op (.box 58 (.tmp 0)) rfl ?_; refine Stopped.go ?_)
          refine Stopped.mk (wpList_box rfl #[.string lo, .string hi] 58 (by go_simp) ?_)
          intro g w1 hg hB hb hz
          have c0 : w1.cell? ⟨g, 0, none⟩ = some (.string lo) := hB.at rfl
          have c1 : w1.cell? ⟨g, 1, none⟩ = some (.string hi) := hB.at rfl
          clear hg hB hz
          go_wp2_with fail
          refine (key_Is_any _ _).mono ?_; rintro e w2 ⟨rfl, rfl⟩
          rw [← HI.out]
          go_wp2_with fail
          go_ret
          exact ⟨rfl, hb⟩

set_option maxHeartbeats 4000000 in
set_option maxRecDepth 100000 in
theorem awake07_any (w : World) :
    Calls Try.prog 36 #[] w fun e w' => e = .returned (.bool true) ∧ Below w.heap.size w w' := by
  have hn8 : num8 ⟨#[0, 0, 0, 0, 0, 0, 1, 2]⟩ = 258 := by decide
  have q1 : (⟨#[97]⟩ : ByteArray) ++ ⟨#[0]⟩ = ⟨#[97, 0]⟩ := by kernel_rfl
  have q2 : (⟨#[97, 98, 99, 100, 101, 102, 103, 104]⟩ : ByteArray).extract 0 7 ++ ⟨#[104 + 1]⟩ = ⟨#[97, 98, 99, 100, 101, 102, 103, 105]⟩ := by kernel_rfl
  have q2' : (⟨#[97, 98, 99, 100, 101, 102, 103, 104]⟩ : ByteArray).extract 0 7 ++ ⟨#[105]⟩ = ⟨#[97, 98, 99, 100, 101, 102, 103, 105]⟩ := by kernel_rfl
  have q3 : (⟨#[97, 98, 120, 121, 122]⟩ : ByteArray).extract 0 3 = ⟨#[97, 98, 120]⟩ := by kernel_rfl
  have q4 : rangeHas ⟨#[97]⟩ ⟨#[98]⟩ ⟨#[97, 98]⟩ = true := by kernel_rfl
  have q5 : rangeHas ⟨#[97]⟩ ⟨#[98]⟩ ⟨#[98]⟩ = false := by kernel_rfl
  have i1 : keyIs ⟨#[97]⟩ = true := rfl
  have i2 : keyIs ⟨#[]⟩ = false := rfl
  have i3 : keyIs ⟨#[97, 98, 99, 100, 101, 102, 103, 104, 105]⟩ = false := rfl
  have Q1 := hid q1; have Q2 := hid q2'; have Q3 := hid q3; have N8 := hid hn8
  have Q4 := hid q4; have Q5 := hid q5; have I1 := hid i1; have I2 := hid i2; have I3 := hid i3
  clear q1 q2 q2' q3 hn8 q4 q5 i1 i2 i3
  go_enter Try.func36, Try.ntmps36
  go_wp2_with fail
  refine (key_Next_less ⟨#[97]⟩ (by decide) (by decide) rfl _).mono ?_; rintro e w1 ⟨rfl, rfl⟩; rw [Q1.out]
  go_wp2_with fail
  refine (key_Next_full ⟨#[97, 98, 99, 100, 101, 102, 103, 104]⟩ rfl rfl 104 rfl 105 (by decide) _).mono ?_; rintro e w1 ⟨rfl, hb1⟩; rw [Q2.out]
  go_wp2_with fail
  refine (key_Sep_three ⟨#[97, 98, 99]⟩ ⟨#[97, 98, 120, 121, 122]⟩ rfl rfl (by kernel_rfl) (by decide) (by kernel_rfl) (by kernel_rfl) (by kernel_rfl) (by kernel_rfl) _).mono ?_; rintro e w2 ⟨rfl, rfl⟩; rw [Q3.out]
  go_wp2_with fail
  refine (key_Number_yes ⟨#[0, 0, 0, 0, 0, 0, 1, 2]⟩ rfl _).mono ?_; rintro e w2 ⟨rfl, hb2⟩
  have hb3 := bt hb1 hb2
  clear hb1 hb2
  rw [N8.out]
  go_wp2_with fail
  refine (key_Is_any _ _).mono ?_; rintro e w1 ⟨rfl, rfl⟩; rw [I1.out]
  go_wp2_with fail
  refine (key_Is_any _ _).mono ?_; rintro e w1 ⟨rfl, rfl⟩; rw [I2.out]
  go_wp2_with fail
  refine (key_Is_any _ _).mono ?_; rintro e w1 ⟨rfl, rfl⟩; rw [I3.out]
  go_wp2_with fail
  refine (key_IsVal_any _ _).mono ?_; rintro e w1 ⟨rfl, rfl⟩
  go_wp2_with fail
  refine (key_Has_any _ _ _ _).mono ?_; rintro e w4 ⟨rfl, hb4⟩; rw [Q4.out]
  go_wp2_with fail
  refine (key_Has_any _ _ _ _).mono ?_; rintro e w5 ⟨rfl, hb5⟩; rw [Q5.out]
  go_wp2_with fail
  go_ret
  exact ⟨rfl, bt (bt hb3 hb4) hb5⟩
end Go.Proofs.Ytapmnnfnhgopcaa
