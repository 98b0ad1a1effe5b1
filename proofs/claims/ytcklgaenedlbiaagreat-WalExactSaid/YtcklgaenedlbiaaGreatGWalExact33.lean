/-
  The document's writer of layer 1: Num, Text.
  The document's sum, walked: Step, Sum; the digits' texts: Text of both.
-/
import Derived.Test.YtcklgaenedlbiaaGreatGWalExact08
import Derived.Test.YtcklgaenedlbiaaGreatProg
import Derived.Test.YtcklgaenedlbiaaGreatGWalExact01
import Derived.Test.YtcklgaenedlbiaaGreatGWalExact19

namespace Go.Proofs.YtcklgaenedlbiaaGreat
open Go.RowKit

theorem set_rep1 (k : Nat) (z x : Value) (r : List Value) : (List.replicate (k + 1) z ++ r).set k x = List.replicate k z ++ (x :: r) := by
  rw [List.replicate_succ', List.append_assoc, List.set_append_right _ _ (by simp)]
  simp

def numS (width n : Nat) : ByteArray := ⟨(beB width n).toArray⟩

set_option maxHeartbeats 2000000 in
theorem ref01_Num_no (width n : Int) (h : isW width = false ∨ n < 0) (w : World) :
    Calls Tryz.prog 57 #[.int .i64 width, .int .i64 n] w fun e w' => e = .returned (.tuple #[.string ⟨#[]⟩, .bool false]) ∧ w = w' := by
  cases hw : isW width with
  | false =>
    obtain ⟨h1, h2, h4, h8⟩ := isW_not hw
    have e1 : (width != 1) = true := by simpa using h1
    have e2 : (width != 2) = true := by simpa using h2
    have e4 : (width != 4) = true := by simpa using h4
    have e8 : (width != 8) = true := by simpa using h8
    clear h hw
    go_enter Tryz.func57, Tryz.ntmps57
    go_wp2_with fail
    go_ret2
    exact ⟨rfl, rfl⟩
  | true =>
    have hn : n < 0 := by rcases h with h | h; rw [hw] at h; cases h; exact h
    clear h
    rcases isW_cases hw with rfl | rfl | rfl | rfl
    all_goals
      clear hw
      go_enter Tryz.func57, Tryz.ntmps57
      go_wp2_with fail
      go_ret2
      exact ⟨rfl, rfl⟩

set_option maxHeartbeats 4000000 in
set_option maxRecDepth 100000 in
theorem ref01_Num_1 (n : Nat) (hn : n < 9223372036854775808) (w : World) :
    Calls Tryz.prog 57 #[.int .i64 1, .int .i64 (n : Int)] w fun e w' => e = .returned (.tuple #[.string (numS 1 n), .bool (decide (n / 256 ^ 1 = 0))]) ∧ Below w.heap.size w w' := by
  obtain ⟨i0, hi, hz0, hz1, hz2⟩ := info_parts info_byte
  obtain ⟨s, hs⟩ : ∃ s, s = numS 1 n := ⟨_, rfl⟩
  obtain ⟨f, hf⟩ : ∃ f, f = decide (n / 256 ^ 1 = 0) := ⟨_, rfl⟩
  rw [← hs, ← hf]
  have HS := hid hs; have HF := hid hf
  clear hs hf
  go_enter Tryz.func57, Tryz.ntmps57
  go_wp2_with (with_reducible refine at_op (.makeSlice 62 (.tmp 26) (.tmp 26)) rfl ?_; refine Stopped.go ?_)
  refine Stopped.mk (wpList_make_k rfl _ _ _ rfl 5 i0 (.int .u8 0) Tryz.underlying62 hi hz0 hz1 rfl .i64 .i64 1 1 1 rfl rfl rfl rfl (by rw [hz2]; decide) (by decide) ?_)
  intro w1 hB1 hb1 hz
  have HB1 := hid hB1; have HBB := hid hb1; have HN := hid hn
  clear hB1 hb1 hz hi hz0 hz1 hz2 hn
  go_wp2_with fail
  go_loopg [1, 7] 2 (fun g x j wx => ∃ (k : Nat) (N : Nat), k + 1 = g ∧ k ≤ 1 ∧ j = .int .i64 ((k : Int) - 1) ∧ x = .int .i64 N ∧ Hid (N = n / 256 ^ (1 - k)) ∧ Hid (Blk wx w.heap.size 5 (List.replicate k (.int .u8 0) ++ u8s (beB (1 - k) n))) ∧ Hid (Below w.heap.size w wx))
  case atStart => exact ⟨1, n, by omega, by omega, by go_num, rfl, (show n = n / 256 ^ (1 - 1) by simp), (show Blk w1 w.heap.size 5 (List.replicate 1 (.int .u8 0) ++ u8s (beB (1 - 1) n)) by simpa [u8s, beB] using HB1.out), HBB⟩
  case round =>
    obtain ⟨k, N, hg, hk, rfl, rfl, HNN, HB, HBW⟩ := hrel
    cases k with
    | zero =>
      have hff : (decide ((N : Int) = 0)) = f := by
        have h1 : N = n / 256 ^ 1 := HNN.out
        rw [HF.out, ← h1]
        by_cases h : N = 0
        · subst h; rfl
        · rw [decide_eq_false h, decide_eq_false (by omega)]
      have hff2 : ((N : Int) == 0) = f := by rw [← hff]; rfl
      go_wp2_with (with_reducible refine at_op (.convert 62 9 (.tmp 42)) rfl ?_; refine Stopped.go ?_)
      have hbl : Blk wr w.heap.size 5 (u8s (beB 1 n)) := by simpa using HB.out
      refine Stopped.mk (wpList_string rfl _ _ 5 _ rfl ⟨w.heap.size, 0, none⟩ 1 1 (beB 1 n) rfl (by rw [beB_length]) Tryz.underlying62 Tryz.underlying5 Tryz.underlying9 (fun j hj => hbl.bytes' j hj) ?_)
      clear hbl
      have hss : (⟨(beB 1 n).toArray⟩ : ByteArray) = s := HS.out.symm
      rw [hss]
      clear hss
      go_wp2_with fail
      go_ret2
      first | exact ⟨rfl, HBW.out⟩ | exact ⟨by rw [← hff2]; rfl, HBW.out⟩ | exact ⟨by rw [← hff]; rfl, HBW.out⟩
    | succ k =>
      rw [show ((k + 1 : Nat) : Int) - 1 = (k : Int) by omega]
      have c0 : wr.cell? ⟨w.heap.size, k, none⟩ = some (.int .u8 0) := HB.out.at (by rw [List.getElem?_append_left (by simp)]; simp)
      have f0 : wr.frozen? ⟨w.heap.size, k, none⟩ = false := HB.out.free (by simp; omega)
      have hk8 : (k : Int) < 1 := by omega
      have e5 : (N : Int) % 256 = (((UInt8.ofNat (N % 256)).toNat : Nat) : Int) := by
        have : (UInt8.ofNat (N % 256)).toNat = N % 256 := by simp
        rw [this]; omega
      have hNl : N < 9223372036854775808 := by rw [HNN.out]; exact Nat.lt_of_le_of_lt (Nat.div_le_self _ _) HN.out
      have e6 : wrap64 ((N : Int) / 256) = (N : Int) / 256 := by unfold wrap64; omega
      have E5 := hid e5; have E6 := hid e6
      clear e5 e6 hNl
      go_wp2_with fail
      go_roundg (k + 1)
      case measure => omega
      case rel =>
        refine ⟨k, N / 256, by omega, by omega, by go_num, by first | rfl | (rw [E6.out]; rfl) | (simp [E6.out]), ?_, ?_, ?_⟩
        · show N / 256 = n / 256 ^ (1 - k)
          rw [HNN.out, Nat.div_div_eq_div_mul, ← Nat.pow_succ, show (1 - (k + 1)).succ = 1 - k by omega]
        · show Blk _ _ _ _
          have h1 := Blk.set HB.out k (.int .u8 ((N : Int) % 256))
          rw [set_rep1, E5.out, HNN.out] at h1
          first | rw [E5.out, HNN.out] | rw [show (((N % 256 : Nat)) : Int) = (N : Int) % 256 by omega, E5.out, HNN.out]
          rw [show 1 - k = (1 - (k + 1)) + 1 by omega]
          exact h1
        · exact HBW.out.setCell (Nat.le_refl _) _

set_option maxHeartbeats 4000000 in
set_option maxRecDepth 100000 in
theorem ref01_Num_2 (n : Nat) (hn : n < 9223372036854775808) (w : World) :
    Calls Tryz.prog 57 #[.int .i64 2, .int .i64 (n : Int)] w fun e w' => e = .returned (.tuple #[.string (numS 2 n), .bool (decide (n / 256 ^ 2 = 0))]) ∧ Below w.heap.size w w' := by
  obtain ⟨i0, hi, hz0, hz1, hz2⟩ := info_parts info_byte
  obtain ⟨s, hs⟩ : ∃ s, s = numS 2 n := ⟨_, rfl⟩
  obtain ⟨f, hf⟩ : ∃ f, f = decide (n / 256 ^ 2 = 0) := ⟨_, rfl⟩
  rw [← hs, ← hf]
  have HS := hid hs; have HF := hid hf
  clear hs hf
  go_enter Tryz.func57, Tryz.ntmps57
  go_wp2_with (with_reducible refine at_op (.makeSlice 62 (.tmp 26) (.tmp 26)) rfl ?_; refine Stopped.go ?_)
  refine Stopped.mk (wpList_make_k rfl _ _ _ rfl 5 i0 (.int .u8 0) Tryz.underlying62 hi hz0 hz1 rfl .i64 .i64 2 2 2 rfl rfl rfl rfl (by rw [hz2]; decide) (by decide) ?_)
  intro w1 hB1 hb1 hz
  have HB1 := hid hB1; have HBB := hid hb1; have HN := hid hn
  clear hB1 hb1 hz hi hz0 hz1 hz2 hn
  go_wp2_with fail
  go_loopg [1, 7] 3 (fun g x j wx => ∃ (k : Nat) (N : Nat), k + 1 = g ∧ k ≤ 2 ∧ j = .int .i64 ((k : Int) - 1) ∧ x = .int .i64 N ∧ Hid (N = n / 256 ^ (2 - k)) ∧ Hid (Blk wx w.heap.size 5 (List.replicate k (.int .u8 0) ++ u8s (beB (2 - k) n))) ∧ Hid (Below w.heap.size w wx))
  case atStart => exact ⟨2, n, by omega, by omega, by go_num, rfl, (show n = n / 256 ^ (2 - 2) by simp), (show Blk w1 w.heap.size 5 (List.replicate 2 (.int .u8 0) ++ u8s (beB (2 - 2) n)) by simpa [u8s, beB] using HB1.out), HBB⟩
  case round =>
    obtain ⟨k, N, hg, hk, rfl, rfl, HNN, HB, HBW⟩ := hrel
    cases k with
    | zero =>
      have hff : (decide ((N : Int) = 0)) = f := by
        have h1 : N = n / 256 ^ 2 := HNN.out
        rw [HF.out, ← h1]
        by_cases h : N = 0
        · subst h; rfl
        · rw [decide_eq_false h, decide_eq_false (by omega)]
      have hff2 : ((N : Int) == 0) = f := by rw [← hff]; rfl
      go_wp2_with (with_reducible refine at_op (.convert 62 9 (.tmp 42)) rfl ?_; refine Stopped.go ?_)
      have hbl : Blk wr w.heap.size 5 (u8s (beB 2 n)) := by simpa using HB.out
      refine Stopped.mk (wpList_string rfl _ _ 5 _ rfl ⟨w.heap.size, 0, none⟩ 2 2 (beB 2 n) rfl (by rw [beB_length]) Tryz.underlying62 Tryz.underlying5 Tryz.underlying9 (fun j hj => hbl.bytes' j hj) ?_)
      clear hbl
      have hss : (⟨(beB 2 n).toArray⟩ : ByteArray) = s := HS.out.symm
      rw [hss]
      clear hss
      go_wp2_with fail
      go_ret2
      first | exact ⟨rfl, HBW.out⟩ | exact ⟨by rw [← hff2]; rfl, HBW.out⟩ | exact ⟨by rw [← hff]; rfl, HBW.out⟩
    | succ k =>
      rw [show ((k + 1 : Nat) : Int) - 1 = (k : Int) by omega]
      have c0 : wr.cell? ⟨w.heap.size, k, none⟩ = some (.int .u8 0) := HB.out.at (by rw [List.getElem?_append_left (by simp)]; simp)
      have f0 : wr.frozen? ⟨w.heap.size, k, none⟩ = false := HB.out.free (by simp; omega)
      have hk8 : (k : Int) < 2 := by omega
      have e5 : (N : Int) % 256 = (((UInt8.ofNat (N % 256)).toNat : Nat) : Int) := by
        have : (UInt8.ofNat (N % 256)).toNat = N % 256 := by simp
        rw [this]; omega
      have hNl : N < 9223372036854775808 := by rw [HNN.out]; exact Nat.lt_of_le_of_lt (Nat.div_le_self _ _) HN.out
      have e6 : wrap64 ((N : Int) / 256) = (N : Int) / 256 := by unfold wrap64; omega
      have E5 := hid e5; have E6 := hid e6
      clear e5 e6 hNl
      go_wp2_with fail
      go_roundg (k + 1)
      case measure => omega
      case rel =>
        refine ⟨k, N / 256, by omega, by omega, by go_num, by first | rfl | (rw [E6.out]; rfl) | (simp [E6.out]), ?_, ?_, ?_⟩
        · show N / 256 = n / 256 ^ (2 - k)
          rw [HNN.out, Nat.div_div_eq_div_mul, ← Nat.pow_succ, show (2 - (k + 1)).succ = 2 - k by omega]
        · show Blk _ _ _ _
          have h1 := Blk.set HB.out k (.int .u8 ((N : Int) % 256))
          rw [set_rep1, E5.out, HNN.out] at h1
          first | rw [E5.out, HNN.out] | rw [show (((N % 256 : Nat)) : Int) = (N : Int) % 256 by omega, E5.out, HNN.out]
          rw [show 2 - k = (2 - (k + 1)) + 1 by omega]
          exact h1
        · exact HBW.out.setCell (Nat.le_refl _) _

set_option maxHeartbeats 4000000 in
set_option maxRecDepth 100000 in
theorem ref01_Num_4 (n : Nat) (hn : n < 9223372036854775808) (w : World) :
    Calls Tryz.prog 57 #[.int .i64 4, .int .i64 (n : Int)] w fun e w' => e = .returned (.tuple #[.string (numS 4 n), .bool (decide (n / 256 ^ 4 = 0))]) ∧ Below w.heap.size w w' := by
  obtain ⟨i0, hi, hz0, hz1, hz2⟩ := info_parts info_byte
  obtain ⟨s, hs⟩ : ∃ s, s = numS 4 n := ⟨_, rfl⟩
  obtain ⟨f, hf⟩ : ∃ f, f = decide (n / 256 ^ 4 = 0) := ⟨_, rfl⟩
  rw [← hs, ← hf]
  have HS := hid hs; have HF := hid hf
  clear hs hf
  go_enter Tryz.func57, Tryz.ntmps57
  go_wp2_with (with_reducible refine at_op (.makeSlice 62 (.tmp 26) (.tmp 26)) rfl ?_; refine Stopped.go ?_)
  refine Stopped.mk (wpList_make_k rfl _ _ _ rfl 5 i0 (.int .u8 0) Tryz.underlying62 hi hz0 hz1 rfl .i64 .i64 4 4 4 rfl rfl rfl rfl (by rw [hz2]; decide) (by decide) ?_)
  intro w1 hB1 hb1 hz
  have HB1 := hid hB1; have HBB := hid hb1; have HN := hid hn
  clear hB1 hb1 hz hi hz0 hz1 hz2 hn
  go_wp2_with fail
  go_loopg [1, 7] 5 (fun g x j wx => ∃ (k : Nat) (N : Nat), k + 1 = g ∧ k ≤ 4 ∧ j = .int .i64 ((k : Int) - 1) ∧ x = .int .i64 N ∧ Hid (N = n / 256 ^ (4 - k)) ∧ Hid (Blk wx w.heap.size 5 (List.replicate k (.int .u8 0) ++ u8s (beB (4 - k) n))) ∧ Hid (Below w.heap.size w wx))
  case atStart => exact ⟨4, n, by omega, by omega, by go_num, rfl, (show n = n / 256 ^ (4 - 4) by simp), (show Blk w1 w.heap.size 5 (List.replicate 4 (.int .u8 0) ++ u8s (beB (4 - 4) n)) by simpa [u8s, beB] using HB1.out), HBB⟩
  case round =>
    obtain ⟨k, N, hg, hk, rfl, rfl, HNN, HB, HBW⟩ := hrel
    cases k with
    | zero =>
      have hff : (decide ((N : Int) = 0)) = f := by
        have h1 : N = n / 256 ^ 4 := HNN.out
        rw [HF.out, ← h1]
        by_cases h : N = 0
        · subst h; rfl
        · rw [decide_eq_false h, decide_eq_false (by omega)]
      have hff2 : ((N : Int) == 0) = f := by rw [← hff]; rfl
      go_wp2_with (with_reducible refine at_op (.convert 62 9 (.tmp 42)) rfl ?_; refine Stopped.go ?_)
      have hbl : Blk wr w.heap.size 5 (u8s (beB 4 n)) := by simpa using HB.out
      refine Stopped.mk (wpList_string rfl _ _ 5 _ rfl ⟨w.heap.size, 0, none⟩ 4 4 (beB 4 n) rfl (by rw [beB_length]) Tryz.underlying62 Tryz.underlying5 Tryz.underlying9 (fun j hj => hbl.bytes' j hj) ?_)
      clear hbl
      have hss : (⟨(beB 4 n).toArray⟩ : ByteArray) = s := HS.out.symm
      rw [hss]
      clear hss
      go_wp2_with fail
      go_ret2
      first | exact ⟨rfl, HBW.out⟩ | exact ⟨by rw [← hff2]; rfl, HBW.out⟩ | exact ⟨by rw [← hff]; rfl, HBW.out⟩
    | succ k =>
      rw [show ((k + 1 : Nat) : Int) - 1 = (k : Int) by omega]
      have c0 : wr.cell? ⟨w.heap.size, k, none⟩ = some (.int .u8 0) := HB.out.at (by rw [List.getElem?_append_left (by simp)]; simp)
      have f0 : wr.frozen? ⟨w.heap.size, k, none⟩ = false := HB.out.free (by simp; omega)
      have hk8 : (k : Int) < 4 := by omega
      have e5 : (N : Int) % 256 = (((UInt8.ofNat (N % 256)).toNat : Nat) : Int) := by
        have : (UInt8.ofNat (N % 256)).toNat = N % 256 := by simp
        rw [this]; omega
      have hNl : N < 9223372036854775808 := by rw [HNN.out]; exact Nat.lt_of_le_of_lt (Nat.div_le_self _ _) HN.out
      have e6 : wrap64 ((N : Int) / 256) = (N : Int) / 256 := by unfold wrap64; omega
      have E5 := hid e5; have E6 := hid e6
      clear e5 e6 hNl
      go_wp2_with fail
      go_roundg (k + 1)
      case measure => omega
      case rel =>
        refine ⟨k, N / 256, by omega, by omega, by go_num, by first | rfl | (rw [E6.out]; rfl) | (simp [E6.out]), ?_, ?_, ?_⟩
        · show N / 256 = n / 256 ^ (4 - k)
          rw [HNN.out, Nat.div_div_eq_div_mul, ← Nat.pow_succ, show (4 - (k + 1)).succ = 4 - k by omega]
        · show Blk _ _ _ _
          have h1 := Blk.set HB.out k (.int .u8 ((N : Int) % 256))
          rw [set_rep1, E5.out, HNN.out] at h1
          first | rw [E5.out, HNN.out] | rw [show (((N % 256 : Nat)) : Int) = (N : Int) % 256 by omega, E5.out, HNN.out]
          rw [show 4 - k = (4 - (k + 1)) + 1 by omega]
          exact h1
        · exact HBW.out.setCell (Nat.le_refl _) _

set_option maxHeartbeats 4000000 in
set_option maxRecDepth 100000 in
theorem ref01_Num_8 (n : Nat) (hn : n < 9223372036854775808) (w : World) :
    Calls Tryz.prog 57 #[.int .i64 8, .int .i64 (n : Int)] w fun e w' => e = .returned (.tuple #[.string (numS 8 n), .bool (decide (n / 256 ^ 8 = 0))]) ∧ Below w.heap.size w w' := by
  obtain ⟨i0, hi, hz0, hz1, hz2⟩ := info_parts info_byte
  obtain ⟨s, hs⟩ : ∃ s, s = numS 8 n := ⟨_, rfl⟩
  obtain ⟨f, hf⟩ : ∃ f, f = decide (n / 256 ^ 8 = 0) := ⟨_, rfl⟩
  rw [← hs, ← hf]
  have HS := hid hs; have HF := hid hf
  clear hs hf
  go_enter Tryz.func57, Tryz.ntmps57
  go_wp2_with (with_reducible refine at_op (.makeSlice 62 (.tmp 26) (.tmp 26)) rfl ?_; refine Stopped.go ?_)
  refine Stopped.mk (wpList_make_k rfl _ _ _ rfl 5 i0 (.int .u8 0) Tryz.underlying62 hi hz0 hz1 rfl .i64 .i64 8 8 8 rfl rfl rfl rfl (by rw [hz2]; decide) (by decide) ?_)
  intro w1 hB1 hb1 hz
  have HB1 := hid hB1; have HBB := hid hb1; have HN := hid hn
  clear hB1 hb1 hz hi hz0 hz1 hz2 hn
  go_wp2_with fail
  go_loopg [1, 7] 9 (fun g x j wx => ∃ (k : Nat) (N : Nat), k + 1 = g ∧ k ≤ 8 ∧ j = .int .i64 ((k : Int) - 1) ∧ x = .int .i64 N ∧ Hid (N = n / 256 ^ (8 - k)) ∧ Hid (Blk wx w.heap.size 5 (List.replicate k (.int .u8 0) ++ u8s (beB (8 - k) n))) ∧ Hid (Below w.heap.size w wx))
  case atStart => exact ⟨8, n, by omega, by omega, by go_num, rfl, (show n = n / 256 ^ (8 - 8) by simp), (show Blk w1 w.heap.size 5 (List.replicate 8 (.int .u8 0) ++ u8s (beB (8 - 8) n)) by simpa [u8s, beB] using HB1.out), HBB⟩
  case round =>
    obtain ⟨k, N, hg, hk, rfl, rfl, HNN, HB, HBW⟩ := hrel
    cases k with
    | zero =>
      have hff : (decide ((N : Int) = 0)) = f := by
        have h1 : N = n / 256 ^ 8 := HNN.out
        rw [HF.out, ← h1]
        by_cases h : N = 0
        · subst h; rfl
        · rw [decide_eq_false h, decide_eq_false (by omega)]
      have hff2 : ((N : Int) == 0) = f := by rw [← hff]; rfl
      go_wp2_with (with_reducible refine at_op (.convert 62 9 (.tmp 42)) rfl ?_; refine Stopped.go ?_)
      have hbl : Blk wr w.heap.size 5 (u8s (beB 8 n)) := by simpa using HB.out
      refine Stopped.mk (wpList_string rfl _ _ 5 _ rfl ⟨w.heap.size, 0, none⟩ 8 8 (beB 8 n) rfl (by rw [beB_length]) Tryz.underlying62 Tryz.underlying5 Tryz.underlying9 (fun j hj => hbl.bytes' j hj) ?_)
      clear hbl
      have hss : (⟨(beB 8 n).toArray⟩ : ByteArray) = s := HS.out.symm
      rw [hss]
      clear hss
      go_wp2_with fail
      go_ret2
      first | exact ⟨rfl, HBW.out⟩ | exact ⟨by rw [← hff2]; rfl, HBW.out⟩ | exact ⟨by rw [← hff]; rfl, HBW.out⟩
    | succ k =>
      rw [show ((k + 1 : Nat) : Int) - 1 = (k : Int) by omega]
      have c0 : wr.cell? ⟨w.heap.size, k, none⟩ = some (.int .u8 0) := HB.out.at (by rw [List.getElem?_append_left (by simp)]; simp)
      have f0 : wr.frozen? ⟨w.heap.size, k, none⟩ = false := HB.out.free (by simp; omega)
      have hk8 : (k : Int) < 8 := by omega
      have e5 : (N : Int) % 256 = (((UInt8.ofNat (N % 256)).toNat : Nat) : Int) := by
        have : (UInt8.ofNat (N % 256)).toNat = N % 256 := by simp
        rw [this]; omega
      have hNl : N < 9223372036854775808 := by rw [HNN.out]; exact Nat.lt_of_le_of_lt (Nat.div_le_self _ _) HN.out
      have e6 : wrap64 ((N : Int) / 256) = (N : Int) / 256 := by unfold wrap64; omega
      have E5 := hid e5; have E6 := hid e6
      clear e5 e6 hNl
      go_wp2_with fail
      go_roundg (k + 1)
      case measure => omega
      case rel =>
        refine ⟨k, N / 256, by omega, by omega, by go_num, by first | rfl | (rw [E6.out]; rfl) | (simp [E6.out]), ?_, ?_, ?_⟩
        · show N / 256 = n / 256 ^ (8 - k)
          rw [HNN.out, Nat.div_div_eq_div_mul, ← Nat.pow_succ, show (8 - (k + 1)).succ = 8 - k by omega]
        · show Blk _ _ _ _
          have h1 := Blk.set HB.out k (.int .u8 ((N : Int) % 256))
          rw [set_rep1, E5.out, HNN.out] at h1
          first | rw [E5.out, HNN.out] | rw [show (((N % 256 : Nat)) : Int) = (N : Int) % 256 by omega, E5.out, HNN.out]
          rw [show 8 - k = (8 - (k + 1)) + 1 by omega]
          exact h1
        · exact HBW.out.setCell (Nat.le_refl _) _

theorem ref01_Num_yes (width n : Int) (hw : isW width = true) (h0 : 0 ≤ n) (h1 : n < 9223372036854775808) (w : World) :
    Calls Tryz.prog 57 #[.int .i64 width, .int .i64 n] w fun e w' => e = .returned (.tuple #[.string (numS width.toNat n.toNat), .bool (fitsB width n)]) ∧ Below w.heap.size w w' := by
  obtain ⟨m, rfl⟩ : ∃ m : Nat, n = (m : Int) := ⟨n.toNat, by omega⟩
  have hm : m < 9223372036854775808 := by omega
  have hf : ∀ W : Nat, W = 1 ∨ W = 2 ∨ W = 4 ∨ W = 8 → fitsB (W : Int) (m : Int) = decide (m / 256 ^ W = 0) := by
    intro W hW
    unfold fitsB
    rw [decide_eq_true h0, Bool.true_and]
    rcases hW with rfl | rfl | rfl | rfl
    · rw [Bool.eq_iff_iff]; simp; omega
    · rw [Bool.eq_iff_iff]; simp; omega
    · rw [Bool.eq_iff_iff]; simp; omega
    · rw [Bool.eq_iff_iff]; simp; omega
  rcases isW_cases hw with rfl | rfl | rfl | rfl
  · have := ref01_Num_1 m hm w; rw [← hf 1 (by simp)] at this; exact this
  · have := ref01_Num_2 m hm w; rw [← hf 2 (by simp)] at this; exact this
  · have := ref01_Num_4 m hm w; rw [← hf 4 (by simp)] at this; exact this
  · have := ref01_Num_8 m hm w; rw [← hf 8 (by simp)] at this; exact this
end Go.Proofs.YtcklgaenedlbiaaGreat

namespace Go.Proofs.YtcklgaenedlbiaaGreat
open Go.RowKit

def ones_ (x : Nat) : Nat → Nat
  | 0 => x
  | k + 1 => Crc.one (ones_ x k)
theorem ones_lt_ {x : Nat} (h : x < 4294967296) : ∀ k, ones_ x k < 4294967296
  | 0 => h
  | k + 1 => Crc.one_lt (ones_lt_ h k)
theorem ones_8 (r b : Nat) : ones_ (r ^^^ b) 8 = Crc.upd r b := (Crc.upd8_eq r b)

set_option maxHeartbeats 1000000 in
theorem ref02_Step_any (r b : Nat) (hr : r < 4294967296) (hb : b < 256) (w : World) :
    Calls Tryz.prog 107 #[.int .u32 r, .int .u8 b] w fun e w' => e = .returned (.int .u32 (Crc.upd r b)) ∧ w = w' := by
  have e1 := u32_xor_nat r b hr (by omega)
  obtain ⟨x, hx⟩ : ∃ x, x = r ^^^ b := ⟨_, rfl⟩
  have hxl : x < 4294967296 := by rw [hx]; exact Nat.xor_lt_two_pow (n := 32) hr (by omega)
  have h8 := ones_8 r b
  rw [← hx] at e1 h8
  have H8 := hid h8; clear h8 hx
  go_enter Tryz.func107, Tryz.ntmps107
  go_wp2
  go_loopg [0, 5] 8 (fun n r i wx => ∃ k : Nat, k + n = 8 ∧ i = .int .i64 k ∧ r = .int .u32 (ones_ x k) ∧ w = wx)
  case atStart => exact ⟨0, by omega, rfl, rfl, rfl⟩
  case round =>
    obtain ⟨k, hk, rfl, rfl, rfl⟩ := hrel
    by_cases hlt : k < 8
    · obtain ⟨y, hy⟩ : ∃ y, y = ones_ x k := ⟨_, rfl⟩
      rw [← hy]
      have hyl : y < 4294967296 := by rw [hy]; exact ones_lt_ hxl k
      have hn : ones_ x (k + 1) = Crc.one y := by rw [hy]; rfl
      have HN := hid hn
      clear hy hn
      by_cases h2 : y % 2 = 1
      · have h3 : ((y : Int) % 2 == 1) = true := by simp; omega
        have e2 := u32_xor_nat (y / 2) Crc.P (by omega) (by decide)
        rw [show (((y / 2 : Nat)) : Int) = (y : Int) / 2 by omega, show (Crc.P : Int) = 2197175160 from rfl] at e2
        have e3 : ((y / 2 ^^^ Crc.P : Nat) : Int) = (Crc.one y : Nat) := by unfold Crc.one; rw [if_pos h2]
        rw [e3] at e2
        clear e3
        go_wp2
        go_roundg (8 - (k + 1))
        case measure => omega
        case rel => exact ⟨k + 1, by omega, by go_num, by rw [HN.out], rfl⟩
      · have h3 : ((y : Int) % 2 == 1) = false := by simp; omega
        have e3 : ((y : Int) / 2) = (Crc.one y : Nat) := by unfold Crc.one; rw [if_neg h2]; omega
        have HE := hid e3; clear e3
        go_wp2
        go_roundg (8 - (k + 1))
        case measure => omega
        case rel => exact ⟨k + 1, by omega, by go_num, by rw [HN.out, HE.out], rfl⟩
    · go_wp2
      go_ret
      have h1 : k = 8 := by omega
      subst h1
      rw [H8.out]
      exact ⟨rfl, rfl⟩

set_option maxHeartbeats 1000000 in
theorem ref02_Sum_any (s : ByteArray) (w : World) (hs : s.size ≤ 9223372036854775807) :
    Calls Tryz.prog 84 #[.string s] w fun e w' => e = .returned (.int .u32 (Crc.sum s.data.toList)) ∧ w = w' := by
  go_enter Tryz.func84, Tryz.ntmps84
  go_wp2
  go_loopg [3, 4] s.size (fun n r i wx => ∃ k : Nat, k + n = s.size ∧ i = .int .i64 k ∧ r = .int .u32 (Crc.fold Crc.ones (s.data.toList.take k)) ∧ w = wx)
  case atStart => exact ⟨0, by omega, rfl, rfl, rfl⟩
  case round =>
    obtain ⟨k, hk, rfl, rfl, rfl⟩ := hrel
    by_cases hlt : k < s.size
    · have hsn := take_snoc s k hlt
      rw [data_getD s k hlt] at hsn
      obtain ⟨r, hr⟩ : ∃ r, r = Crc.fold Crc.ones (s.data.toList.take k) := ⟨_, rfl⟩
      have hrl : r < 4294967296 := by rw [hr]; exact Crc.fold_lt Crc.ones_lt _
      have hn : Crc.fold Crc.ones (s.data.toList.take (k + 1)) = Crc.upd r s[k].toNat := by rw [hsn, Crc.fold_snoc, ← hr]
      rw [← hr]
      have HN := hid hn; clear hn hsn hr
      have hbl : s[k].toNat < 256 := s[k].toNat_lt
      go_wp2_with (go_at_call 107; refine (ref02_Step_any r s[k].toNat hrl hbl _).mono ?_; rintro e w' ⟨rfl, rfl⟩)
      go_roundg (s.size - (k + 1))
      case measure => omega
      case rel => exact ⟨k + 1, by omega, by go_num, by rw [HN.out], rfl⟩
    · go_wp2
      go_ret
      have h1 : k = s.size := by omega
      refine ⟨ret_int ?_, rfl⟩
      rw [h1, take_all]
      have := u32_xor_nat (Crc.fold Crc.ones s.data.toList) Crc.ones (Crc.fold_lt Crc.ones_lt _) Crc.ones_lt
      rw [show (Crc.ones : Int) = 4294967295 from rfl] at this
      rw [this]
      unfold Crc.sum Crc.more
      rw [Nat.zero_xor]
end Go.Proofs.YtcklgaenedlbiaaGreat
