/-
  The law of numbers and values, walked: it answers true.
-/
import Derived.Test.YtapmnnfnhgopcaaKeyRef
namespace Go.Proofs.Ytapmnnfnhgopcaa
open Go.RowKit

def numR (v : ByteArray) : Nat := if v.size = 8 then num8 v else 0
def numB (v : ByteArray) : Bool := decide (v.size = 8)
theorem key_Number_all (v : ByteArray) (w : World) :
    Calls Try.prog 42 #[.string v] w fun e w' => e = .returned (.tuple #[.int .u64 (numR v), .bool (numB v)]) ∧ Below w.heap.size w w' := by
  by_cases h : v.size = 8
  · have e1 : numR v = num8 v := if_pos h
    have e2 : numB v = true := decide_eq_true h
    rw [e1, e2]
    exact key_Number_yes v h w
  · have e1 : numR v = 0 := if_neg h
    have e2 : numB v = false := decide_eq_false h
    rw [e1, e2]
    refine (key_Number_no v h w).mono ?_
    rintro e w' ⟨rfl, rfl⟩
    exact ⟨rfl, Below.refl _ _⟩
theorem ref_Number_all (v : ByteArray) (w : World) :
    Calls Try.prog 43 #[.string v] w fun e w' => e = .returned (.tuple #[.int .u64 (numR v), .bool (numB v)]) ∧ w = w' := by
  by_cases h : v.size = 8
  · have e1 : numR v = num8 v := if_pos h
    have e2 : numB v = true := decide_eq_true h
    rw [e1, e2]
    exact ref_Number_yes v h w
  · have e1 : numR v = 0 := if_neg h
    have e2 : numB v = false := decide_eq_false h
    rw [e1, e2]
    exact ref_Number_no v h w

theorem be_beB (k n : Nat) : be (beB k n) = n % 256 ^ k := by
  induction k with
  | zero => simp [beB, be, Nat.mod_one]
  | succ k ih =>
    have h : beB (k + 1) n = [UInt8.ofNat (n / 256 ^ k % 256)] ++ beB k n := rfl
    rw [h, be_append, ih, beB_length, Nat.mod_pow_succ]
    have : be [UInt8.ofNat (n / 256 ^ k % 256)] = n / 256 ^ k % 256 := by simp [be]
    rw [this, Nat.mul_comm, Nat.add_comm]
theorem val8_size (n : Nat) : (val8 n).size = 8 := by
  show (beB 8 n).toArray.size = 8
  simp [beB_length]
theorem num8_val8 (n : Nat) (hn : n < 18446744073709551616) : numR (val8 n) = n := by
  have e1 : numR (val8 n) = num8 (val8 n) := if_pos (val8_size n)
  rw [e1]
  show be (beB 8 n) = n
  rw [be_beB]
  exact Nat.mod_eq_of_lt hn

set_option maxHeartbeats 4000000 in
set_option maxRecDepth 100000 in
theorem keyNumbers_walk (n : Nat) (hn : n < 18446744073709551616) (v : ByteArray) (w : World) :
    Calls Try.prog 10 #[.int .u64 (n : Int), .string v] w fun e w' => e = .returned (.bool true) ∧ Below w.heap.size w w' := by
  by_cases hs : (1024 : Int) < v.size
  · go_enter Try.func10, Try.ntmps10
    go_wp2_with fail
    refine (awake07_any _).mono ?_; rintro e w1 ⟨rfl, hb1⟩
    go_wp2_with fail
    go_ret
    exact ⟨rfl, hb1⟩
  · have hb : numB (val8 n) = true := decide_eq_true (val8_size n)
    have hnn := num8_val8 n hn
    have HB := hid hb; have HN := hid hnn; have HNL := hid hn
    clear hb hnn hn
    obtain ⟨a, ha⟩ : ∃ a, a = numR v := ⟨_, rfl⟩
    obtain ⟨b, hb⟩ : ∃ b, b = numB v := ⟨_, rfl⟩
    obtain ⟨s, hs2⟩ : ∃ s, s = val8 n := ⟨_, rfl⟩
    have HA := hid ha; have HBB := hid hb; have HS := hid hs2
    clear ha hb hs2
    go_enter Try.func10, Try.ntmps10
    go_wp2_with fail
    refine (awake07_any _).mono ?_; rintro e w1 ⟨rfl, hb1⟩
    go_wp2_with fail
    refine (key_Number_all _ _).mono ?_; rintro e w2 ⟨rfl, hb2⟩; rw [← HA.out, ← HBB.out]
    replace hb2 := bt hb1 hb2; clear hb1
    go_wp2_with fail
    refine (ref_Number_all _ _).mono ?_; rintro e w3 ⟨rfl, rfl⟩; rw [← HA.out, ← HBB.out]
    go_wp2_with fail
    refine (key_Value_any n HNL.out _).mono ?_; rintro e w3 ⟨rfl, hb3⟩
    replace hb3 := bt hb2 hb3; clear hb2
    go_wp2_with fail
    refine (key_Number_all _ _).mono ?_; rintro e w4 ⟨rfl, hb4⟩; rw [HN.out, HB.out]
    replace hb4 := bt hb3 hb4; clear hb3
    go_wp2_with fail
    refine (key_Value_any n HNL.out _).mono ?_; rintro e w5 ⟨rfl, hb5⟩; rw [← HS.out]
    replace hb5 := bt hb4 hb5; clear hb4
    go_wp2_with fail
    refine (ref_Value_any n HNL.out _).mono ?_; rintro e w6 ⟨rfl, hb6⟩; rw [← HS.out]
    replace hb6 := bt hb5 hb6; clear hb5
    go_wp2_with fail
    go_ret
    exact ⟨rfl, hb6⟩

/-- in the row's words -/
theorem keyNumbers_law (n : Int) (v : ByteArray) (w : World) (hn : (Lit.int .u64 n).wf = true) (_hv : v.size ≤ 140737488351232) :
    Calls Try.prog 10 #[.int .u64 n, .string v] w fun e w' => e = .returned (.bool true) ∧ Below w.heap.size w w' := by
  obtain ⟨h0, h1⟩ := wf_u64 hn
  obtain ⟨m, rfl⟩ : ∃ m : Nat, n = (m : Int) := ⟨n.toNat, by omega⟩
  exact keyNumbers_walk m (by omega) v w
end Go.Proofs.Ytapmnnfnhgopcaa
