/-
  Numbers of layer 7 out of every text.
-/
import Derived.Test.YtbhmkigomlpkcaaKeyRef
namespace Go.Proofs.Ytbhmkigomlpkcaa
open Go.RowKit

def numR (v : ByteArray) : Nat := if v.size = 8 then num8 v else 0
def numB (v : ByteArray) : Bool := decide (v.size = 8)
theorem key_Number_all (v : ByteArray) (w : World) :
    Calls Try.prog 69 #[.string v] w fun e w' => e = .returned (.tuple #[.int .u64 (numR v), .bool (numB v)]) ∧ Below w.heap.size w w' := by
  by_cases h : v.size = 8
  · have e1 : numR v = num8 v := if_pos h
    have e2 : numB v = true := decide_eq_true h
    rw [e1, e2]
    exact key_Number_yes v h w
  · have e1 : numR v = 0 := if_neg h
    have e2 : numB v = false := decide_eq_false h
    rw [e1, e2]
    refine (key_Number_no v h w).mono ?_
    rintro e w' ⟨rfl, rfl⟩
    exact ⟨rfl, Below.refl _ _⟩
theorem ref_Number_all (v : ByteArray) (w : World) :
    Calls Try.prog 70 #[.string v] w fun e w' => e = .returned (.tuple #[.int .u64 (numR v), .bool (numB v)]) ∧ w = w' := by
  by_cases h : v.size = 8
  · have e1 : numR v = num8 v := if_pos h
    have e2 : numB v = true := decide_eq_true h
    rw [e1, e2]
    exact ref_Number_yes v h w
  · have e1 : numR v = 0 := if_neg h
    have e2 : numB v = false := decide_eq_false h
    rw [e1, e2]
    exact ref_Number_no v h w

theorem be_beB (k n : Nat) : be (beB k n) = n % 256 ^ k := by
  induction k with
  | zero => simp [beB, be, Nat.mod_one]
  | succ k ih =>
    have h : beB (k + 1) n = [UInt8.ofNat (n / 256 ^ k % 256)] ++ beB k n := rfl
    rw [h, be_append, ih, beB_length, Nat.mod_pow_succ]
    have : be [UInt8.ofNat (n / 256 ^ k % 256)] = n / 256 ^ k % 256 := by simp [be]
    rw [this, Nat.mul_comm, Nat.add_comm]
theorem val8_size (n : Nat) : (val8 n).size = 8 := by
  show (beB 8 n).toArray.size = 8
  simp [beB_length]
theorem num8_val8 (n : Nat) (hn : n < 18446744073709551616) : numR (val8 n) = n := by
  have e1 : numR (val8 n) = num8 (val8 n) := if_pos (val8_size n)
  rw [e1]
  show be (beB 8 n) = n
  rw [be_beB]
  exact Nat.mod_eq_of_lt hn

end Go.Proofs.Ytbhmkigomlpkcaa
