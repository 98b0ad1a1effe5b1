/-
  Numbers' bytes stand in order as the numbers do.
-/
import Derived.Test.YtcklgaenedlbiaaPenText
namespace Go.Proofs.Ytcklgaenedlbiaa
open Go.RowKit

theorem beB_mod : ∀ (k n : Nat), beB k (n % 256 ^ k) = beB k n
  | 0, _ => rfl
  | k + 1, n => by
    have h1 : n % 256 ^ (k + 1) / 256 ^ k % 256 = n / 256 ^ k % 256 := by
      rw [Nat.pow_succ, Nat.mod_mul_right_div_self, Nat.mod_mod]
    have h2 : beB k (n % 256 ^ (k + 1)) = beB k n := by
      rw [← beB_mod k (n % 256 ^ (k + 1)), ← beB_mod k n, Nat.pow_succ, Nat.mod_mul_right_mod]
    simp only [beB, h1, h2]

theorem beB_less : ∀ (k n m : Nat), n < 256 ^ k → m < 256 ^ k → Op.bytesLess (beB k n) (beB k m) = decide (n < m)
  | 0, n, m, hn, hm => by
    have h1 : n = 0 := by simpa using hn
    have h2 : m = 0 := by simpa using hm
    subst h1 h2
    rfl
  | k + 1, n, m, hn, hm => by
    have hp : 0 < 256 ^ k := Nat.pow_pos (by decide)
    have ha : n / 256 ^ k < 256 := Nat.div_lt_of_lt_mul (by rw [Nat.pow_succ] at hn; omega)
    have hb : m / 256 ^ k < 256 := Nat.div_lt_of_lt_mul (by rw [Nat.pow_succ] at hm; omega)
    have ih := beB_less k (n % 256 ^ k) (m % 256 ^ k) (Nat.mod_lt _ hp) (Nat.mod_lt _ hp)
    rw [beB_mod, beB_mod] at ih
    have en := Nat.div_add_mod n (256 ^ k)
    have em := Nat.div_add_mod m (256 ^ k)
    have hrn := Nat.mod_lt n hp
    have hrm := Nat.mod_lt m hp
    simp only [beB, Op.bytesLess, ih]
    clear hn hm ih
    generalize n / 256 ^ k = a at *
    generalize m / 256 ^ k = b at *
    generalize n % 256 ^ k = r at *
    generalize m % 256 ^ k = q at *
    generalize 256 ^ k = P at *
    subst en em
    have e1 : (UInt8.ofNat (a % 256) < UInt8.ofNat (b % 256)) ↔ a < b := by
      rw [UInt8.lt_iff_toNat_lt]; simp; omega
    have e2 : (UInt8.ofNat (a % 256) = UInt8.ofNat (b % 256)) ↔ a = b := by
      rw [← UInt8.toNat_inj]; simp; omega
    rw [Bool.eq_iff_iff]
    simp only [Bool.or_eq_true, decide_eq_true_eq, Bool.and_eq_true, beq_iff_eq, e1, e2]
    rcases Nat.lt_trichotomy a b with h | h | h
    · have h3 : P * a + P ≤ P * b := by rw [← Nat.mul_succ]; exact Nat.mul_le_mul_left P h
      constructor
      · intro _; omega
      · intro _; exact .inl h
    · subst h
      constructor
      · rintro (h | ⟨_, h⟩)
        · omega
        · omega
      · intro h; exact .inr ⟨rfl, by omega⟩
    · have h3 : P * b + P ≤ P * a := by rw [← Nat.mul_succ]; exact Nat.mul_le_mul_left P h
      constructor
      · rintro (h | ⟨h, _⟩) <;> omega
      · intro h; omega
end Go.Proofs.Ytcklgaenedlbiaa
