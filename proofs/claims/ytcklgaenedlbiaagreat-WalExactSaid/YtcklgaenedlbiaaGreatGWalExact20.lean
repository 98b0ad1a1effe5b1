/-
  Numbers' bytes stand in order as the numbers do.
  What was written is read as it was: plain laws.
-/
import Derived.Test.YtcklgaenedlbiaaGreatGWalExact04
import Derived.Test.YtcklgaenedlbiaaGreatGWalExact07

namespace Go.Proofs.YtcklgaenedlbiaaGreat
open Go.RowKit

theorem beB_mod : ∀ (k n : Nat), beB k (n % 256 ^ k) = beB k n
  | 0, _ => rfl
  | k + 1, n => by
    have h1 : n % 256 ^ (k + 1) / 256 ^ k % 256 = n / 256 ^ k % 256 := by
      rw [Nat.pow_succ, Nat.mod_mul_right_div_self, Nat.mod_mod]
    have h2 : beB k (n % 256 ^ (k + 1)) = beB k n := by
      rw [← beB_mod k (n % 256 ^ (k + 1)), ← beB_mod k n, Nat.pow_succ, Nat.mod_mul_right_mod]
    simp only [beB, h1, h2]

theorem beB_less : ∀ (k n m : Nat), n < 256 ^ k → m < 256 ^ k → Op.bytesLess (beB k n) (beB k m) = decide (n < m)
  | 0, n, m, hn, hm => by
    have h1 : n = 0 := by simpa using hn
    have h2 : m = 0 := by simpa using hm
    subst h1 h2
    rfl
  | k + 1, n, m, hn, hm => by
    have hp : 0 < 256 ^ k := Nat.pow_pos (by decide)
    have ha : n / 256 ^ k < 256 := Nat.div_lt_of_lt_mul (by rw [Nat.pow_succ] at hn; omega)
    have hb : m / 256 ^ k < 256 := Nat.div_lt_of_lt_mul (by rw [Nat.pow_succ] at hm; omega)
    have ih := beB_less k (n % 256 ^ k) (m % 256 ^ k) (Nat.mod_lt _ hp) (Nat.mod_lt _ hp)
    rw [beB_mod, beB_mod] at ih
    have en := Nat.div_add_mod n (256 ^ k)
    have em := Nat.div_add_mod m (256 ^ k)
    have hrn := Nat.mod_lt n hp
    have hrm := Nat.mod_lt m hp
    simp only [beB, Op.bytesLess, ih]
    clear hn hm ih
    generalize n / 256 ^ k = a at *
    generalize m / 256 ^ k = b at *
    generalize n % 256 ^ k = r at *
    generalize m % 256 ^ k = q at *
    generalize 256 ^ k = P at *
    subst en em
    have e1 : (UInt8.ofNat (a % 256) < UInt8.ofNat (b % 256)) ↔ a < b := by
      rw [UInt8.lt_iff_toNat_lt]; simp; omega
    have e2 : (UInt8.ofNat (a % 256) = UInt8.ofNat (b % 256)) ↔ a = b := by
      rw [← UInt8.toNat_inj]; simp; omega
    rw [Bool.eq_iff_iff]
    simp only [Bool.or_eq_true, decide_eq_true_eq, Bool.and_eq_true, beq_iff_eq, e1, e2]
    rcases Nat.lt_trichotomy a b with h | h | h
    · have h3 : P * a + P ≤ P * b := by rw [← Nat.mul_succ]; exact Nat.mul_le_mul_left P h
      constructor
      · intro _; omega
      · intro _; exact .inl h
    · subst h
      constructor
      · rintro (h | ⟨_, h⟩)
        · omega
        · omega
      · intro h; exact .inr ⟨rfl, by omega⟩
    · have h3 : P * b + P ≤ P * a := by rw [← Nat.mul_succ]; exact Nat.mul_le_mul_left P h
      constructor
      · rintro (h | ⟨h, _⟩) <;> omega
      · intro h; omega
end Go.Proofs.YtcklgaenedlbiaaGreat

namespace Go.Proofs.YtcklgaenedlbiaaGreat
open Go.RowKit

theorem ba_ofP {a b : ByteArray} (h : a.data.toList = b.data.toList) : a = b := by
  cases a; cases b
  simp only at h
  congr 1
  exact Array.ext' h
theorem extract_rest (r : ByteArray) (k : Nat) : (r.extract k r.size).data.toList = r.data.toList.drop k := by
  rw [Lib.extract_data, List.take_of_length_le]
  rw [List.length_drop]
  have : r.data.toList.length = r.size := by simp
  omega
theorem be_beB' (k n : Nat) : be (beB k n) = n % 256 ^ k := by
  induction k with
  | zero => simp [beB, be, Nat.mod_one]
  | succ k ih =>
    have hs : ∀ (l : List UInt8) (a : Nat), l.foldl (fun n b => n * 256 + b.toNat) a = a * 256 ^ l.length + be l := by
      intro l
      induction l with
      | nil => intro a; simp [be]
      | cons b l il =>
        intro a
        have h1 := il (a * 256 + b.toNat)
        have h2 := il b.toNat
        show List.foldl _ (a * 256 + b.toNat) l = a * 256 ^ (l.length + 1) + List.foldl _ (0 * 256 + b.toNat) l
        rw [Nat.zero_mul, Nat.zero_add, h1, h2, Nat.pow_succ, Nat.add_mul, Nat.mul_assoc, Nat.mul_comm 256 (256 ^ l.length), Nat.add_assoc]
    have h : beB (k + 1) n = UInt8.ofNat (n / 256 ^ k % 256) :: beB k n := rfl
    rw [h]
    show List.foldl _ (0 * 256 + (UInt8.ofNat (n / 256 ^ k % 256)).toNat) (beB k n) = _
    rw [Nat.zero_mul, Nat.zero_add, hs, ih, beB_length, Nat.mod_pow_succ]
    have : (UInt8.ofNat (n / 256 ^ k % 256)).toNat = n / 256 ^ k % 256 := by simp
    rw [this, Nat.mul_comm, Nat.add_comm]
theorem num_back (r : ByteArray) (W n : Nat) (rest : List UInt8) (hr : r.data.toList = beB W n ++ rest) (hw : isW (W : Int) = true) (hn : n < 256 ^ W) (hb : n < 9223372036854775808) :
    numT r false (W : Int) = ((n : Int), r.extract W r.size, false) ∧ (r.extract W r.size).data.toList = rest := by
  have hl := congrArg List.length hr
  rw [List.length_append, beB_length] at hl
  have hl' : r.data.toList.length = r.size := by simp
  have ht : r.data.toList.take W = beB W n := by rw [hr, List.take_left' (beB_length W n)]
  have hbe : be (beB W n) = n := by rw [be_beB', Nat.mod_eq_of_lt hn]
  refine ⟨?_, ?_⟩
  · unfold numT
    rw [if_pos ⟨rfl, hw, by omega⟩]
    simp only [Int.toNat_natCast, ht, hbe]
    rw [if_neg (by omega)]
  · rw [extract_rest, hr, List.drop_left' (beB_length W n)]
theorem text_back (r s : ByteArray) (rest : List UInt8) (hr : r.data.toList = textB s ++ rest) (hs : s.size ≤ 255) :
    ∃ r', textT r false 255 = (s, r', false) ∧ r'.data.toList = rest := by
  have hl := congrArg List.length hr
  rw [List.length_append, textB_length] at hl
  have hl' : r.data.toList.length = r.size := by simp
  have hx : (UInt8.ofNat s.size).toNat = s.size := by simp; omega
  have h0 : r.data.toList[0]? = some (UInt8.ofNat s.size) := by rw [hr]; rfl
  have h1 : (r.extract 1 r.size).data.toList = s.data.toList ++ rest := by rw [extract_rest, hr]; rfl
  have hsl : s.data.toList.length = s.size := by simp
  refine ⟨(r.extract 1 r.size).extract s.size (r.extract 1 r.size).size, ?_, ?_⟩
  · unfold textT
    rw [h0]
    simp only [hx]
    rw [if_pos ⟨trivial, by omega, by omega⟩]
    congr 1
    apply ba_ofP
    rw [Lib.extract_data, h1, List.drop_zero, Nat.sub_zero, List.take_left' hsl]
  · rw [extract_rest, h1, List.drop_left' hsl]
theorem beAll_cons (W : Nat) (n : Int) (ns : List Int) : beAll W (n :: ns) = beB W n.toNat ++ beAll W ns := by simp [beAll]
theorem textAll_cons (s : ByteArray) (ss : List ByteArray) : textAll (s :: ss) = textB s ++ textAll ss := by simp [textAll]
theorem fits_lt {W : Nat} {n : Int} (hw : isW (W : Int) = true) (h : fitsB (W : Int) n = true) (hb : n < 9223372036854775808) : n.toNat < 256 ^ W := by
  have h0 := fitsB_nonneg h
  unfold fitsB at h
  rw [Bool.and_eq_true, Bool.or_eq_true, decide_eq_true_eq, decide_eq_true_eq, Int.toNat_natCast] at h
  rcases h.2 with h1 | h1
  · have h1' : (W : Int) = 8 := by simpa using h1
    obtain rfl : W = 8 := by omega
    have : (256 : Nat) ^ 8 = 18446744073709551616 := by decide
    omega
  · have : ((n.toNat : Nat) : Int) = n := by omega
    rw [← this] at h1
    have h2 : ((256 ^ W : Nat) : Int) = (256 : Int) ^ W := Int.natCast_pow 256 W
    omega
end Go.Proofs.YtcklgaenedlbiaaGreat
