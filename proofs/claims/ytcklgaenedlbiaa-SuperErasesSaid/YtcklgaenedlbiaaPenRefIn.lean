/-
  The document's reader of layer 1: Raw, Num, Text.
-/
import Derived.Test.YtcklgaenedlbiaaPenIn
namespace Go.Proofs.Ytcklgaenedlbiaa
open Go.RowKit

theorem be_up (l : List UInt8) (k n : Nat) (hk : k < n) (hn : n ≤ l.length) : be (l.take k) * 256 ≤ be (l.take n) := by
  obtain ⟨d, rfl⟩ : ∃ d, n = k + 1 + d := ⟨n - (k + 1), by omega⟩
  have step : ∀ m, m < l.length → be (l.take m) * 256 ≤ be (l.take (m + 1)) := fun m hm => by
    rw [List.take_succ_eq_append_getElem hm, be_snoc]; omega
  clear hk
  induction d with
  | zero => exact step k (by omega)
  | succ d ih =>
    have h1 := ih (by omega)
    have h2 := step (k + 1 + d) (by omega)
    have h3 : k + 1 + (d + 1) = k + 1 + d + 1 := by omega
    rw [h3]
    exact Nat.le_trans (Nat.le_trans h1 (Nat.le_mul_of_pos_right _ (by decide))) h2

/-! What a deed reads, and what is left -/
def rawT (r : ByteArray) (b : Bool) (n : Int) : ByteArray × ByteArray × Bool :=
  if b = false ∧ 0 ≤ n ∧ n ≤ r.size then (r.extract 0 n.toNat, r.extract n.toNat r.size, false) else (emptyB, emptyB, true)
def numT (r : ByteArray) (b : Bool) (n : Int) : Int × ByteArray × Bool :=
  if b = false ∧ isW n = true ∧ n ≤ r.size then
    (if 9223372036854775808 ≤ be (r.data.toList.take n.toNat) then (0, emptyB, true) else ((be (r.data.toList.take n.toNat) : Int), r.extract n.toNat r.size, false))
  else (0, emptyB, true)
def textT (r : ByteArray) (b : Bool) (most : Int) : ByteArray × ByteArray × Bool :=
  match r.data.toList[0]? with
  | none => (emptyB, emptyB, true)
  | some x => if b = false ∧ (x.toNat : Int) ≤ most ∧ x.toNat + 1 ≤ r.size then ((r.extract 1 r.size).extract 0 x.toNat, (r.extract 1 r.size).extract x.toNat (r.extract 1 r.size).size, false) else (emptyB, emptyB, true)

section
variable (F : FuncId) (At : World → Nat → ByteArray → Bool → Prop)
theorem raw_spec (no : ∀ p r b n w, At w p r b → (b = true ∨ n < 0 ∨ (r.size : Int) < n) → Calls Try.prog F #[.pointer (some ⟨p, 0, none⟩), .int .i64 n] w fun e w' => e = .returned (.string emptyB) ∧ Keeps [p] w w' ∧ At w' p emptyB true)
    (yes : ∀ p r (n : Nat) w, At w p r false → n ≤ r.size → Calls Try.prog F #[.pointer (some ⟨p, 0, none⟩), .int .i64 n] w fun e w' => e = .returned (.string (r.extract 0 n)) ∧ Keeps [p] w w' ∧ At w' p (r.extract n r.size) false)
    (p : Nat) (r : ByteArray) (b : Bool) (n : Int) (w : World) (h : At w p r b) :
    Calls Try.prog F #[.pointer (some ⟨p, 0, none⟩), .int .i64 n] w fun e w' => e = .returned (.string (rawT r b n).1) ∧ Keeps [p] w w' ∧ At w' p (rawT r b n).2.1 (rawT r b n).2.2 := by
  unfold rawT
  by_cases hc : b = false ∧ 0 ≤ n ∧ n ≤ r.size
  · rw [if_pos hc]
    obtain ⟨rfl, h0, h1⟩ := hc
    obtain ⟨m, rfl⟩ : ∃ m : Nat, n = (m : Int) := ⟨n.toNat, by omega⟩
    exact yes p r m w h (by omega)
  · rw [if_neg hc]
    refine no p r b n w h ?_
    cases b with
    | true => exact .inl rfl
    | false =>
      right
      by_cases h0 : n < 0
      · exact .inl h0
      · right
        have : ¬ (n ≤ r.size) := fun h1 => hc ⟨rfl, by omega, h1⟩
        omega
theorem num_spec (no : ∀ p r b n w, At w p r b → (isW n = false ∨ b = true ∨ (r.size : Int) < n) → Calls Try.prog F #[.pointer (some ⟨p, 0, none⟩), .int .i64 n] w fun e w' => e = .returned (.int .i64 0) ∧ Keeps [p] w w' ∧ At w' p emptyB true)
    (yes : ∀ p r (n : Nat) w, At w p r false → isW (n : Int) = true → n ≤ r.size → ∀ N, N = be (r.data.toList.take n) → ∀ big, big = decide (9223372036854775808 ≤ N) → Calls Try.prog F #[.pointer (some ⟨p, 0, none⟩), .int .i64 n] w fun e w' => e = .returned (.int .i64 (if big then 0 else (N : Int))) ∧ Keeps [p] w w' ∧ At w' p (if big then emptyB else r.extract n r.size) big)
    (p : Nat) (r : ByteArray) (b : Bool) (n : Int) (w : World) (h : At w p r b) :
    Calls Try.prog F #[.pointer (some ⟨p, 0, none⟩), .int .i64 n] w fun e w' => e = .returned (.int .i64 (numT r b n).1) ∧ Keeps [p] w w' ∧ At w' p (numT r b n).2.1 (numT r b n).2.2 := by
  unfold numT
  by_cases hc : b = false ∧ isW n = true ∧ n ≤ r.size
  · rw [if_pos hc]
    obtain ⟨rfl, h0, h1⟩ := hc
    obtain ⟨m, rfl⟩ : ∃ m : Nat, n = (m : Int) := ⟨n.toNat, by rcases isW_cases h0 with e | e | e | e <;> omega⟩
    have hy := yes p r m w h h0 (by omega) _ rfl _ rfl
    rw [Int.toNat_natCast]
    cases hb : decide (9223372036854775808 ≤ be (r.data.toList.take m)) with
    | true => rw [hb] at hy; rw [if_pos (of_decide_eq_true hb)]; exact hy
    | false => rw [hb] at hy; rw [if_neg (of_decide_eq_false hb)]; exact hy
  · rw [if_neg hc]
    refine no p r b n w h ?_
    cases b with
    | true => exact .inr (.inl rfl)
    | false =>
      cases hw : isW n with
      | false => exact .inl rfl
      | true =>
        right; right
        have : ¬ (n ≤ r.size) := fun h1 => hc ⟨rfl, hw, h1⟩
        omega
theorem text_spec (no : ∀ p r b most w, At w p r b → (b = true ∨ r.size = 0 ∨ ∃ x : UInt8, r.data.toList[0]? = some x ∧ (most < (x.toNat : Int) ∨ (r.size : Int) < x.toNat + 1)) → Calls Try.prog F #[.pointer (some ⟨p, 0, none⟩), .int .i64 most] w fun e w' => e = .returned (.string emptyB) ∧ Keeps [p] w w' ∧ At w' p emptyB true)
    (yes : ∀ p r most w, At w p r false → ∀ x : UInt8, r.data.toList[0]? = some x → (x.toNat : Int) ≤ most → x.toNat + 1 ≤ r.size → Calls Try.prog F #[.pointer (some ⟨p, 0, none⟩), .int .i64 most] w fun e w' => e = .returned (.string ((r.extract 1 r.size).extract 0 x.toNat)) ∧ Keeps [p] w w' ∧ At w' p ((r.extract 1 r.size).extract x.toNat (r.extract 1 r.size).size) false)
    (p : Nat) (r : ByteArray) (b : Bool) (most : Int) (w : World) (h : At w p r b) :
    Calls Try.prog F #[.pointer (some ⟨p, 0, none⟩), .int .i64 most] w fun e w' => e = .returned (.string (textT r b most).1) ∧ Keeps [p] w w' ∧ At w' p (textT r b most).2.1 (textT r b most).2.2 := by
  unfold textT
  cases hx : r.data.toList[0]? with
  | none =>
    refine no p r b most w h (.inr (.inl ?_))
    have h1 := List.getElem?_eq_none_iff.1 hx
    have h2 : r.data.toList.length = r.size := by simp
    omega
  | some x =>
    by_cases hc : b = false ∧ (x.toNat : Int) ≤ most ∧ x.toNat + 1 ≤ r.size
    · simp only [if_pos hc]
      obtain ⟨rfl, h0, h1⟩ := hc
      exact yes p r most w h x hx h0 h1
    · simp only [if_neg hc]
      refine no p r b most w h ?_
      cases b with
      | true => exact .inl rfl
      | false =>
        right; right
        refine ⟨x, hx, ?_⟩
        by_cases h0 : most < (x.toNat : Int)
        · exact .inl h0
        · right
          have : ¬ (x.toNat + 1 ≤ r.size) := fun h1 => hc ⟨rfl, by omega, h1⟩
          omega
end
theorem In_Raw_all (p : Nat) (r : ByteArray) (b : Bool) (n : Int) (w : World) (h : InAt w p r b) :
    Calls Try.prog 87 #[.pointer (some ⟨p, 0, none⟩), .int .i64 n] w fun e w' => e = .returned (.string (rawT r b n).1) ∧ Keeps [p] w w' ∧ InAt w' p (rawT r b n).2.1 (rawT r b n).2.2 :=
  raw_spec 87 InAt In_Raw_no In_Raw_yes p r b n w h
theorem In_Num_all (p : Nat) (r : ByteArray) (b : Bool) (n : Int) (w : World) (h : InAt w p r b) :
    Calls Try.prog 88 #[.pointer (some ⟨p, 0, none⟩), .int .i64 n] w fun e w' => e = .returned (.int .i64 (numT r b n).1) ∧ Keeps [p] w w' ∧ InAt w' p (numT r b n).2.1 (numT r b n).2.2 :=
  num_spec 88 InAt In_Num_no (fun p r n w h hw hc N hN big hb => In_Num_walk p r n w h hw hc N hN big hb) p r b n w h
theorem In_Text_all (p : Nat) (r : ByteArray) (b : Bool) (n : Int) (w : World) (h : InAt w p r b) :
    Calls Try.prog 124 #[.pointer (some ⟨p, 0, none⟩), .int .i64 n] w fun e w' => e = .returned (.string (textT r b n).1) ∧ Keeps [p] w w' ∧ InAt w' p (textT r b n).2.1 (textT r b n).2.2 :=
  text_spec 124 InAt In_Text_no (fun p r most w h x hx hm hs => In_Text_yes p r most w h x hx hm hs) p r b n w h
end Go.Proofs.Ytcklgaenedlbiaa
