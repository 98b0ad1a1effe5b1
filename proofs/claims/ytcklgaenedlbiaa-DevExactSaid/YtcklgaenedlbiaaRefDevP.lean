/-
  The document's device, in plain words: a block laid whole is its four sectors laid.
-/
import Derived.Test.YtcklgaenedlbiaaDevPure
namespace Go.Proofs.Ytcklgaenedlbiaa
open Go.RowKit

theorem sect_get (b : ByteArray) (k i : Nat) : (sect b k)[i]? = if i < 64 then b.data.toList[64 * k + i]? else none := by
  unfold sect
  rw [List.getElem?_take]
  split
  · rw [List.getElem?_drop]
  · rfl
theorem over_block {n : Nat} (s : List UInt8) (x : Nat × ByteArray) (hs : s.length = 256 * n) (hx : x.1 < n ∧ x.2.size = 256) : over s (256 * x.1) x.2.data.toList = layN s x 4 := by
  have hl : x.2.data.toList.length = 256 := by simpa using hx.2
  have h1 := hx.1
  have l1 := layN_length (n := n) x hx 1 s (by omega) hs
  have l2 := layN_length (n := n) x hx 2 s (by omega) hs
  have l3 := layN_length (n := n) x hx 3 s (by omega) hs
  have q0 := sect_length x.2 0 hx.2 (by omega)
  have q1 := sect_length x.2 1 hx.2 (by omega)
  have q2 := sect_length x.2 2 hx.2 (by omega)
  have q3 := sect_length x.2 3 hx.2 (by omega)
  apply List.ext_getElem?
  intro q
  rw [over_get _ _ _ (by omega), hl]
  rw [layN_succ]
  unfold lay1
  rw [over_get _ _ _ (by omega), q3, sect_get]
  rw [layN_succ]
  unfold lay1
  rw [over_get _ _ _ (by omega), q2, sect_get]
  rw [layN_succ]
  unfold lay1
  rw [over_get _ _ _ (by omega), q1, sect_get]
  rw [layN_succ]
  unfold lay1
  rw [over_get _ _ _ (by show _ ≤ s.length; omega), q0, sect_get]
  show _ = _
  have e0 : layN s x 0 = s := rfl
  rw [e0]
  by_cases c1 : q < 256 * x.1
  · rw [if_pos c1, if_pos (by omega), if_pos (by omega), if_pos (by omega), if_pos (by omega)]
  · rw [if_neg c1]
    by_cases c2 : q < 256 * x.1 + 256
    · rw [if_pos c2]
      by_cases d3 : q < 256 * x.1 + 64 * 3
      · rw [if_pos d3]
        by_cases d2 : q < 256 * x.1 + 64 * 2
        · rw [if_pos d2]
          by_cases d1 : q < 256 * x.1 + 64 * 1
          · rw [if_pos d1, if_neg (by omega), if_pos (by omega), if_pos (by omega)]
            exact congrArg (fun j : Nat => x.2.data.toList[j]?) (by omega)
          · rw [if_neg d1, if_pos (by omega), if_pos (by omega)]
            exact congrArg (fun j : Nat => x.2.data.toList[j]?) (by omega)
        · rw [if_neg d2, if_pos (by omega), if_pos (by omega)]
          exact congrArg (fun j : Nat => x.2.data.toList[j]?) (by omega)
      · rw [if_neg d3, if_pos (by omega), if_pos (by omega)]
        exact congrArg (fun j : Nat => x.2.data.toList[j]?) (by omega)
    · rw [if_neg c2]
      rw [if_neg (by omega), if_neg (by omega)]
      rw [if_neg (by omega), if_neg (by omega)]
      rw [if_neg (by omega), if_neg (by omega)]
      rw [if_neg (by omega), if_neg (by omega)]
/-- what a block reads as, of the first writes -/
def readTo (l : List (Nat × ByteArray)) (s : List UInt8) (at_ : Nat) : ByteArray := match l.reverse.find? (fun x => x.1 == at_) with
  | some x => x.2
  | none => ⟨((s.drop (256 * at_)).take 256).toArray⟩
theorem readTo_snoc (l : List (Nat × ByteArray)) (x : Nat × ByteArray) (s : List UInt8) (at_ : Nat) : readTo (l ++ [x]) s at_ = if x.1 == at_ then x.2 else readTo l s at_ := by
  unfold readTo
  simp only [List.reverse_append, List.reverse_singleton, List.singleton_append, List.find?_cons]
  cases h : (x.1 == at_) with
  | true => simp only [if_true]
  | false => simp only [Bool.false_eq_true, if_false]
theorem Dv.read_to (d : Dv) (at_ : Nat) : d.read at_ = readTo d.loose d.safe at_ := rfl
end Go.Proofs.Ytcklgaenedlbiaa
