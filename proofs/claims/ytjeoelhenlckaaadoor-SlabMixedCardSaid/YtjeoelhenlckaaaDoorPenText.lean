/-
  The writer of layer 1, walked: Text, Raw, Bytes, Len; of a nil one too.
-/
import Derived.Test.YtjeoelhenlckaaaDoorPenOut
namespace Go.Proofs.YtjeoelhenlckaaaDoor
open Go.RowKit

/-- texts with their lengths -/
def textB (s : ByteArray) : List UInt8 := UInt8.ofNat s.size :: s.data.toList
def textAll (ss : List ByteArray) : List UInt8 := (ss.map textB).flatten
theorem textB_length (s : ByteArray) : (textB s).length = s.size + 1 := by simp [textB]
theorem textAll_snoc (ss : List ByteArray) (s : ByteArray) : textAll (ss ++ [s]) = textAll ss ++ textB s := by simp [textAll]
theorem textAll_take (ss : List ByteArray) (k : Nat) (h : k < ss.length) : textAll (ss.take (k + 1)) = textAll (ss.take k) ++ textB ss[k] := by
  rw [List.take_succ_eq_append_getElem h, textAll_snoc]
theorem textAll_le (ss : List ByteArray) (k : Nat) : (textAll (ss.take k)).length ≤ (textAll ss).length := by
  have h : textAll ss = textAll (ss.take k) ++ textAll (ss.drop k) := by
    unfold textAll
    rw [← List.flatten_append, ← List.map_append, List.take_append_drop]
  rw [h, List.length_append]; omega

set_option maxHeartbeats 1000000 in
theorem Out_Raw_any (p : Nat) (l : List UInt8) (F : List Nat) (s : ByteArray) (w : World) (h : OutAt 56 w p l F) (hroom : l.length + s.size ≤ 140737488355328) :
    Calls Tryd.prog 23 #[.pointer (some ⟨p, 0, none⟩), .string s] w fun e w' => e = .returned (.tuple #[]) ∧ ∃ F', OutAt 56 w' p (l ++ s.data.toList) F' ∧ Keeps F w w' ∧ ∀ k, k ∈ F' → k ∈ F ∨ w.heap.size ≤ k := by
  have H := hid h; clear h
  go_enter Tryd.func23, Tryd.ntmps23
  go_wp2_with fail
  refine (WriteString_any 56 bt_Out p l F s _ H.out hroom).mono ?_; rintro e w1 ⟨rfl, F1, h1, h2, h3⟩
  have h4 := hid h1; have h5 := hid h2; have h6 := hid h3
  clear h1 h2 h3
  go_wp2_with fail
  go_end0
  exact ⟨rfl, F1, h4.out, h5.out, h6.out⟩

set_option maxHeartbeats 1000000 in
theorem Out_Bytes_any (p : Nat) (l : List UInt8) (F : List Nat) (w : World) (h : OutAt 56 w p l F) :
    Calls Tryd.prog 24 #[.pointer (some ⟨p, 0, none⟩)] w fun e w' => e = .returned (.string ⟨l.toArray⟩) ∧ OutAt 56 w' p l F ∧ Keeps F w w' := by
  have H := hid h; clear h
  go_enter Tryd.func24, Tryd.ntmps24
  go_wp2_with fail
  refine (String_any 56 p l F _ H.out).mono ?_; rintro e w1 ⟨rfl, h1, h2⟩
  have h4 := hid h1; have h5 := hid h2
  clear h1 h2
  go_wp2_with fail
  go_ret
  exact ⟨rfl, h4.out, h5.out⟩

/-! a nil one -/
set_option maxHeartbeats 1000000 in
theorem Out_Num_nil (width : Int) (v : Value) (w : World) :
    Calls Tryd.prog 22 #[.pointer none, .int .i64 width, v] w fun e w' => e = .returned (.int .i64 2) ∧ Below w.heap.size w w' := by
  go_enter Tryd.func22, Tryd.ntmps22
  go_wp2_with fail
  go_ret
  exact ⟨rfl, below_alloc _ _⟩
set_option maxHeartbeats 1000000 in
theorem Out_Raw_nil (v : Value) (w : World) :
    Calls Tryd.prog 23 #[.pointer none, v] w fun e w' => e = .returned (.tuple #[]) ∧ w = w' := by
  go_enter Tryd.func23, Tryd.ntmps23
  go_wp2_with fail
  go_end0
  exact ⟨rfl, rfl⟩
set_option maxHeartbeats 1000000 in
theorem Out_Bytes_nil (w : World) :
    Calls Tryd.prog 24 #[.pointer none] w fun e w' => e = .returned (.string emptyB) ∧ w = w' := by
  go_enter Tryd.func24, Tryd.ntmps24
  go_wp2_with fail
  go_ret
  exact ⟨rfl, rfl⟩
end Go.Proofs.YtjeoelhenlckaaaDoor
