/-
  The writer of layer 1, walked: Text, Raw, Bytes, Len; of a nil one too.
-/
import Derived.Test.YtcklgaenedlbiaaPenOut
namespace Go.Proofs.Ytcklgaenedlbiaa
open Go.RowKit

/-- texts with their lengths -/
def textB (s : ByteArray) : List UInt8 := UInt8.ofNat s.size :: s.data.toList
def textAll (ss : List ByteArray) : List UInt8 := (ss.map textB).flatten
theorem textB_length (s : ByteArray) : (textB s).length = s.size + 1 := by simp [textB]
theorem textAll_snoc (ss : List ByteArray) (s : ByteArray) : textAll (ss ++ [s]) = textAll ss ++ textB s := by simp [textAll]
theorem textAll_take (ss : List ByteArray) (k : Nat) (h : k < ss.length) : textAll (ss.take (k + 1)) = textAll (ss.take k) ++ textB ss[k] := by
  rw [List.take_succ_eq_append_getElem h, textAll_snoc]
theorem textAll_le (ss : List ByteArray) (k : Nat) : (textAll (ss.take k)).length ≤ (textAll ss).length := by
  have h : textAll ss = textAll (ss.take k) ++ textAll (ss.drop k) := by
    unfold textAll
    rw [← List.flatten_append, ← List.map_append, List.take_append_drop]
  rw [h, List.length_append]; omega

set_option maxHeartbeats 2000000 in
set_option maxRecDepth 100000 in
theorem Out_Text_no (p : Nat) (ss : List ByteArray) (A : Option Addr) (cap : Nat) (w : World) (hr : Row w A (strs ss)) (hlen : ss.length ≤ 9223372036854775807) (hc : (ss.any fun s => decide (255 < s.size)) = true) :
    Calls Try.prog 128 #[.pointer (some ⟨p, 0, none⟩), .slice A ss.length cap] w fun e w' => e = .returned (.int .i64 1) ∧ w = w' := by
  have HR := hid hr; have HC := hid hc; clear hr hc
  go_enter Try.func128, Try.ntmps128
  go_wp2_with fail
  refine (ContainsFunc_strs 130 #[] (fun s => decide (255 < s.size)) (enters_of Try.func130 (by kernel_rfl) rfl) A cap ss hlen _ HR.out (fun s => Text1_any s _)).mono ?_
  rintro e w1 ⟨rfl, rfl⟩
  rw [HC.out]
  go_wp2_with fail
  go_ret
  exact ⟨rfl, rfl⟩

set_option maxHeartbeats 4000000 in
set_option maxRecDepth 100000 in
theorem Out_Text_gen (p : Nat) (l : List UInt8) (F : List Nat) (ss : List ByteArray) (A : Option Addr) (cap : Nat) (w : World) (h : OutAt 131 w p l F) (hr : Row w A (strs ss)) (hd : 0 < ss.length → ∀ a, A = some a → a.block ∉ F)
    (hlen : ss.length ≤ 9223372036854775807) (hf : (ss.any fun s => decide (255 < s.size)) = false) (hroom : l.length + (textAll ss).length ≤ 140737488355328) :
    Calls Try.prog 128 #[.pointer (some ⟨p, 0, none⟩), .slice A ss.length cap] w fun e w' => e = .returned (.int .i64 0) ∧ ∃ F', OutAt 131 w' p (l ++ textAll ss) F' ∧ Keeps F w w' ∧ ∀ k, k ∈ F' → k ∈ F ∨ w.heap.size ≤ k := by
  have HR := hid hr; have HC := hid hf; have H := hid h; have HD := hid hd; have HL := hid hroom
  clear hr hf h hd hroom
  go_enter Try.func128, Try.ntmps128
  go_wp2_with fail
  refine (ContainsFunc_strs 130 #[] (fun s => decide (255 < s.size)) (enters_of Try.func130 (by kernel_rfl) rfl) A cap ss hlen _ HR.out (fun s => Text1_any s _)).mono ?_
  rintro e w1 ⟨rfl, rfl⟩
  rw [HC.out]
  go_wp2_with fail
  go_loopg [15] ss.length (fun g j wx => ∃ (k : Nat) (F1 : List Nat), k + g = ss.length ∧ j = .int .i64 k ∧ Hid (OutAt 131 wx p (l ++ textAll (ss.take k)) F1 ∧ Keeps F w wx ∧ ∀ x, x ∈ F1 → x ∈ F ∨ w.heap.size ≤ x))
  case atStart => exact ⟨0, F, by omega, rfl, ⟨by simpa [textAll] using H.out, Keeps.refl _ _, fun x h => .inl h⟩⟩
  case round =>
    obtain ⟨k, F1, hk, rfl, HI⟩ := hrel
    by_cases hlt : k < ss.length
    · obtain ⟨b, off, rfl, hb, hc⟩ := row_cell HR.out (by intro e; have := congrArg List.length e; simp [strs] at this; subst this; exact absurd hlt (by simp))
      have hcell := hc k (.string ss[k]) (by simp [strs, hlt])
      rw [← HI.out.2.1.cell hb (HD.out (by omega) _ rfl)] at hcell
      obtain ⟨s, hs⟩ : ∃ s, s = ss[k] := ⟨_, rfl⟩
      rw [← hs] at hcell
      have hsz : s.size ≤ 255 := by
        have := HC.out
        rw [List.any_eq_false] at this
        have h2 := this s (by rw [hs]; exact List.getElem_mem _)
        simpa using h2
      have hszi : (s.size : Int) ≤ 255 := by omega
      have hcu : (s.size : Int) = ((UInt8.ofNat s.size).toNat : Int) := by
        have h2 : (UInt8.ofNat s.size).toNat = s.size % 256 := by simp
        rw [h2]
        omega
      have hle : (l ++ textAll (ss.take k)).length + (s.size + 1) ≤ 140737488355328 := by
        have h1 := textAll_le ss (k + 1)
        rw [textAll_take ss k hlt, List.length_append, textB_length, ← hs] at h1
        have := HL.out
        rw [List.length_append]; omega
      have HN := hid hs; have HCU := hid hcu; have HLE := hid hle
      clear hs hb hc hcu hle hsz
      go_wp2_with fail
      refine (WriteByte_any 131 bt_Out p _ F1 _ (UInt8.ofNat s.size) HCU.out _ HI.out.1 (by have := HLE.out; omega)).mono ?_
      rintro e w3 ⟨rfl, F3, hO3, hK3, hF3⟩
      have HO3 := hid hO3; have HK3 := hid hK3; have HF3 := hid hF3
      clear hO3 hK3 hF3
      go_wp2_with fail
      refine (WriteString_any 131 bt_Out p _ F3 s _ HO3.out (by have := HLE.out; simp only [List.length_append, List.length_cons, List.length_nil] at this ⊢; omega)).mono ?_
      rintro e w4 ⟨rfl, F4, hO4, hK4, hF4⟩
      have HO4 := hid hO4; have HK4 := hid hK4; have HF4 := hid hF4
      clear hO4 hK4 hF4
      go_wp2_with fail
      go_roundg (ss.length - (k + 1))
      case measure => omega
      case rel =>
        have hk3 := HI.out.2.1.go HK3.out HI.out.2.2
        have hf3 : ∀ y, y ∈ F3 → y ∈ F ∨ w.heap.size ≤ y := fun y hy => by
          rcases HF3.out y hy with h | h
          · exact HI.out.2.2 y h
          · exact .inr (Nat.le_trans HI.out.2.1.size h)
        refine ⟨k + 1, F4, by omega, by go_num, ⟨?_, hk3.go HK4.out hf3, ?_⟩⟩
        · have := HO4.out
          rw [textAll_take ss k hlt, ← HN.out]
          simpa [textB] using this
        · intro y hy
          rcases HF4.out y hy with h | h
          · exact hf3 y h
          · exact .inr (Nat.le_trans hk3.size h)
    · go_wp2_with fail
      go_ret
      refine ⟨rfl, F1, ?_, HI.out.2.1, HI.out.2.2⟩
      have := HI.out.1
      rwa [List.take_of_length_le (by omega)] at this

theorem Out_Text_yes (p : Nat) (l : List UInt8) (F : List Nat) (ss : List ByteArray) (A : Option Addr) (cap : Nat) (w : World) (h : OutAt 131 w p l F) (hr : Row w A (strs ss)) (hd : ∀ a, A = some a → a.block ∉ F)
    (hlen : ss.length ≤ 9223372036854775807) (hf : (ss.any fun s => decide (255 < s.size)) = false) (hroom : l.length + (textAll ss).length ≤ 140737488355328) :
    Calls Try.prog 128 #[.pointer (some ⟨p, 0, none⟩), .slice A ss.length cap] w fun e w' => e = .returned (.int .i64 0) ∧ ∃ F', OutAt 131 w' p (l ++ textAll ss) F' ∧ Keeps F w w' ∧ ∀ k, k ∈ F' → k ∈ F ∨ w.heap.size ≤ k :=
  Out_Text_gen p l F ss A cap w h hr (fun _ => hd) hlen hf hroom

set_option maxHeartbeats 1000000 in
theorem Out_Raw_any (p : Nat) (l : List UInt8) (F : List Nat) (s : ByteArray) (w : World) (h : OutAt 131 w p l F) (hroom : l.length + s.size ≤ 140737488355328) :
    Calls Try.prog 82 #[.pointer (some ⟨p, 0, none⟩), .string s] w fun e w' => e = .returned (.tuple #[]) ∧ ∃ F', OutAt 131 w' p (l ++ s.data.toList) F' ∧ Keeps F w w' ∧ ∀ k, k ∈ F' → k ∈ F ∨ w.heap.size ≤ k := by
  have H := hid h; clear h
  go_enter Try.func82, Try.ntmps82
  go_wp2_with fail
  refine (WriteString_any 131 bt_Out p l F s _ H.out hroom).mono ?_; rintro e w1 ⟨rfl, F1, h1, h2, h3⟩
  have h4 := hid h1; have h5 := hid h2; have h6 := hid h3
  clear h1 h2 h3
  go_wp2_with fail
  go_end0
  exact ⟨rfl, F1, h4.out, h5.out, h6.out⟩

set_option maxHeartbeats 1000000 in
theorem Out_Bytes_any (p : Nat) (l : List UInt8) (F : List Nat) (w : World) (h : OutAt 131 w p l F) :
    Calls Try.prog 84 #[.pointer (some ⟨p, 0, none⟩)] w fun e w' => e = .returned (.string ⟨l.toArray⟩) ∧ OutAt 131 w' p l F ∧ Keeps F w w' := by
  have H := hid h; clear h
  go_enter Try.func84, Try.ntmps84
  go_wp2_with fail
  refine (String_any 131 p l F _ H.out).mono ?_; rintro e w1 ⟨rfl, h1, h2⟩
  have h4 := hid h1; have h5 := hid h2
  clear h1 h2
  go_wp2_with fail
  go_ret
  exact ⟨rfl, h4.out, h5.out⟩

/-! a nil one -/
set_option maxHeartbeats 1000000 in
theorem Out_Num_nil (width : Int) (v : Value) (w : World) :
    Calls Try.prog 83 #[.pointer none, .int .i64 width, v] w fun e w' => e = .returned (.int .i64 2) ∧ Below w.heap.size w w' := by
  go_enter Try.func83, Try.ntmps83
  go_wp2_with fail
  go_ret
  exact ⟨rfl, below_alloc _ _⟩
set_option maxHeartbeats 1000000 in
theorem Out_Text_nil (v : Value) (w : World) :
    Calls Try.prog 128 #[.pointer none, v] w fun e w' => e = .returned (.int .i64 2) ∧ w = w' := by
  go_enter Try.func128, Try.ntmps128
  go_wp2_with fail
  go_ret
  exact ⟨rfl, rfl⟩
set_option maxHeartbeats 1000000 in
theorem Out_Raw_nil (v : Value) (w : World) :
    Calls Try.prog 82 #[.pointer none, v] w fun e w' => e = .returned (.tuple #[]) ∧ w = w' := by
  go_enter Try.func82, Try.ntmps82
  go_wp2_with fail
  go_end0
  exact ⟨rfl, rfl⟩
set_option maxHeartbeats 1000000 in
theorem Out_Bytes_nil (w : World) :
    Calls Try.prog 84 #[.pointer none] w fun e w' => e = .returned (.string emptyB) ∧ w = w' := by
  go_enter Try.func84, Try.ntmps84
  go_wp2_with fail
  go_ret
  exact ⟨rfl, rfl⟩
end Go.Proofs.Ytcklgaenedlbiaa
