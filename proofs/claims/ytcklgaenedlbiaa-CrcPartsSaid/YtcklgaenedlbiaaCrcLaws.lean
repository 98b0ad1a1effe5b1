/-
  The laws of the sum, walked.
-/
import Derived.Test.YtcklgaenedlbiaaCrcAwake
namespace Go.Proofs.Ytcklgaenedlbiaa
open Go.RowKit

theorem app_data (a b : ByteArray) : (a ++ b).data.toList = a.data.toList ++ b.data.toList := by simp
theorem app_size (a b : ByteArray) : (a ++ b).size = a.size + b.size := by simp
theorem all1 (a : ByteArray) : bytesAll [a] = a.data.toList := by simp [bytesAll]
theorem all2 (a b : ByteArray) : bytesAll [a, b] = a.data.toList ++ b.data.toList := by simp [bytesAll]
theorem all3 (a b c : ByteArray) : bytesAll [a, b, c] = a.data.toList ++ b.data.toList ++ c.data.toList := by simp [bytesAll]
theorem sum_lt (l : List UInt8) : Crc.sum l < 4294967296 := Crc.more_lt (by decide) l
theorem small1 {a : ByteArray} (ha : a.size ≤ 9223372036854775807) : ∀ p ∈ [a], p.size ≤ maxLen := by
  intro p hp; simp at hp; subst hp; unfold maxLen; exact ha
theorem small2 {a b : ByteArray} (ha : a.size ≤ 9223372036854775807) (hb : b.size ≤ 9223372036854775807) : ∀ p ∈ [a, b], p.size ≤ maxLen := by
  intro p hp; simp at hp; rcases hp with rfl | rfl <;> unfold maxLen <;> assumption
theorem small3 {a b c : ByteArray} (ha : a.size ≤ 9223372036854775807) (hb : b.size ≤ 9223372036854775807) (hc : c.size ≤ 9223372036854775807) : ∀ p ∈ [a, b, c], p.size ≤ maxLen := by
  intro p hp; simp at hp; rcases hp with rfl | rfl | rfl <;> unfold maxLen <;> assumption

/-- the sums of parts that the caller lays beside each other -/
theorem crc_Sum_1 (n : Nat) (a : ByteArray) (A : Option Addr) (w : World) (ha : a.size ≤ 9223372036854775807) (hn : Crc.sum a.data.toList = n) (hr : Row w A [.string a]) :
    Calls Try.prog 10 #[.slice A 1 1] w fun e w' => e = .returned (.int .u32 n) ∧ Below w.heap.size w w' :=
  crc_Sum_v n [a] _ 1 1 _ _ rfl (by decide) (small1 ha) rfl hr (by rw [all1]; exact hn)
theorem crc_Sum_3 (n : Nat) (a b c : ByteArray) (A : Option Addr) (w : World) (ha : a.size ≤ 9223372036854775807) (hb : b.size ≤ 9223372036854775807) (hc : c.size ≤ 9223372036854775807) (hn : Crc.sum (a.data.toList ++ b.data.toList ++ c.data.toList) = n) (hr : Row w A [.string a, .string b, .string c]) :
    Calls Try.prog 10 #[.slice A 3 3] w fun e w' => e = .returned (.int .u32 n) ∧ Below w.heap.size w w' :=
  crc_Sum_v n [a, b, c] _ 3 3 _ _ rfl (by decide) (small3 ha hb hc) rfl hr (by rw [all3]; exact hn)
theorem crc_More_0 (m : Nat) (w : World) (hm : m < 4294967296) :
    Calls Try.prog 11 #[.int .u32 m, .slice none 0 0] w fun e w' => e = .returned (.int .u32 m) ∧ Below w.heap.size w w' := crc_More_none m hm none 0 w
theorem crc_More_1 (m n : Nat) (a : ByteArray) (A : Option Addr) (w : World) (hm : m < 4294967296) (ha : a.size ≤ 9223372036854775807) (hn : Crc.more m a.data.toList = n) (hr : Row w A [.string a]) :
    Calls Try.prog 11 #[.int .u32 m, .slice A 1 1] w fun e w' => e = .returned (.int .u32 n) ∧ Below w.heap.size w w' :=
  crc_More_v m n hm [a] _ 1 1 _ _ rfl (by decide) (small1 ha) rfl hr (by rw [all1]; exact hn)
theorem crc_More_2 (m n : Nat) (a b : ByteArray) (A : Option Addr) (w : World) (hm : m < 4294967296) (ha : a.size ≤ 9223372036854775807) (hb : b.size ≤ 9223372036854775807) (hn : Crc.more m (a.data.toList ++ b.data.toList) = n) (hr : Row w A [.string a, .string b]) :
    Calls Try.prog 11 #[.int .u32 m, .slice A 2 2] w fun e w' => e = .returned (.int .u32 n) ∧ Below w.heap.size w w' :=
  crc_More_v m n hm [a, b] _ 2 2 _ _ rfl (by decide) (small2 ha hb) rfl hr (by rw [all2]; exact hn)

end Go.Proofs.Ytcklgaenedlbiaa
