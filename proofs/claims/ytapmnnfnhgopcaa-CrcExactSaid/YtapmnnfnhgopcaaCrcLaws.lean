/-
  The laws of the sum, walked.
-/
import Derived.Test.YtapmnnfnhgopcaaCrcAwake
namespace Go.Proofs.Ytapmnnfnhgopcaa
open Go.RowKit

theorem app_data (a b : ByteArray) : (a ++ b).data.toList = a.data.toList ++ b.data.toList := by simp
theorem app_size (a b : ByteArray) : (a ++ b).size = a.size + b.size := by simp
theorem all1 (a : ByteArray) : bytesAll [a] = a.data.toList := by simp [bytesAll]
theorem all2 (a b : ByteArray) : bytesAll [a, b] = a.data.toList ++ b.data.toList := by simp [bytesAll]
theorem all3 (a b c : ByteArray) : bytesAll [a, b, c] = a.data.toList ++ b.data.toList ++ c.data.toList := by simp [bytesAll]
theorem sum_lt (l : List UInt8) : Crc.sum l < 4294967296 := Crc.more_lt (by decide) l
theorem small1 {a : ByteArray} (ha : a.size ≤ 9223372036854775807) : ∀ p ∈ [a], p.size ≤ maxLen := by
  intro p hp; simp at hp; subst hp; unfold maxLen; exact ha
theorem small2 {a b : ByteArray} (ha : a.size ≤ 9223372036854775807) (hb : b.size ≤ 9223372036854775807) : ∀ p ∈ [a, b], p.size ≤ maxLen := by
  intro p hp; simp at hp; rcases hp with rfl | rfl <;> unfold maxLen <;> assumption
theorem small3 {a b c : ByteArray} (ha : a.size ≤ 9223372036854775807) (hb : b.size ≤ 9223372036854775807) (hc : c.size ≤ 9223372036854775807) : ∀ p ∈ [a, b, c], p.size ≤ maxLen := by
  intro p hp; simp at hp; rcases hp with rfl | rfl | rfl <;> unfold maxLen <;> assumption

/-- the sums of parts that the caller lays beside each other -/
theorem crc_Sum_1 (n : Nat) (a : ByteArray) (A : Option Addr) (w : World) (ha : a.size ≤ 9223372036854775807) (hn : Crc.sum a.data.toList = n) (hr : Row w A [.string a]) :
    Calls Try.prog 18 #[.slice A 1 1] w fun e w' => e = .returned (.int .u32 n) ∧ Below w.heap.size w w' :=
  crc_Sum_v n [a] _ 1 1 _ _ rfl (by decide) (small1 ha) rfl hr (by rw [all1]; exact hn)
theorem crc_Sum_3 (n : Nat) (a b c : ByteArray) (A : Option Addr) (w : World) (ha : a.size ≤ 9223372036854775807) (hb : b.size ≤ 9223372036854775807) (hc : c.size ≤ 9223372036854775807) (hn : Crc.sum (a.data.toList ++ b.data.toList ++ c.data.toList) = n) (hr : Row w A [.string a, .string b, .string c]) :
    Calls Try.prog 18 #[.slice A 3 3] w fun e w' => e = .returned (.int .u32 n) ∧ Below w.heap.size w w' :=
  crc_Sum_v n [a, b, c] _ 3 3 _ _ rfl (by decide) (small3 ha hb hc) rfl hr (by rw [all3]; exact hn)
theorem crc_More_0 (m : Nat) (w : World) (hm : m < 4294967296) :
    Calls Try.prog 19 #[.int .u32 m, .slice none 0 0] w fun e w' => e = .returned (.int .u32 m) ∧ Below w.heap.size w w' := crc_More_none m hm none 0 w
theorem crc_More_1 (m n : Nat) (a : ByteArray) (A : Option Addr) (w : World) (hm : m < 4294967296) (ha : a.size ≤ 9223372036854775807) (hn : Crc.more m a.data.toList = n) (hr : Row w A [.string a]) :
    Calls Try.prog 19 #[.int .u32 m, .slice A 1 1] w fun e w' => e = .returned (.int .u32 n) ∧ Below w.heap.size w w' :=
  crc_More_v m n hm [a] _ 1 1 _ _ rfl (by decide) (small1 ha) rfl hr (by rw [all1]; exact hn)
theorem crc_More_2 (m n : Nat) (a b : ByteArray) (A : Option Addr) (w : World) (hm : m < 4294967296) (ha : a.size ≤ 9223372036854775807) (hb : b.size ≤ 9223372036854775807) (hn : Crc.more m (a.data.toList ++ b.data.toList) = n) (hr : Row w A [.string a, .string b]) :
    Calls Try.prog 19 #[.int .u32 m, .slice A 2 2] w fun e w' => e = .returned (.int .u32 n) ∧ Below w.heap.size w w' :=
  crc_More_v m n hm [a, b] _ 2 2 _ _ rfl (by decide) (small2 ha hb) rfl hr (by rw [all2]; exact hn)

set_option maxHeartbeats 1000000 in
set_option maxRecDepth 100000 in
theorem CrcExact_walk (a b : ByteArray) (w : World) (ha : a.size ≤ 140737488351232) (hb : b.size ≤ 140737488351232) :
    Calls Try.prog 3 #[.string a, .string b] w fun e w' => e = .returned (.bool true) ∧ Below w.heap.size w w' := by
  by_cases h1 : a.size ≤ 4096
  · by_cases h2 : b.size ≤ 4096
    · go_enter Try.func3, Try.ntmps3
      go_wp2_with fail
      refine (awake02_any _).mono ?_; rintro e w1 ⟨rfl, hb1⟩
      go_wp2_with fail
      have hS := app_size a b
      have hD := app_data a b
      obtain ⟨S, hSe⟩ : ∃ S, S = a ++ b := ⟨_, rfl⟩
      rw [← hSe] at hS hD ⊢
      obtain ⟨n, hn⟩ : ∃ n, n = Crc.sum (a.data.toList ++ b.data.toList) := ⟨_, rfl⟩
      have hnl : n < 4294967296 := by rw [hn]; exact sum_lt _
      have n1 : Crc.sum S.data.toList = n := by rw [hD, hn]
      have n2 : Crc.sum (bytesAll [a, b]) = n := by rw [all2, hn]
      have n3 : Crc.sum (bytesAll [S]) = n := by rw [all1, hD, hn]
      obtain ⟨m, hm⟩ : ∃ m, m = Crc.sum a.data.toList := ⟨_, rfl⟩
      have hml : m < 4294967296 := by rw [hm]; exact sum_lt _
      have n4 : Crc.more m (bytesAll [b]) = n := by rw [all1, hm, hn]; exact (Crc.more_append 0 _ _).symm
      have HS := hid hS; have HD := hid hD; have HSE := hid hSe; have HN := hid hn; have N1 := hid n1; have N2 := hid n2; have N3 := hid n3; have N4 := hid n4; have HM := hid hm
      have hS2 : S.size ≤ 9223372036854775807 := by omega
      clear hS hD hSe hn n1 n2 n3 n4 hm
      refine (ref02_Sum_any S _ hS2).mono ?_; rintro e w2 ⟨rfl, rfl⟩; rw [N1.out]
      go_wp2_with fail
      refine (crc_Sum_v n [a, b] _ _ _ _ _ rfl (by simp) (small2 (by omega) (by omega)) rfl (row_new _ _ _) N2.out).mono ?_; rintro e w3 ⟨rfl, hb3⟩
      go_wp2_with fail
      rw [← HSE.out]
      refine (crc_Sum_v n [S] _ _ _ _ _ rfl (by simp) (small1 hS2) rfl (row_new _ _ _) N3.out).mono ?_; rintro e w4 ⟨rfl, hb4⟩
      go_wp2_with fail
      refine (ref02_Sum_any a _ (by omega)).mono ?_; rintro e w5 ⟨rfl, rfl⟩; rw [← HM.out]
      go_wp2_with fail
      refine (crc_More_v m n hml [b] _ _ _ _ _ rfl (by simp) (small1 (by omega)) rfl (row_new _ _ _) N4.out).mono ?_; rintro e w6 ⟨rfl, hb6⟩
      go_wp2_with fail
      refine (crc_Text_any n hnl _).mono ?_; rintro e w7 ⟨rfl, hb7⟩
      go_wp2_with fail
      refine (ref02_Text_any n hnl _).mono ?_; rintro e w8 ⟨rfl, rfl⟩
      go_wp2_with fail
      go_ret
      exact ⟨rfl, by repeat (first | exact Below.refl _ _ | (refine ba ?_ (by assumption)) | (refine bt ?_ (by assumption)) | (refine bt ?_ (below_alloc _ _)))⟩
    · go_enter Try.func3, Try.ntmps3
      go_wp2_with fail
      refine (awake02_any _).mono ?_; rintro e w1 ⟨rfl, hb1⟩
      go_wp2_with fail
      go_ret
      exact ⟨rfl, hb1⟩
  · go_enter Try.func3, Try.ntmps3
    go_wp2_with fail
    refine (awake02_any _).mono ?_; rintro e w1 ⟨rfl, hb1⟩
    go_wp2_with fail
    go_ret
    exact ⟨rfl, hb1⟩
end Go.Proofs.Ytapmnnfnhgopcaa
