/-
  The document's sum, walked: Step, Sum; the digits' texts: Text of both.
-/
import Derived.Test.YtjeoelhenlckaaaProg
import Derived.Test.YtjeoelhenlckaaaKit
import Derived.Test.YtjeoelhenlckaaaCrcPure
namespace Go.Proofs.Ytjeoelhenlckaaa
open Go.RowKit

def ones_ (x : Nat) : Nat → Nat
  | 0 => x
  | k + 1 => Crc.one (ones_ x k)
theorem ones_lt_ {x : Nat} (h : x < 4294967296) : ∀ k, ones_ x k < 4294967296
  | 0 => h
  | k + 1 => Crc.one_lt (ones_lt_ h k)
theorem ones_8 (r b : Nat) : ones_ (r ^^^ b) 8 = Crc.upd r b := (Crc.upd8_eq r b)

set_option maxHeartbeats 1000000 in
theorem ref02_Step_any (r b : Nat) (hr : r < 4294967296) (hb : b < 256) (w : World) :
    Calls Try.prog 120 #[.int .u32 r, .int .u8 b] w fun e w' => e = .returned (.int .u32 (Crc.upd r b)) ∧ w = w' := by
  have e1 := u32_xor_nat r b hr (by omega)
  obtain ⟨x, hx⟩ : ∃ x, x = r ^^^ b := ⟨_, rfl⟩
  have hxl : x < 4294967296 := by rw [hx]; exact Nat.xor_lt_two_pow (n := 32) hr (by omega)
  have h8 := ones_8 r b
  rw [← hx] at e1 h8
  have H8 := hid h8; clear h8 hx
  go_enter Try.func120, Try.ntmps120
  go_wp2
  go_loopg [0, 5] 8 (fun n r i wx => ∃ k : Nat, k + n = 8 ∧ i = .int .i64 k ∧ r = .int .u32 (ones_ x k) ∧ w = wx)
  case atStart => exact ⟨0, by omega, rfl, rfl, rfl⟩
  case round =>
    obtain ⟨k, hk, rfl, rfl, rfl⟩ := hrel
    by_cases hlt : k < 8
    · obtain ⟨y, hy⟩ : ∃ y, y = ones_ x k := ⟨_, rfl⟩
      rw [← hy]
      have hyl : y < 4294967296 := by rw [hy]; exact ones_lt_ hxl k
      have hn : ones_ x (k + 1) = Crc.one y := by rw [hy]; rfl
      have HN := hid hn
      clear hy hn
      by_cases h2 : y % 2 = 1
      · have h3 : ((y : Int) % 2 == 1) = true := by simp; omega
        have e2 := u32_xor_nat (y / 2) Crc.P (by omega) (by decide)
        rw [show (((y / 2 : Nat)) : Int) = (y : Int) / 2 by omega, show (Crc.P : Int) = 2197175160 from rfl] at e2
        have e3 : ((y / 2 ^^^ Crc.P : Nat) : Int) = (Crc.one y : Nat) := by unfold Crc.one; rw [if_pos h2]
        rw [e3] at e2
        clear e3
        go_wp2
        go_roundg (8 - (k + 1))
        case measure => omega
        case rel => exact ⟨k + 1, by omega, by go_num, by rw [HN.out], rfl⟩
      · have h3 : ((y : Int) % 2 == 1) = false := by simp; omega
        have e3 : ((y : Int) / 2) = (Crc.one y : Nat) := by unfold Crc.one; rw [if_neg h2]; omega
        have HE := hid e3; clear e3
        go_wp2
        go_roundg (8 - (k + 1))
        case measure => omega
        case rel => exact ⟨k + 1, by omega, by go_num, by rw [HN.out, HE.out], rfl⟩
    · go_wp2
      go_ret
      have h1 : k = 8 := by omega
      subst h1
      rw [H8.out]
      exact ⟨rfl, rfl⟩

set_option maxHeartbeats 1000000 in
theorem ref02_Sum_any (s : ByteArray) (w : World) (hs : s.size ≤ 9223372036854775807) :
    Calls Try.prog 111 #[.string s] w fun e w' => e = .returned (.int .u32 (Crc.sum s.data.toList)) ∧ w = w' := by
  go_enter Try.func111, Try.ntmps111
  go_wp2
  go_loopg [3, 4] s.size (fun n r i wx => ∃ k : Nat, k + n = s.size ∧ i = .int .i64 k ∧ r = .int .u32 (Crc.fold Crc.ones (s.data.toList.take k)) ∧ w = wx)
  case atStart => exact ⟨0, by omega, rfl, rfl, rfl⟩
  case round =>
    obtain ⟨k, hk, rfl, rfl, rfl⟩ := hrel
    by_cases hlt : k < s.size
    · have hsn := take_snoc s k hlt
      rw [data_getD s k hlt] at hsn
      obtain ⟨r, hr⟩ : ∃ r, r = Crc.fold Crc.ones (s.data.toList.take k) := ⟨_, rfl⟩
      have hrl : r < 4294967296 := by rw [hr]; exact Crc.fold_lt Crc.ones_lt _
      have hn : Crc.fold Crc.ones (s.data.toList.take (k + 1)) = Crc.upd r s[k].toNat := by rw [hsn, Crc.fold_snoc, ← hr]
      rw [← hr]
      have HN := hid hn; clear hn hsn hr
      have hbl : s[k].toNat < 256 := s[k].toNat_lt
      go_wp2_with (go_at_call 120; refine (ref02_Step_any r s[k].toNat hrl hbl _).mono ?_; rintro e w' ⟨rfl, rfl⟩)
      go_roundg (s.size - (k + 1))
      case measure => omega
      case rel => exact ⟨k + 1, by omega, by go_num, by rw [HN.out], rfl⟩
    · go_wp2
      go_ret
      have h1 : k = s.size := by omega
      refine ⟨ret_int ?_, rfl⟩
      rw [h1, take_all]
      have := u32_xor_nat (Crc.fold Crc.ones s.data.toList) Crc.ones (Crc.fold_lt Crc.ones_lt _) Crc.ones_lt
      rw [show (Crc.ones : Int) = 4294967295 from rfl] at this
      rw [this]
      unfold Crc.sum Crc.more
      rw [Nat.zero_xor]
end Go.Proofs.Ytjeoelhenlckaaa
