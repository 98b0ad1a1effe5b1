/-
  The digits of a sum, walked: Text of both; Parse; digits.
-/
import Derived.Test.YtcklgaenedlbiaaProg
import Derived.Test.YtcklgaenedlbiaaKit
import Derived.Test.YtcklgaenedlbiaaCrcPure
namespace Go.Proofs.Ytcklgaenedlbiaa
open Go.RowKit

def digs : ByteArray := ⟨#[48, 49, 50, 51, 52, 53, 54, 55, 56, 57, 97, 98, 99, 100, 101, 102]⟩
def dig (d : Nat) : UInt8 := digs.data.toList.getD d 0
/-- the last i digits -/
def hx (n : Nat) : Nat → List UInt8
  | 0 => []
  | i + 1 => dig (n / 16 ^ i % 16) :: hx n i
theorem hx_len (n : Nat) : ∀ i, (hx n i).length = i
  | 0 => rfl
  | i + 1 => by simp [hx, hx_len n i]

theorem extract_dig (d : Nat) (h : d < 16) : digs.extract d (d + 1) = ⟨#[dig d]⟩ := by
  have h : d = 0 ∨ d = 1 ∨ d = 2 ∨ d = 3 ∨ d = 4 ∨ d = 5 ∨ d = 6 ∨ d = 7 ∨ d = 8 ∨ d = 9 ∨ d = 10 ∨ d = 11 ∨ d = 12 ∨ d = 13 ∨ d = 14 ∨ d = 15 := by omega
  rcases h with rfl | rfl | rfl | rfl | rfl | rfl | rfl | rfl | rfl | rfl | rfl | rfl | rfl | rfl | rfl | rfl <;> rfl

theorem text_step (n k x : Nat) (S : ByteArray) (h : x = n / 16 ^ k ∧ S = ⟨(hx n k).toArray⟩) :
    x / 16 = n / 16 ^ (k + 1) ∧ digs.extract (x % 16) (x % 16 + 1) ++ S = ⟨(hx n (k + 1)).toArray⟩ := by
  obtain ⟨h1, h2⟩ := h
  constructor
  · rw [h1, Nat.div_div_eq_div_mul, Nat.pow_succ]
  · rw [extract_dig _ (Nat.mod_lt _ (by decide)), h2, h1]
    apply ByteArray.ext
    simp [hx]

theorem dig_at (d : Nat) (h : d < 16) : ∃ hd : d < digs.size, (digs[d]'hd) = dig d := by
  have hd : d < digs.size := h
  refine ⟨hd, ?_⟩
  unfold dig
  rw [data_getD digs d hd]

theorem info_u8 : (Try.prog.info? 5).map (fun i => (i.zero, i.size, i.bytes)) = some (some (.int .u8 0), 1, 1) := by kernel_rfl

/-- what the loop has written after k rounds -/
def outs (n k : Nat) : List Value := List.replicate (8 - k) (.int .u8 0) ++ u8s (hx n k)
theorem outs_next (n k : Nat) (h : k < 8) : (outs n k).set (7 - k) (.int .u8 ((dig (n / 16 ^ k % 16)).toNat : Int)) = outs n (k + 1) := by
  unfold outs
  rw [show 8 - k = (7 - k) + 1 by omega, List.replicate_succ', List.append_assoc]
  rw [List.set_append_right _ _ (by simp)]
  simp [u8s, hx, show 8 - (k + 1) = 7 - k by omega]

set_option maxHeartbeats 1000000 in
set_option maxRecDepth 100000 in
theorem crc_Text_any (n : Nat) (hn : n < 4294967296) (w : World) :
    Calls Try.prog 55 #[.int .u32 n] w fun e w' => e = .returned (.string ⟨(hx n 8).toArray⟩) ∧ Below w.heap.size w w' := by
  obtain ⟨i0, hi, hz0, hz1, hz2⟩ := info_parts info_u8
  go_enter Try.func55, Try.ntmps55
  go_wp2_with (at_make; refine wpList_make_k rfl _ _ _ rfl 5 i0 (.int .u8 0) Try.underlying63 hi hz0 hz1 rfl .i64 .i64 8 8 8 rfl rfl rfl rfl (by rw [hz2]; decide) (by decide) ?_; intro w1 hB hb1 hs1)
  have HB := hid hB; clear hB
  go_loopg [8] 8 (fun g i wr => ∃ k : Nat, k + g = 8 ∧ i = .int .i64 k ∧ Hid (Blk wr w.heap.size 5 (outs n k)) ∧ Below w.heap.size w wr)
  case atStart => exact ⟨0, by omega, rfl, HB, hb1⟩
  case round =>
    obtain ⟨k, hk, rfl, HB2, hbr⟩ := hrel
    by_cases hlt : k < 8
    · obtain ⟨q, hq⟩ : ∃ q, q = n / 16 ^ k := ⟨_, rfl⟩
      have e1 : (n : Int) / 2 ^ (4 * k) = (q : Int) := by
        have h2 : ((2 ^ (4 * k) : Nat) : Int) = 2 ^ (4 * k) := by simp
        rw [hq, ← h2, Nat.pow_mul, Int.natCast_ediv]
      have hql : q < 4294967296 := by rw [hq]; exact Nat.lt_of_le_of_lt (Nat.div_le_self _ _) hn
      have e2 : bits .and .u32 (q : Int) 15 = ((q &&& 15 : Nat) : Int) := u32_and_nat q 15 hql (by omega)
      rw [nat_mask4] at e2
      obtain ⟨d, hd⟩ : ∃ d, d = q % 16 := ⟨_, rfl⟩
      have hdl : d < 16 := by rw [hd]; exact Nat.mod_lt _ (by decide)
      rw [← hd] at e2
      have HD := hid hd
      have HQ := hid hq
      clear hd hq
      have hl : (outs n k).length = 8 := by simp [outs, u8s, hx_len]; omega
      obtain ⟨v0, hv0⟩ : ∃ v, (outs n k)[7 - k]? = some v := ⟨_, List.getElem?_eq_getElem (by omega)⟩
      have hc := HB2.out.at hv0
      have hf := HB2.out.free (i := 7 - k) (by omega)
      clear hv0 hl
      go_wp2
      go_roundg (8 - (k + 1))
      case measure => omega
      case rel =>
        obtain ⟨hd16, hdig⟩ := dig_at d hdl
        have hs := HB2.out.set (7 - k) (.int .u8 ((dig d).toNat : Int))
        rw [HD.out, HQ.out, outs_next n k hlt, ← HQ.out, ← HD.out, ← hdig] at hs
        exact ⟨k + 1, by omega, by go_num, hs, hbr.setCell (Nat.le_refl _) _⟩
    · have h1 : k = 8 := by omega
      subst h1
      have ho : outs n 8 = u8s (hx n 8) := by simp [outs]
      rw [ho] at HB2
      go_wp2_with (with_reducible refine at_op (.convert 63 9 (.tmp 22)) rfl ?_; refine wpList_string rfl _ _ 5 _ rfl ⟨w.heap.size, 0, none⟩ 8 8 (hx n 8) rfl (hx_len n 8).symm Try.underlying63 Try.underlying5 Try.underlying9 HB2.out.bytes' ?_)
      go_ret
      exact ⟨rfl, hbr⟩
end Go.Proofs.Ytcklgaenedlbiaa
