/-
  The document's numbers of layer 7, walked.
-/
import Derived.Test.YtbhmkigomlpkcaaKeyNum
namespace Go.Proofs.Ytbhmkigomlpkcaa
open Go.RowKit

set_option maxHeartbeats 1000000 in
theorem ref_Number_no (v : ByteArray) (hv : v.size ≠ 8) (w : World) :
    Calls Try.prog 70 #[.string v] w fun e w' => e = .returned (.tuple #[.int .u64 0, .bool false]) ∧ w = w' := by
  have h0 : ((v.size : Int) != 8) = true := by simp; omega
  clear hv
  go_enter Try.func70, Try.ntmps70
  go_wp2_with fail
  go_ret2
  exact ⟨rfl, rfl⟩

set_option maxHeartbeats 1000000 in
set_option maxRecDepth 100000 in
theorem ref_Number_yes (v : ByteArray) (hv : v.size = 8) (w : World) :
    Calls Try.prog 70 #[.string v] w fun e w' => e = .returned (.tuple #[.int .u64 (num8 v), .bool true]) ∧ w = w' := by
  have h0 : ((v.size : Int) != 8) = false := by simp; omega
  have h8 : (v.size : Int) = 8 := by omega
  have HV := hid hv; clear hv
  go_enter Try.func70, Try.ntmps70
  go_wp2_with fail
  go_loopg [4, 5] 8 (fun g x j wx => ∃ (k : Nat) (N : Nat), k + g = 8 ∧ j = .int .i64 k ∧ x = .int .u64 N ∧ Hid (N = be (v.data.toList.take k)) ∧ w = wx)
  case atStart => exact ⟨0, 0, by omega, rfl, rfl, (show 0 = be (v.data.toList.take 0) by simp [be]), rfl⟩
  case round =>
    obtain ⟨k, N, hk, rfl, rfl, HN, rfl⟩ := hrel
    by_cases hlt : k < 8
    · have hkv : k < v.size := by rw [HV.out]; exact hlt
      have hki : (k : Int) < 8 := by omega
      have hsn := take_snoc v k hkv
      obtain ⟨x, hx⟩ : ∃ x, x = v.data.toList.getD k 0 := ⟨_, rfl⟩
      have hx7 : ∀ h : k < v.size, v[k]'h = x := by
        intro h
        rw [hx, data_getD v k h]
      rw [← hx] at hsn
      have hNl : N < 72057594037927936 := by
        have h1 := be_lt (v.data.toList.take k)
        rw [← HN.out] at h1
        have h2 : (v.data.toList.take k).length ≤ 7 := by rw [List.length_take]; omega
        have h3 : 256 ^ (v.data.toList.take k).length ≤ 256 ^ 7 := Nat.pow_le_pow_right (by decide) h2
        omega
      have hxl := x.toNat_lt
      have e1 : IntKind.u64.wrap ((N : Int) * 256) = ((N * 256 : Nat) : Int) := by rw [IntKind.wrap_u64]; omega
      obtain ⟨M, hM⟩ : ∃ M, M = N * 256 := ⟨_, rfl⟩
      rw [← hM] at e1
      have e2 : IntKind.u64.wrap ((M : Int) + (x.toNat : Int)) = ((M + x.toNat : Nat) : Int) := by rw [IntKind.wrap_u64]; omega
      have HNX : Hid (M + x.toNat = be (v.data.toList.take (k + 1))) := by rw [hsn, be_snoc, ← HN.out, hM]; rfl
      clear hx hsn hM
      go_wp2_with fail
      go_roundg (8 - (k + 1))
      case measure => omega
      case rel => exact ⟨k + 1, M + x.toNat, by omega, by go_num, rfl, HNX, rfl⟩
    · have hk8 : k = 8 := by omega
      subst hk8
      go_wp2_with fail
      go_ret2
      have : N = num8 v := by rw [HN.out, List.take_of_length_le (by rw [len_data, HV.out]; exact Nat.le_refl _)]; rfl
      rw [this]
      exact ⟨rfl, rfl⟩

theorem set_rep (k : Nat) (z x : Value) (r : List Value) : (List.replicate (k + 1) z ++ r).set k x = List.replicate k z ++ (x :: r) := by
  rw [List.replicate_succ', List.append_assoc, List.set_append_right _ _ (by simp)]
  simp

set_option maxHeartbeats 2000000 in
set_option maxRecDepth 100000 in
theorem ref_Value_any (n : Nat) (hn : n < 18446744073709551616) (w : World) :
    Calls Try.prog 23 #[.int .u64 (n : Int)] w fun e w' => e = .returned (.string (val8 n)) ∧ Below w.heap.size w w' := by
  obtain ⟨i0, hi, hz0, hz1, hz2⟩ := info_parts info_byte
  go_enter Try.func23, Try.ntmps23
  go_wp2_with (with_reducible refine at_op (.makeSlice 48 (.const (.int .i64 8)) (.const (.int .i64 8))) rfl ?_; refine Stopped.go ?_)
  refine Stopped.mk (wpList_make_k rfl _ _ _ rfl 5 i0 (.int .u8 0) Try.underlying48 hi hz0 hz1 rfl .i64 .i64 8 8 8 rfl rfl rfl rfl (by rw [hz2]; decide) (by decide) ?_)
  intro w1 hB1 hb1 hz
  have HB1 := hid hB1; have HBB := hid hb1; have HN := hid hn
  clear hB1 hb1 hz hi hz0 hz1 hz2 hn
  go_wp2_with fail
  go_loopg [0, 4] 9 (fun g x j wx => ∃ (k : Nat) (N : Nat), k + 1 = g ∧ k ≤ 8 ∧ j = .int .i64 ((k : Int) - 1) ∧ x = .int .u64 N ∧ Hid (N = n / 256 ^ (8 - k)) ∧ Hid (Blk wx w.heap.size 5 (List.replicate k (.int .u8 0) ++ u8s (beB (8 - k) n))) ∧ Hid (Below w.heap.size w wx))
  case atStart => exact ⟨8, n, by omega, by omega, by go_num, rfl, (show n = n / 256 ^ (8 - 8) by simp), (show Blk w1 w.heap.size 5 (List.replicate 8 (.int .u8 0) ++ u8s (beB (8 - 8) n)) by simpa [u8s, beB] using HB1.out), HBB⟩
  case round =>
    obtain ⟨k, N, hg, hk, rfl, rfl, HNN, HB, HBW⟩ := hrel
    cases k with
    | zero =>
      go_wp2_with (with_reducible refine at_op (.convert 48 9 (.tmp 18)) rfl ?_; refine Stopped.go ?_)
      have hbl : Blk wr w.heap.size 5 (u8s (beB 8 n)) := by simpa using HB.out
      refine Stopped.mk (wpList_string rfl _ _ 5 _ rfl ⟨w.heap.size, 0, none⟩ 8 8 (beB 8 n) rfl (by rw [beB_length]) Try.underlying48 Try.underlying5 Try.underlying9 (fun j hj => hbl.bytes' j hj) ?_)
      clear hbl
      go_wp2_with fail
      go_ret
      exact ⟨rfl, HBW.out⟩
    | succ k =>
      rw [show ((k + 1 : Nat) : Int) - 1 = (k : Int) by omega]
      have c0 : wr.cell? ⟨w.heap.size, k, none⟩ = some (.int .u8 0) := HB.out.at (by rw [List.getElem?_append_left (by simp)]; simp)
      have f0 : wr.frozen? ⟨w.heap.size, k, none⟩ = false := HB.out.free (by simp; omega)
      have hk8 : (k : Int) < 8 := by omega
      have e5 : (N : Int) % 256 = (((UInt8.ofNat (N % 256)).toNat : Nat) : Int) := by
        have : (UInt8.ofNat (N % 256)).toNat = N % 256 := by simp
        rw [this]; omega
      have hNl : N < 18446744073709551616 := by rw [HNN.out]; exact Nat.lt_of_le_of_lt (Nat.div_le_self _ _) HN.out
      have e6 : IntKind.u64.wrap ((N : Int) / 256) = ((N / 256 : Nat) : Int) := by rw [IntKind.wrap_u64]; omega
      have E5 := hid e5; have E6 := hid e6
      clear e5 e6 hNl
      go_wp2_with fail
      go_roundg (k + 1)
      case measure => omega
      case rel =>
        refine ⟨k, N / 256, by omega, by omega, by go_num, by rw [E6.out], ?_, ?_, ?_⟩
        · show N / 256 = n / 256 ^ (8 - k)
          rw [HNN.out, Nat.div_div_eq_div_mul, ← Nat.pow_succ, show (8 - (k + 1)).succ = 8 - k by omega]
        · show Blk _ _ _ _
          have h1 := Blk.set HB.out k (.int .u8 ((N : Int) % 256))
          rw [set_rep, E5.out, HNN.out] at h1
          rw [E5.out, HNN.out]
          rw [show 8 - k = (8 - (k + 1)) + 1 by omega]
          exact h1
        · exact HBW.out.setCell (Nat.le_refl _) _
end Go.Proofs.Ytbhmkigomlpkcaa
