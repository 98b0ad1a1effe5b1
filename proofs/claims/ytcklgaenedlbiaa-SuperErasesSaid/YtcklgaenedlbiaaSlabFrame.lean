/-
  slab.frame, slab.text: walked.
-/
import Derived.Test.YtcklgaenedlbiaaSlabPure
import Derived.Test.YtcklgaenedlbiaaPens
import Derived.Test.YtcklgaenedlbiaaCrc
import Derived.Test.YtcklgaenedlbiaaShelf
namespace Go.Proofs.Ytcklgaenedlbiaa
open Go.RowKit

theorem bytes1 (a : ByteArray) : bytesAll [a] = a.data.toList := by simp [bytesAll]
theorem crc_Sum1 (n : Nat) (a : ByteArray) (A : Option Addr) (w : World) (ha : a.size ≤ 9223372036854775807) (hn : Crc.sum a.data.toList = n) (hr : Row w A [.string a]) :
    Calls Try.prog 10 #[.slice A 1 1] w fun e w' => e = .returned (.int .u32 n) ∧ Below w.heap.size w w' :=
  crc_Sum_v n [a] _ 1 1 _ _ rfl (by decide) (by intro p hp; simp at hp; subst hp; unfold maxLen; exact ha) rfl hr (by rw [bytes1]; exact hn)
theorem sum_lt' (l : List UInt8) : Crc.sum l < 4294967296 := Crc.more_lt (by decide) l
theorem repeat_zero : ∀ c, Lib.repeatL [0] c = List.replicate c (0 : UInt8)
  | 0 => rfl
  | c + 1 => by rw [Lib.repeatL, repeat_zero c]; rfl
theorem Repeat_zeros (c : Nat) (w : World) (hc : c ≤ 100000) :
    Calls Try.prog 71 #[.string ⟨#[0]⟩, .int .i64 c] w fun e w' => e = .returned (.string ⟨(List.replicate c (0 : UInt8)).toArray⟩) ∧ Below w.heap.size w w' := by
  have h := Try.strings_Repeat ⟨#[0]⟩ c w (by omega) (by show 1 * c ≤ _; omega)
  rw [show (⟨#[0]⟩ : ByteArray).data.toList = [0] from rfl, repeat_zero] at h
  exact h
theorem numOk2 {n : Nat} (h : n < 65536) : numOk 2 [(n : Int)] = true ∧ beAll (2 : Int).toNat [(n : Int)] = beB 2 n := by
  constructor
  · show (isW 2 && [(n : Int)].all (fitsB 2)) = true
    simp [isW, fitsB]; omega
  · simp [beAll]
theorem any4 {n : Nat} (h : n < 4294967296) : ([(n : Int)].any fun n => !fitsB ((4 : Nat) : Int) n) = false := by
  simp [fitsB]; omega
theorem beAll4 (n : Nat) : beAll 4 [(n : Int)] = beB 4 n := by simp [beAll]

set_option maxHeartbeats 4000000 in
set_option maxRecDepth 100000 in
theorem slab_frame (size : Nat) (s : ByteArray) (h : s.size + 6 ≤ size) (hsz : size ≤ 1000) (w : World) :
    Calls Try.prog 99 #[.int .i64 size, .string s] w fun e w' => e = .returned (.string ⟨(frameB size s.data.toList).toArray⟩) ∧ Below w.heap.size w w' := by
  obtain ⟨z, hz⟩ : ∃ z, z = size - 6 - s.size := ⟨_, rfl⟩
  obtain ⟨z0, hz0⟩ : ∃ z, z = size - 6 := ⟨_, rfl⟩
  have e1 : IntKind.i64.wrap ((size : Int) - 6) = (z0 : Int) := by rw [IntKind.wrap_i64]; omega
  have e2 : IntKind.i64.wrap ((z0 : Int) - (s.size : Int)) = (z : Int) := by rw [IntKind.wrap_i64]; omega
  have hz1 : z ≤ 1000 := by omega
  obtain ⟨R, hR⟩ : ∃ R, R = restB size s.data.toList := ⟨_, rfl⟩
  have hRs : R = beB 2 s.size ++ s.data.toList ++ List.replicate z 0 := by rw [hR, hz]; rfl
  have hsl : s.data.toList.length = s.size := by simp
  have hRl : R.length ≤ 1000 := by rw [hR, restB_length (by rw [hsl]; exact h)]; omega
  obtain ⟨n, hn⟩ : ∃ n, n = Crc.sum R := ⟨_, rfl⟩
  have hnl : n < 4294967296 := by rw [hn]; exact sum_lt' R
  have hF : frameB size s.data.toList = beB 4 n ++ R := by unfold frameB; rw [← hR, ← hn]
  obtain ⟨o1, o2⟩ := numOk2 (show s.size < 65536 by omega)
  have O1 := hid o1; have O2 := hid o2; have HRS := hid hRs; have HF := hid hF; have HN := hid hn; have HRL := hid hRl; have HSL := hid hsl
  have P0 := hid (Pen.new (Below.refl w.heap.size w))
  clear hR hRs hsl hRl hn hF o1 o2 hz hz0
  go_enter Try.func99, Try.ntmps99
  go_wp2_with (with_reducible refine at_op (.buildSlice 51 1 #[(0, .tmp 8)]) rfl ?_; refine Stopped.go ?_)
  obtain ⟨p, hp⟩ : ∃ p, p = w.heap.size := ⟨_, rfl⟩
  rw [← hp] at P0 ⊢
  generalize w.alloc (.cells #[.pointer none, .slice none 0 0] 131) = w2 at P0 ⊢
  clear hp
  refine Stopped.mk ?_
  go_wp2_with fail
  refine (pen_Num P0.out 2 [(s.size : Int)] #[.int .i64 s.size] 3 rfl 1 (by simp) (by simp)).mono ?_
  rintro e w3 ⟨rfl, P3⟩
  rw [O1.out, O2.out] at P3
  rw [O1.out]
  simp only [if_true, List.nil_append] at P3 ⊢
  have HP3 := hid P3
  clear P3 P0
  go_wp2_with fail
  refine (pen_Raw HP3.out s (by have := HSL.out; rw [beB_length]; omega)).mono ?_
  rintro e w4 ⟨rfl, P4⟩
  have HP4 := hid P4
  clear P4 HP3
  go_wp2_with fail
  refine (Repeat_zeros z w4 (by omega)).mono ?_
  rintro e w5 ⟨rfl, hb5⟩
  have HP5 := hid (HP4.out.below hb5)
  clear hb5 HP4
  go_wp2_with fail
  refine (pen_Raw HP5.out ⟨(List.replicate z (0 : UInt8)).toArray⟩ (by have := HSL.out; rw [List.length_append, beB_length, HSL.out]; show _ + (List.replicate z (0 : UInt8)).toArray.size ≤ _; simp; omega)).mono ?_
  rintro e w6 ⟨rfl, P6⟩
  rw [show (⟨(List.replicate z (0 : UInt8)).toArray⟩ : ByteArray).data.toList = List.replicate z 0 by simp, ← HRS.out] at P6
  have T6 := hid (Two.new P6)
  clear P6 HP5
  obtain ⟨q, hq⟩ : ∃ q, q = w6.heap.size := ⟨_, rfl⟩
  have HQ := hid hq; clear hq
  go_wp2_with fail
  rw [← HQ.out] at T6 ⊢
  generalize w6.alloc (.cells #[.pointer none, .slice none 0 0] 131) = w7 at T6 ⊢
  clear HQ
  refine (two_Bytes T6.out.rot).mono ?_
  rintro e w8 ⟨rfl, T8⟩
  have HT8 := hid (T8.below (below_alloc w8 (.cells #[.string ⟨R.toArray⟩] 9)))
  have HROW := hid (row_new w8 #[.string ⟨R.toArray⟩] 9)
  clear T8 T6
  go_wp2_with fail
  refine (crc_Sum1 n ⟨R.toArray⟩ _ _ (by show R.toArray.size ≤ _; have := HRL.out; simp; omega) (by rw [HN.out]) HROW.out).mono ?_
  rintro e w9 ⟨rfl, hb9⟩
  have HT9 := hid (HT8.out.below hb9).rot
  clear hb9 HT8 HROW
  go_wp2_with fail
  refine (two_Num HT9.out 4 [(n : Int)] #[.int .i64 n] rfl (by decide) (any4 hnl) (by simp) (by simp) 1 1 rfl).mono ?_
  rintro e w10 ⟨rfl, T10⟩
  rw [beAll4, List.nil_append] at T10
  have HT10 := hid T10.rot
  clear T10 HT9
  go_wp2_with fail
  refine (two_Bytes HT10.out).mono ?_
  rintro e w11 ⟨rfl, T11⟩
  have HT11 := hid T11.rot
  clear T11 HT10
  go_wp2_with fail
  refine (two_Raw HT11.out ⟨R.toArray⟩ (by rw [beB_length]; show 4 + R.toArray.size ≤ _; have := HRL.out; simp; omega)).mono ?_
  rintro e w12 ⟨rfl, T12⟩
  rw [show (⟨R.toArray⟩ : ByteArray).data.toList = R by simp, ← HF.out] at T12
  have HT12 := hid T12
  clear T12 HT11
  go_wp2_with fail
  refine (two_Bytes HT12.out).mono ?_
  rintro e w13 ⟨rfl, T13⟩
  have HB := hid T13.bel
  clear T13 HT12
  go_wp2_with fail
  go_ret
  exact ⟨rfl, HB.out⟩
end Go.Proofs.Ytcklgaenedlbiaa
