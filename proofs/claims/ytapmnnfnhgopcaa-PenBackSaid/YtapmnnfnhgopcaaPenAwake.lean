/-
  Layer 1's awake, walked.
-/
import Derived.Test.YtapmnnfnhgopcaaPenAt
namespace Go.Proofs.Ytapmnnfnhgopcaa
open Go.RowKit

theorem pen_box (w : World) : Pen w (w.alloc (.cells #[.pointer none, .slice none 0 0] 75)) w.heap.size [] := Pen.new (Below.refl _ _)

set_option maxHeartbeats 8000000 in
set_option maxRecDepth 100000 in
theorem awake01_any (w : World) :
    Calls Try.prog 46 #[] w fun e w' => e = .returned (.bool true) ∧ Below w.heap.size w w' := by
  have N1 := hid (show numOk 2 [258, 3] = true by kernel_rfl)
  have N2 := hid (show numOk 1 [7, 256] = false by kernel_rfl)
  have N3 := hid (show textOk [⟨#[97, 98]⟩] = true by kernel_rfl)
  have L1 := hid (show ([] : List UInt8) ++ beAll (2 : Int).toNat [258, 3] = [1, 2, 0, 3] by kernel_rfl)
  have L3 := hid (show ([1, 2, 0, 3] : List UInt8) ++ textAll [⟨#[97, 98]⟩] = [1, 2, 0, 3, 2, 97, 98] by kernel_rfl)
  have E1 := hid (show (⟨#[1, 2, 33]⟩ : ByteArray).extract 2 3 = ⟨#[33]⟩ by kernel_rfl)
  have E2 := hid (show (⟨#[33]⟩ : ByteArray).extract 0 1 = ⟨#[33]⟩ by kernel_rfl)
  have E3 := hid (show (⟨#[33]⟩ : ByteArray).extract 1 1 = ⟨#[]⟩ by kernel_rfl)
  have P0 := hid (pen_box w)
  go_enter Try.func46, Try.ntmps46
  go_wp2_with (with_reducible refine at_op (.buildSlice 37 2 #[(0, .const (.int .i64 258)), (1, .const (.int .i64 3))]) rfl ?_; refine Stopped.go ?_)
  have P1 := P0.out
  obtain ⟨p, hp⟩ : ∃ p, p = w.heap.size := ⟨_, rfl⟩
  rw [← hp] at P1 ⊢
  clear hp P0
  generalize w.alloc (.cells #[.pointer none, .slice none 0 0] 75) = w1 at P1 ⊢
  refine Stopped.mk ?_
  have HP := hid P1; clear P1
  go_wp2_with fail
  refine (pen_Num HP.out 2 [258, 3] #[.int .i64 258, .int .i64 3] 3 rfl 2 (by decide) (by decide)).mono ?_
  rintro e w2 ⟨rfl, P2⟩; rw [N1.out, if_pos rfl, L1.out] at P2; rw [N1.out, if_pos rfl]
  clear HP; have HP := hid P2; clear P2
  go_wp2_with fail
  refine (pen_Num HP.out 1 [7, 256] #[.int .i64 7, .int .i64 256] 3 rfl 2 (by decide) (by decide)).mono ?_
  rintro e w3 ⟨rfl, P3⟩; rw [N2.out, if_neg (by decide)] at P3; rw [N2.out, if_neg (by decide)]
  clear HP; have HP := hid P3; clear P3
  go_wp2_with fail
  refine (pen_Text HP.out [⟨#[97, 98]⟩] #[.string ⟨#[97, 98]⟩] 9 rfl 1 (by decide) (by decide)).mono ?_
  rintro e w4 ⟨rfl, P4⟩; rw [N3.out, if_pos rfl, L3.out] at P4; rw [N3.out, if_pos rfl]
  clear HP
  obtain ⟨F, g1, g2, g3⟩ := P4
  have G1 := hid g1; have G2 := hid g2; have G3 := hid g3; clear g1 g2 g3
  go_wp2_with fail
  refine (pen_Of_any _ _).mono ?_; rintro e w5 ⟨rfl, hb5, hi5, _⟩
  have hqF : w4.heap.size ∉ F := fun h => absurd (G1.out.sizes _ h) (Nat.lt_irrefl _)
  obtain ⟨q, hq⟩ : ∃ q, q = w4.heap.size := ⟨_, rfl⟩
  rw [← hq] at hi5 hqF ⊢
  have hqw : w.heap.size ≤ q := by rw [hq]; exact G2.out.size
  have K1 := hid (G1.out.below hb5); have K2 := hid (bt G2.out hb5); have HI := hid hi5; have HQ := hid hqF; have HW := hid hqw
  clear G1 G2 hb5 hi5 hqF hqw hq
  go_wp2_with fail
  refine (Out_Bytes_any p _ F _ K1.out).mono ?_; rintro e w6 ⟨rfl, k1, k2⟩
  have J1 := hid k1; have J2 := hid (Keeps.below K2.out k2 G3.out); have JI := hid (Blk.keeps HI.out k2 HQ.out)
  clear k1 k2 K1 K2 HI
  go_wp2_with fail
  refine (Out_Len_any p _ F _ J1.out).mono ?_; rintro e w7 ⟨rfl, k1, k2⟩
  have K2 := hid (Keeps.below J2.out k2 G3.out); have HI := hid (show InAt w7 q ⟨#[1, 2, 33]⟩ false from Blk.keeps JI.out k2 HQ.out)
  clear k1 k2 J1 J2 JI
  go_wp2_with fail
  refine (In_Num_walk q ⟨#[1, 2, 33]⟩ 2 _ HI.out rfl (by decide) 258 (by kernel_rfl) false (by decide)).mono ?_; rintro e w8 ⟨rfl, k1, k2⟩
  have J2 := hid (Keeps.below1 K2.out k1 HW.out); have JI := hid (show InAt w8 q ⟨#[33]⟩ false by have := k2; rw [if_neg (by decide)] at this; rw [← E1.out]; exact this)
  clear k1 k2 K2 HI
  go_wp2_with fail
  refine (In_Left_any q _ _ _ JI.out).mono ?_; rintro e w9 ⟨rfl, rfl⟩
  go_wp2_with fail
  refine (In_End_any q _ _ _ JI.out).mono ?_; rintro e w9 ⟨rfl, rfl⟩; rw [show endE ⟨#[33]⟩ false = 5 by kernel_rfl]
  go_wp2_with fail
  refine (In_Raw_yes q ⟨#[33]⟩ 1 _ JI.out (by decide)).mono ?_; rintro e w9 ⟨rfl, k1, k2⟩; rw [E2.out]
  have K2 := hid (Keeps.below1 J2.out k1 HW.out); have HI := hid (show InAt w9 q ⟨#[]⟩ false by rw [← E3.out]; exact k2)
  clear k1 k2 J2 JI
  go_wp2_with fail
  refine (In_End_any q _ _ _ HI.out).mono ?_; rintro e w10 ⟨rfl, rfl⟩; rw [show endE ⟨#[]⟩ false = 0 by kernel_rfl]
  go_wp2_with fail
  go_ret
  exact ⟨rfl, K2.out⟩
end Go.Proofs.Ytapmnnfnhgopcaa
