/-
  The sum's examples, walked: awake.
-/
import Derived.Test.YtcklgaenedlbiaaCrc
import Derived.Test.YtcklgaenedlbiaaCrcRef
import Derived.Test.YtcklgaenedlbiaaCrcParse
namespace Go.Proofs.Ytcklgaenedlbiaa
open Go.RowKit

def s9 : ByteArray := ⟨#[49, 50, 51, 52]⟩
def s8 : ByteArray := ⟨#[53, 54, 55, 56, 57]⟩
def s1 : ByteArray := ⟨#[49]⟩
def s2 : ByteArray := ⟨#[50, 51, 52, 53, 54, 55, 56, 57]⟩
theorem lit_a : Crc.sum (bytesAll [s9, s8]) = 3808858755 := by decide
theorem lit_b : Crc.sum (bytesAll [s1]) = 2432014819 := by decide
theorem lit_c : Crc.more 2432014819 (bytesAll [s2]) = 3808858755 := by decide
theorem lit_d : (hx 1 8).toArray = #[48, 48, 48, 48, 48, 48, 48, 49] := by decide
theorem lit_e : pv [101, 51, 48, 54, 57, 50, 56, 51] 0 = some 3808858755 := by decide
theorem lit_f : pv [69, 51, 48, 54, 57, 50, 56, 51] 0 = none := by decide

set_option maxHeartbeats 1000000 in
set_option maxRecDepth 100000 in
theorem awake02_any (w : World) :
    Calls Try.prog 9 #[] w fun e w' => e = .returned (.bool true) ∧ Below w.heap.size w w' := by
  go_enter Try.func9, Try.ntmps9
  go_wp2_with fail
  refine (crc_Parse_yes ⟨#[101, 51, 48, 54, 57, 50, 56, 51]⟩ _ _ rfl lit_e).mono ?_; rintro e w1 ⟨rfl, hb1⟩
  go_wp2_with fail
  refine (crc_Parse_no ⟨#[69, 51, 48, 54, 57, 50, 56, 51]⟩ _ (by decide) (fun _ => lit_f)).mono ?_; rintro e w2 ⟨rfl, hb2⟩
  go_wp2_with fail
  refine (crc_Sum_v _ [s9, s8] _ _ _ _ _ rfl (by decide) (small (by decide)) rfl (row_new _ _ _) lit_a).mono ?_; rintro e w3 ⟨rfl, hb3⟩
  go_wp2_with fail
  refine (crc_Sum_v 0 [] _ _ _ _ _ rfl (by decide) (small (by decide)) rfl (Row.nil _ _) rfl).mono ?_; rintro e w4 ⟨rfl, hb4⟩
  go_wp2_with fail
  refine (crc_Sum_v _ [s1] _ _ _ _ _ rfl (by decide) (small (by decide)) rfl (row_new _ _ _) lit_b).mono ?_; rintro e w5 ⟨rfl, hb5⟩
  go_wp2_with fail
  refine (crc_More_v 2432014819 _ (by decide) [s2] _ _ _ _ _ rfl (by decide) (small (by decide)) rfl (row_new _ _ _) lit_c).mono ?_; rintro e w6 ⟨rfl, hb6⟩
  go_wp2_with fail
  refine (crc_Text_any 1 (by decide) _).mono ?_; rintro e w7 ⟨rfl, hb7⟩; rw [lit_d]
  go_wp2_with fail
  go_ret
  exact ⟨rfl, by repeat (first | exact Below.refl _ _ | (refine ba ?_ (by assumption)) | (refine bt ?_ (by assumption)) | (refine bt ?_ (below_alloc _ _)))⟩
end Go.Proofs.Ytcklgaenedlbiaa
