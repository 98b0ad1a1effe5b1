/-
  What was laid is opened, what was stamped is read: plain laws.
-/
import Derived.Test.YtcklgaenedlbiaaSlabRead
namespace Go.Proofs.Ytcklgaenedlbiaa
open Go.RowKit

theorem openV_lay {s : ByteArray} (h : s.size ≤ 250) : layV s = (⟨(frameB 256 s.data.toList).toArray⟩, 0) ∧ (layV s).1.size = 256 ∧ openV (layV s).1 = (s, 0) := by
  have hl : s.data.toList.length = s.size := by simp
  have h1 : layV s = (⟨(frameB 256 s.data.toList).toArray⟩, 0) := by unfold layV; rw [if_pos h]
  have h2 : (⟨(frameB 256 s.data.toList).toArray⟩ : ByteArray).size = 256 := by
    show (frameB 256 s.data.toList).toArray.size = 256
    rw [List.size_toArray, frameB_length (by omega)]
  rw [h1]
  refine ⟨rfl, h2, ?_⟩
  unfold openV textV
  rw [if_pos h2, textR_frame (by omega) (by omega)]
theorem readV_stamp {e q : Int} {s : ByteArray} (h : s.size ≤ 218) (h1 : 1 ≤ e) (h2 : e ≤ 2147483647) (h3 : 0 ≤ q) (h4 : q ≤ 2147483647) :
    stampV e q s = (⟨(stampB e.toNat q.toNat (frameB 224 s.data.toList)).toArray⟩, 0) ∧ (stampV e q s).1.size = 256 ∧ readV (stampV e q s).1 = (e, q, s, 0) := by
  have hl : s.data.toList.length = s.size := by simp
  have g1 : stampV e q s = (⟨(stampB e.toNat q.toNat (frameB 224 s.data.toList)).toArray⟩, 0) := by unfold stampV; rw [if_pos ⟨h, h1, h2, h3, h4⟩]
  have g2 : (⟨(stampB e.toNat q.toNat (frameB 224 s.data.toList)).toArray⟩ : ByteArray).size = 256 := by
    show (stampB e.toNat q.toNat (frameB 224 s.data.toList)).toArray.size = 256
    rw [List.size_toArray, stampB_length _ _ _ (frameB_length (by omega))]
  rw [g1]
  refine ⟨rfl, g2, ?_⟩
  unfold readV
  rw [if_pos g2]
  show (match readR (stampB e.toNat q.toNat (frameB 224 s.data.toList)) with | .ok (e, q, s) => ((e : Int), (q : Int), (⟨s.toArray⟩ : ByteArray), (0 : Int)) | .error k => (0, 0, ⟨#[]⟩, k)) = _
  rw [readR_stamp (by omega) (by omega) (by omega) (by omega)]
  simp only [Int.toNat_of_nonneg (show 0 ≤ e by omega), Int.toNat_of_nonneg h3]

end Go.Proofs.Ytcklgaenedlbiaa
