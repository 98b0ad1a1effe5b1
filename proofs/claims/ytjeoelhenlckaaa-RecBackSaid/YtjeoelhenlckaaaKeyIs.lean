/-
  Layer 7, walked: Is, IsVal.
-/
import Derived.Test.YtjeoelhenlckaaaProg
import Derived.Test.YtjeoelhenlckaaaKit
namespace Go.Proofs.Ytjeoelhenlckaaa
open Go.RowKit

def keyIs (k : ByteArray) : Bool := decide (1 ≤ k.size) && decide (k.size ≤ 8)

set_option maxHeartbeats 400000 in
theorem key_Is_any (k : ByteArray) (w : World) :
    Calls Try.prog 52 #[.string k] w fun e w' => e = .returned (.bool (keyIs k)) ∧ w = w' := by
  obtain ⟨f, hf⟩ : ∃ f, f = keyIs k := ⟨_, rfl⟩
  rw [← hf]
  by_cases h1 : 1 ≤ (k.size : Int)
  · by_cases h2 : (k.size : Int) ≤ 8
    · have : f = true := by rw [hf]; simp [keyIs]; omega
      subst this; clear hf
      go_enter Try.func52, Try.ntmps52
      go_wp2_with fail
      go_ret
      exact ⟨rfl, rfl⟩
    · have : f = false := by rw [hf]; simp [keyIs]; omega
      subst this; clear hf
      go_enter Try.func52, Try.ntmps52
      go_wp2_with fail
      go_ret
      exact ⟨rfl, rfl⟩
  · have : f = false := by rw [hf]; simp [keyIs]; omega
    subst this; clear hf
    go_enter Try.func52, Try.ntmps52
    go_wp2_with fail
    go_ret
    exact ⟨rfl, rfl⟩

set_option maxHeartbeats 400000 in
theorem key_IsVal_any (k : ByteArray) (w : World) :
    Calls Try.prog 53 #[.string k] w fun e w' => e = .returned (.bool (decide ((k.size : Int) ≤ 16))) ∧ w = w' := by
  by_cases h1 : (k.size : Int) ≤ 16
  all_goals
    go_enter Try.func53, Try.ntmps53
    go_wp2_with fail
    go_ret
    exact ⟨ret_bool (by simp; omega), rfl⟩

end Go.Proofs.Ytjeoelhenlckaaa
