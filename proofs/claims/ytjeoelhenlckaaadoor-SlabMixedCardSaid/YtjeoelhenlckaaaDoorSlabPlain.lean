/-
  SlabPlain, SlabStamped: walked.
-/
import Derived.Test.YtjeoelhenlckaaaDoorSlabAwake
import Derived.Test.YtjeoelhenlckaaaDoorSlabRef2
import Derived.Test.YtjeoelhenlckaaaDoorSlabRef3
namespace Go.Proofs.YtjeoelhenlckaaaDoor
open Go.RowKit

theorem beq_self (a : ByteArray) : (a.toList == a.toList) = true := by simp
theorem textV_err (f : List UInt8) : (textV f).2 = 0 ∨ (textV f).2 = 5 ∨ (textV f).2 = 6 := by
  unfold textV
  cases h : textR f with
  | ok s => exact .inl rfl
  | error k => exact .inr (textR_err h)

set_option maxHeartbeats 4000000 in
set_option maxRecDepth 100000 in
theorem slabPlain_walk (s b : ByteArray) (w : World) :
    Calls Tryd.prog 3 #[.string s, .string b] w fun e w' => e = .returned (.bool true) ∧ Below w.heap.size w w' := by
  by_cases hs : 300 < s.size
  · have hs' : (300 : Int) < (s.size : Int) := by omega
    go_enter Tryd.func3, Tryd.ntmps3
    go_wp2_with fail
    refine (awake04_any _).mono ?_; rintro e w1 ⟨rfl, hb1⟩
    have H1 := hid hb1; clear hb1
    go_wp2_with fail
    go_ret
    exact ⟨rfl, H1.out⟩
  have hs' : ¬ (300 : Int) < (s.size : Int) := by omega
  by_cases hbb : 300 < b.size
  · have hb' : (300 : Int) < (b.size : Int) := by omega
    go_enter Tryd.func3, Tryd.ntmps3
    go_wp2_with fail
    refine (awake04_any _).mono ?_; rintro e w1 ⟨rfl, hb1⟩
    have H1 := hid hb1; clear hb1
    go_wp2_with fail
    go_ret
    exact ⟨rfl, H1.out⟩
  have hb' : ¬ (300 : Int) < (b.size : Int) := by omega
  have C1 := hid (fun w' => slab_Lay s w')
  have C2 := hid (fun w' => ref04_Frame 256 s (by decide) (by decide) (by omega) w')
  have C3 := hid (fun w' => slab_Open b w')
  -- both answers, and how they go together
  obtain ⟨v, e, f, hl, hf, hef⟩ : ∃ (v : ByteArray) (e : Int) (f : Bool), layV s = (v, e) ∧ frameV 256 s = (v, f) ∧ (e = 0 ∧ f = true ∨ e = 1 ∧ f = false) := by
    by_cases h : s.size ≤ 250
    · exact ⟨_, 0, true, by unfold layV; rw [if_pos h], by unfold frameV; rw [if_pos (by omega)], .inl ⟨rfl, rfl⟩⟩
    · exact ⟨_, 1, false, by unfold layV; rw [if_neg h], by unfold frameV; rw [if_neg (by omega)], .inr ⟨rfl, rfl⟩⟩
  rw [hl] at C1
  rw [hf] at C2
  have hvv := beq_self v
  clear hl hf
  by_cases h256 : b.size = 256
  · have hq : (((b.size : Int)) != 256) = false := by rw [h256]; rfl
    have C4 := hid (fun w' => ref04_Open b (by omega) (by omega) w')
    obtain ⟨⟨t, k⟩, ht⟩ : ∃ t, t = textV b.data.toList := ⟨_, rfl⟩
    have ho : openV b = (t, k) := by unfold openV; rw [if_pos h256, ht]
    rw [ho] at C3
    rw [← ht] at C4
    have htt := beq_self t
    clear ho ht
    rcases hef with ⟨rfl, rfl⟩ | ⟨rfl, rfl⟩
    all_goals
      go_enter Tryd.func3, Tryd.ntmps3
      go_wp2_with fail
      refine (awake04_any _).mono ?_; rintro e w1 ⟨rfl, hb1⟩
      have H1 := hid hb1; clear hb1
      go_wp2_with fail
      refine (C1.out w1).mono ?_; rintro e w2 ⟨rfl, hb1⟩
      have H2 := hid (bt H1.out hb1); clear hb1 H1 C1
      go_wp2_with fail
      refine (C2.out w2).mono ?_; rintro e w3 ⟨rfl, hb1⟩
      have H3 := hid (bt H2.out hb1); clear hb1 H2 C2
      go_wp2_with fail
      refine (C3.out w3).mono ?_; rintro e w4 ⟨rfl, hb1⟩
      have H4 := hid (bt H3.out hb1); clear hb1 H3 C3
      go_wp2_with fail
      refine (C4.out w4).mono ?_; rintro e w5 ⟨rfl, hb1⟩
      have H5 := hid (bt H4.out hb1); clear hb1 H4 C4
      go_wp2_with fail
      go_ret
      exact ⟨rfl, H5.out⟩
  · have hq : (((b.size : Int)) != 256) = true := by rw [bne_iff_ne]; omega
    have ho : openV b = (⟨#[]⟩, 1) := by unfold openV; rw [if_neg h256]
    rw [ho] at C3
    clear ho
    rcases hef with ⟨rfl, rfl⟩ | ⟨rfl, rfl⟩
    all_goals
      go_enter Tryd.func3, Tryd.ntmps3
      go_wp2_with fail
      refine (awake04_any _).mono ?_; rintro e w1 ⟨rfl, hb1⟩
      have H1 := hid hb1; clear hb1
      go_wp2_with fail
      refine (C1.out w1).mono ?_; rintro e w2 ⟨rfl, hb1⟩
      have H2 := hid (bt H1.out hb1); clear hb1 H1 C1
      go_wp2_with fail
      refine (C2.out w2).mono ?_; rintro e w3 ⟨rfl, hb1⟩
      have H3 := hid (bt H2.out hb1); clear hb1 H2 C2
      go_wp2_with fail
      refine (C3.out w3).mono ?_; rintro e w4 ⟨rfl, hb1⟩
      have H4 := hid (bt H3.out hb1); clear hb1 H3 C3
      go_wp2_with fail
      go_ret
      exact ⟨rfl, H4.out⟩
theorem slabPlain_row (s b : ByteArray) (w : World) (_ : s.size ≤ 140737488351232) (_ : b.size ≤ 140737488351232) :
    Calls Tryd.prog 3 #[.string s, .string b] w fun e w' => e = .returned (.bool true) ∧ Below w.heap.size w w' := slabPlain_walk s b w
end Go.Proofs.YtjeoelhenlckaaaDoor
