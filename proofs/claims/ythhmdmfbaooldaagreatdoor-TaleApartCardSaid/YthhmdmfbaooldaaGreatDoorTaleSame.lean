/-
  slices.Equal of items, order.Same, walked.
-/
import Derived.Test.YthhmdmfbaooldaaGreatDoorTaleTell
namespace Go.Proofs.YthhmdmfbaooldaaGreatDoor
open Go.RowKit Go.Sort

theorem itemNe_run (a b c d : ByteArray) (w : World) : (binOp .neq 54 (.agg #[.string a, .string b]) (.agg #[.string c, .string d])).run Tryz.prog w = .ok (.bool (!decide (a = c ∧ b = d))) w := by
  have hu := Tryz.underlying54
  go_simp
  simp only [ba_toList]
  by_cases h0 : a = c <;> by_cases h1 : b = d <;> simp [h0, h1]
theorem take_succ_eq {α : Type} {l m : List α} {k : Nat} (h : l.take k = m.take k) (hl : k < l.length) (hm : k < m.length) (he : l[k] = m[k]) : l.take (k + 1) = m.take (k + 1) := by
  rw [List.take_succ_eq_append_getElem hl, List.take_succ_eq_append_getElem hm, h, he]

set_option maxHeartbeats 4000000 in
set_option maxRecDepth 100000 in
theorem Equal_items (A B : Option Addr) (cap bcap : Nat) (l m : List (ByteArray × ByteArray)) (hl : l.length ≤ 1000) (hm : m.length ≤ 1000) (w : World) (hr : Row w A (l.flatMap itemCells)) (hr2 : Row w B (m.flatMap itemCells)) :
    Calls Tryz.prog 47 #[.slice A l.length cap, .slice B m.length bcap] w fun e w' => e = .returned (.bool (decide (l = m))) ∧ Below w.heap.size w w' := by
  have HR := hid hr; have HR2 := hid hr2; clear hr hr2
  by_cases hlm : l.length = m.length
  · obtain ⟨L, hL⟩ : ∃ L, L = l.length := ⟨_, rfl⟩
    rw [← hlm, ← hL]
    rw [← hL] at hl
    have HLM := hid (And.intro hL hlm)
    have hq : ((L : Int) != (L : Int)) = false := by simp
    clear hL hlm hm
    obtain ⟨r, hrr⟩ : ∃ r, r = decide (l = m) := ⟨_, rfl⟩
    rw [← hrr]
    have HRR := hid hrr; clear hrr
    go_enter Tryz.func47, Tryz.ntmps47
    go_wp2_with fail
    go_loopg [13] L (fun gg j wx => ∃ k : Nat, k + gg = L ∧ j = .int .i64 k ∧ Hid (Below w.heap.size w wx ∧ l.take k = m.take k))
    case atStart => exact ⟨0, by omega, rfl, Below.refl _ _, rfl⟩
    case round =>
      obtain ⟨k, hk, rfl, HI⟩ := hrel
      by_cases hlt : k < L
      · have h1 : k < l.length := by rw [← HLM.out.1]; exact hlt
        have h2 : k < m.length := by rw [← HLM.out.2]; exact h1
        obtain ⟨d1, d2⟩ := items_at l k h1
        obtain ⟨d3, d4⟩ := items_at m k h2
        obtain ⟨b, off, rfl, hb, hc⟩ := row_cell HR.out (by intro e; rw [e] at d1; simp at d1)
        obtain ⟨b', off', rfl, hb', hc'⟩ := row_cell HR2.out (by intro e; rw [e] at d3; simp at d3)
        have e1 := hc _ _ d1
        have e2 := hc _ _ d2
        have e3 := hc' _ _ d3
        have e4 := hc' _ _ d4
        rw [← HI.out.1.cell (p := ⟨b, off + k * 2, none⟩) hb] at e1
        rw [← HI.out.1.cell (p := ⟨b, off + (k * 2 + 1), none⟩) hb, ← Nat.add_assoc] at e2
        rw [← HI.out.1.cell (p := ⟨b', off' + k * 2, none⟩) hb'] at e3
        rw [← HI.out.1.cell (p := ⟨b', off' + (k * 2 + 1), none⟩) hb', ← Nat.add_assoc] at e4
        obtain ⟨p, hp⟩ : ∃ p, p = l[k] := ⟨_, rfl⟩
        obtain ⟨q, hq'⟩ : ∃ p, p = m[k] := ⟨_, rfl⟩
        rw [← hp] at e1 e2
        rw [← hq'] at e3 e4
        obtain ⟨p1, p2⟩ := p
        obtain ⟨q1, q2⟩ := q
        simp only at e1 e2 e3 e4
        by_cases hpq : p1 = q1 ∧ p2 = q2
        · have hcmp : ∀ wx, (binOp .neq 54 (.agg #[.string p1, .string p2]) (.agg #[.string q1, .string q2])).run Tryz.prog wx = .ok (.bool false) wx := fun wx => by rw [itemNe_run, decide_eq_true hpq]; rfl
          have HT : Hid (l.take (k + 1) = m.take (k + 1)) := take_succ_eq HI.out.2 h1 h2 (by rw [← hp, ← hq', hpq.1, hpq.2])
          clear hpq hp hq' hc hb hc' hb' d1 d2 d3 d4 h1 h2
          go_wp2_with fail
          go_quiet (fail)
          go_wp2_with fail
          go_roundg (L - (k + 1))
          case measure => omega
          case rel => exact ⟨k + 1, by omega, by go_num, bdnT HI.out.1 _, HT.out⟩
        · have hcmp : ∀ wx, (binOp .neq 54 (.agg #[.string p1, .string p2]) (.agg #[.string q1, .string q2])).run Tryz.prog wx = .ok (.bool true) wx := fun wx => by rw [itemNe_run, decide_eq_false hpq]; rfl
          have hr0 : r = false := by
            rw [HRR.out]
            apply decide_eq_false
            intro e
            apply hpq
            have h3 : l[k]? = m[k]? := by rw [e]
            rw [List.getElem?_eq_getElem h1, List.getElem?_eq_getElem h2, ← hp, ← hq'] at h3
            simp only [Option.some.injEq, Prod.mk.injEq] at h3
            exact h3
          subst hr0
          clear hpq hp hq' hc hb hc' hb' d1 d2 d3 d4 h1 h2 HRR
          go_wp2_with fail
          go_quiet (fail)
          go_wp2_with fail
          go_ret
          exact ⟨rfl, bdnT HI.out.1 _⟩
      · have hr0 : r = true := by
          rw [HRR.out]
          apply decide_eq_true
          have := HI.out.2
          rw [List.take_of_length_le (by rw [← HLM.out.1]; omega), List.take_of_length_le (by rw [← HLM.out.2, ← HLM.out.1]; omega)] at this
          exact this
        subst hr0
        clear HRR
        go_wp2_with fail
        go_ret
        exact ⟨rfl, HI.out.1⟩
  · have hne : decide (l = m) = false := decide_eq_false (fun e => hlm (by rw [e]))
    rw [hne]
    have hq : ((l.length : Int) != (m.length : Int)) = true := by rw [bne_iff_ne]; omega
    clear hne hlm
    go_enter Tryz.func47, Tryz.ntmps47
    go_wp2_with fail
    go_ret
    exact ⟨rfl, Below.refl _ _⟩
end Go.Proofs.YthhmdmfbaooldaaGreatDoor
