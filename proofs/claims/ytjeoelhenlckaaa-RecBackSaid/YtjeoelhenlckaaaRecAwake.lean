/-
  Rows of messages, walked: awake, heavy.
-/
import Derived.Test.YtjeoelhenlckaaaRecCount
import Derived.Lib.QuietBelow
namespace Go.Proofs.Ytjeoelhenlckaaa
open Go.RowKit Go.Sort

def aw1 : Msg3 := (2, ⟨#[97]⟩, ⟨#[]⟩)
def aw2 : Msg3 := (1, ⟨#[98]⟩, ⟨#[99]⟩)
theorem aw_g2 : g2 [] [aw1, aw2] = [[aw1, aw2]] := by kernel_rfl
theorem aw_bytes : bytesG [aw1, aw2] = ⟨#[2, 2, 1, 97, 0, 1, 1, 98, 1, 99]⟩ := by kernel_rfl
theorem aw_parse1 : parseR ⟨#[1, 2, 1, 97, 0]⟩ = some [aw1] := by kernel_rfl
theorem aw_parse2 : parseR ⟨#[0]⟩ = none := by kernel_rfl
theorem aw_is : isB aw1 = true ∧ isB aw2 = true := ⟨by kernel_rfl, by kernel_rfl⟩
theorem aw_not : ([((0, ⟨#[]⟩, ⟨#[]⟩) : Msg3)].any fun x => !isB x) = true := by kernel_rfl

theorem aw_Texts (w : World) (A : Option Addr) (hr : Row w A ([aw1, aw2].flatMap msgCells)) :
    Calls Try.prog 13 #[.slice A 2 2] w fun e w' => ∃ A' cap', e = .returned (.tuple #[.slice A' 1 cap', .int .i64 0]) ∧ Row w' A' [.string ⟨#[2, 2, 1, 97, 0, 1, 1, 98, 1, 99]⟩] ∧ Below w.heap.size w w' := by
  have h := rec_Texts_yes A 2 [aw1, aw2] (by simp) (by simp) (by intro x hx; simp at hx; rcases hx with rfl | rfl; exact aw_is.1; exact aw_is.2) w hr
  rw [aw_g2] at h
  simp only [List.map_cons, List.map_nil, aw_bytes] at h
  exact h
theorem aw_Texts2 (w : World) (A : Option Addr) (hr : Row w A ([((0, ⟨#[]⟩, ⟨#[]⟩) : Msg3)].flatMap msgCells)) :
    Calls Try.prog 13 #[.slice A 1 1] w fun e w' => e = .returned (.tuple #[.slice none 0 0, .int .i64 1]) ∧ Below w.heap.size w w' :=
  rec_Texts_no A 1 [((0, ⟨#[]⟩, ⟨#[]⟩) : Msg3)] (by simp) aw_not w hr
theorem aw_Parse1 (w : World) :
    Calls Try.prog 17 #[.string ⟨#[1, 2, 1, 97, 0]⟩] w fun e w' => ∃ A' cap', e = .returned (.tuple #[.slice A' 1 cap', .int .i64 0]) ∧ Row w' A' [.int .i64 2, .string ⟨#[97]⟩, .string ⟨#[]⟩] ∧ Below w.heap.size w w' := by
  refine (rec_Parse_any _ w).mono ?_
  rintro e w' ⟨_, h2, h3⟩
  obtain ⟨A, cap, h4, _, h5⟩ := h2 _ aw_parse1
  exact ⟨A, cap, h4, h5, h3⟩
theorem aw_Parse2 (w : World) :
    Calls Try.prog 17 #[.string ⟨#[0]⟩] w fun e w' => e = .returned (.tuple #[.slice none 0 0, .int .i64 5]) ∧ Below w.heap.size w w' := by
  refine (rec_Parse_any _ w).mono ?_
  rintro e w' ⟨h1, _, h3⟩
  exact ⟨h1 aw_parse2, h3⟩
theorem aw_Count (w : World) :
    Calls Try.prog 16 #[.slice none 0 0] w fun e w' => e = .returned (.int .i64 0) ∧ Below w.heap.size w w' :=
  rec_Count_any none 0 [] (by simp) w (Row.nil _ _)

set_option maxHeartbeats 8000000 in
set_option maxRecDepth 100000 in
theorem awake22_any (w : World) :
    Calls Try.prog 11 #[] w fun e w' => e = .returned (.bool true) ∧ Below w.heap.size w w' := by
  have I1 : Hid (∀ W', Calls Try.prog 37 #[.string ⟨#[97]⟩] W' fun e w' => e = .returned (.agg #[.int .i64 2, .string ⟨#[97]⟩, .string ⟨#[]⟩]) ∧ Below W'.heap.size W' w') := fun W' => msg_OfDel_any ⟨#[97]⟩ W'
  have I2 : Hid (∀ W', Calls Try.prog 16 #[.slice none 0 0] W' fun e w' => e = .returned (.int .i64 0) ∧ Below W'.heap.size W' w') := fun W' => aw_Count W'
  go_enter Try.func11, Try.ntmps11
  go_wp2_with fail
  refine (msg_OfDel_any _ _).mono ?_; rintro e w1 ⟨rfl, hb⟩
  go_wp2_with fail
  refine (msg_OfPut_any _ _ _).mono ?_; rintro e w2 ⟨rfl, hb_⟩
  replace hb := bt hb hb_; clear hb_
  have hA := below_alloc w2 (.cells #[.int .i64 2, .string ⟨#[97]⟩, .string ⟨#[]⟩, .int .i64 1, .string ⟨#[98]⟩, .string ⟨#[99]⟩] 39)
  have hR := row_new w2 #[.int .i64 2, .string ⟨#[97]⟩, .string ⟨#[]⟩, .int .i64 1, .string ⟨#[98]⟩, .string ⟨#[99]⟩] 39
  replace hb := bt hb hA
  have HC := hid (aw_Texts _ _ hR)
  have HB := hid hb
  clear hA hR hb
  go_wp2_with fail
  refine HC.out.mono ?_; rintro e w3 ⟨A1, cap1, rfl, hr1, hb_⟩
  obtain ⟨b1, off1, rfl, hl1, hc1⟩ := row_cell hr1 (by simp)
  have H3 := hid (show Below w.heap.size w w3 ∧ b1 < w3.heap.size ∧ w3.cell? ⟨b1, off1, none⟩ = some (.string ⟨#[2, 2, 1, 97, 0, 1, 1, 98, 1, 99]⟩) from ⟨bt HB.out hb_, hl1, hc1 0 _ rfl⟩)
  clear hr1 hb_ hl1 hc1 HB HC
  go_wp2_with fail
  refine (aw_Parse1 _).mono ?_; rintro e w4 ⟨A2, cap2, rfl, hr2, hb_⟩
  obtain ⟨b2, off2, rfl, hl2, hc2⟩ := row_cell hr2 (by simp)
  have H4 := hid (show Below w.heap.size w w4 ∧ b1 < w4.heap.size ∧ w4.cell? ⟨b1, off1, none⟩ = some (.string ⟨#[2, 2, 1, 97, 0, 1, 1, 98, 1, 99]⟩) ∧ b2 < w4.heap.size ∧ w4.cell? ⟨b2, off2, none⟩ = some (.int .i64 2) ∧ w4.cell? ⟨b2, off2 + 1, none⟩ = some (.string ⟨#[97]⟩) ∧ w4.cell? ⟨b2, off2 + 2, none⟩ = some (.string ⟨#[]⟩) from
    ⟨bt H3.out.1 hb_, Nat.lt_of_lt_of_le H3.out.2.1 hb_.size, by rw [hb_.cell (p := ⟨b1, off1, none⟩) H3.out.2.1]; exact H3.out.2.2, hl2, hc2 0 _ rfl, hc2 1 _ rfl, hc2 2 _ rfl⟩)
  clear hr2 hb_ hl2 hc2 H3
  go_wp2_with fail
  refine (aw_Parse2 _).mono ?_; rintro e w5 ⟨rfl, hb_⟩
  have hA := below_alloc w5 (.cells #[.int .i64 0, .string ⟨#[]⟩, .string ⟨#[]⟩] 39)
  have hR := row_new w5 #[.int .i64 0, .string ⟨#[]⟩, .string ⟨#[]⟩] 39
  have HB5 := hid (bt hb_ hA)
  have HC := hid (aw_Texts2 _ _ hR)
  clear hA hR hb_
  go_wp2_with fail
  refine HC.out.mono ?_; rintro e W ⟨rfl, hb_⟩
  have hq := bt HB5.out hb_
  obtain ⟨h1, h2, h3, h4, h5, h6, h7⟩ := H4.out
  have HW : Hid (Below w.heap.size w W) := bt h1 hq
  have m0 : ∀ d os, (grow (redrawn W d) os).cell? ⟨b1, off1, none⟩ = some (.string ⟨#[2, 2, 1, 97, 0, 1, 1, 98, 1, 99]⟩) := fun d os => cell_regrown (by rw [hq.cell (p := ⟨b1, off1, none⟩) h2]; exact h3) d os
  have m1 : ∀ d os, (grow (redrawn W d) os).cell? ⟨b2, off2, none⟩ = some (.int .i64 2) := fun d os => cell_regrown (by rw [hq.cell (p := ⟨b2, off2, none⟩) h4]; exact h5) d os
  have m2 : ∀ d os, (grow (redrawn W d) os).cell? ⟨b2, off2 + 1, none⟩ = some (.string ⟨#[97]⟩) := fun d os => cell_regrown (by rw [hq.cell (p := ⟨b2, off2 + 1, none⟩) h4]; exact h6) d os
  have m3 : ∀ d os, (grow (redrawn W d) os).cell? ⟨b2, off2 + 2, none⟩ = some (.string ⟨#[]⟩) := fun d os => cell_regrown (by rw [hq.cell (p := ⟨b2, off2 + 2, none⟩) h4]; exact h7) d os
  clear hb_ hq h1 h2 h3 h4 h5 h6 h7 H4 HB5 HC
  go_wp2_with fail
  refine wp_region_quiet_below (by kernel_rfl) (by kernel_rfl) ?_
  repeat (go_big_quiet_step (first
    | with_reducible exact Calls.regrown_of (I1.out _)
    | with_reducible exact Calls.regrown_of (I2.out _)))
  refine wpQuiet_nil ?_
  intro _ hw'
  obtain ⟨⟨dq, osq⟩, hw''⟩ := hw'
  subst hw''
  clear m0 m1 m2 m3
  go_wp2_with fail
  go_ret
  exact ⟨rfl, bt HW.out (below_regrown W dq osq)⟩

/-- whether a row is too heavy -/
def heavyB (l : List Msg3) : Bool := (l.take 201).any (fun x => decide (512 < x.2.1.size) || decide (512 < x.2.2.size)) || decide (200 < l.length)
set_option maxHeartbeats 8000000 in
set_option maxRecDepth 100000 in
theorem heavy_any (A : Option Addr) (cap : Nat) (l : List Msg3) (hlen : l.length ≤ 9223372036854775807) (w : World) (hr : Row w A (l.flatMap msgCells)) :
    Calls Try.prog 12 #[.slice A l.length cap] w fun e w' => e = .returned (.bool (heavyB l)) ∧ w = w' := by
  have HR := hid hr; clear hr
  obtain ⟨r, hr⟩ : ∃ r, r = heavyB l := ⟨_, rfl⟩
  rw [← hr]
  have HB := hid hr; clear hr
  obtain ⟨L, hL⟩ : ∃ L, L = l.length := ⟨_, rfl⟩
  rw [← hL] at hlen ⊢
  have HL := hid hL; clear hL
  go_enter Try.func12, Try.ntmps12
  go_wp2_with fail
  go_loopg [3] L (fun g j wx => ∃ k : Nat, k + g = L ∧ k ≤ 201 ∧ j = .int .i64 k ∧ wx = w ∧ Hid (∀ i (h : i < l.length), i < k → ¬ 512 < l[i].2.1.size ∧ ¬ 512 < l[i].2.2.size))
  case atStart => exact ⟨0, by omega, by omega, rfl, rfl, fun i _ h => absurd h (by omega)⟩
  case round =>
    obtain ⟨k, hk, hk2, rfl, rfl, HI⟩ := hrel
    by_cases hlt : k < L
    · by_cases h201 : k < 201
      · have h201' : (k : Int) < 201 := by omega
        have hltl : k < l.length := by have := HL.out; omega
        obtain ⟨b, off, rfl, hb, hc⟩ := row_cell HR.out (by intro e; have h := msg_at l k 0 l[k] (.int .i64 l[k].1) (by simp [hltl]) rfl; rw [e] at h; cases h)
        obtain ⟨⟨K, kk, v⟩, hx⟩ : ∃ x, x = l[k] := ⟨_, rfl⟩
        have hxi : l[k]? = some (K, kk, v) := by rw [hx]; simp [hltl]
        have c1 := hc _ _ (msg_at l k 1 _ (.string kk) hxi rfl)
        rw [← Nat.add_assoc] at c1
        have c2 := hc _ _ (msg_at l k 2 _ (.string v) hxi rfl)
        rw [← Nat.add_assoc] at c2
        have HX := hid (And.intro hltl hx)
        have hmem : (K, kk, v) ∈ l.take 201 := by
          rw [List.mem_take_iff_getElem]
          exact ⟨k, by omega, hx.symm⟩
        have HM := hid hmem
        clear hc hb hx hxi hmem
        by_cases h1 : 512 < kk.size
        · have h1' : (512 : Int) < kk.size := by omega
          go_wp2_with fail
          go_ret
          refine ⟨?_, rfl⟩
          rw [HB.out]
          unfold heavyB
          rw [List.any_eq_true.2 ⟨_, HM.out, by simp [h1]⟩]
          rfl
        · have h1' : ¬ (512 : Int) < kk.size := by omega
          by_cases h2 : 512 < v.size
          · have h2' : (512 : Int) < v.size := by omega
            go_wp2_with fail
            go_ret
            refine ⟨?_, rfl⟩
            rw [HB.out]
            unfold heavyB
            rw [List.any_eq_true.2 ⟨_, HM.out, by simp [h2]⟩]
            rfl
          · have h2' : ¬ (512 : Int) < v.size := by omega
            go_wp2_with fail
            go_roundg (L - (k + 1))
            case measure => omega
            case rel =>
              refine ⟨k + 1, by omega, by omega, by go_num, rfl, fun i h hi => ?_⟩
              by_cases e : i = k
              · subst e
                obtain ⟨_, hx⟩ := HX.out
                rw [← hx]
                exact ⟨h1, h2⟩
              · exact HI.out i h (by omega)
      · have h201' : ¬ (k : Int) < 201 := by omega
        have hl2 : (200 : Int) < (L : Int) := by omega
        go_wp2_with fail
        go_ret
        refine ⟨?_, rfl⟩
        rw [HB.out]
        unfold heavyB
        have := HL.out
        rw [decide_eq_true (show 200 < l.length by omega), Bool.or_true]
        rfl
    · have hkl : k = L := by omega
      subst hkl
      by_cases hl2 : 200 < k
      · have hl2' : (200 : Int) < (k : Int) := by omega
        go_wp2_with fail
        go_ret
        refine ⟨?_, rfl⟩
        rw [HB.out]
        unfold heavyB
        have := HL.out
        rw [decide_eq_true (show 200 < l.length by omega), Bool.or_true]
        rfl
      · have hl2' : ¬ (200 : Int) < (k : Int) := by omega
        go_wp2_with fail
        go_ret
        refine ⟨?_, rfl⟩
        rw [HB.out]
        unfold heavyB
        have := HL.out
        rw [decide_eq_false (show ¬ 200 < l.length by omega), Bool.or_false]
        rw [List.any_eq_false.2 ?_]
        · rfl
        · intro x hx
          obtain ⟨i, hi, rfl⟩ := List.getElem_of_mem (List.mem_of_mem_take hx)
          obtain ⟨q1, q2⟩ := HI.out i hi (by omega)
          simp [q1, q2]
end Go.Proofs.Ytjeoelhenlckaaa
