/-
  grangerlaw28.TaleTells, walked.
-/
import Derived.Test.YthhmdmfbaooldaaGreatDoorTaleRef3
import Derived.Test.YthhmdmfbaooldaaGreatDoorTaleAwake
namespace Go.Proofs.YthhmdmfbaooldaaGreatDoor
open Go.RowKit Go.Sort

set_option maxHeartbeats 16000000 in
set_option maxRecDepth 100000 in
theorem taleTells_any (err : Int) (has : Bool) (val : ByteArray) (A : Option Addr) (cap : Nat) (items : List (ByteArray × ByteArray)) (s0 s1 s2 s3 s4 s5 s6 s7 s8 : Int) (w : World)
    (hL : Lib28 w) (he : (Lit.int .i64 err).wf = true) (hr : Row w A (items.flatMap itemCells)) (hst : ∀ n ∈ [s0, s1, s2, s3, s4, s5, s6, s7, s8], (Lit.int .i64 n).wf = true) (hn : items.length ≤ 9223372036854775807) :
    Calls Tryz.prog 5 #[.agg #[.int .i64 err, .bool has, .string val, .slice A items.length cap, .int .i64 s0, .int .i64 s1, .int .i64 s2, .int .i64 s3, .int .i64 s4, .int .i64 s5, .int .i64 s6, .int .i64 s7, .int .i64 s8]] w fun e w' => e = .returned (.bool true) ∧ Below w.heap.size w w' := by
  have hu := Tryz.underlying52
  have hu2 := Tryz.underlying54
  have hu3 := Tryz.underlying50
  obtain ⟨N, hN⟩ : ∃ N, N = items.length := ⟨_, rfl⟩
  rw [← hN]
  rw [← hN] at hn
  have HL := hid hL; have HR := hid hr; have HE := hid he; have HST := hid hst
  have HN := hid hN
  clear hL hr he hst hN
  go_enter Tryz.func5, Tryz.ntmps5
  go_wp2_with (with_reducible refine at_op (.box 52 (.tmp 0)) rfl ?_; refine Stopped.go ?_)
  refine Stopped.mk (wpList_box rfl #[.int .i64 err, .bool has, .string val, .slice A N cap, .int .i64 s0, .int .i64 s1, .int .i64 s2, .int .i64 s3, .int .i64 s4, .int .i64 s5, .int .i64 s6, .int .i64 s7, .int .i64 s8] 52 (by go_simp) ?_)
  intro g w2 hg Bg hb1 hz
  have HB2 := hid (And.intro Bg hb1)
  clear Bg hb1 hg hz
  have HA := hid (awake28_any w2 (HL.out.below HB2.out.2))
  go_wp2_with fail
  refine HA.out.mono ?_; rintro e w3 ⟨rfl, hb1⟩
  have HB3 := hid (And.intro (HB2.out.1.belowS hb1) (bt HB2.out.2 hb1))
  clear hb1 HB2 HA
  have HL3 := hid (HL.out.below HB3.out.2)
  have HR3 := hid (HR.out.below HB3.out.2)
  clear HL HR
  have c2 : w3.cell? ⟨g, 2, none⟩ = some (.string val) := HB3.out.1.at (i := 2) rfl
  have c3 : w3.cell? ⟨g, 3, none⟩ = some (.slice A N cap) := HB3.out.1.at (i := 3) rfl
  by_cases g0 : val.size ≤ 512
  · by_cases g2 : N ≤ 50
    · have f0 : ¬ (512 : Int) < (val.size : Int) := by omega
      have f2 : ¬ (50 : Int) < (N : Int) := by omega
      go_wp2_with fail
      clear f0 f2
      go_loopg [3] N (fun gg j wx => ∃ k : Nat, k + gg = N ∧ j = .int .i64 k ∧ w3 = wx ∧ Hid (∀ x ∈ items.take k, x.1.size ≤ 512 ∧ x.2.size ≤ 512))
      case atStart => exact ⟨0, by omega, rfl, rfl, hid (by simp)⟩
      case round =>
        obtain ⟨k, hk, rfl, rfl, HSA⟩ := hrel
        by_cases hlt : k < N
        · have hkl : k < items.length := by rw [← HN.out]; exact hlt
          obtain ⟨b, off, rfl, hb, hc⟩ := row_cell HR3.out (by
            intro e
            have := (items_at items k hkl).1
            rw [e] at this; simp at this)
          obtain ⟨p1, p2⟩ := items_at items k hkl
          have e1 := hc _ _ p1
          have e2 := hc _ _ p2
          rw [← Nat.add_assoc] at e2
          obtain ⟨kk, hkk⟩ : ∃ q, q = items[k].1 := ⟨_, rfl⟩
          obtain ⟨vv, hvv⟩ : ∃ q, q = items[k].2 := ⟨_, rfl⟩
          have htk : ∀ x ∈ items.take (k + 1), x ∈ items.take k ∨ (x.1 = kk ∧ x.2 = vv) := by
            intro x hx
            rw [List.take_succ_eq_append_getElem hkl] at hx
            rcases List.mem_append.1 hx with h | h
            · exact .inl h
            · rw [List.mem_singleton.1 h]; exact .inr ⟨hkk.symm, hvv.symm⟩
          rw [← hkk] at e1
          rw [← hvv] at e2
          have HTK := hid htk
          clear htk hkk hvv p1 p2 hc hkl hb
          by_cases z1 : kk.size ≤ 512
          · have z1' : ¬ (512 : Int) < (kk.size : Int) := by omega
            by_cases z2 : vv.size ≤ 512
            · have z2' : ¬ (512 : Int) < (vv.size : Int) := by omega
              go_wp2_with fail
              go_roundg (N - (k + 1))
              case measure => omega
              case rel =>
                refine ⟨k + 1, by omega, by go_num, rfl, hid ?_⟩
                intro x hx
                rcases HTK.out x hx with h | ⟨h, h'⟩
                · exact HSA.out x h
                · rw [h, h']; exact ⟨z1, z2⟩
            · have z2' : (512 : Int) < (vv.size : Int) := by omega
              go_wp2_with fail
              go_ret
              exact ⟨rfl, HB3.out.2⟩
          · have z1' : (512 : Int) < (kk.size : Int) := by omega
            go_wp2_with fail
            go_ret
            exact ⟨rfl, HB3.out.2⟩
        · have hall : items.take k = items := List.take_of_length_le (by rw [← HN.out]; omega)
          rw [hall] at HSA
          clear hall
          go_upto_region 10 with fail
          have T1 := fun (dd : Nat) (os : Array Obj) => tale_Tell_any err has val A cap items s0 s1 s2 s3 s4 s5 s6 s7 s8 (grow (redrawn w3 dd) os) HE.out (by omega) (HR3.out.below (below_regrown w3 dd os)) (by rw [← HN.out]; omega) (fun x hx => ⟨by have := (HSA.out x hx).1; omega, by have := (HSA.out x hx).2; omega⟩) HST.out (HL3.out.below (below_regrown w3 dd os))
          have T2 := fun (dd : Nat) (os : Array Obj) => refTell_any err has val A cap items s0 s1 s2 s3 s4 s5 s6 s7 s8 (grow (redrawn w3 dd) os) HE.out (by omega) (HR3.out.below (below_regrown w3 dd os)) (by rw [← HN.out]; omega) (fun x hx => ⟨by have := (HSA.out x hx).1; omega, by have := (HSA.out x hx).2; omega⟩) HST.out
          have E3 := hid (fun (dd : Nat) (os : Array Obj) => stats_any s0 s1 s2 s3 s4 s5 s6 s7 s8 (grow (redrawn w3 dd) os))
          obtain ⟨J, hJ⟩ : ∃ q, q = joinB (tellW err has val items [s0, s1, s2, s3, s4, s5, s6, s7, s8]) := ⟨_, rfl⟩
          rw [← hJ, ← HN.out] at T1 T2
          have E1 := hid T1; have E2 := hid T2
          have HTS := hid (show (J.toList == J.toList) = true by simp)
          clear T1 T2 hJ c2 c3
          have x0 : ∀ (dd : Nat) (os : Array Obj), (grow (redrawn w3 dd) os).cell? ⟨g, 0, none⟩ = some (.int .i64 err) := fun dd os => cell_regrown (HB3.out.1.at (i := 0) rfl) dd os
          have x1 : ∀ (dd : Nat) (os : Array Obj), (grow (redrawn w3 dd) os).cell? ⟨g, 1, none⟩ = some (.bool has) := fun dd os => cell_regrown (HB3.out.1.at (i := 1) rfl) dd os
          have x2 : ∀ (dd : Nat) (os : Array Obj), (grow (redrawn w3 dd) os).cell? ⟨g, 2, none⟩ = some (.string val) := fun dd os => cell_regrown (HB3.out.1.at (i := 2) rfl) dd os
          have x3 : ∀ (dd : Nat) (os : Array Obj), (grow (redrawn w3 dd) os).cell? ⟨g, 3, none⟩ = some (.slice A N cap) := fun dd os => cell_regrown (HB3.out.1.at (i := 3) rfl) dd os
          have x4 : ∀ (dd : Nat) (os : Array Obj), (grow (redrawn w3 dd) os).cell? ⟨g, 4, none⟩ = some (.int .i64 s0) := fun dd os => cell_regrown (HB3.out.1.at (i := 4) rfl) dd os
          have x5 : ∀ (dd : Nat) (os : Array Obj), (grow (redrawn w3 dd) os).cell? ⟨g, 5, none⟩ = some (.int .i64 s1) := fun dd os => cell_regrown (HB3.out.1.at (i := 5) rfl) dd os
          have x6 : ∀ (dd : Nat) (os : Array Obj), (grow (redrawn w3 dd) os).cell? ⟨g, 6, none⟩ = some (.int .i64 s2) := fun dd os => cell_regrown (HB3.out.1.at (i := 6) rfl) dd os
          have x7 : ∀ (dd : Nat) (os : Array Obj), (grow (redrawn w3 dd) os).cell? ⟨g, 7, none⟩ = some (.int .i64 s3) := fun dd os => cell_regrown (HB3.out.1.at (i := 7) rfl) dd os
          have x8 : ∀ (dd : Nat) (os : Array Obj), (grow (redrawn w3 dd) os).cell? ⟨g, 8, none⟩ = some (.int .i64 s4) := fun dd os => cell_regrown (HB3.out.1.at (i := 8) rfl) dd os
          have x9 : ∀ (dd : Nat) (os : Array Obj), (grow (redrawn w3 dd) os).cell? ⟨g, 9, none⟩ = some (.int .i64 s5) := fun dd os => cell_regrown (HB3.out.1.at (i := 9) rfl) dd os
          have x10 : ∀ (dd : Nat) (os : Array Obj), (grow (redrawn w3 dd) os).cell? ⟨g, 10, none⟩ = some (.int .i64 s6) := fun dd os => cell_regrown (HB3.out.1.at (i := 10) rfl) dd os
          have x11 : ∀ (dd : Nat) (os : Array Obj), (grow (redrawn w3 dd) os).cell? ⟨g, 11, none⟩ = some (.int .i64 s7) := fun dd os => cell_regrown (HB3.out.1.at (i := 11) rfl) dd os
          have x12 : ∀ (dd : Nat) (os : Array Obj), (grow (redrawn w3 dd) os).cell? ⟨g, 12, none⟩ = some (.int .i64 s8) := fun dd os => cell_regrown (HB3.out.1.at (i := 12) rfl) dd os
          refine wp_region_quiet_below (by kernel_rfl) (by kernel_rfl) ?_
          repeat (go_big_quiet_step (first
            | with_reducible exact Calls.regrown_of (E1.out _ _)
            | with_reducible exact Calls.regrown_of (E2.out _ _)
            | with_reducible exact Calls.regrown_of (E3.out _ _)))
          refine wpQuiet_nil ?_
          intro _ hw'
          obtain ⟨⟨dq, osq⟩, hw''⟩ := hw'
          subst hw''
          have HBF := hid (bt HB3.out.2 (below_regrown w3 dq osq))
          clear x0 x1 x2 x3 x4 x5 x6 x7 x8 x9 x10 x11 x12 E1 E2 E3
          go_wp2_with fail
          go_ret
          exact ⟨by simp, HBF.out⟩
    · have f0 : ¬ (512 : Int) < (val.size : Int) := by omega
      have f2 : (50 : Int) < (N : Int) := by omega
      go_wp2_with fail
      go_ret
      exact ⟨rfl, HB3.out.2⟩
  · have f0 : (512 : Int) < (val.size : Int) := by omega
    go_wp2_with fail
    go_ret
    exact ⟨rfl, HB3.out.2⟩
theorem taleTells_row (err : Int) (has : Bool) (val : ByteArray) (A : Option Addr) (cap : Nat) (items : List (ByteArray × ByteArray)) (s0 s1 s2 s3 s4 s5 s6 s7 s8 : Int) (w : World) (hL : Lib28 w)
    (he : (Lit.int .i64 err).wf = true) (_ : val.size ≤ 140737488351232) (hr : Row w A (items.flatMap itemCells)) (_ : ∀ x ∈ items, x.1.size ≤ 140737488351232 ∧ x.2.size ≤ 140737488351232) (hl : items.length ≤ cap) (hc : cap ≤ maxLen) (h0 : (Lit.int .i64 s0).wf = true) (h1 : (Lit.int .i64 s1).wf = true) (h2 : (Lit.int .i64 s2).wf = true) (h3 : (Lit.int .i64 s3).wf = true) (h4 : (Lit.int .i64 s4).wf = true) (h5 : (Lit.int .i64 s5).wf = true) (h6 : (Lit.int .i64 s6).wf = true) (h7 : (Lit.int .i64 s7).wf = true) (h8 : (Lit.int .i64 s8).wf = true) :
    Calls Tryz.prog 5 #[.agg #[.int .i64 err, .bool has, .string val, .slice A items.length cap, .int .i64 s0, .int .i64 s1, .int .i64 s2, .int .i64 s3, .int .i64 s4, .int .i64 s5, .int .i64 s6, .int .i64 s7, .int .i64 s8]] w fun e w' => e = .returned (.bool true) ∧ Below w.heap.size w w' := by
  unfold maxLen at hc
  refine taleTells_any err has val A cap items s0 s1 s2 s3 s4 s5 s6 s7 s8 w hL he hr ?_ (by omega)
  intro n hn
  simp only [List.mem_cons, List.not_mem_nil, or_false] at hn
  rcases hn with rfl | rfl | rfl | rfl | rfl | rfl | rfl | rfl | rfl <;> assumption
end Go.Proofs.YthhmdmfbaooldaaGreatDoor
