/-
  order.Same, walked.
-/
import Derived.Test.YthhmdmfbaooldaaGreatDoorTaleSame
namespace Go.Proofs.YthhmdmfbaooldaaGreatDoor
open Go.RowKit Go.Sort

def ansB (err : Int) (has : Bool) (val : ByteArray) (items : List (ByteArray × ByteArray)) (st : List Int) (err' : Int) (has' : Bool) (val' : ByteArray) (items' : List (ByteArray × ByteArray)) (st' : List Int) : Bool :=
  decide (err = err' ∧ has = has' ∧ val = val' ∧ items = items' ∧ st = st')
theorem statsEq_run (s0 s1 s2 s3 s4 s5 s6 s7 s8 u0 u1 u2 u3 u4 u5 u6 u7 u8 : Int) (w : World) : (binOp .eql 50 (.agg #[.int .i64 s0, .int .i64 s1, .int .i64 s2, .int .i64 s3, .int .i64 s4, .int .i64 s5, .int .i64 s6, .int .i64 s7, .int .i64 s8]) (.agg #[.int .i64 u0, .int .i64 u1, .int .i64 u2, .int .i64 u3, .int .i64 u4, .int .i64 u5, .int .i64 u6, .int .i64 u7, .int .i64 u8])).run Tryz.prog w = .ok (.bool (decide ([s0, s1, s2, s3, s4, s5, s6, s7, s8] = [u0, u1, u2, u3, u4, u5, u6, u7, u8]))) w := by
  have hu := Tryz.underlying50
  go_simp
  by_cases h0 : s0 = u0 <;> by_cases h1 : s1 = u1 <;> by_cases h2 : s2 = u2 <;> by_cases h3 : s3 = u3 <;> by_cases h4 : s4 = u4 <;> by_cases h5 : s5 = u5 <;> by_cases h6 : s6 = u6 <;> by_cases h7 : s7 = u7 <;> by_cases h8 : s8 = u8 <;> simp [h0, h1, h2, h3, h4, h5, h6, h7, h8]

set_option maxHeartbeats 8000000 in
set_option maxRecDepth 100000 in
theorem order_Same_any (err err' : Int) (has has' : Bool) (val val' : ByteArray) (A A' : Option Addr) (cap cap' : Nat) (items items' : List (ByteArray × ByteArray)) (s0 s1 s2 s3 s4 s5 s6 s7 s8 u0 u1 u2 u3 u4 u5 u6 u7 u8 : Int) (w : World)
    (hr : Row w A (items.flatMap itemCells)) (hr' : Row w A' (items'.flatMap itemCells)) (hi : items.length ≤ 1000) (hi' : items'.length ≤ 1000) :
    Calls Tryz.prog 27 #[.agg #[.int .i64 err, .bool has, .string val, .slice A items.length cap, .int .i64 s0, .int .i64 s1, .int .i64 s2, .int .i64 s3, .int .i64 s4, .int .i64 s5, .int .i64 s6, .int .i64 s7, .int .i64 s8], .agg #[.int .i64 err', .bool has', .string val', .slice A' items'.length cap', .int .i64 u0, .int .i64 u1, .int .i64 u2, .int .i64 u3, .int .i64 u4, .int .i64 u5, .int .i64 u6, .int .i64 u7, .int .i64 u8]] w fun e w' =>
      e = .returned (.bool (ansB err has val items [s0, s1, s2, s3, s4, s5, s6, s7, s8] err' has' val' items' [u0, u1, u2, u3, u4, u5, u6, u7, u8])) ∧ Below w.heap.size w w' := by
  have hu := Tryz.underlying52
  have hu2 := Tryz.underlying50
  obtain ⟨r, hrr⟩ : ∃ r, r = ansB err has val items [s0, s1, s2, s3, s4, s5, s6, s7, s8] err' has' val' items' [u0, u1, u2, u3, u4, u5, u6, u7, u8] := ⟨_, rfl⟩
  rw [← hrr]
  have HRR := hid hrr; clear hrr
  have HQ := hid (fun wx h1 h2 => Equal_items A A' cap cap' items items' hi hi' wx h1 h2)
  have HR := hid hr; have HR2 := hid hr'; clear hr hr'
  obtain ⟨N, hN⟩ : ∃ N, N = items.length := ⟨_, rfl⟩
  obtain ⟨M, hM⟩ : ∃ N, N = items'.length := ⟨_, rfl⟩
  rw [← hN, ← hM] at HQ ⊢
  clear hN hM hi hi'
  obtain ⟨q, hq⟩ : ∃ q, q = decide (items = items') := ⟨_, rfl⟩
  rw [← hq] at HQ
  have HQQ := hid hq; clear hq
  go_enter Tryz.func27, Tryz.ntmps27
  go_wp2_with (with_reducible refine at_op (.box 52 (.tmp 0)) rfl ?_; refine Stopped.go ?_)
  refine Stopped.mk (wpList_box rfl #[.int .i64 err, .bool has, .string val, .slice A N cap, .int .i64 s0, .int .i64 s1, .int .i64 s2, .int .i64 s3, .int .i64 s4, .int .i64 s5, .int .i64 s6, .int .i64 s7, .int .i64 s8] 52 (by go_simp) ?_)
  intro g w1 hg Bg hb1 hz
  have HB1 := hid (And.intro Bg hb1)
  clear Bg hb1 hg hz
  go_wp2_with (with_reducible refine at_op (.box 52 (.tmp 1)) rfl ?_; refine Stopped.go ?_)
  refine Stopped.mk (wpList_box rfl #[.int .i64 err', .bool has', .string val', .slice A' M cap', .int .i64 u0, .int .i64 u1, .int .i64 u2, .int .i64 u3, .int .i64 u4, .int .i64 u5, .int .i64 u6, .int .i64 u7, .int .i64 u8] 52 (by go_simp) ?_)
  intro g' w2 hg Bg hb1 hz
  have HB2 := hid (And.intro (HB1.out.1.belowS hb1) (And.intro Bg (bt HB1.out.2 hb1)))
  clear Bg hb1 hg hz HB1
  have c0 : w2.cell? ⟨g, 0, none⟩ = some (.int .i64 err) := HB2.out.1.at (i := 0) rfl
  have c1 : w2.cell? ⟨g, 1, none⟩ = some (.bool has) := HB2.out.1.at (i := 1) rfl
  have c2 : w2.cell? ⟨g, 2, none⟩ = some (.string val) := HB2.out.1.at (i := 2) rfl
  have c3 : w2.cell? ⟨g, 3, none⟩ = some (.slice A N cap) := HB2.out.1.at (i := 3) rfl
  have d0 : w2.cell? ⟨g', 0, none⟩ = some (.int .i64 err') := HB2.out.2.1.at (i := 0) rfl
  have d1 : w2.cell? ⟨g', 1, none⟩ = some (.bool has') := HB2.out.2.1.at (i := 1) rfl
  have d2 : w2.cell? ⟨g', 2, none⟩ = some (.string val') := HB2.out.2.1.at (i := 2) rfl
  have d3 : w2.cell? ⟨g', 3, none⟩ = some (.slice A' M cap') := HB2.out.2.1.at (i := 3) rfl
  by_cases h0 : err = err'
  · by_cases h1 : has = has'
    · by_cases h2 : val = val'
      · have hq0 : (err == err') = true := by rw [h0]; simp
        have hq1 : (has == has') = true := by rw [h1]; simp
        have hq2 : (val.toList == val'.toList) = true := by rw [h2]; simp
        have HR3 := hid (show r = (q && decide ([s0, s1, s2, s3, s4, s5, s6, s7, s8] = [u0, u1, u2, u3, u4, u5, u6, u7, u8])) by
          rw [HRR.out, HQQ.out]; unfold ansB; simp only [h0, h1, h2, true_and, Bool.decide_and])
        clear h0 h1 h2 HRR HQQ
        go_wp2_with fail
        refine (HQ.out _ (HR.out.below HB2.out.2.2) (HR2.out.below HB2.out.2.2)).mono ?_; rintro e w3 ⟨rfl, hb1⟩
        have HB3 := hid (And.intro (HB2.out.1.belowS hb1) (And.intro (HB2.out.2.1.belowS hb1) (bt HB2.out.2.2 hb1)))
        clear hb1 HB2 c0 c1 c2 c3 d0 d1 d2 d3 hq0 hq1 hq2 HQ
        cases q with
        | false =>
          have hr0 : r = false := HR3.out
          subst hr0
          clear HR3
          go_wp2_with fail
          go_ret
          exact ⟨rfl, HB3.out.2.2⟩
        | true =>
          have hcmp := fun wx => statsEq_run s0 s1 s2 s3 s4 s5 s6 s7 s8 u0 u1 u2 u3 u4 u5 u6 u7 u8 wx
          have hr0 : decide ([s0, s1, s2, s3, s4, s5, s6, s7, s8] = [u0, u1, u2, u3, u4, u5, u6, u7, u8]) = r := by rw [HR3.out, Bool.true_and]
          rw [hr0] at hcmp
          clear HR3 hr0
          have c4 : w3.cell? ⟨g, 4, none⟩ = some (.int .i64 s0) := HB3.out.1.at (i := 4) rfl
          have c5 : w3.cell? ⟨g, 5, none⟩ = some (.int .i64 s1) := HB3.out.1.at (i := 5) rfl
          have c6 : w3.cell? ⟨g, 6, none⟩ = some (.int .i64 s2) := HB3.out.1.at (i := 6) rfl
          have c7 : w3.cell? ⟨g, 7, none⟩ = some (.int .i64 s3) := HB3.out.1.at (i := 7) rfl
          have c8 : w3.cell? ⟨g, 8, none⟩ = some (.int .i64 s4) := HB3.out.1.at (i := 8) rfl
          have c9 : w3.cell? ⟨g, 9, none⟩ = some (.int .i64 s5) := HB3.out.1.at (i := 9) rfl
          have c10 : w3.cell? ⟨g, 10, none⟩ = some (.int .i64 s6) := HB3.out.1.at (i := 10) rfl
          have c11 : w3.cell? ⟨g, 11, none⟩ = some (.int .i64 s7) := HB3.out.1.at (i := 11) rfl
          have c12 : w3.cell? ⟨g, 12, none⟩ = some (.int .i64 s8) := HB3.out.1.at (i := 12) rfl
          have d4 : w3.cell? ⟨g', 4, none⟩ = some (.int .i64 u0) := HB3.out.2.1.at (i := 4) rfl
          have d5 : w3.cell? ⟨g', 5, none⟩ = some (.int .i64 u1) := HB3.out.2.1.at (i := 5) rfl
          have d6 : w3.cell? ⟨g', 6, none⟩ = some (.int .i64 u2) := HB3.out.2.1.at (i := 6) rfl
          have d7 : w3.cell? ⟨g', 7, none⟩ = some (.int .i64 u3) := HB3.out.2.1.at (i := 7) rfl
          have d8 : w3.cell? ⟨g', 8, none⟩ = some (.int .i64 u4) := HB3.out.2.1.at (i := 8) rfl
          have d9 : w3.cell? ⟨g', 9, none⟩ = some (.int .i64 u5) := HB3.out.2.1.at (i := 9) rfl
          have d10 : w3.cell? ⟨g', 10, none⟩ = some (.int .i64 u6) := HB3.out.2.1.at (i := 10) rfl
          have d11 : w3.cell? ⟨g', 11, none⟩ = some (.int .i64 u7) := HB3.out.2.1.at (i := 11) rfl
          have d12 : w3.cell? ⟨g', 12, none⟩ = some (.int .i64 u8) := HB3.out.2.1.at (i := 12) rfl
          go_wp2_with fail
          go_ret
          exact ⟨rfl, HB3.out.2.2⟩
      · have hr0 : r = false := by rw [HRR.out]; exact decide_eq_false (fun e => h2 e.2.2.1)
        have hq0 : (err == err') = true := by rw [h0]; simp
        have hq1 : (has == has') = true := by rw [h1]; simp
        have hq2 := ba_ne h2
        subst hr0
        clear h0 h1 h2 HRR HQQ
        go_wp2_with fail
        go_ret
        exact ⟨rfl, HB2.out.2.2⟩
    · have hr0 : r = false := by rw [HRR.out]; exact decide_eq_false (fun e => h1 e.2.1)
      have hq0 : (err == err') = true := by rw [h0]; simp
      have hq1 : (has == has') = false := by revert h1; cases has <;> cases has' <;> simp
      subst hr0
      clear h0 h1 HRR HQQ
      go_wp2_with fail
      go_ret
      exact ⟨rfl, HB2.out.2.2⟩
  · have hr0 : r = false := by rw [HRR.out]; exact decide_eq_false (fun e => h0 e.1)
    have hq0 : (err == err') = false := beq_eq_false_iff_ne.2 h0
    subst hr0
    clear h0 HRR HQQ
    go_wp2_with fail
    go_ret
    exact ⟨rfl, HB2.out.2.2⟩
end Go.Proofs.YthhmdmfbaooldaaGreatDoor
