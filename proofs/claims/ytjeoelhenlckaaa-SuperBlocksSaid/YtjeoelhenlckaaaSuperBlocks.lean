/-
  SuperBlocks: walked.
-/
import Derived.Test.YtjeoelhenlckaaaSuperRef2
namespace Go.Proofs.Ytjeoelhenlckaaa
open Go.RowKit Go.Sort

set_option maxHeartbeats 16000000 in
set_option maxRecDepth 100000 in
theorem superBlocks_walk (s : Sup) (b : ByteArray) (w : World) :
    Calls Try.prog 7 #[.agg s.vals, .string b] w fun e w' => e = .returned (.bool true) ∧ Below w.heap.size w w' := by
  have C1 := hid (fun w' => super_Lay s w')
  have C2 := hid (fun w' => law21_form s w')
  have C3 := hid (fun w' => ref21_Lay s w')
  obtain ⟨⟨a, c⟩, hl⟩ : ∃ v, v = superLayV s := ⟨_, rfl⟩
  have hc : c = 0 ∨ c = 1 := by
    by_cases hg : goodB s = true
    · rw [(superRead_laid hg).1] at hl
      exact .inl (Prod.mk.inj hl).2
    · rw [superLay_no hg] at hl
      exact .inr (Prod.mk.inj hl).2
  rw [← hl] at C1 C3
  simp only at C1 C3
  clear hl
  obtain ⟨B, E, R, F, N, I, W⟩ := s
  simp only [Sup.vals] at C1 C2 C3 ⊢
  have HA := hid (below_alloc w (.cells #[.int .i64 B, .int .i64 E, .int .i64 R, .int .i64 F, .int .i64 N, .int .i64 I, .int .i64 W] 45))
  have HN := hid (show R0 (w.alloc (.cells #[.int .i64 B, .int .i64 E, .int .i64 R, .int .i64 F, .int .i64 N, .int .i64 I, .int .i64 W] 45)) w.heap.size 45 #[.int .i64 B, .int .i64 E, .int .i64 R, .int .i64 F, .int .i64 N, .int .i64 I, .int .i64 W] from heap_alloc_new w _)
  by_cases h300 : 300 < b.size
  · have h300' : (300 : Int) < (b.size : Int) := by omega
    go_enter Try.func7, Try.ntmps7
    go_wp2_with fail
    refine (awake21_any _).mono ?_; rintro ee w1 ⟨rfl, hb1⟩
    have H1 := hid (bt HA.out hb1); clear hb1
    go_wp2_with fail
    go_ret
    exact ⟨rfl, H1.out⟩
  have h300' : ¬ (300 : Int) < (b.size : Int) := by omega
  have C4 := hid (fun w' => super_Read b w')
  obtain ⟨⟨t, k⟩, ht⟩ : ∃ v, v = superReadV b := ⟨_, rfl⟩
  rw [← ht] at C4
  by_cases h256 : b.size = 256
  case neg =>
    have h256' : ¬ (b.size : Int) = 256 := by omega
    have hrd : readV b = (0, 0, ⟨#[]⟩, 1) := by unfold readV; rw [if_neg h256]
    have hv : superReadV b = (zeroSup, 1) := by unfold superReadV; rw [hrd]; simp
    rw [hv] at ht
    obtain ⟨rfl, rfl⟩ := Prod.mk.inj ht
    simp only [zeroSup, Sup.vals] at C4
    clear ht hv hrd
    rcases hc with rfl | rfl
    all_goals
      first | rw [show decide ((0 : Int) = 0) = true from rfl] at C3 | rw [show decide ((1 : Int) = 0) = false from rfl] at C3
      go_enter Try.func7, Try.ntmps7
      go_wp2_with fail
      refine (awake21_any _).mono ?_; rintro ee w1 ⟨rfl, hb1⟩
      have H1 := hid (And.intro (bt HA.out hb1) (HN.out.belowS hb1)); clear hb1 HA HN
      obtain ⟨y0, y1, y2, y3, y4, y5, y6⟩ := cells7 H1.out.2.blk
      go_wp2_with fail
      refine (C1.out _).mono ?_; rintro ee w2 ⟨rfl, hb1⟩
      have H2 := hid (And.intro (bt H1.out.1 hb1) (H1.out.2.belowS hb1)); clear hb1 H1 C1 y0 y1 y2 y3 y4 y5 y6
      obtain ⟨y0, y1, y2, y3, y4, y5, y6⟩ := cells7 H2.out.2.blk
      go_wp2_with fail
      refine (C2.out _).mono ?_; rintro ee w3 ⟨rfl, hb1⟩
      have H3 := hid (bt H2.out.1 hb1); clear hb1 H2 C2 y0 y1 y2 y3 y4 y5 y6
      go_wp2_with fail
      refine (C3.out _).mono ?_; rintro ee w4 ⟨rfl, hb1⟩
      have H4 := hid (bt H3.out hb1); clear hb1 H3 C3
      go_wp2_with fail
      refine (C4.out _).mono ?_; rintro ee w5 ⟨rfl, hb1⟩
      have hA := below_alloc w5 (.cells #[.int .i64 0, .int .i64 0, .int .i64 0, .int .i64 0, .int .i64 0, .int .i64 0, .int .i64 0] 45)
      have hN : R0 (w5.alloc (.cells #[.int .i64 0, .int .i64 0, .int .i64 0, .int .i64 0, .int .i64 0, .int .i64 0, .int .i64 0] 45)) w5.heap.size 45 #[.int .i64 0, .int .i64 0, .int .i64 0, .int .i64 0, .int .i64 0, .int .i64 0, .int .i64 0] := heap_alloc_new w5 _
      obtain ⟨y0, y1, y2, y3, y4, y5, y6⟩ := cells7 hN.blk
      have H5 := hid (bt (bt H4.out hb1) hA); clear hb1 H4 C4 hA hN
      go_wp2_with fail
      go_ret
      exact ⟨rfl, H5.out⟩
  have h256' : (b.size : Int) = 256 := by omega
  have C5 := hid (fun w' => ref21_Read b h256 w')
  have C6 := hid (fun w' => law21_back t w')
  rw [← ht] at C5
  clear ht h256
  obtain ⟨tB, tE, tR, tF, tN, tI, tW⟩ := t
  simp only [Sup.vals] at C4 C5 C6
  rcases hc with rfl | rfl
  all_goals
    first | rw [show decide ((0 : Int) = 0) = true from rfl] at C3 | rw [show decide ((1 : Int) = 0) = false from rfl] at C3
    go_enter Try.func7, Try.ntmps7
    go_wp2_with fail
    refine (awake21_any _).mono ?_; rintro ee w1 ⟨rfl, hb1⟩
    have H1 := hid (And.intro (bt HA.out hb1) (HN.out.belowS hb1)); clear hb1 HA HN
    obtain ⟨y0, y1, y2, y3, y4, y5, y6⟩ := cells7 H1.out.2.blk
    go_wp2_with fail
    refine (C1.out _).mono ?_; rintro ee w2 ⟨rfl, hb1⟩
    have H2 := hid (And.intro (bt H1.out.1 hb1) (H1.out.2.belowS hb1)); clear hb1 H1 C1 y0 y1 y2 y3 y4 y5 y6
    obtain ⟨y0, y1, y2, y3, y4, y5, y6⟩ := cells7 H2.out.2.blk
    go_wp2_with fail
    refine (C2.out _).mono ?_; rintro ee w3 ⟨rfl, hb1⟩
    have H3 := hid (bt H2.out.1 hb1); clear hb1 H2 C2 y0 y1 y2 y3 y4 y5 y6
    go_wp2_with fail
    refine (C3.out _).mono ?_; rintro ee w4 ⟨rfl, hb1⟩
    have H4 := hid (bt H3.out hb1); clear hb1 H3 C3
    go_wp2_with fail
    refine (C4.out _).mono ?_; rintro ee w5 ⟨rfl, hb1⟩
    have hA := below_alloc w5 (.cells #[.int .i64 tB, .int .i64 tE, .int .i64 tR, .int .i64 tF, .int .i64 tN, .int .i64 tI, .int .i64 tW] 45)
    have hN : R0 (w5.alloc (.cells #[.int .i64 tB, .int .i64 tE, .int .i64 tR, .int .i64 tF, .int .i64 tN, .int .i64 tI, .int .i64 tW] 45)) w5.heap.size 45 #[.int .i64 tB, .int .i64 tE, .int .i64 tR, .int .i64 tF, .int .i64 tN, .int .i64 tI, .int .i64 tW] := heap_alloc_new w5 _
    obtain ⟨g5, hg5⟩ : ∃ g, g = w5.heap.size := ⟨_, rfl⟩
    rw [← hg5] at hN
    have H5 := hid (And.intro (bt (bt H4.out hb1) hA) hN); have HG5 := hid hg5; clear hb1 H4 C4 hA hN hg5
    go_wp2_with fail
    rw [← HG5.out]
    clear HG5
    generalize w5.alloc (.cells #[.int .i64 tB, .int .i64 tE, .int .i64 tR, .int .i64 tF, .int .i64 tN, .int .i64 tI, .int .i64 tW] 45) = w6 at H5 ⊢
    refine (C5.out _).mono ?_; rintro ee w7 ⟨rfl, hb1⟩
    have hA := below_alloc w7 (.cells #[.int .i64 tB, .int .i64 tE, .int .i64 tR, .int .i64 tF, .int .i64 tN, .int .i64 tI, .int .i64 tW] 50)
    have hN : R0 (w7.alloc (.cells #[.int .i64 tB, .int .i64 tE, .int .i64 tR, .int .i64 tF, .int .i64 tN, .int .i64 tI, .int .i64 tW] 50)) w7.heap.size 50 #[.int .i64 tB, .int .i64 tE, .int .i64 tR, .int .i64 tF, .int .i64 tN, .int .i64 tI, .int .i64 tW] := heap_alloc_new w7 _
    obtain ⟨g7, hg7⟩ : ∃ g, g = w7.heap.size := ⟨_, rfl⟩
    rw [← hg7] at hN
    have H7 := hid (And.intro (bt (bt H5.out.1 hb1) hA) (And.intro ((H5.out.2.belowS hb1).belowS hA) hN)); have HG7 := hid hg7; clear hb1 H5 C5 hA hN hg7
    go_wp2_with fail
    rw [← HG7.out]
    clear HG7
    generalize w7.alloc (.cells #[.int .i64 tB, .int .i64 tE, .int .i64 tR, .int .i64 tF, .int .i64 tN, .int .i64 tI, .int .i64 tW] 50) = w8 at H7 ⊢
    have I1 : Hid (∀ wx, Calls Try.prog 28 #[.agg #[.int .i64 tB, .int .i64 tE, .int .i64 tR, .int .i64 tF, .int .i64 tN, .int .i64 tI, .int .i64 tW]] wx fun e w' => e = .returned (.agg #[.int .i64 tB, .int .i64 tE, .int .i64 tR, .int .i64 tF, .int .i64 tN, .int .i64 tI, .int .i64 tW]) ∧ Below wx.heap.size wx w') := fun wx => C6.out wx
    have M5 := fun dd os => cells7 (H7.out.2.1.blk.belowS (below_regrown w8 dd os))
    have M7 := fun dd os => cells7 (H7.out.2.2.blk.belowS (below_regrown w8 dd os))
    have m0 := fun dd os => (M5 dd os).1; have m1 := fun dd os => (M5 dd os).2.1; have m2 := fun dd os => (M5 dd os).2.2.1; have m3 := fun dd os => (M5 dd os).2.2.2.1
    have m4 := fun dd os => (M5 dd os).2.2.2.2.1; have m5 := fun dd os => (M5 dd os).2.2.2.2.2.1; have m6 := fun dd os => (M5 dd os).2.2.2.2.2.2
    have n0 := fun dd os => (M7 dd os).1; have n1 := fun dd os => (M7 dd os).2.1; have n2 := fun dd os => (M7 dd os).2.2.1; have n3 := fun dd os => (M7 dd os).2.2.2.1
    have n4 := fun dd os => (M7 dd os).2.2.2.2.1; have n5 := fun dd os => (M7 dd os).2.2.2.2.2.1; have n6 := fun dd os => (M7 dd os).2.2.2.2.2.2
    clear M5 M7 C6
    go_wp2_with fail
    refine wp_region_quiet_below (by kernel_rfl) (by kernel_rfl) ?_
    repeat (go_big_quiet_step (with_reducible exact Calls.regrown_of (I1.out _)))
    refine wpQuiet_nil ?_
    intro _ hw'
    obtain ⟨⟨dq, osq⟩, hw''⟩ := hw'
    subst hw''
    have H8 := hid (bt H7.out.1 (below_regrown w8 dq osq))
    clear m0 m1 m2 m3 m4 m5 m6 n0 n1 n2 n3 n4 n5 n6 H7 I1
    go_wp2_with fail
    go_ret
    exact ⟨rfl, H8.out⟩
theorem superBlocks_row (x0 x1 x2 x3 x4 x5 x6 : Int) (b : ByteArray) (w : World) (_ : (Lit.int .i64 x0).wf = true) (_ : (Lit.int .i64 x1).wf = true) (_ : (Lit.int .i64 x2).wf = true) (_ : (Lit.int .i64 x3).wf = true) (_ : (Lit.int .i64 x4).wf = true) (_ : (Lit.int .i64 x5).wf = true) (_ : (Lit.int .i64 x6).wf = true) (_ : b.size ≤ 140737488351232) :
    Calls Try.prog 7 #[.agg #[.int .i64 x0, .int .i64 x1, .int .i64 x2, .int .i64 x3, .int .i64 x4, .int .i64 x5, .int .i64 x6], .string b] w fun e w' => e = .returned (.bool true) ∧ Below w.heap.size w w' := superBlocks_walk ⟨x0, x1, x2, x3, x4, x5, x6⟩ b w
end Go.Proofs.Ytjeoelhenlckaaa
