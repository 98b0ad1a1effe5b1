/-
  The document's examples of superblocks, walked.
-/
import Derived.Test.YtcklgaenedlbiaaSuperLaw
namespace Go.Proofs.Ytcklgaenedlbiaa
open Go.RowKit Go.Sort

def someV (e : Int) : Sup := ⟨64, e, 10, 3, 5, 7, 100⟩
set_option maxHeartbeats 1000000 in
theorem law21_some (e : Int) (w : World) :
    Calls Try.prog 61 #[.int .i64 e] w fun x w' => x = .returned (.agg (someV e).vals) ∧ Below w.heap.size w w' := by
  have HA := hid (below_alloc w (.cells #[.int .i64 64, .int .i64 e, .int .i64 10, .int .i64 3, .int .i64 5, .int .i64 7, .int .i64 100] 60))
  have HN := hid (show (w.alloc (.cells #[.int .i64 64, .int .i64 e, .int .i64 10, .int .i64 3, .int .i64 5, .int .i64 7, .int .i64 100] 60)).heap[w.heap.size]? = some (.cells #[.int .i64 64, .int .i64 e, .int .i64 10, .int .i64 3, .int .i64 5, .int .i64 7, .int .i64 100] 60 (0, 0)) from heap_alloc_new w _)
  have hu := Try.underlying60
  go_enter Try.func61, Try.ntmps61
  go_wp2_with fail
  (try simp only [Exit.inBlock, Exit.then])
  exact bodyPost_ret (results_cell_row rfl _ _ w.heap.size _ _ (0, 0) _ rfl HN.out hu rfl (by kernel_rfl)) rfl ⟨rfl, HA.out⟩

theorem saveV_room (d : Dv) (n : Nat) (s : Sup) : (saveV d n s).2.room ≤ d.room + 6 := by
  unfold saveV
  split
  · exact twoV_room d _ _
  · exact Nat.le_add_right _ _
theorem eraseV_room (d : Dv) (n : Nat) : (eraseV d n).2.room ≤ d.room + 8 := by
  unfold eraseV
  refine Nat.le_trans (twoV_room _ _ _) ?_
  unfold Dv.room
  simp only
  omega
theorem Still.new (n : Nat) (h1 : 1 ≤ n) (h2 : n ≤ 512) : Still n (Dv.new n) := ⟨DvOk.new n h1 h2, rfl, rfl⟩
theorem Still.rd {n : Nat} {d : Dv} (h : Still n d) (k : Nat) : Still n { d with rd := k } := ⟨⟨h.ok.n1, h.ok.n2, h.ok.size, h.ok.loose, h.ok.fuse⟩, h.loose, h.on⟩
theorem new_bad {n : Nat} (i : Nat) (hi : i < n) : Bad (blkL (Dv.new n).safe i) := by
  have e : blkL (Dv.new n).safe i = List.replicate 256 0 := by
    unfold blkL Dv.new
    rw [List.drop_replicate, List.take_replicate]
    congr 1
    omega
  rw [e]
  exact bad_zeros
theorem some_good (e : Int) (h1 : 1 ≤ e) (h2 : e ≤ 2147483647) : goodB (someV e) = true := by
  unfold goodB goodC
  exact decide_eq_true ⟨by show (64 : Int) ≤ 64; decide, by show (64 : Int) ≤ 512; decide, h1, h2, by show kindOf (planOf 64) 10 = 3; decide +kernel, by show (0 : Int) ≤ 3; decide, by show (3 : Int) < (planOf 64).log; decide +kernel, by show (1 : Int) ≤ 5; decide, by show (5 : Int) ≤ (planOf 64).half; decide +kernel, by show (0 : Int) ≤ 100; decide, by show (100 : Int) ≤ (planOf 64).cap; decide +kernel, by show (0 : Int) ≤ 7; decide, by show (7 : Int) ≤ 100; decide⟩
/-- what the examples come to -/
structure Awk (D1 D2 D3 : Dv) : Prop where
  b1 : bestV (Dv.new 64) 64 = (zeroSup, 7)
  e1 : D1 = { Dv.new 64 with rd := (Dv.new 64).rd + 2 }
  s2 : saveV D1 64 (someV 1) = (0, D2)
  s3 : saveV D2 64 (someV 2) = (0, D3)
  b3 : bestV D3 64 = (someV 2, 0)
  r1 : D1.room ≤ 100
  r2 : D2.room ≤ 100
  r3 : D3.room ≤ 100
  on : D3.off = false
  fl : D3.fl = 4
  er : (eraseV { D3 with rd := D3.rd + 2 } 64).1 = 0
theorem awk21 : ∃ D1 D2 D3, Awk D1 D2 D3 := by
  have h0 := Still.new 64 (by decide) (by decide)
  obtain ⟨D1, hD1⟩ : ∃ d, d = { Dv.new 64 with rd := (Dv.new 64).rd + 2 } := ⟨_, rfl⟩
  have h1 : Still 64 D1 := by rw [hD1]; exact h0.rd _
  have hs1 : D1.safe = (Dv.new 64).safe := by rw [hD1]
  have hf1 : D1.fuse < 0 := by rw [hD1]; decide
  have hfl1 : D1.fl = 0 := by rw [hD1]; rfl
  have hr1 : D1.room = 2 := by rw [hD1]; rfl
  have z0 : best2 64 (blkL D1.safe) = zeroSup := by rw [hs1]; exact best_none (new_bad 0 (by decide)) (new_bad 1 (by decide))
  have g1 := some_good 1 (by decide) (by decide)
  have g2 := some_good 2 (by decide) (by decide)
  have k1 := saveV_room D1 64 (someV 1)
  rcases saveV_still h1 (by decide) g1 rfl with ⟨c1, st2, f2, fl2, o2, w2⟩ | ⟨_, _, h, _⟩
  rotate_left
  · exfalso; omega
  obtain ⟨D2, hD2⟩ : ∃ d, d = (saveV D1 64 (someV 1)).2 := ⟨_, rfl⟩
  rw [← hD2] at k1 st2 f2 fl2 o2 w2
  have z1 : best2 64 (blkL D2.safe) = someV 1 := (best_saved (B := blkL D1.safe) g1 rfl (by rw [z0]; rfl) (fun i hi hne => o2 i (by omega) hne)).2 w2
  have k2 := saveV_room D2 64 (someV 2)
  rcases saveV_still st2 (by decide) g2 rfl with ⟨c3, st3, f3, fl3, o3, w3⟩ | ⟨_, _, h, _⟩
  rotate_left
  · exfalso; have := f2 hf1; omega
  obtain ⟨D3, hD3⟩ : ∃ d, d = (saveV D2 64 (someV 2)).2 := ⟨_, rfl⟩
  rw [← hD3] at k2 st3 f3 fl3 o3 w3
  have z2 : best2 64 (blkL D3.safe) = someV 2 := (best_saved (B := blkL D2.safe) g2 rfl (by rw [z1]; rfl) (fun i hi hne => o3 i (by omega) hne)).2 w3
  refine ⟨D1, D2, D3, ?_, hD1, ?_, ?_, ?_, by omega, by omega, by omega, st3.on, by omega, ?_⟩
  · rw [h0.best, ← hs1, z0]; rfl
  · rw [hD2, ← c1]
  · rw [hD3, ← c3]
  · rw [st3.best, z2]; rfl
  · rcases eraseV_still (st3.rd (D3.rd + 2)) (by decide) with h | ⟨_, _, h, _⟩
    · exact h.1
    · exfalso; have := f3 (f2 hf1); simp only at h; omega

theorem field_flushes (x y z : Value) (w : World) : (Instr.field 56 (.agg #[x, y, z]) 2).run Try.prog w = .ok z w := by
  simp [Instr.field, run_underlying Try.underlying56, go_sem, sizeOf, typeInfo, asAgg, Result.andThen]
/-- worlds of the last region -/
def AwkT (w W : World) (p g6 g10 : Nat) (d : Dv) (F : List Nat) : Prop := Dev w W p 64 d F ∧ R0 W g6 60 #[.int .i64 64, .int .i64 2, .int .i64 10, .int .i64 3, .int .i64 5, .int .i64 7, .int .i64 100] ∧ R0 W g10 60 #[.int .i64 64, .int .i64 2, .int .i64 10, .int .i64 3, .int .i64 5, .int .i64 7, .int .i64 100]
def AwkS (w W : World) (g6 g10 : Nat) : Prop := (W.cell? ⟨g6, 0, none⟩ = some (.int .i64 64) ∧ W.cell? ⟨g6, 1, none⟩ = some (.int .i64 2) ∧ W.cell? ⟨g6, 2, none⟩ = some (.int .i64 10) ∧ W.cell? ⟨g6, 3, none⟩ = some (.int .i64 3) ∧ W.cell? ⟨g6, 4, none⟩ = some (.int .i64 5) ∧ W.cell? ⟨g6, 5, none⟩ = some (.int .i64 7) ∧ W.cell? ⟨g6, 6, none⟩ = some (.int .i64 100)) ∧ (W.cell? ⟨g10, 0, none⟩ = some (.int .i64 64) ∧ W.cell? ⟨g10, 1, none⟩ = some (.int .i64 2) ∧ W.cell? ⟨g10, 2, none⟩ = some (.int .i64 10) ∧ W.cell? ⟨g10, 3, none⟩ = some (.int .i64 3) ∧ W.cell? ⟨g10, 4, none⟩ = some (.int .i64 5) ∧ W.cell? ⟨g10, 5, none⟩ = some (.int .i64 7) ∧ W.cell? ⟨g10, 6, none⟩ = some (.int .i64 100)) ∧ Below w.heap.size w W
theorem AwkT.below {w W W' : World} {p g6 g10 : Nat} {d : Dv} {F : List Nat} (h : AwkT w W p g6 g10 d F) (hb : Below W.heap.size W W') : AwkT w W' p g6 g10 d F := ⟨h.1.below hb, h.2.1.belowS hb, h.2.2.belowS hb⟩
theorem AwkT.drew {w W : World} {p g6 g10 : Nat} {d : Dv} {F : List Nat} (h : AwkT w W p g6 g10 d F) : AwkT w W.drew p g6 g10 d F := h.below (Below.refl _ _).drew
theorem r0_cells {W : World} {g : Nat} (h : R0 W g 60 #[.int .i64 64, .int .i64 2, .int .i64 10, .int .i64 3, .int .i64 5, .int .i64 7, .int .i64 100]) : W.cell? ⟨g, 0, none⟩ = some (.int .i64 64) ∧ W.cell? ⟨g, 1, none⟩ = some (.int .i64 2) ∧ W.cell? ⟨g, 2, none⟩ = some (.int .i64 10) ∧ W.cell? ⟨g, 3, none⟩ = some (.int .i64 3) ∧ W.cell? ⟨g, 4, none⟩ = some (.int .i64 5) ∧ W.cell? ⟨g, 5, none⟩ = some (.int .i64 7) ∧ W.cell? ⟨g, 6, none⟩ = some (.int .i64 100) := cells7 h.blk
theorem AwkT.s {w W : World} {p g6 g10 : Nat} {d : Dv} {F : List Nat} (h : AwkT w W p g6 g10 d F) : AwkS w W g6 g10 := ⟨r0_cells h.2.1, r0_cells h.2.2, h.1.bel⟩

set_option maxHeartbeats 16000000 in
set_option maxRecDepth 100000 in
theorem awake21_any (w : World) :
    Calls Try.prog 32 #[] w fun e w' => e = .returned (.bool true) ∧ Below w.heap.size w w' := by
  obtain ⟨D1, D2, D3, hK⟩ := awk21
  obtain ⟨l1, l2, l3⟩ := superRead_laid (some_good 2 (by decide) (by decide))
  obtain ⟨blk, hblk⟩ : ∃ b, b = (superLayV (someV 2)).1 := ⟨_, rfl⟩
  have hl : superLayV (someV 2) = (blk, 0) := by rw [hblk, l1]
  rw [← hblk] at l2 l3
  have hz : superLayV ⟨0, 0, 0, 0, 0, 0, 0⟩ = (⟨#[]⟩, 1) := by unfold superLayV; rw [if_neg (by decide)]
  have C5 := hid (fun w' => super_Lay (someV 2) w')
  have C6 := hid (fun w' => super_Read blk w')
  have C7 := hid (fun w' => super_Lay ⟨0, 0, 0, 0, 0, 0, 0⟩ w')
  have SO1 := hid (fun w' => law21_some 1 w')
  have SO2 := hid (fun w' => law21_some 2 w')
  rw [hl] at C5
  rw [l3] at C6
  rw [hz] at C7
  simp only [someV, Sup.vals] at C5 C6 C7 SO1 SO2
  have HK := hid hK; have HBS := hid l2
  clear l1 l2 l3 hl hz hblk hK
  go_enter Try.func32, Try.ntmps32
  go_wp2_with fail
  refine (dv_New (w0 := w) (w := w) (Below.refl _ _) 64 (by decide) (by decide)).mono ?_; rintro e w1 ⟨p, F, rfl, hD1, _, _⟩
  have C1 := hid (dv_Best hD1 (by decide) rfl (by decide))
  rw [HK.out.b1] at C1
  simp only [zeroSup, Sup.vals] at C1
  rw [← HK.out.e1] at C1
  clear hD1
  go_wp2_with fail
  refine C1.out.mono ?_; rintro e w2 ⟨rfl, hD2, _⟩
  have H2 := hid (hD2.below (below_alloc w2 (.cells #[.int .i64 0, .int .i64 0, .int .i64 0, .int .i64 0, .int .i64 0, .int .i64 0, .int .i64 0] 60)))
  clear hD2 C1
  go_wp2_with fail
  generalize w2.alloc (.cells #[.int .i64 0, .int .i64 0, .int .i64 0, .int .i64 0, .int .i64 0, .int .i64 0, .int .i64 0] 60) = w3 at H2 ⊢
  refine (SO1.out w3).mono ?_; rintro e w4 ⟨rfl, hb4⟩
  have C2 := hid (dv_Save (H2.out.below hb4) (by decide) (by have := HK.out.r1; omega) (someV 1))
  rw [HK.out.s2] at C2
  simp only [someV, Sup.vals] at C2
  clear hb4 H2
  go_wp2_with fail
  refine C2.out.mono ?_; rintro e w5 ⟨rfl, hP⟩
  obtain ⟨F5, hD5⟩ := hP.dev
  have H5 := hid hD5
  clear hP hD5 C2
  go_wp2_with fail
  refine (SO2.out w5).mono ?_; rintro e w6 ⟨rfl, hb6⟩
  have C3 := hid (dv_Save (H5.out.below hb6) (by decide) (by have := HK.out.r2; omega) (someV 2))
  rw [HK.out.s3] at C3
  simp only [someV, Sup.vals] at C3
  clear hb6 H5
  go_wp2_with fail
  refine C3.out.mono ?_; rintro e w7 ⟨rfl, hP⟩
  obtain ⟨F7, hD7⟩ := hP.dev
  have C4 := hid (dv_Best hD7 (by decide) HK.out.on (by have := HK.out.r3; omega))
  rw [HK.out.b3] at C4
  simp only [someV, Sup.vals] at C4
  clear hP hD7 C3
  go_wp2_with fail
  refine C4.out.mono ?_; rintro e w8 ⟨rfl, hD8, _⟩
  obtain ⟨D4, hD4⟩ : ∃ d, d = { D3 with rd := D3.rd + 2 } := ⟨_, rfl⟩
  have hrm : D4.room ≤ 200 := by rw [hD4]; have := HK.out.r3; unfold Dv.room at this ⊢; simp only; omega
  have hfl : D4.fl = 4 := by rw [hD4]; exact HK.out.fl
  have hon : D4.off = false := by rw [hD4]; exact HK.out.on
  have her : (eraseV D4 64).1 = 0 := by rw [hD4]; exact HK.out.er
  rw [← hD4] at hD8
  have HD4 := hid (And.intro hrm (And.intro hfl (And.intro hon her)))
  clear hrm hfl hon her hD4
  have hA := below_alloc w8 (.cells #[.int .i64 64, .int .i64 2, .int .i64 10, .int .i64 3, .int .i64 5, .int .i64 7, .int .i64 100] 60)
  have hN : R0 (w8.alloc (.cells #[.int .i64 64, .int .i64 2, .int .i64 10, .int .i64 3, .int .i64 5, .int .i64 7, .int .i64 100] 60)) w8.heap.size 60 #[.int .i64 64, .int .i64 2, .int .i64 10, .int .i64 3, .int .i64 5, .int .i64 7, .int .i64 100] := heap_alloc_new w8 _
  obtain ⟨g6, hg6⟩ : ∃ g, g = w8.heap.size := ⟨_, rfl⟩
  rw [← hg6] at hN
  have hnF : g6 ∉ F7 := fun hh => by have := hD8.at_.sizes _ hh; omega
  have H8 := hid (show Dev w (w8.alloc (.cells #[.int .i64 64, .int .i64 2, .int .i64 10, .int .i64 3, .int .i64 5, .int .i64 7, .int .i64 100] 60)) p 64 D4 F7 ∧ R0 (w8.alloc (.cells #[.int .i64 64, .int .i64 2, .int .i64 10, .int .i64 3, .int .i64 5, .int .i64 7, .int .i64 100] 60)) g6 60 #[.int .i64 64, .int .i64 2, .int .i64 10, .int .i64 3, .int .i64 5, .int .i64 7, .int .i64 100] from ⟨hD8.below hA, hN⟩)
  have HG6 := hid hg6; have HNF := hid hnF
  clear hA hN hg6 hnF hD8 C4
  go_wp2_with fail
  rw [← HG6.out]
  clear HG6
  generalize w8.alloc (.cells #[.int .i64 64, .int .i64 2, .int .i64 10, .int .i64 3, .int .i64 5, .int .i64 7, .int .i64 100] 60) = w9 at H8 ⊢
  refine (SO2.out w9).mono ?_; rintro e w10 ⟨rfl, hb10⟩
  have H10 := hid (And.intro (H8.out.1.below hb10) (H8.out.2.belowS hb10)); clear hb10 H8
  go_wp2_with fail
  refine (C5.out w10).mono ?_; rintro e w11 ⟨rfl, hb11⟩
  have H11 := hid (And.intro (H10.out.1.below hb11) (H10.out.2.belowS hb11)); clear hb11 H10 C5
  go_wp2_with fail
  refine (C6.out w11).mono ?_; rintro e w12 ⟨rfl, hb12⟩
  have hA := below_alloc w12 (.cells #[.int .i64 64, .int .i64 2, .int .i64 10, .int .i64 3, .int .i64 5, .int .i64 7, .int .i64 100] 60)
  have hN : R0 (w12.alloc (.cells #[.int .i64 64, .int .i64 2, .int .i64 10, .int .i64 3, .int .i64 5, .int .i64 7, .int .i64 100] 60)) w12.heap.size 60 #[.int .i64 64, .int .i64 2, .int .i64 10, .int .i64 3, .int .i64 5, .int .i64 7, .int .i64 100] := heap_alloc_new w12 _
  obtain ⟨g10, hg10⟩ : ∃ g, g = w12.heap.size := ⟨_, rfl⟩
  rw [← hg10] at hN
  have hnF : g10 ∉ F7 := fun hh => by have := (H11.out.1.below hb12).at_.sizes _ hh; omega
  have H12 := hid (show AwkT w (w12.alloc (.cells #[.int .i64 64, .int .i64 2, .int .i64 10, .int .i64 3, .int .i64 5, .int .i64 7, .int .i64 100] 60)) p g6 g10 D4 F7 from ⟨(H11.out.1.below hb12).below hA, (H11.out.2.belowS hb12).belowS hA, hN⟩)
  have HG10 := hid hg10; have HNF2 := hid hnF
  clear hA hN hg10 hnF hb12 H11 C6
  go_wp2_with fail
  rw [← HG10.out]
  clear HG10
  generalize w12.alloc (.cells #[.int .i64 64, .int .i64 2, .int .i64 10, .int .i64 3, .int .i64 5, .int .i64 7, .int .i64 100] 60) = w13 at H12 ⊢
  refine (C7.out w13).mono ?_; rintro e w14 ⟨rfl, hb14⟩
  have hT := H12.out.below hb14; clear hb14 H12 C7
  have hS := hT.drew.s
  have KS : Hid (∀ W, AwkT w W p g6 g10 D4 F7 → Calls Try.prog 61 #[.int .i64 2] W fun e w' => e = .returned (.agg #[.int .i64 64, .int .i64 2, .int .i64 10, .int .i64 3, .int .i64 5, .int .i64 7, .int .i64 100]) ∧ AwkS w w' g6 g10 ∧ AwkT w w' p g6 g10 D4 F7) := fun W h => (SO2.out W).mono fun e w' ⟨he, hb⟩ => ⟨he, (h.below hb).s, h.below hb⟩
  have KC : Hid (∀ W, AwkT w W p g6 g10 D4 F7 → Calls Try.prog 31 #[.pointer (some ⟨p, 0, none⟩)] W fun e w' => e = .returned (.agg #[.int .i64 D4.rd, .int .i64 D4.wr, .int .i64 4]) ∧ AwkS w w' g6 g10 ∧ AwkT w w' p g6 g10 D4 F7) := fun W h => by
    have h1 := dev_Count W p D4 F7 h.1.at_
    rw [HD4.out.2.1] at h1
    exact h1.mono fun e w' ⟨he, hb⟩ => ⟨he, (h.below hb).s, h.below hb⟩
  have KE : Hid (∀ W, AwkT w W p g6 g10 D4 F7 → Calls Try.prog 36 #[.pointer (some ⟨p, 0, none⟩)] W fun e w' => e = .returned (.int .i64 0) ∧ AwkS w w' g6 g10) := fun W h => by
    have h1 := dv_Erase h.1 (by decide) HD4.out.2.2.1 (by have := HD4.out.1; omega)
    rw [HD4.out.2.2.2] at h1
    refine h1.mono ?_
    rintro e w' ⟨he, hP⟩
    obtain ⟨F', hD', hk, _⟩ := hP
    exact ⟨he, r0_cells (h.2.1.keeps hk HNF.out), r0_cells (h.2.2.keeps hk HNF2.out), hD'.bel⟩
  clear SO1 SO2 HD4 HNF HNF2 HBS HK
  go_wp2_with fail
  unfold AwkS at hS KS KC KE
  have hff := field_flushes
  go_region_held3 (fun wx => (wx.cell? ⟨g6, 0, none⟩ = some (.int .i64 64) ∧ wx.cell? ⟨g6, 1, none⟩ = some (.int .i64 2) ∧ wx.cell? ⟨g6, 2, none⟩ = some (.int .i64 10) ∧ wx.cell? ⟨g6, 3, none⟩ = some (.int .i64 3) ∧ wx.cell? ⟨g6, 4, none⟩ = some (.int .i64 5) ∧ wx.cell? ⟨g6, 5, none⟩ = some (.int .i64 7) ∧ wx.cell? ⟨g6, 6, none⟩ = some (.int .i64 100)) ∧ (wx.cell? ⟨g10, 0, none⟩ = some (.int .i64 64) ∧ wx.cell? ⟨g10, 1, none⟩ = some (.int .i64 2) ∧ wx.cell? ⟨g10, 2, none⟩ = some (.int .i64 10) ∧ wx.cell? ⟨g10, 3, none⟩ = some (.int .i64 3) ∧ wx.cell? ⟨g10, 4, none⟩ = some (.int .i64 5) ∧ wx.cell? ⟨g10, 5, none⟩ = some (.int .i64 7) ∧ wx.cell? ⟨g10, 6, none⟩ = some (.int .i64 100)) ∧ Below w.heap.size w wx)
    (first | assumption | exact hS)
    (first
      | (go_at_call 61; with_reducible refine (KS.out _ (by first | assumption | exact AwkT.drew (by assumption))).mono ?_; rintro e wx ⟨rfl, HSx, HTx⟩)
      | (go_at_call 31; with_reducible refine (KC.out _ (by first | assumption | exact AwkT.drew (by assumption))).mono ?_; rintro e wx ⟨rfl, HSx, HTx⟩)
      | (go_at_call 36; with_reducible refine (KE.out _ (by first | assumption | exact AwkT.drew (by assumption))).mono ?_; rintro e wx ⟨rfl, HSx⟩))
  all_goals
    go_wp2_with fail
    go_ret
    exact ⟨rfl, And.right (And.right (by assumption))⟩
end Go.Proofs.Ytcklgaenedlbiaa
