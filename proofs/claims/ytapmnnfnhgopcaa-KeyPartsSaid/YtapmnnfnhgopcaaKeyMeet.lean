/-
  Range.Meet, walked.
-/
import Derived.Test.YtapmnnfnhgopcaaKeyRange
namespace Go.Proofs.Ytapmnnfnhgopcaa
open Go.RowKit

def maxK (a b : ByteArray) : ByteArray := if Op.bytesLess a.toList b.toList then b else a
theorem run_max_strings (ts : Array TypeId) (t : TypeId) (a b : ByteArray) (P : Program) (w : World) : (Builtin.max_ ts t #[.string a, .string b]).run P w = .ok (.string (maxK a b)) w := by
  cases h : Op.bytesLess a.toList b.toList <;> simp [Builtin.max_, Builtin.max2, maxK, Op.stringOp, asBool, h]
def meetLo (lo _hi lo' _hi' : ByteArray) : ByteArray := maxK lo lo'
def meetHi (lo hi lo' hi' : ByteArray) : ByteArray := if turnedB (maxK lo lo') (endK hi hi') then maxK lo lo' else endK hi hi'

set_option maxHeartbeats 4000000 in
set_option maxRecDepth 100000 in
theorem key_Meet_any (lo hi lo' hi' : ByteArray) (w : World) :
    Calls Try.prog 40 #[.agg #[.string lo, .string hi], .agg #[.string lo', .string hi']] w fun e w' => e = .returned (.agg #[.string (meetLo lo hi lo' hi'), .string (meetHi lo hi lo' hi')]) ∧ Below w.heap.size w w' := by
  have hu := Try.underlying58
  have hmax := run_max_strings
  go_enter Try.func40, Try.ntmps40
  go_wp2_with (with_reducible refine at_op (.box 58 (.tmp 0)) rfl ?_; refine Stopped.go ?_)
  refine Stopped.mk (wpList_box rfl #[.string lo, .string hi] 58 (by go_simp) ?_)
  intro g w1 hg hB hb hz
  clear hg hz
  go_wp2_with (with_reducible refine at_op (.box 58 (.tmp 1)) rfl ?_; refine Stopped.go ?_)
  refine Stopped.mk (wpList_box rfl #[.string lo', .string hi'] 58 (by go_simp) ?_)
  intro g' w2 hg' hB' hb' hz'
  replace hB := hB.belowS hb'
  replace hb := bt hb hb'
  clear hg' hb' hz'
  have hA : Below w2.heap.size w2 (w2.alloc (.cells #[.string ⟨#[]⟩, .string ⟨#[]⟩] 58)) := below_alloc _ _
  have hN : (w2.alloc (.cells #[.string ⟨#[]⟩, .string ⟨#[]⟩] 58)).heap[w2.heap.size]? = some (.cells #[.string ⟨#[]⟩, .string ⟨#[]⟩] 58 (0, 0)) := heap_alloc_new w2 _
  obtain ⟨g4, hg4⟩ : ∃ g4, g4 = w2.heap.size := ⟨_, rfl⟩
  go_wp2_with fail
  rw [← hg4] at hN ⊢
  have hne : w.heap.size ≤ g4 := by rw [hg4]; exact hb.size
  clear hg4
  replace hB := hB.belowS hA
  replace hB' := hB'.belowS hA
  replace hb := bt hb hA
  clear hA
  generalize w2.alloc (.cells #[.string ⟨#[]⟩, .string ⟨#[]⟩] 58) = w3 at *
  clear w2
  have c0 : w3.cell? ⟨g, 0, none⟩ = some (.string lo) := hB.at rfl
  have c1 : w3.cell? ⟨g, 1, none⟩ = some (.string hi) := hB.at rfl
  have c2 : w3.cell? ⟨g', 0, none⟩ = some (.string lo') := hB'.at rfl
  have c3 : w3.cell? ⟨g', 1, none⟩ = some (.string hi') := hB'.at rfl
  have hgl : g < w3.heap.size := hB.lt
  have hgl' : g' < w3.heap.size := hB'.lt
  clear hB hB'
  have kS : ∀ wx, Kept w3 wx → (wx.cell? ⟨g, 0, none⟩ = some (.string lo) ∧ wx.cell? ⟨g, 1, none⟩ = some (.string hi) ∧ wx.cell? ⟨g', 0, none⟩ = some (.string lo') ∧ wx.cell? ⟨g', 1, none⟩ = some (.string hi') ∧ Kept w3 wx) :=
    fun wx k => ⟨by rw [Below.cell k hgl]; exact c0, by rw [Below.cell k hgl]; exact c1, by rw [Below.cell k hgl']; exact c2, by rw [Below.cell k hgl']; exact c3, k⟩
  have k0 : Kept w3 w3 := Below.refl _ _
  go_region_held3 (fun wx => wx.cell? ⟨g, 0, none⟩ = some (.string lo) ∧ wx.cell? ⟨g, 1, none⟩ = some (.string hi) ∧ wx.cell? ⟨g', 0, none⟩ = some (.string lo') ∧ wx.cell? ⟨g', 1, none⟩ = some (.string hi') ∧ Kept w3 wx)
    ((refine kS _ ?_; go_split_ands; first | assumption | exact Kept.drew k0 | exact Kept.drew (Kept.alloc k0 _) | exact Kept.alloc (Kept.drew k0) _))
    (first
      | (go_at_call 84; with_reducible refine (key_end_any _ _ _).mono ?_; rintro e w4 ⟨rfl, rfl⟩))
  all_goals
    obtain ⟨x, hx⟩ : ∃ x, x = maxK lo lo' := ⟨_, rfl⟩
    obtain ⟨y, hy⟩ : ∃ y, y = endK hi hi' := ⟨_, rfl⟩
    rw [← hx, ← hy]
    have HX := hid hx; have HY := hid hy; clear hx hy
    have hA := below_alloc w3 (.cells #[.string x, .string y] 58)
    have hN5 := Blk.new w3 #[.string x, .string y] 58
    obtain ⟨g5, hg5⟩ : ∃ g5, g5 = w3.heap.size := ⟨_, rfl⟩
    rw [← hg5] at hN5 ⊢
    have hg4 : g4 < w3.heap.size := (Array.getElem?_eq_some_iff.1 hN).1
    have hne5 : g4 ≠ g5 := by omega
    have hne6 : w.heap.size ≤ g5 := by rw [hg5]; exact hb.size
    rw [← hA.block g4 hg4] at hN
    replace hb := bt hb hA
    clear hA hg5 hg4
    replace hN : (w3.alloc (.cells #[.string x, .string y] 58)).drew.heap[g4]? = _ := hN
    replace hN5 : Blk (w3.alloc (.cells #[.string x, .string y] 58)).drew _ _ _ := hN5
    replace hb := hb.drew
    generalize (w3.alloc (.cells #[.string x, .string y] 58)).drew = w5 at hN hN5 hb ⊢
    clear c0 c1 c2 c3 kS k0 hgl hgl'
    have d0 : w5.cell? ⟨g5, 0, none⟩ = some (.string x) := hN5.at rfl
    have d1 : w5.cell? ⟨g5, 1, none⟩ = some (.string y) := hN5.at rfl
    have HN := hid hN; have HN5 := hid hN5; clear hN hN5
    go_wp2_with fail
    refine (key_isTurned_any x y _).mono ?_; rintro e w6 ⟨rfl, hb6⟩
    obtain ⟨t, ht⟩ : ∃ t, t = turnedB x y := ⟨_, rfl⟩
    rw [← ht]
    have HT := hid ht; clear ht
    have hN6 := HN.out
    rw [← hb6.block g4 (Array.getElem?_eq_some_iff.1 hN6).1] at hN6
    have hN56 := HN5.out.belowS hb6
    replace hb := bt hb hb6
    clear hb6 d0 d1 HN HN5
    have HN := hid hN6; have HN5 := hid hN56
    clear hN6
    cases t with
    | false =>
      have d0 : w6.cell? ⟨g5, 0, none⟩ = some (.string x) := hN56.at rfl
      have d1 : w6.cell? ⟨g5, 1, none⟩ = some (.string y) := hN56.at rfl
      clear hN56
      go_wp2_with (with_reducible refine at_op (.store 58 (.tmp 4) (.tmp 22)) rfl ?_; refine Stopped.go ?_)
      refine Stopped.mk (wpList_store_row_k rfl _ _ _ rfl g4 #[.string x, .string y] rfl rfl _ _ HN.out (by kernel_rfl) rfl (by simp [Value.oneCell']) ?_)
      intro w7 h7 hb7 _
      have HBB := hid (hb.trans (hb7 _ hne))
      have H7 := hid h7
      clear h7 hb7 hb d0 d1
      go_wp2_with fail
      (try simp only [Exit.inBlock, Exit.then])
      exact bodyPost_ret (results_cell_row rfl _ _ g4 _ _ (0, 0) _ rfl H7.out hu rfl (by kernel_rfl)) rfl
        ⟨by rw [show meetLo lo hi lo' hi' = x from HX.out.symm, show meetHi lo hi lo' hi' = y from by unfold meetHi; rw [← HX.out, ← HY.out, ← HT.out]; rfl], HBB.out⟩
    | true =>
      have d0 : w6.cell? ⟨g5, 0, none⟩ = some (.string x) := hN56.at rfl
      have d1 : w6.cell? ⟨g5, 1, none⟩ = some (.string y) := hN56.at rfl
      have d2 : w6.frozen? ⟨g5, 1, none⟩ = false := hN56.free (by simp)
      have HN57 := hid (hN56.set 1 (.string x))
      have HK := hid ((Keeps.refl [g5] w6).setCell (p := ⟨g5, 1, none⟩) (by simp) (.string x))
      have hg4 : g4 < w6.heap.size := (Array.getElem?_eq_some_iff.1 HN.out).1
      clear hN56
      go_wp2_with (with_reducible refine at_op (.load 58 (.tmp 5)) rfl ?_; refine Stopped.go ?_)
      have hb7 := Keeps.below1 hb HK.out hne6
      have hN7 := HN.out
      rw [← HK.out.block g4 hg4 (by simp; exact hne5)] at hN7
      have hN57 := HN57.out
      clear d0 d1 d2 HN HN5 HN57 HK hg4
      generalize w6.setCell ⟨g5, 1, none⟩ (.string x) = w7 at hb7 hN7 hN57 ⊢
      have d0 : w7.cell? ⟨g5, 0, none⟩ = some (.string x) := hN57.at rfl
      have d1 : w7.cell? ⟨g5, 1, none⟩ = some (.string x) := hN57.at rfl
      have HN := hid hN7
      clear hN57 hN7
      refine Stopped.mk ?_
      go_wp2_with (with_reducible refine at_op (.store 58 (.tmp 4) (.tmp 22)) rfl ?_; refine Stopped.go ?_)
      refine Stopped.mk (wpList_store_row_k rfl _ _ _ rfl g4 #[.string x, .string x] rfl rfl _ _ HN.out (by kernel_rfl) rfl (by simp [Value.oneCell']) ?_)
      intro w8 h8 hb8 _
      have HBB := hid (hb7.trans (hb8 _ hne))
      have H8 := hid h8
      clear h8 hb8 hb7 d0 d1
      go_wp2_with fail
      (try simp only [Exit.inBlock, Exit.then])
      exact bodyPost_ret (results_cell_row rfl _ _ g4 _ _ (0, 0) _ rfl H8.out hu rfl (by kernel_rfl)) rfl
        ⟨by rw [show meetLo lo hi lo' hi' = x from HX.out.symm, show meetHi lo hi lo' hi' = x from by unfold meetHi; rw [← HX.out, ← HY.out, ← HT.out]; rfl], HBB.out⟩
end Go.Proofs.Ytapmnnfnhgopcaa
