/-
  The document's Read of layer 8, walked.
  The document's writer of layer 1: Text.
-/
import Derived.Test.YtcklgaenedlbiaaGreatGWalExact07
import Derived.Test.YtcklgaenedlbiaaGreatGWalExact04

namespace Go.Proofs.YtcklgaenedlbiaaGreat
open Go.RowKit
set_option maxHeartbeats 4000000 in
set_option maxRecDepth 100000 in
theorem ref_Is_any (K : Int) (k v : ByteArray) (w : World) :
    Calls Tryz.prog 34 #[.agg #[.int .i64 K, .string k, .string v]] w fun e w' => e = .returned (.bool (msgIs K k v)) ∧ Below w.heap.size w w' := by
  obtain ⟨r, hr⟩ : ∃ r, r = msgIs K k v := ⟨_, rfl⟩
  rw [← hr]
  unfold msgIs keyIs at hr
  cases h0 : ((k.size : Int) == 0) with
  | true =>
    have e0 : k.size = 0 := by rw [beq_iff_eq] at h0; omega
    rw [decide_eq_false (show ¬ 1 ≤ k.size by omega), Bool.false_and, Bool.false_and] at hr
    subst hr
    clear e0
    go_enter Tryz.func34, Tryz.ntmps34
    go_wp2_with (with_reducible refine at_op (.box 39 (.tmp 0)) rfl ?_; refine Stopped.go ?_)
    refine Stopped.mk (wpList_box rfl #[.int .i64 K, .string k, .string v] 39 (by go_simp) ?_)
    intro g w1 hg_ Bg hb_ hz_
    have hb := hb_
    clear hg_ hz_ hb_
    have cg_0 : w1.cell? ⟨g, 0, none⟩ = some (.int .i64 K) := Bg.at rfl
    have cg_1 : w1.cell? ⟨g, 1, none⟩ = some (.string k) := Bg.at rfl
    have cg_2 : w1.cell? ⟨g, 2, none⟩ = some (.string v) := Bg.at rfl
    go_wp2_with fail
    go_ret
    exact ⟨rfl, hb⟩
  | false =>
    have e0 : 1 ≤ k.size := by
      rw [beq_eq_false_iff_ne] at h0; omega
    rw [decide_eq_true e0, Bool.true_and] at hr
    by_cases h8 : (8 : Int) < k.size
    · rw [decide_eq_false (show ¬ k.size ≤ 8 by omega), Bool.false_and] at hr
      subst hr
      clear e0
      go_enter Tryz.func34, Tryz.ntmps34
      go_wp2_with (with_reducible refine at_op (.box 39 (.tmp 0)) rfl ?_; refine Stopped.go ?_)
      refine Stopped.mk (wpList_box rfl #[.int .i64 K, .string k, .string v] 39 (by go_simp) ?_)
      intro g w1 hg_ Bg hb_ hz_
      have hb := hb_
      clear hg_ hz_ hb_
      have cg_0 : w1.cell? ⟨g, 0, none⟩ = some (.int .i64 K) := Bg.at rfl
      have cg_1 : w1.cell? ⟨g, 1, none⟩ = some (.string k) := Bg.at rfl
      have cg_2 : w1.cell? ⟨g, 2, none⟩ = some (.string v) := Bg.at rfl
      go_wp2_with fail
      go_ret
      exact ⟨rfl, hb⟩
    rw [decide_eq_true (show k.size ≤ 8 by omega), Bool.true_and] at hr
    clear e0
    by_cases h1 : K = 1
    · subst h1
      rw [if_pos rfl] at hr
      by_cases h16 : (v.size : Int) ≤ 16
      all_goals
        first | rw [decide_eq_true h16] at hr | rw [decide_eq_false h16] at hr
        subst hr
        go_enter Tryz.func34, Tryz.ntmps34
        go_wp2_with (with_reducible refine at_op (.box 39 (.tmp 0)) rfl ?_; refine Stopped.go ?_)
        refine Stopped.mk (wpList_box rfl #[.int .i64 1, .string k, .string v] 39 (by go_simp) ?_)
        intro g w1 hg_ Bg hb_ hz_
        have hb := hb_
        clear hg_ hz_ hb_
        have cg_0 : w1.cell? ⟨g, 0, none⟩ = some (.int .i64 1) := Bg.at rfl
        have cg_1 : w1.cell? ⟨g, 1, none⟩ = some (.string k) := Bg.at rfl
        have cg_2 : w1.cell? ⟨g, 2, none⟩ = some (.string v) := Bg.at rfl
        go_wp2_with fail
        go_ret
        first | exact ⟨rfl, hb⟩ | exact ⟨ret_bool (decide_eq_true (by omega)), hb⟩ | exact ⟨ret_bool (decide_eq_false (by omega)), hb⟩
    have e1 : (K == 1) = false := by simpa using h1
    rw [if_neg h1] at hr
    by_cases h2 : K = 2
    · subst h2
      rw [if_pos rfl] at hr
      have hv : (v.toList == []) = ((v.size : Int) == 0) := by
        rw [ba_size', Bool.eq_iff_iff, beq_iff_eq, beq_iff_eq, ← List.length_eq_zero_iff]; omega
      rw [hv] at hr
      cases h4 : ((v.size : Int) == 0)
      all_goals
        rw [h4] at hr
        subst hr
        clear hv e1
        go_enter Tryz.func34, Tryz.ntmps34
        go_wp2_with (with_reducible refine at_op (.box 39 (.tmp 0)) rfl ?_; refine Stopped.go ?_)
        refine Stopped.mk (wpList_box rfl #[.int .i64 2, .string k, .string v] 39 (by go_simp) ?_)
        intro g w1 hg_ Bg hb_ hz_
        have hb := hb_
        clear hg_ hz_ hb_
        have cg_0 : w1.cell? ⟨g, 0, none⟩ = some (.int .i64 2) := Bg.at rfl
        have cg_1 : w1.cell? ⟨g, 1, none⟩ = some (.string k) := Bg.at rfl
        have cg_2 : w1.cell? ⟨g, 2, none⟩ = some (.string v) := Bg.at rfl
        go_wp2_with fail
        go_ret
        exact ⟨rfl, hb⟩
    have e2 : (K == 2) = false := by simpa using h2
    rw [if_neg h2] at hr
    by_cases h3 : K = 3
    · subst h3
      rw [if_pos rfl] at hr
      cases h4 : ((v.size : Int) == 8)
      all_goals
        rw [h4] at hr
        subst hr
        clear e1 e2
        go_enter Tryz.func34, Tryz.ntmps34
        go_wp2_with (with_reducible refine at_op (.box 39 (.tmp 0)) rfl ?_; refine Stopped.go ?_)
        refine Stopped.mk (wpList_box rfl #[.int .i64 3, .string k, .string v] 39 (by go_simp) ?_)
        intro g w1 hg_ Bg hb_ hz_
        have hb := hb_
        clear hg_ hz_ hb_
        have cg_0 : w1.cell? ⟨g, 0, none⟩ = some (.int .i64 3) := Bg.at rfl
        have cg_1 : w1.cell? ⟨g, 1, none⟩ = some (.string k) := Bg.at rfl
        have cg_2 : w1.cell? ⟨g, 2, none⟩ = some (.string v) := Bg.at rfl
        go_wp2_with fail
        go_ret
        exact ⟨rfl, hb⟩
    have e3 : (K == 3) = false := by simpa using h3
    rw [if_neg h3] at hr
    subst hr
    go_enter Tryz.func34, Tryz.ntmps34
    go_wp2_with (with_reducible refine at_op (.box 39 (.tmp 0)) rfl ?_; refine Stopped.go ?_)
    refine Stopped.mk (wpList_box rfl #[.int .i64 K, .string k, .string v] 39 (by go_simp) ?_)
    intro g w1 hg_ Bg hb_ hz_
    have hb := hb_
    clear hg_ hz_ hb_
    have cg_0 : w1.cell? ⟨g, 0, none⟩ = some (.int .i64 K) := Bg.at rfl
    have cg_1 : w1.cell? ⟨g, 1, none⟩ = some (.string k) := Bg.at rfl
    have cg_2 : w1.cell? ⟨g, 2, none⟩ = some (.string v) := Bg.at rfl
    go_wp2_with fail
    go_ret
    exact ⟨rfl, hb⟩



set_option maxHeartbeats 8000000 in
set_option maxRecDepth 100000 in
theorem ref08_Read_any (p : Nat) (r : ByteArray) (b : Bool) (w : World) (h : RefAt w p r b) :
    Calls Tryz.prog 69 #[.pointer (some ⟨p, 0, none⟩)] w fun e w' => e = .returned (.agg #[.int .i64 (readT r b).1.1, .string (readT r b).1.2.1, .string (readT r b).1.2.2]) ∧ Keeps [p] w w' ∧ RefAt w' p (readT r b).2.1 (readT r b).2.2 := by
  obtain ⟨K, r1, b1, k, r2, b2, v, r3, b3, t1, t2, t3, t4⟩ := readT_parts r b
  rw [t4]
  obtain ⟨f, hf⟩ : ∃ f, f = msgIs K k v := ⟨_, rfl⟩
  rw [← hf]
  have T1 := hid t1; have T2 := hid t2; have T3 := hid t3; have HF := hid hf
  clear t1 t2 t3 t4 hf
  have hu := Tryz.underlying39
  have hA := below_alloc w (.cells #[.int .i64 0, .string ⟨#[]⟩, .string ⟨#[]⟩] 39)
  have FA := MsgAt.new w 0 ⟨#[]⟩ ⟨#[]⟩
  have hA2 := below_alloc (w.alloc (.cells #[.int .i64 0, .string ⟨#[]⟩, .string ⟨#[]⟩] 39)) (.cells #[.int .i64 0, .string ⟨#[]⟩, .string ⟨#[]⟩] 39)
  have FB := Blk.new (w.alloc (.cells #[.int .i64 0, .string ⟨#[]⟩, .string ⟨#[]⟩] 39)) #[.int .i64 0, .string ⟨#[]⟩, .string ⟨#[]⟩] 39
  obtain ⟨g2, hg⟩ : ∃ g, g = w.heap.size := ⟨_, rfl⟩
  obtain ⟨g3, hg3⟩ : ∃ g, g = (w.alloc (.cells #[.int .i64 0, .string ⟨#[]⟩, .string ⟨#[]⟩] 39)).heap.size := ⟨_, rfl⟩
  rw [← hg] at FA
  rw [← hg3] at FB
  have hl3 : g2 < g3 := by rw [hg3]; exact FA.lt
  have hgp : g2 ≠ p := by have := Blk.lt h; omega
  have hgp3 : g3 ≠ p := by have := Blk.lt h; omega
  have hg3' : g3 = w.heap.size + 1 := by rw [hg3]; simp
  have H1 := hid (show MsgAt ((w.alloc (.cells #[.int .i64 0, .string ⟨#[]⟩, .string ⟨#[]⟩] 39)).alloc (.cells #[.int .i64 0, .string ⟨#[]⟩, .string ⟨#[]⟩] 39)) g2 0 ⟨#[]⟩ ⟨#[]⟩ ∧ RefAt ((w.alloc (.cells #[.int .i64 0, .string ⟨#[]⟩, .string ⟨#[]⟩] 39)).alloc (.cells #[.int .i64 0, .string ⟨#[]⟩, .string ⟨#[]⟩] 39)) p r b ∧ Keeps [p] w ((w.alloc (.cells #[.int .i64 0, .string ⟨#[]⟩, .string ⟨#[]⟩] 39)).alloc (.cells #[.int .i64 0, .string ⟨#[]⟩, .string ⟨#[]⟩] 39)) ∧ Blk ((w.alloc (.cells #[.int .i64 0, .string ⟨#[]⟩, .string ⟨#[]⟩] 39)).alloc (.cells #[.int .i64 0, .string ⟨#[]⟩, .string ⟨#[]⟩] 39)) g3 39 [.int .i64 0, .string ⟨#[]⟩, .string ⟨#[]⟩] from
    ⟨FA.below hA2, Blk.belowS (Blk.belowS h hA) hA2, (Keeps.of hA).trans (Keeps.of hA2), FB⟩)
  have HN := hid (show w.heap.size ≤ g2 ∧ w.heap.size ≤ g3 ∧ g2 ≠ p ∧ g3 ≠ p ∧ g2 ≠ g3 from ⟨by omega, by omega, hgp, hgp3, by omega⟩)
  have HG := hid hg; have HG3 := hid hg3'
  clear hA hA2 FA FB h hg hg3 hl3 hgp hgp3 hg3'
  cases f
  all_goals
    go_enter Tryz.func69, Tryz.ntmps69
    go_wp2_with fail
    rw [← HG3.out, ← HG.out]
    clear HG HG3
    generalize ((w.alloc (.cells #[.int .i64 0, .string ⟨#[]⟩, .string ⟨#[]⟩] 39)).alloc (.cells #[.int .i64 0, .string ⟨#[]⟩, .string ⟨#[]⟩] 39)) = w1 at H1 ⊢
    refine (rIn_Num_all p r b 1 _ H1.out.2.1).mono ?_; rintro e w2 ⟨rfl, k1, i1⟩
    rw [T1.out] at i1 ⊢
    have FB := Blk.keeps H1.out.2.2.2 k1 (by simp; exact HN.out.2.2.2.1)
    have c0 : w2.cell? ⟨g3, 0, none⟩ = some (.int .i64 0) := Blk.at FB rfl
    have f0 : w2.frozen? ⟨g3, 0, none⟩ = false := Blk.free FB (by simp)
    have ks := (Keeps.refl [g3] w2).setCell (p := ⟨g3, 0, none⟩) (by simp) (.int .i64 K)
    have H2 := hid (show MsgAt (w2.setCell ⟨g3, 0, none⟩ (.int .i64 K)) g2 0 ⟨#[]⟩ ⟨#[]⟩ ∧ RefAt (w2.setCell ⟨g3, 0, none⟩ (.int .i64 K)) p r1 b1 ∧ Keeps [p] w (w2.setCell ⟨g3, 0, none⟩ (.int .i64 K)) ∧ Blk (w2.setCell ⟨g3, 0, none⟩ (.int .i64 K)) g3 39 [.int .i64 K, .string ⟨#[]⟩, .string ⟨#[]⟩] from
      ⟨(H1.out.1.keeps k1 (by simp; exact HN.out.2.2.1)).keeps ks (by simp; exact HN.out.2.2.2.2), Blk.keeps i1 ks (by simp; exact Ne.symm HN.out.2.2.2.1), (H1.out.2.2.1.trans k1).go ks (fun x hx => by simp at hx; rw [hx]; exact .inr HN.out.2.1), Blk.set FB 0 (.int .i64 K)⟩)
    clear k1 i1 FB ks H1
    go_wp2_with fail
    clear c0 f0
    generalize w2.setCell ⟨g3, 0, none⟩ (.int .i64 K) = w3 at *
    refine (rIn_Text_all p r1 b1 8 _ H2.out.2.1).mono ?_; rintro e w4 ⟨rfl, k1, i1⟩
    rw [T2.out] at i1 ⊢
    have FB := Blk.keeps H2.out.2.2.2 k1 (by simp; exact HN.out.2.2.2.1)
    have c1 : w4.cell? ⟨g3, 1, none⟩ = some (.string ⟨#[]⟩) := Blk.at FB rfl
    have f1 : w4.frozen? ⟨g3, 1, none⟩ = false := Blk.free FB (by simp)
    have ks := (Keeps.refl [g3] w4).setCell (p := ⟨g3, 1, none⟩) (by simp) (.string k)
    have H3 := hid (show MsgAt (w4.setCell ⟨g3, 1, none⟩ (.string k)) g2 0 ⟨#[]⟩ ⟨#[]⟩ ∧ RefAt (w4.setCell ⟨g3, 1, none⟩ (.string k)) p r2 b2 ∧ Keeps [p] w (w4.setCell ⟨g3, 1, none⟩ (.string k)) ∧ Blk (w4.setCell ⟨g3, 1, none⟩ (.string k)) g3 39 [.int .i64 K, .string k, .string ⟨#[]⟩] from
      ⟨(H2.out.1.keeps k1 (by simp; exact HN.out.2.2.1)).keeps ks (by simp; exact HN.out.2.2.2.2), Blk.keeps i1 ks (by simp; exact Ne.symm HN.out.2.2.2.1), (H2.out.2.2.1.trans k1).go ks (fun x hx => by simp at hx; rw [hx]; exact .inr HN.out.2.1), Blk.set FB 1 (.string k)⟩)
    clear k1 i1 FB ks H2
    go_wp2_with fail
    clear c1 f1
    generalize w4.setCell ⟨g3, 1, none⟩ (.string k) = w5 at *
    refine (rIn_Text_all p r2 b2 16 _ H3.out.2.1).mono ?_; rintro e w6 ⟨rfl, k1, i1⟩
    rw [T3.out] at i1 ⊢
    have FB := Blk.keeps H3.out.2.2.2 k1 (by simp; exact HN.out.2.2.2.1)
    have c2 : w6.cell? ⟨g3, 2, none⟩ = some (.string ⟨#[]⟩) := Blk.at FB rfl
    have f2 : w6.frozen? ⟨g3, 2, none⟩ = false := Blk.free FB (by simp)
    have ks := (Keeps.refl [g3] w6).setCell (p := ⟨g3, 2, none⟩) (by simp) (.string v)
    have H4 := hid (show MsgAt (w6.setCell ⟨g3, 2, none⟩ (.string v)) g2 0 ⟨#[]⟩ ⟨#[]⟩ ∧ RefAt (w6.setCell ⟨g3, 2, none⟩ (.string v)) p r3 b3 ∧ Keeps [p] w (w6.setCell ⟨g3, 2, none⟩ (.string v)) ∧ Blk (w6.setCell ⟨g3, 2, none⟩ (.string v)) g3 39 [.int .i64 K, .string k, .string v] from
      ⟨(H3.out.1.keeps k1 (by simp; exact HN.out.2.2.1)).keeps ks (by simp; exact HN.out.2.2.2.2), Blk.keeps i1 ks (by simp; exact Ne.symm HN.out.2.2.2.1), (H3.out.2.2.1.trans k1).go ks (fun x hx => by simp at hx; rw [hx]; exact .inr HN.out.2.1), Blk.set FB 2 (.string v)⟩)
    clear k1 i1 FB ks H3
    have x0 : (w6.setCell ⟨g3, 2, none⟩ (.string v)).cell? ⟨g3, 0, none⟩ = some (.int .i64 K) := Blk.at H4.out.2.2.2 rfl
    have x1 : (w6.setCell ⟨g3, 2, none⟩ (.string v)).cell? ⟨g3, 1, none⟩ = some (.string k) := Blk.at H4.out.2.2.2 rfl
    have x2 : (w6.setCell ⟨g3, 2, none⟩ (.string v)).cell? ⟨g3, 2, none⟩ = some (.string v) := Blk.at H4.out.2.2.2 rfl
    go_wp2_with fail
    clear c2 f2
    generalize w6.setCell ⟨g3, 2, none⟩ (.string v) = w7 at *
    clear x0 x1 x2
    refine (ref_Is_any K k v _).mono ?_; rintro e w8 ⟨rfl, hb_⟩
    rw [← HF.out]
    have H5 := hid (show MsgAt w8 g2 0 ⟨#[]⟩ ⟨#[]⟩ ∧ RefAt w8 p r3 b3 ∧ Keeps [p] w w8 ∧ Blk w8 g3 39 [.int .i64 K, .string k, .string v] from ⟨H4.out.1.below hb_, Blk.belowS H4.out.2.1 hb_, H4.out.2.2.1.trans (Keeps.of hb_), Blk.belowS H4.out.2.2.2 hb_⟩)
    clear hb_ H4
  · go_wp2_with fail
    refine (rIn_Raw_all p r3 b3 (-1) _ H5.out.2.1).mono ?_; rintro e w9 ⟨rfl, k1, i1⟩
    rw [rawT_neg] at i1 ⊢
    have H6 := hid (show MsgAt w9 g2 0 ⟨#[]⟩ ⟨#[]⟩ ∧ Keeps [p] w w9 ∧ RefAt w9 p emptyB true from ⟨H5.out.1.keeps k1 (by simp; exact HN.out.2.2.1), H5.out.2.2.1.trans k1, i1⟩)
    clear k1 i1 H5
    go_wp2_with (with_reducible refine at_op (.store 39 (.tmp 2) (.tmp 19)) rfl ?_; refine Stopped.go ?_)
    refine Stopped.mk (wpList_store_row_keeps rfl _ _ _ rfl g2 #[.int .i64 0, .string ⟨#[]⟩, .string ⟨#[]⟩] rfl rfl _ _ H6.out.1 (by kernel_rfl) rfl (by simp [Value.oneCell']) ?_)
    intro w10 F8 k8
    have H8 := hid (show MsgAt w10 g2 0 ⟨#[]⟩ ⟨#[]⟩ ∧ Keeps [p] w w10 ∧ RefAt w10 p emptyB true from
      ⟨F8, H6.out.2.1.go k8 (fun x hx => by simp at hx; rw [hx]; exact .inr HN.out.1), Blk.keeps H6.out.2.2 k8 (by simp; exact Ne.symm HN.out.2.2.1)⟩)
    clear F8 k8 H6
    go_wp2_with fail
    (try simp only [Exit.inBlock, Exit.then])
    exact bodyPost_ret (results_cell_row rfl _ _ g2 _ _ (0, 0) _ rfl H8.out.1 hu rfl (by kernel_rfl)) rfl ⟨rfl, H8.out.2.1, H8.out.2.2⟩
  · have x0 : w8.cell? ⟨g3, 0, none⟩ = some (.int .i64 K) := Blk.at H5.out.2.2.2 rfl
    have x1 : w8.cell? ⟨g3, 1, none⟩ = some (.string k) := Blk.at H5.out.2.2.2 rfl
    have x2 : w8.cell? ⟨g3, 2, none⟩ = some (.string v) := Blk.at H5.out.2.2.2 rfl
    go_wp2_with (with_reducible refine at_op (.store 39 (.tmp 2) (.tmp 20)) rfl ?_; refine Stopped.go ?_)
    refine Stopped.mk (wpList_store_row_keeps rfl _ _ _ rfl g2 #[.int .i64 K, .string k, .string v] rfl rfl _ _ H5.out.1 (by kernel_rfl) rfl (by simp [Value.oneCell']) ?_)
    intro w10 F8 k8
    have H8 := hid (show MsgAt w10 g2 K k v ∧ Keeps [p] w w10 ∧ RefAt w10 p r3 b3 from
      ⟨F8, H5.out.2.2.1.go k8 (fun x hx => by simp at hx; rw [hx]; exact .inr HN.out.1), Blk.keeps H5.out.2.1 k8 (by simp; exact Ne.symm HN.out.2.2.1)⟩)
    clear F8 k8 H5 x0 x1 x2
    go_wp2_with fail
    (try simp only [Exit.inBlock, Exit.then])
    exact bodyPost_ret (results_cell_row rfl _ _ g2 _ _ (0, 0) _ rfl H8.out.1 hu rfl (by kernel_rfl)) rfl ⟨rfl, H8.out.2.1, H8.out.2.2⟩
end Go.Proofs.YtcklgaenedlbiaaGreat

namespace Go.Proofs.YtcklgaenedlbiaaGreat
open Go.RowKit

theorem ba_ext1 {a b : ByteArray} (h : a.toList = b.toList) : a = b := by
  rw [ByteArray.toList_eq, ByteArray.toList_eq] at h
  cases a; cases b
  simp only [Array.toList_inj] at h
  rw [h]
def textS (s : ByteArray) : ByteArray := ⟨(textB s).toArray⟩
set_option maxHeartbeats 1000000 in
theorem ref01_Text_no (s : ByteArray) (h : 255 < s.size) (w : World) :
    Calls Tryz.prog 83 #[.string s] w fun e w' => e = .returned (.tuple #[.string ⟨#[]⟩, .bool false]) ∧ w = w' := by
  have h' : (255 : Int) < s.size := by omega
  clear h
  go_enter Tryz.func83, Tryz.ntmps83
  go_wp2_with fail
  go_ret2
  exact ⟨rfl, rfl⟩
set_option maxHeartbeats 2000000 in
set_option maxRecDepth 100000 in
theorem ref01_Text_yes (s : ByteArray) (h : s.size ≤ 255) (w : World) :
    Calls Tryz.prog 83 #[.string s] w fun e w' => e = .returned (.tuple #[.string (textS s), .bool true]) ∧ Below w.heap.size w w' := by
  have h' : (s.size : Int) ≤ 255 := by omega
  have hu : IntKind.u8.wrap (s.size : Int) = ((UInt8.ofNat s.size).toNat : Int) := by
    have h2 : (UInt8.ofNat s.size).toNat = s.size % 256 := by simp
    rw [h2, IntKind.wrap_u8]; omega
  have hm : (s.size : Int) = ((UInt8.ofNat s.size).toNat : Int) := by
    have h2 : (UInt8.ofNat s.size).toNat = s.size % 256 := by simp
    rw [h2]; omega
  clear h
  have hA := below_alloc w (.cells #[.int .u8 (s.size : Int)] 5)
  have hN : Blk (w.alloc (.cells #[.int .u8 (s.size : Int)] 5)) w.heap.size 5 (u8s [UInt8.ofNat s.size]) := by
    have h := Blk.new w #[.int .u8 (s.size : Int)] 5
    rw [show u8s [UInt8.ofNat s.size] = [.int .u8 (s.size : Int)] by unfold u8s; rw [List.map_cons, List.map_nil, ← hm]]
    exact h
  have HA := hid hA; have HN := hid hN; clear hA hN hu hm
  go_enter Tryz.func83, Tryz.ntmps83
  go_wp2_with (with_reducible refine at_op (.convert 62 9 (.tmp 10)) rfl ?_; refine Stopped.go ?_)
  refine Stopped.mk (wpList_string rfl _ _ 5 _ rfl ⟨w.heap.size, 0, none⟩ 1 1 [UInt8.ofNat s.size] rfl rfl Tryz.underlying62 Tryz.underlying5 Tryz.underlying9 (fun j hj => HN.out.bytes' j hj) ?_)
  have hx : (⟨[UInt8.ofNat s.size].toArray⟩ : ByteArray) ++ s = textS s := by
    apply ba_ext1
    rw [ByteArray.toList_eq, ByteArray.toList_eq]
    simp [textS, textB]
  obtain ⟨q, hq⟩ : ∃ q : ByteArray, q = ⟨[UInt8.ofNat s.size].toArray⟩ := ⟨_, rfl⟩
  rw [← hq] at hx ⊢
  have hqs : ¬ 9223372036854775807 < q.size + s.size := by
    have h1 : q.size = 1 := by rw [hq]; rfl
    omega
  clear hq
  have HX := hid hx; clear hx
  go_wp2_with fail
  go_ret2
  exact ⟨by rw [← HX.out]; rfl, HA.out⟩
end Go.Proofs.YtcklgaenedlbiaaGreat
