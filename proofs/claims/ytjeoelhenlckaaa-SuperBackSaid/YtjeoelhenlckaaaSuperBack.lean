/-
  SuperBack: walked.
-/
import Derived.Test.YtjeoelhenlckaaaSuperAwake
namespace Go.Proofs.Ytjeoelhenlckaaa
open Go.RowKit Go.Sort

theorem superLay_bad {s : Sup} (h : ¬ goodB s = true) : superLayV s = (⟨#[]⟩, 1) := by unfold superLayV; rw [if_neg h]
/-- three boxes -/
def Box3 (wx : World) (g : Nat) (x y k : Array Value) : Prop := R0 wx g 45 x ∧ R0 wx (g + 1) 45 y ∧ R0 wx (g + 2) 58 k
theorem Box3.below {wx w' : World} {g : Nat} {x y k : Array Value} (h : Box3 wx g x y k) (hb : Below wx.heap.size wx w') : Box3 w' g x y k := ⟨h.1.belowS hb, h.2.1.belowS hb, h.2.2.belowS hb⟩
def box3W (w : World) (x y k : Array Value) : World := ((w.alloc (.cells x 45)).alloc (.cells y 45)).alloc (.cells k 58)
theorem box3_new (w : World) (x y k : Array Value) : Box3 (box3W w x y k) w.heap.size x y k ∧ Below w.heap.size w (box3W w x y k) := by
  have h1 : R0 (w.alloc (.cells x 45)) w.heap.size 45 x := heap_alloc_new w _
  have h2 : R0 ((w.alloc (.cells x 45)).alloc (.cells y 45)) (w.alloc (.cells x 45)).heap.size 45 y := heap_alloc_new _ _
  have h3 : R0 (box3W w x y k) ((w.alloc (.cells x 45)).alloc (.cells y 45)).heap.size 58 k := heap_alloc_new _ _
  have b1 := below_alloc w (.cells x 45)
  have b2 := below_alloc (w.alloc (.cells x 45)) (.cells y 45)
  have b3 : Below _ _ (box3W w x y k) := below_alloc ((w.alloc (.cells x 45)).alloc (.cells y 45)) (.cells k 58)
  have e1 : (w.alloc (.cells x 45)).heap.size = w.heap.size + 1 := by simp
  have e2 : ((w.alloc (.cells x 45)).alloc (.cells y 45)).heap.size = w.heap.size + 2 := by simp
  refine ⟨⟨(h1.belowS b2).belowS b3, ?_, ?_⟩, bt b1 (bt b2 b3)⟩
  · have := h2.belowS b3; rwa [e1] at this
  · rwa [e2] at h3

theorem back_fin {a b o : ByteArray} {x y : Sup} {c : Nat} {kp : Nat → Bool} (ha : superReadV a = (x, 0)) (hb : superReadV b = (y, 0))
    (hR : (cntN kp 4 = 0 ∧ mixN kp a.data.toList b.data.toList 4 = a.data.toList) ∨ (cntN kp 4 = 4 ∧ mixN kp a.data.toList b.data.toList 4 = b.data.toList) ∨ (cntN kp 4 ≠ 0 ∧ cntN kp 4 ≠ 4 ∧ readR (mixN kp a.data.toList b.data.toList 4) = .error 5))
    (hS : o.data.toList = mixN kp a.data.toList b.data.toList 4 ∧ c = cntN kp 4) (hos : o.size = 64 * 4) : (c = 0 ∧ superReadV o = (x, 0)) ∨ (c = 4 ∧ superReadV o = (y, 0)) ∨ (c ≠ 0 ∧ c ≠ 4 ∧ superReadV o = (zeroSup, 5)) := by
  obtain ⟨h1, h2⟩ := hS
  rcases hR with ⟨r1, r2⟩ | ⟨r1, r2⟩ | ⟨r1, r2, r3⟩
  · left; rw [h2, r1]
    rw [r2] at h1
    rw [ba_of h1, ha]; exact ⟨rfl, rfl⟩
  · right; left; rw [h2, r1]
    rw [r2] at h1
    rw [ba_of h1, hb]; exact ⟨rfl, rfl⟩
  · right; right; rw [h2]
    refine ⟨r1, r2, ?_⟩
    have hv : readV o = (0, 0, ⟨#[]⟩, 5) := by
      unfold readV
      rw [if_pos (by omega), h1, r3]
    unfold superReadV
    rw [hv]
    simp

set_option maxHeartbeats 16000000 in
set_option maxRecDepth 100000 in
theorem superBack_walk (x y : Sup) (b0 b1 b2 b3 : Bool) (w : World) :
    Calls Try.prog 8 #[.agg x.vals, .agg y.vals, .agg #[.bool b0, .bool b1, .bool b2, .bool b3]] w fun e w' => e = .returned (.bool true) ∧ Below w.heap.size w w' := by
  have C1 := hid (fun w' => super_Lay x w')
  have C2 := hid (fun w' => super_Lay y w')
  by_cases hg : goodB x = true
  case neg =>
    rw [superLay_bad hg] at C1
    obtain ⟨⟨b, c⟩, hv⟩ : ∃ v, v = superLayV y := ⟨_, rfl⟩
    rw [← hv] at C2
    clear hv hg
    obtain ⟨xB, xE, xR, xF, xN, xI, xW⟩ := x
    obtain ⟨yB, yE, yR, yF, yN, yI, yW⟩ := y
    simp only [Sup.vals] at C1 C2 ⊢
    have HB0 := hid (box3_new w #[.int .i64 xB, .int .i64 xE, .int .i64 xR, .int .i64 xF, .int .i64 xN, .int .i64 xI, .int .i64 xW] #[.int .i64 yB, .int .i64 yE, .int .i64 yR, .int .i64 yF, .int .i64 yN, .int .i64 yI, .int .i64 yW] #[.bool b0, .bool b1, .bool b2, .bool b3])
    go_enter Try.func8, Try.ntmps8
    go_wp2_with fail
    refine (awake21_any _).mono ?_; rintro ee w1 ⟨rfl, hb1⟩
    have H1 := hid (And.intro (bt HB0.out.2 hb1) (HB0.out.1.below hb1)); clear hb1 HB0
    obtain ⟨y0, y1, y2, y3, y4, y5, y6⟩ := cells7 H1.out.2.1.blk
    go_wp2_with fail
    refine (C1.out w1).mono ?_; rintro ee w2 ⟨rfl, hb1⟩
    have H2 := hid (And.intro (bt H1.out.1 hb1) (H1.out.2.below hb1)); clear hb1 H1 C1 y0 y1 y2 y3 y4 y5 y6
    obtain ⟨y0, y1, y2, y3, y4, y5, y6⟩ := cells7 H2.out.2.2.1.blk
    go_wp2_with fail
    refine (C2.out w2).mono ?_; rintro ee w3 ⟨rfl, hb1⟩
    have H3 := hid (bt H2.out.1 hb1); clear hb1 H2 C2 y0 y1 y2 y3 y4 y5 y6
    go_wp2_with fail
    go_ret
    exact ⟨rfl, H3.out⟩
  obtain ⟨l1, l2, l3⟩ := superRead_laid hg
  obtain ⟨_, _, _, _, hx1, hx2, _⟩ := good_facts hg
  obtain ⟨a, ha⟩ : ∃ b, b = (superLayV x).1 := ⟨_, rfl⟩
  rw [show superLayV x = (a, 0) by rw [ha, l1]] at C1
  rw [← ha] at l2 l3
  by_cases hg2 : goodB y = true
  case neg =>
    rw [superLay_bad hg2] at C2
    clear l1 l2 l3 hg hg2 ha hx1 hx2
    obtain ⟨xB, xE, xR, xF, xN, xI, xW⟩ := x
    obtain ⟨yB, yE, yR, yF, yN, yI, yW⟩ := y
    simp only [Sup.vals] at C1 C2 ⊢
    have HB0 := hid (box3_new w #[.int .i64 xB, .int .i64 xE, .int .i64 xR, .int .i64 xF, .int .i64 xN, .int .i64 xI, .int .i64 xW] #[.int .i64 yB, .int .i64 yE, .int .i64 yR, .int .i64 yF, .int .i64 yN, .int .i64 yI, .int .i64 yW] #[.bool b0, .bool b1, .bool b2, .bool b3])
    go_enter Try.func8, Try.ntmps8
    go_wp2_with fail
    refine (awake21_any _).mono ?_; rintro ee w1 ⟨rfl, hb1⟩
    have H1 := hid (And.intro (bt HB0.out.2 hb1) (HB0.out.1.below hb1)); clear hb1 HB0
    obtain ⟨y0, y1, y2, y3, y4, y5, y6⟩ := cells7 H1.out.2.1.blk
    go_wp2_with fail
    refine (C1.out w1).mono ?_; rintro ee w2 ⟨rfl, hb1⟩
    have H2 := hid (And.intro (bt H1.out.1 hb1) (H1.out.2.below hb1)); clear hb1 H1 C1 y0 y1 y2 y3 y4 y5 y6
    obtain ⟨y0, y1, y2, y3, y4, y5, y6⟩ := cells7 H2.out.2.2.1.blk
    go_wp2_with fail
    refine (C2.out w2).mono ?_; rintro ee w3 ⟨rfl, hb1⟩
    have H3 := hid (bt H2.out.1 hb1); clear hb1 H2 C2 y0 y1 y2 y3 y4 y5 y6
    go_wp2_with fail
    go_ret
    exact ⟨rfl, H3.out⟩
  obtain ⟨m1, m2, m3⟩ := superRead_laid hg2
  obtain ⟨_, _, _, _, hy1, hy2, _⟩ := good_facts hg2
  obtain ⟨b, hb⟩ : ∃ b, b = (superLayV y).1 := ⟨_, rfl⟩
  rw [show superLayV y = (b, 0) by rw [hb, m1]] at C2
  rw [← hb] at m2 m3
  have hab : a = b ↔ x = y := by
    constructor
    · intro h
      rw [h, m3] at l3
      exact (Prod.mk.inj l3).1.symm
    · intro h; rw [ha, hb, h]
  have C3 := hid (fun w' => super_Read a w')
  rw [l3] at C3
  obtain ⟨kp, hkp⟩ : ∃ kp : Nat → Bool, kp = fun j => [b0, b1, b2, b3].getD j false := ⟨_, rfl⟩
  have hxs : (superS x).data.toList.length ≤ 218 := by
    have := superS_size x
    have h2 : (superS x).data.toList.length = (superS x).size := by simp
    omega
  have hys : (superS y).data.toList.length ≤ 218 := by
    have := superS_size y
    have h2 : (superS y).data.toList.length = (superS y).size := by simp
    omega
  have hal : a.data.toList = stampB x.epoch.toNat 0 (frameB 224 (superS x).data.toList) := by
    have h1 := (readV_stamp (e := x.epoch) (q := 0) (s := superS x) (by rw [superS_size]; decide) hx1 hx2 (by decide) (by decide)).1
    rw [ha, l1, h1]; simp
  have hbl : b.data.toList = stampB y.epoch.toNat 0 (frameB 224 (superS y).data.toList) := by
    have h1 := (readV_stamp (e := y.epoch) (q := 0) (s := superS y) (by rw [superS_size]; decide) hy1 hy2 (by decide) (by decide)).1
    rw [hb, m1, h1]; simp
  have hR := fun hne : x.epoch ≠ y.epoch => mixed_read (e1 := x.epoch.toNat) (q1 := 0) (e2 := y.epoch.toNat) (q2 := 0) (f := frameB 224 (superS x).data.toList) (g := frameB 224 (superS y).data.toList) (frameB_length (by omega)) (frameB_length (by omega)) (fun h => by
    have h4 := beB_inj (k := 4) (by show _ < 4294967296; omega) (by show _ < 4294967296; omega) (List.append_inj h (by rw [beB_length, beB_length])).1
    omega) kp
  rw [← hal, ← hbl] at hR
  have HA3 := hid l3; have HB3 := hid m3; have HRR := hid hR
  have HK : Hid (∀ j, j < 4 → [Value.bool b0, .bool b1, .bool b2, .bool b3][j]? = some (.bool (kp j))) := by
    intro j hj
    have : j = 0 ∨ j = 1 ∨ j = 2 ∨ j = 3 := by omega
    rcases this with rfl | rfl | rfl | rfl <;> rw [hkp] <;> rfl
  clear l1 l3 hg hg2 ha hx1 hx2 m1 m3 hy1 hy2 hb hxs hys hal hbl hR hkp
  by_cases he : x.epoch = y.epoch
  case pos =>
    clear HRR HK HA3 HB3
    by_cases hxy : x = y
    · obtain rfl := hab.2 hxy
      subst hxy
      clear hab he
      obtain ⟨xB, xE, xR, xF, xN, xI, xW⟩ := x
      simp only [Sup.vals] at C1 C2 C3 ⊢
      have HB0 := hid (box3_new w #[.int .i64 xB, .int .i64 xE, .int .i64 xR, .int .i64 xF, .int .i64 xN, .int .i64 xI, .int .i64 xW] #[.int .i64 xB, .int .i64 xE, .int .i64 xR, .int .i64 xF, .int .i64 xN, .int .i64 xI, .int .i64 xW] #[.bool b0, .bool b1, .bool b2, .bool b3])
      go_enter Try.func8, Try.ntmps8
      go_wp2_with fail
      refine (awake21_any _).mono ?_; rintro ee w1 ⟨rfl, hb1⟩
      have H1 := hid (And.intro (bt HB0.out.2 hb1) (HB0.out.1.below hb1)); clear hb1 HB0
      obtain ⟨y0, y1, y2, y3, y4, y5, y6⟩ := cells7 H1.out.2.1.blk
      go_wp2_with fail
      refine (C1.out w1).mono ?_; rintro ee w2 ⟨rfl, hb1⟩
      have H2 := hid (And.intro (bt H1.out.1 hb1) (H1.out.2.below hb1)); clear hb1 H1 C1 y0 y1 y2 y3 y4 y5 y6
      obtain ⟨y0, y1, y2, y3, y4, y5, y6⟩ := cells7 H2.out.2.2.1.blk
      go_wp2_with fail
      refine (C2.out w2).mono ?_; rintro ee w3 ⟨rfl, hb1⟩
      have H3 := hid (And.intro (bt H2.out.1 hb1) (H2.out.2.below hb1)); clear hb1 H2 C2 y0 y1 y2 y3 y4 y5 y6
      go_wp2_with fail
      refine (C3.out w3).mono ?_; rintro ee w4 ⟨rfl, hb1⟩
      have hA := below_alloc w4 (.cells #[.int .i64 xB, .int .i64 xE, .int .i64 xR, .int .i64 xF, .int .i64 xN, .int .i64 xI, .int .i64 xW] 45)
      have hN : R0 (w4.alloc (.cells #[.int .i64 xB, .int .i64 xE, .int .i64 xR, .int .i64 xF, .int .i64 xN, .int .i64 xI, .int .i64 xW] 45)) w4.heap.size 45 #[.int .i64 xB, .int .i64 xE, .int .i64 xR, .int .i64 xF, .int .i64 xN, .int .i64 xI, .int .i64 xW] := heap_alloc_new w4 _
      obtain ⟨g4, hg4⟩ : ∃ g, g = w4.heap.size := ⟨_, rfl⟩
      rw [← hg4] at hN
      have H4 := hid (And.intro (bt (bt H3.out.1 hb1) hA) (And.intro ((H3.out.2.below hb1).below hA) hN))
      have HG := hid hg4
      clear hb1 H3 C3 hA hN hg4
      go_wp2_with (with_reducible refine at_op (.load 45 (.tmp 11)) rfl ?_; refine Stopped.go ?_)
      rw [← HG.out]
      clear HG
      generalize w4.alloc (.cells #[.int .i64 xB, .int .i64 xE, .int .i64 xR, .int .i64 xF, .int .i64 xN, .int .i64 xI, .int .i64 xW] 45) = w5 at H4 ⊢
      obtain ⟨y0, y1, y2, y3, y4, y5, y6⟩ := cells7 H4.out.2.1.1.blk
      obtain ⟨z0, z1, z2, z3, z4, z5, z6⟩ := cells7 H4.out.2.1.2.1.blk
      obtain ⟨u0, u1, u2, u3, u4, u5, u6⟩ := cells7 H4.out.2.2.blk
      refine Stopped.mk ?_
      go_wp2_with fail
      go_ret
      exact ⟨rfl, H4.out.1⟩
    · have hst : (a.toList == b.toList) = false := by
        rw [beq_eq_false_iff_ne]
        intro h4
        rw [ByteArray.toList_eq, ByteArray.toList_eq] at h4
        exact hxy (hab.1 (ba_of h4))
      clear hab
      obtain ⟨xB, xE, xR, xF, xN, xI, xW⟩ := x
      obtain ⟨yB, yE, yR, yF, yN, yI, yW⟩ := y
      simp only [Sup.vals] at C1 C2 C3 ⊢
      simp only at he
      subst he
      have HXY := hid hxy
      clear hxy
      have HB0 := hid (box3_new w #[.int .i64 xB, .int .i64 xE, .int .i64 xR, .int .i64 xF, .int .i64 xN, .int .i64 xI, .int .i64 xW] #[.int .i64 yB, .int .i64 xE, .int .i64 yR, .int .i64 yF, .int .i64 yN, .int .i64 yI, .int .i64 yW] #[.bool b0, .bool b1, .bool b2, .bool b3])
      go_enter Try.func8, Try.ntmps8
      go_wp2_with fail
      refine (awake21_any _).mono ?_; rintro ee w1 ⟨rfl, hb1⟩
      have H1 := hid (And.intro (bt HB0.out.2 hb1) (HB0.out.1.below hb1)); clear hb1 HB0
      obtain ⟨y0, y1, y2, y3, y4, y5, y6⟩ := cells7 H1.out.2.1.blk
      go_wp2_with fail
      refine (C1.out w1).mono ?_; rintro ee w2 ⟨rfl, hb1⟩
      have H2 := hid (And.intro (bt H1.out.1 hb1) (H1.out.2.below hb1)); clear hb1 H1 C1 y0 y1 y2 y3 y4 y5 y6
      obtain ⟨y0, y1, y2, y3, y4, y5, y6⟩ := cells7 H2.out.2.2.1.blk
      go_wp2_with fail
      refine (C2.out w2).mono ?_; rintro ee w3 ⟨rfl, hb1⟩
      have H3 := hid (And.intro (bt H2.out.1 hb1) (H2.out.2.below hb1)); clear hb1 H2 C2 y0 y1 y2 y3 y4 y5 y6
      go_wp2_with fail
      refine (C3.out w3).mono ?_; rintro ee w4 ⟨rfl, hb1⟩
      have hA := below_alloc w4 (.cells #[.int .i64 xB, .int .i64 xE, .int .i64 xR, .int .i64 xF, .int .i64 xN, .int .i64 xI, .int .i64 xW] 45)
      have hN : R0 (w4.alloc (.cells #[.int .i64 xB, .int .i64 xE, .int .i64 xR, .int .i64 xF, .int .i64 xN, .int .i64 xI, .int .i64 xW] 45)) w4.heap.size 45 #[.int .i64 xB, .int .i64 xE, .int .i64 xR, .int .i64 xF, .int .i64 xN, .int .i64 xI, .int .i64 xW] := heap_alloc_new w4 _
      obtain ⟨g4, hg4⟩ : ∃ g, g = w4.heap.size := ⟨_, rfl⟩
      rw [← hg4] at hN
      have H4 := hid (And.intro (bt (bt H3.out.1 hb1) hA) (And.intro ((H3.out.2.below hb1).below hA) hN))
      have HG := hid hg4
      clear hb1 H3 C3 hA hN hg4
      go_wp2_with (with_reducible refine at_op (.load 45 (.tmp 11)) rfl ?_; refine Stopped.go ?_)
      rw [← HG.out]
      clear HG
      generalize w4.alloc (.cells #[.int .i64 xB, .int .i64 xE, .int .i64 xR, .int .i64 xF, .int .i64 xN, .int .i64 xI, .int .i64 xW] 45) = w5 at H4 ⊢
      obtain ⟨y0, y1, y2, y3, y4, y5, y6⟩ := cells7 H4.out.2.1.1.blk
      obtain ⟨z0, z1, z2, z3, z4, z5, z6⟩ := cells7 H4.out.2.1.2.1.blk
      obtain ⟨u0, u1, u2, u3, u4, u5, u6⟩ := cells7 H4.out.2.2.blk
      refine Stopped.mk ?_
      go_wp2_with fail
      all_goals
        first
        | (go_ret; exact ⟨rfl, H4.out.1⟩)
        | (exfalso; apply HXY.out; congr)
  have hst : (a.toList == b.toList) = false := by
    rw [beq_eq_false_iff_ne]
    intro h4
    rw [ByteArray.toList_eq, ByteArray.toList_eq] at h4
    exact he (by rw [hab.1 (ba_of h4)])
  clear hab
  obtain ⟨xB, xE, xR, xF, xN, xI, xW⟩ := x
  obtain ⟨yB, yE, yR, yF, yN, yI, yW⟩ := y
  simp only [Sup.vals] at C1 C2 C3 ⊢
  simp only at he
  have hR := HRR.out he
  have HR := hid hR
  have heq : (xE == yE) = false := by rw [beq_eq_false_iff_ne]; exact he
  clear hR HRR
  have HB0 := hid (box3_new w #[.int .i64 xB, .int .i64 xE, .int .i64 xR, .int .i64 xF, .int .i64 xN, .int .i64 xI, .int .i64 xW] #[.int .i64 yB, .int .i64 yE, .int .i64 yR, .int .i64 yF, .int .i64 yN, .int .i64 yI, .int .i64 yW] #[.bool b0, .bool b1, .bool b2, .bool b3])
  go_enter Try.func8, Try.ntmps8
  go_wp2_with fail
  refine (awake21_any _).mono ?_; rintro ee w1 ⟨rfl, hb1⟩
  have H1 := hid (And.intro (bt HB0.out.2 hb1) (HB0.out.1.below hb1)); clear hb1 HB0
  obtain ⟨y0, y1, y2, y3, y4, y5, y6⟩ := cells7 H1.out.2.1.blk
  go_wp2_with fail
  refine (C1.out w1).mono ?_; rintro ee w2 ⟨rfl, hb1⟩
  have H2 := hid (And.intro (bt H1.out.1 hb1) (H1.out.2.below hb1)); clear hb1 H1 C1 y0 y1 y2 y3 y4 y5 y6
  obtain ⟨y0, y1, y2, y3, y4, y5, y6⟩ := cells7 H2.out.2.2.1.blk
  go_wp2_with fail
  refine (C2.out w2).mono ?_; rintro ee w3 ⟨rfl, hb1⟩
  have H3 := hid (And.intro (bt H2.out.1 hb1) (H2.out.2.below hb1)); clear hb1 H2 C2 y0 y1 y2 y3 y4 y5 y6
  go_wp2_with fail
  refine (C3.out w3).mono ?_; rintro ee w4 ⟨rfl, hb1⟩
  have hA := below_alloc w4 (.cells #[.int .i64 xB, .int .i64 xE, .int .i64 xR, .int .i64 xF, .int .i64 xN, .int .i64 xI, .int .i64 xW] 45)
  have hN : R0 (w4.alloc (.cells #[.int .i64 xB, .int .i64 xE, .int .i64 xR, .int .i64 xF, .int .i64 xN, .int .i64 xI, .int .i64 xW] 45)) w4.heap.size 45 #[.int .i64 xB, .int .i64 xE, .int .i64 xR, .int .i64 xF, .int .i64 xN, .int .i64 xI, .int .i64 xW] := heap_alloc_new w4 _
  obtain ⟨g4, hg4⟩ : ∃ g, g = w4.heap.size := ⟨_, rfl⟩
  rw [← hg4] at hN
  have H4 := hid (And.intro (bt (bt H3.out.1 hb1) hA) (And.intro ((H3.out.2.below hb1).below hA) hN))
  have HG := hid hg4
  clear hb1 H3 C3 hA hN hg4
  go_wp2_with (with_reducible refine at_op (.load 45 (.tmp 11)) rfl ?_; refine Stopped.go ?_)
  rw [← HG.out]
  clear HG
  generalize w4.alloc (.cells #[.int .i64 xB, .int .i64 xE, .int .i64 xR, .int .i64 xF, .int .i64 xN, .int .i64 xI, .int .i64 xW] 45) = w5 at H4 ⊢
  obtain ⟨y0, y1, y2, y3, y4, y5, y6⟩ := cells7 H4.out.2.1.1.blk
  obtain ⟨z0, z1, z2, z3, z4, z5, z6⟩ := cells7 H4.out.2.1.2.1.blk
  obtain ⟨u0, u1, u2, u3, u4, u5, u6⟩ := cells7 H4.out.2.2.blk
  rcases Decidable.em (xB = yB) with rfl | hB
  · refine Stopped.mk ?_
    go_wp2_with fail
    clear y0 y1 y2 y3 y4 y5 y6 z0 z1 z2 z3 z4 z5 z6 u0 u1 u2 u3 u4 u5 u6
    go_loopg [13, 14, 15] 4 (fun g x y z wx => ∃ (j : Nat) (o : ByteArray) (c : Nat), j + g = 4 ∧ z = .int .i64 j ∧ x = .string o ∧ y = .int .i64 c ∧ o.size = 64 * j ∧ c ≤ j ∧ wx = w5 ∧ Hid (o.data.toList = mixN kp a.data.toList b.data.toList j ∧ c = cntN kp j))
    case atStart => exact ⟨0, ⟨#[]⟩, 0, rfl, rfl, rfl, rfl, rfl, Nat.le_refl _, rfl, rfl, rfl⟩
    case round =>
      obtain ⟨j, o, c, hj, rfl, rfl, rfl, hos, hcj, rfl, HS⟩ := hrel
      by_cases hlt : j < 4
      · have hlt' : (j : Int) < 4 := by omega
        obtain ⟨p, hp⟩ : ∃ a, a = 64 * j := ⟨_, rfl⟩
        obtain ⟨q, hq⟩ : ∃ b, b = p + 64 := ⟨_, rfl⟩
        have f1 : IntKind.i64.wrap (64 * (j : Int)) = (p : Int) := by rw [IntKind.wrap_i64]; omega
        have f2 : IntKind.i64.wrap ((p : Int) + 64) = (q : Int) := by rw [IntKind.wrap_i64]; omega
        have g1 : (q : Int) ≤ (a.size : Int) := by omega
        have g2 : (q : Int) ≤ (b.size : Int) := by omega
        have g3 : (p : Int) ≤ (q : Int) := by omega
        have g4 : ¬ 9223372036854775807 < o.size + (q - p) := by omega
        have hc : wr.cell? ⟨w.heap.size + 1 + 1, j, none⟩ = some (.bool (kp j)) := by
          have h2 := H4.out.2.1.2.2.blk.cell j
          rw [h2]; exact HK.out j hlt
        have hx : ∀ z : ByteArray, z.size = 256 → (z.extract p q).data.toList = (z.data.toList.drop (64 * j)).take 64 ∧ (z.extract p q).size = 64 := by
          intro z hz
          refine ⟨?_, by simp; omega⟩
          rw [cut_list, hp, hq, hp, List.drop_take]; congr 1; omega
        obtain ⟨xa, za⟩ := hx a l2
        obtain ⟨xb, zb⟩ := hx b m2
        obtain ⟨f, hf⟩ : ∃ f, f = kp j := ⟨_, rfl⟩
        rw [← hf] at hc
        have XA := hid xa; have XB := hid xb; have ZA := hid za; have ZB := hid zb; have HF := hid hf
        clear hp hq hx xa xb za zb hf
        cases f with
        | true =>
          go_wp2_with fail
          go_roundg (4 - (j + 1))
          case measure => omega
          case rel =>
            refine ⟨j + 1, o ++ b.extract p q, c + 1, by omega, by go_num, rfl, by go_num, ?_, by omega, rfl, ?_, ?_⟩
            · rw [show (o ++ b.extract p q).size = o.size + (b.extract p q).size by simp, ZB.out]; omega
            · rw [app_list, HS.out.1, XB.out]
              show _ = mixN kp _ _ j ++ ((if kp j then b.data.toList else a.data.toList).drop (64 * j)).take 64
              rw [← HF.out]; rfl
            · show c + 1 = cntN kp j + (if kp j then 1 else 0)
              rw [← HF.out, HS.out.2]; rfl
        | false =>
          go_wp2_with fail
          go_roundg (4 - (j + 1))
          case measure => omega
          case rel =>
            refine ⟨j + 1, o ++ a.extract p q, c, by omega, by go_num, rfl, rfl, ?_, by omega, rfl, ?_, ?_⟩
            · rw [show (o ++ a.extract p q).size = o.size + (a.extract p q).size by simp, ZA.out]; omega
            · rw [app_list, HS.out.1, XA.out]
              show _ = mixN kp _ _ j ++ ((if kp j then b.data.toList else a.data.toList).drop (64 * j)).take 64
              rw [← HF.out]; rfl
            · show c = cntN kp j + (if kp j then 1 else 0)
              rw [← HF.out, HS.out.2]; rfl
      · have hj4 : j = 4 := by omega
        subst hj4
        have hlt' : ¬ ((4 : Nat) : Int) < 4 := by omega
        have C6 := hid (fun w' => super_Read o w')
        have fin := back_fin HA3.out HB3.out HR.out HS.out hos
        rcases fin with ⟨rfl, hr⟩ | ⟨rfl, hr⟩ | ⟨n0, n4, hr⟩
        · rw [hr] at C6
          clear hr
          simp only [Sup.vals] at C6
          go_wp2_with fail
          refine (C6.out wr).mono ?_; rintro ee w6 ⟨rfl, hb1⟩
          have hA := below_alloc w6 (.cells #[.int .i64 xB, .int .i64 xE, .int .i64 xR, .int .i64 xF, .int .i64 xN, .int .i64 xI, .int .i64 xW] 45)
          have hN : R0 (w6.alloc (.cells #[.int .i64 xB, .int .i64 xE, .int .i64 xR, .int .i64 xF, .int .i64 xN, .int .i64 xI, .int .i64 xW] 45)) w6.heap.size 45 #[.int .i64 xB, .int .i64 xE, .int .i64 xR, .int .i64 xF, .int .i64 xN, .int .i64 xI, .int .i64 xW] := heap_alloc_new w6 _
          obtain ⟨g6, hg6⟩ : ∃ g, g = w6.heap.size := ⟨_, rfl⟩
          rw [← hg6] at hN
          have H6 := hid (And.intro (bt (bt H4.out.1 hb1) hA) (And.intro ((H4.out.2.1.below hb1).below hA) hN))
          have HG := hid hg6
          clear hb1 C6 hA hN hg6 H4
          go_wp2_with (with_reducible refine at_op (.load 45 (.tmp 16)) rfl ?_; refine Stopped.go ?_)
          rw [← HG.out]
          clear HG
          generalize w6.alloc (.cells #[.int .i64 xB, .int .i64 xE, .int .i64 xR, .int .i64 xF, .int .i64 xN, .int .i64 xI, .int .i64 xW] 45) = w7 at H6 ⊢
          obtain ⟨y0, y1, y2, y3, y4, y5, y6⟩ := cells7 H6.out.2.1.1.blk
          obtain ⟨z0, z1, z2, z3, z4, z5, z6⟩ := cells7 H6.out.2.1.2.1.blk
          obtain ⟨u0, u1, u2, u3, u4, u5, u6⟩ := cells7 H6.out.2.2.blk
          refine Stopped.mk ?_
          go_wp2_with fail
          go_ret
          exact ⟨rfl, H6.out.1⟩
        · rw [hr] at C6
          clear hr
          simp only [Sup.vals] at C6
          go_wp2_with fail
          refine (C6.out wr).mono ?_; rintro ee w6 ⟨rfl, hb1⟩
          have hA := below_alloc w6 (.cells #[.int .i64 xB, .int .i64 yE, .int .i64 yR, .int .i64 yF, .int .i64 yN, .int .i64 yI, .int .i64 yW] 45)
          have hN : R0 (w6.alloc (.cells #[.int .i64 xB, .int .i64 yE, .int .i64 yR, .int .i64 yF, .int .i64 yN, .int .i64 yI, .int .i64 yW] 45)) w6.heap.size 45 #[.int .i64 xB, .int .i64 yE, .int .i64 yR, .int .i64 yF, .int .i64 yN, .int .i64 yI, .int .i64 yW] := heap_alloc_new w6 _
          obtain ⟨g6, hg6⟩ : ∃ g, g = w6.heap.size := ⟨_, rfl⟩
          rw [← hg6] at hN
          have H6 := hid (And.intro (bt (bt H4.out.1 hb1) hA) (And.intro ((H4.out.2.1.below hb1).below hA) hN))
          have HG := hid hg6
          clear hb1 C6 hA hN hg6 H4
          go_wp2_with (with_reducible refine at_op (.load 45 (.tmp 16)) rfl ?_; refine Stopped.go ?_)
          rw [← HG.out]
          clear HG
          generalize w6.alloc (.cells #[.int .i64 xB, .int .i64 yE, .int .i64 yR, .int .i64 yF, .int .i64 yN, .int .i64 yI, .int .i64 yW] 45) = w7 at H6 ⊢
          obtain ⟨y0, y1, y2, y3, y4, y5, y6⟩ := cells7 H6.out.2.1.1.blk
          obtain ⟨z0, z1, z2, z3, z4, z5, z6⟩ := cells7 H6.out.2.1.2.1.blk
          obtain ⟨u0, u1, u2, u3, u4, u5, u6⟩ := cells7 H6.out.2.2.blk
          refine Stopped.mk ?_
          go_wp2_with fail
          go_ret
          exact ⟨rfl, H6.out.1⟩
        · rw [hr] at C6
          have z0 : ((c : Int) == 0) = false := by rw [beq_eq_false_iff_ne]; omega
          have z4 : ((c : Int) == 4) = false := by rw [beq_eq_false_iff_ne]; omega
          clear hr
          simp only [zeroSup, Sup.vals] at C6
          go_wp2_with fail
          refine (C6.out wr).mono ?_; rintro ee w6 ⟨rfl, hb1⟩
          have hA := below_alloc w6 (.cells #[.int .i64 0, .int .i64 0, .int .i64 0, .int .i64 0, .int .i64 0, .int .i64 0, .int .i64 0] 45)
          have hN : R0 (w6.alloc (.cells #[.int .i64 0, .int .i64 0, .int .i64 0, .int .i64 0, .int .i64 0, .int .i64 0, .int .i64 0] 45)) w6.heap.size 45 #[.int .i64 0, .int .i64 0, .int .i64 0, .int .i64 0, .int .i64 0, .int .i64 0, .int .i64 0] := heap_alloc_new w6 _
          obtain ⟨g6, hg6⟩ : ∃ g, g = w6.heap.size := ⟨_, rfl⟩
          rw [← hg6] at hN
          have H6 := hid (And.intro (bt (bt H4.out.1 hb1) hA) (And.intro ((H4.out.2.1.below hb1).below hA) hN))
          have HG := hid hg6
          clear hb1 C6 hA hN hg6 H4
          go_wp2_with (with_reducible refine at_op (.load 45 (.tmp 16)) rfl ?_; refine Stopped.go ?_)
          rw [← HG.out]
          clear HG
          generalize w6.alloc (.cells #[.int .i64 0, .int .i64 0, .int .i64 0, .int .i64 0, .int .i64 0, .int .i64 0, .int .i64 0] 45) = w7 at H6 ⊢
          obtain ⟨y0, y1, y2, y3, y4, y5, y6⟩ := cells7 H6.out.2.1.1.blk
          obtain ⟨z0, z1, z2, z3, z4, z5, z6⟩ := cells7 H6.out.2.1.2.1.blk
          obtain ⟨u0, u1, u2, u3, u4, u5, u6⟩ := cells7 H6.out.2.2.blk
          refine Stopped.mk ?_
          go_wp2_with fail
          go_ret
          exact ⟨rfl, H6.out.1⟩
  · refine Stopped.mk ?_
    go_wp2_with fail
    clear y0 y1 y2 y3 y4 y5 y6 z0 z1 z2 z3 z4 z5 z6 u0 u1 u2 u3 u4 u5 u6
    go_loopg [13, 14, 15] 4 (fun g x y z wx => ∃ (j : Nat) (o : ByteArray) (c : Nat), j + g = 4 ∧ z = .int .i64 j ∧ x = .string o ∧ y = .int .i64 c ∧ o.size = 64 * j ∧ c ≤ j ∧ wx = w5 ∧ Hid (o.data.toList = mixN kp a.data.toList b.data.toList j ∧ c = cntN kp j))
    case atStart => exact ⟨0, ⟨#[]⟩, 0, rfl, rfl, rfl, rfl, rfl, Nat.le_refl _, rfl, rfl, rfl⟩
    case round =>
      obtain ⟨j, o, c, hj, rfl, rfl, rfl, hos, hcj, rfl, HS⟩ := hrel
      by_cases hlt : j < 4
      · have hlt' : (j : Int) < 4 := by omega
        obtain ⟨p, hp⟩ : ∃ a, a = 64 * j := ⟨_, rfl⟩
        obtain ⟨q, hq⟩ : ∃ b, b = p + 64 := ⟨_, rfl⟩
        have f1 : IntKind.i64.wrap (64 * (j : Int)) = (p : Int) := by rw [IntKind.wrap_i64]; omega
        have f2 : IntKind.i64.wrap ((p : Int) + 64) = (q : Int) := by rw [IntKind.wrap_i64]; omega
        have g1 : (q : Int) ≤ (a.size : Int) := by omega
        have g2 : (q : Int) ≤ (b.size : Int) := by omega
        have g3 : (p : Int) ≤ (q : Int) := by omega
        have g4 : ¬ 9223372036854775807 < o.size + (q - p) := by omega
        have hc : wr.cell? ⟨w.heap.size + 1 + 1, j, none⟩ = some (.bool (kp j)) := by
          have h2 := H4.out.2.1.2.2.blk.cell j
          rw [h2]; exact HK.out j hlt
        have hx : ∀ z : ByteArray, z.size = 256 → (z.extract p q).data.toList = (z.data.toList.drop (64 * j)).take 64 ∧ (z.extract p q).size = 64 := by
          intro z hz
          refine ⟨?_, by simp; omega⟩
          rw [cut_list, hp, hq, hp, List.drop_take]; congr 1; omega
        obtain ⟨xa, za⟩ := hx a l2
        obtain ⟨xb, zb⟩ := hx b m2
        obtain ⟨f, hf⟩ : ∃ f, f = kp j := ⟨_, rfl⟩
        rw [← hf] at hc
        have XA := hid xa; have XB := hid xb; have ZA := hid za; have ZB := hid zb; have HF := hid hf
        clear hp hq hx xa xb za zb hf
        cases f with
        | true =>
          go_wp2_with fail
          go_roundg (4 - (j + 1))
          case measure => omega
          case rel =>
            refine ⟨j + 1, o ++ b.extract p q, c + 1, by omega, by go_num, rfl, by go_num, ?_, by omega, rfl, ?_, ?_⟩
            · rw [show (o ++ b.extract p q).size = o.size + (b.extract p q).size by simp, ZB.out]; omega
            · rw [app_list, HS.out.1, XB.out]
              show _ = mixN kp _ _ j ++ ((if kp j then b.data.toList else a.data.toList).drop (64 * j)).take 64
              rw [← HF.out]; rfl
            · show c + 1 = cntN kp j + (if kp j then 1 else 0)
              rw [← HF.out, HS.out.2]; rfl
        | false =>
          go_wp2_with fail
          go_roundg (4 - (j + 1))
          case measure => omega
          case rel =>
            refine ⟨j + 1, o ++ a.extract p q, c, by omega, by go_num, rfl, rfl, ?_, by omega, rfl, ?_, ?_⟩
            · rw [show (o ++ a.extract p q).size = o.size + (a.extract p q).size by simp, ZA.out]; omega
            · rw [app_list, HS.out.1, XA.out]
              show _ = mixN kp _ _ j ++ ((if kp j then b.data.toList else a.data.toList).drop (64 * j)).take 64
              rw [← HF.out]; rfl
            · show c = cntN kp j + (if kp j then 1 else 0)
              rw [← HF.out, HS.out.2]; rfl
      · have hj4 : j = 4 := by omega
        subst hj4
        have hlt' : ¬ ((4 : Nat) : Int) < 4 := by omega
        have C6 := hid (fun w' => super_Read o w')
        have fin := back_fin HA3.out HB3.out HR.out HS.out hos
        rcases fin with ⟨rfl, hr⟩ | ⟨rfl, hr⟩ | ⟨n0, n4, hr⟩
        · rw [hr] at C6
          clear hr
          simp only [Sup.vals] at C6
          go_wp2_with fail
          refine (C6.out wr).mono ?_; rintro ee w6 ⟨rfl, hb1⟩
          have hA := below_alloc w6 (.cells #[.int .i64 xB, .int .i64 xE, .int .i64 xR, .int .i64 xF, .int .i64 xN, .int .i64 xI, .int .i64 xW] 45)
          have hN : R0 (w6.alloc (.cells #[.int .i64 xB, .int .i64 xE, .int .i64 xR, .int .i64 xF, .int .i64 xN, .int .i64 xI, .int .i64 xW] 45)) w6.heap.size 45 #[.int .i64 xB, .int .i64 xE, .int .i64 xR, .int .i64 xF, .int .i64 xN, .int .i64 xI, .int .i64 xW] := heap_alloc_new w6 _
          obtain ⟨g6, hg6⟩ : ∃ g, g = w6.heap.size := ⟨_, rfl⟩
          rw [← hg6] at hN
          have H6 := hid (And.intro (bt (bt H4.out.1 hb1) hA) (And.intro ((H4.out.2.1.below hb1).below hA) hN))
          have HG := hid hg6
          clear hb1 C6 hA hN hg6 H4
          go_wp2_with (with_reducible refine at_op (.load 45 (.tmp 16)) rfl ?_; refine Stopped.go ?_)
          rw [← HG.out]
          clear HG
          generalize w6.alloc (.cells #[.int .i64 xB, .int .i64 xE, .int .i64 xR, .int .i64 xF, .int .i64 xN, .int .i64 xI, .int .i64 xW] 45) = w7 at H6 ⊢
          obtain ⟨y0, y1, y2, y3, y4, y5, y6⟩ := cells7 H6.out.2.1.1.blk
          obtain ⟨z0, z1, z2, z3, z4, z5, z6⟩ := cells7 H6.out.2.1.2.1.blk
          obtain ⟨u0, u1, u2, u3, u4, u5, u6⟩ := cells7 H6.out.2.2.blk
          refine Stopped.mk ?_
          go_wp2_with fail
          go_ret
          exact ⟨rfl, H6.out.1⟩
        · rw [hr] at C6
          clear hr
          simp only [Sup.vals] at C6
          go_wp2_with fail
          refine (C6.out wr).mono ?_; rintro ee w6 ⟨rfl, hb1⟩
          have hA := below_alloc w6 (.cells #[.int .i64 yB, .int .i64 yE, .int .i64 yR, .int .i64 yF, .int .i64 yN, .int .i64 yI, .int .i64 yW] 45)
          have hN : R0 (w6.alloc (.cells #[.int .i64 yB, .int .i64 yE, .int .i64 yR, .int .i64 yF, .int .i64 yN, .int .i64 yI, .int .i64 yW] 45)) w6.heap.size 45 #[.int .i64 yB, .int .i64 yE, .int .i64 yR, .int .i64 yF, .int .i64 yN, .int .i64 yI, .int .i64 yW] := heap_alloc_new w6 _
          obtain ⟨g6, hg6⟩ : ∃ g, g = w6.heap.size := ⟨_, rfl⟩
          rw [← hg6] at hN
          have H6 := hid (And.intro (bt (bt H4.out.1 hb1) hA) (And.intro ((H4.out.2.1.below hb1).below hA) hN))
          have HG := hid hg6
          clear hb1 C6 hA hN hg6 H4
          go_wp2_with (with_reducible refine at_op (.load 45 (.tmp 16)) rfl ?_; refine Stopped.go ?_)
          rw [← HG.out]
          clear HG
          generalize w6.alloc (.cells #[.int .i64 yB, .int .i64 yE, .int .i64 yR, .int .i64 yF, .int .i64 yN, .int .i64 yI, .int .i64 yW] 45) = w7 at H6 ⊢
          obtain ⟨y0, y1, y2, y3, y4, y5, y6⟩ := cells7 H6.out.2.1.1.blk
          obtain ⟨z0, z1, z2, z3, z4, z5, z6⟩ := cells7 H6.out.2.1.2.1.blk
          obtain ⟨u0, u1, u2, u3, u4, u5, u6⟩ := cells7 H6.out.2.2.blk
          refine Stopped.mk ?_
          go_wp2_with fail
          go_ret
          exact ⟨rfl, H6.out.1⟩
        · rw [hr] at C6
          have z0 : ((c : Int) == 0) = false := by rw [beq_eq_false_iff_ne]; omega
          have z4 : ((c : Int) == 4) = false := by rw [beq_eq_false_iff_ne]; omega
          clear hr
          simp only [zeroSup, Sup.vals] at C6
          go_wp2_with fail
          refine (C6.out wr).mono ?_; rintro ee w6 ⟨rfl, hb1⟩
          have hA := below_alloc w6 (.cells #[.int .i64 0, .int .i64 0, .int .i64 0, .int .i64 0, .int .i64 0, .int .i64 0, .int .i64 0] 45)
          have hN : R0 (w6.alloc (.cells #[.int .i64 0, .int .i64 0, .int .i64 0, .int .i64 0, .int .i64 0, .int .i64 0, .int .i64 0] 45)) w6.heap.size 45 #[.int .i64 0, .int .i64 0, .int .i64 0, .int .i64 0, .int .i64 0, .int .i64 0, .int .i64 0] := heap_alloc_new w6 _
          obtain ⟨g6, hg6⟩ : ∃ g, g = w6.heap.size := ⟨_, rfl⟩
          rw [← hg6] at hN
          have H6 := hid (And.intro (bt (bt H4.out.1 hb1) hA) (And.intro ((H4.out.2.1.below hb1).below hA) hN))
          have HG := hid hg6
          clear hb1 C6 hA hN hg6 H4
          go_wp2_with (with_reducible refine at_op (.load 45 (.tmp 16)) rfl ?_; refine Stopped.go ?_)
          rw [← HG.out]
          clear HG
          generalize w6.alloc (.cells #[.int .i64 0, .int .i64 0, .int .i64 0, .int .i64 0, .int .i64 0, .int .i64 0, .int .i64 0] 45) = w7 at H6 ⊢
          obtain ⟨y0, y1, y2, y3, y4, y5, y6⟩ := cells7 H6.out.2.1.1.blk
          obtain ⟨z0, z1, z2, z3, z4, z5, z6⟩ := cells7 H6.out.2.1.2.1.blk
          obtain ⟨u0, u1, u2, u3, u4, u5, u6⟩ := cells7 H6.out.2.2.blk
          refine Stopped.mk ?_
          go_wp2_with fail
          go_ret
          exact ⟨rfl, H6.out.1⟩
theorem superBack_row (x0 x1 x2 x3 x4 x5 x6 y0 y1 y2 y3 y4 y5 y6 : Int) (b0 b1 b2 b3 : Bool) (w : World) (_ : (Lit.int .i64 x0).wf = true) (_ : (Lit.int .i64 x1).wf = true) (_ : (Lit.int .i64 x2).wf = true) (_ : (Lit.int .i64 x3).wf = true) (_ : (Lit.int .i64 x4).wf = true) (_ : (Lit.int .i64 x5).wf = true) (_ : (Lit.int .i64 x6).wf = true) (_ : (Lit.int .i64 y0).wf = true) (_ : (Lit.int .i64 y1).wf = true) (_ : (Lit.int .i64 y2).wf = true) (_ : (Lit.int .i64 y3).wf = true) (_ : (Lit.int .i64 y4).wf = true) (_ : (Lit.int .i64 y5).wf = true) (_ : (Lit.int .i64 y6).wf = true) :
    Calls Try.prog 8 #[.agg #[.int .i64 x0, .int .i64 x1, .int .i64 x2, .int .i64 x3, .int .i64 x4, .int .i64 x5, .int .i64 x6], .agg #[.int .i64 y0, .int .i64 y1, .int .i64 y2, .int .i64 y3, .int .i64 y4, .int .i64 y5, .int .i64 y6], .agg #[.bool b0, .bool b1, .bool b2, .bool b3]] w fun e w' => e = .returned (.bool true) ∧ Below w.heap.size w w' := superBack_walk ⟨x0, x1, x2, x3, x4, x5, x6⟩ ⟨y0, y1, y2, y3, y4, y5, y6⟩ b0 b1 b2 b3 w
end Go.Proofs.Ytjeoelhenlckaaa
