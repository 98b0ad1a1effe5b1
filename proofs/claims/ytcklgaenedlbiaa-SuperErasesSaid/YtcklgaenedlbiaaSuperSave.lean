/-
  Superblocks on a device, saved and erased: walked.
-/
import Derived.Test.YtcklgaenedlbiaaSuperDev
namespace Go.Proofs.Ytcklgaenedlbiaa
open Go.RowKit Go.Sort

def twoV (d : Dv) (x y : Nat × ByteArray) : Int × Dv := if (safeV d x).1 = 0 then safeV (safeV d x).2 y else safeV d x
def placeOf (s : Sup) : Nat := (s.epoch % 2).toNat
def saveV (d : Dv) (n : Nat) (s : Sup) : Int × Dv := if goodB s = true ∧ s.blocks = n then twoV d (placeOf s, zeros256) (placeOf s, (superLayV s).1) else (1, d)
def eraseV (d : Dv) (n : Nat) : Int × Dv := twoV { d with rd := d.rd + 2 } (1 - placeOf (bestV d n).1, zeros256) (placeOf (bestV d n).1, zeros256)
theorem twoV_room (d : Dv) (x y : Nat × ByteArray) : (twoV d x y).2.room ≤ d.room + 6 := by
  have h1 := safeV_room d x
  have h2 := safeV_room (safeV d x).2 y
  unfold twoV
  split <;> omega
theorem safeV_code (d : Dv) (x : Nat × ByteArray) : (safeV d x).1 = 0 ∨ (safeV d x).1 = 4 := by
  unfold safeV
  split
  · exact .inr rfl
  · simp only
    split
    · exact .inr rfl
    · exact .inl rfl
theorem best_epoch (d : Dv) (n k : Nat) : 0 ≤ (bestN d n k).epoch := by
  induction k with
  | zero => exact Int.le_refl _
  | succ k ih =>
    show 0 ≤ (bestP n (bestN d n k) k (d.read k)).epoch
    unfold bestP
    split
    · rename_i h
      obtain ⟨_, _, _, _, h1, _⟩ := good_facts (superRead_good h.1)
      omega
    · exact ih
theorem bestV_epoch (d : Dv) (n : Nat) : 0 ≤ (bestV d n).1.epoch ∧ ((bestV d n).2 = 0 ∨ (bestV d n).2 = 7) := by
  unfold bestV
  split
  · exact ⟨Int.le_refl _, .inr rfl⟩
  · exact ⟨best_epoch d n 2, .inl rfl⟩

set_option maxHeartbeats 16000000 in
set_option maxRecDepth 100000 in
theorem dv_Save {w0 w : World} {p n : Nat} {d : Dv} {F : List Nat} (h : Dev w0 w p n d F) (_hn : 2 ≤ n) (hroom : d.room ≤ 970) (s : Sup) :
    Calls Try.prog 34 #[.pointer (some ⟨p, 0, none⟩), .agg s.vals] w fun e w' => e = .returned (.int .i64 (saveV d n s).1) ∧ DPost w0 w w' p n (saveV d n s).2 F := by
  have HL := hid (fun w' => super_Lay s w')
  have hsz := h.at_.sizes
  have HW := hid (show w.heap.size ∉ F from fun hh => by have := hsz _ hh; omega)
  obtain ⟨V, hV⟩ : ∃ V, V = saveV d n s := ⟨_, rfl⟩
  rw [← hV]
  by_cases hg : goodB s = true
  case neg =>
    have hl : superLayV s = (⟨#[]⟩, 1) := by unfold superLayV; rw [if_neg hg]
    have hv : V = (1, d) := by rw [hV]; unfold saveV; rw [if_neg (fun h => hg h.1)]
    rw [hl] at HL
    have HV := hid hv
    have HD := hid h
    clear hV hl hv hg hsz h
    obtain ⟨B, E, R, Fr, N, I, W⟩ := s
    simp only [Sup.vals] at HL ⊢
    have HA := hid (below_alloc w (.cells #[.int .i64 B, .int .i64 E, .int .i64 R, .int .i64 Fr, .int .i64 N, .int .i64 I, .int .i64 W] 60))
    go_enter Try.func34, Try.ntmps34
    go_wp2_with fail
    refine (HL.out _).mono ?_; rintro e w1 ⟨rfl, hb1⟩
    have H1 := hid (show Dev w0 w1 p n d F ∧ Keeps F w w1 from ⟨HD.out.below (bt HA.out hb1), Keeps.of (bt HA.out hb1)⟩); clear hb1 HL
    go_wp2_with fail
    go_quiet (fail)
    go_wp2_with fail
    go_ret
    refine ⟨by rw [HV.out]; rfl, ?_⟩
    rw [HV.out]
    exact (DPost.same H1.out.1 H1.out.2).post (bdn1 (Below.refl _ _) _)
  obtain ⟨h1, h2, _⟩ := superRead_laid hg
  obtain ⟨_, _, _, _, he1, _⟩ := good_facts hg
  obtain ⟨blk, hblk⟩ : ∃ b, b = (superLayV s).1 := ⟨_, rfl⟩
  have hbl2 : superLayV s = (blk, 0) := by rw [hblk, h1]
  rw [← hblk] at h2
  rw [hbl2] at HL
  obtain ⟨a, ha⟩ : ∃ a, a = placeOf s := ⟨_, rfl⟩
  have ha2 : a < 2 ∧ s.epoch % 2 = (a : Int) := by rw [ha]; unfold placeOf; omega
  have HAT := hid (fun w' => super_at s (by omega) w')
  rw [ha2.2] at HAT
  by_cases hB : s.blocks = (n : Int)
  case neg =>
    have hv : V = (1, d) := by rw [hV]; unfold saveV; rw [if_neg (fun h => hB h.2)]
    have HV := hid hv
    have HD := hid h
    clear hV hv hg hsz h h1 h2 hbl2 hblk ha he1
    obtain ⟨B, E, R, Fr, N, I, W⟩ := s
    simp only [Sup.vals] at HL ⊢
    simp only at hB
    have hq : (B == (n : Int)) = false := by rw [beq_eq_false_iff_ne]; exact hB
    have HA := hid (below_alloc w (.cells #[.int .i64 B, .int .i64 E, .int .i64 R, .int .i64 Fr, .int .i64 N, .int .i64 I, .int .i64 W] 60))
    have HN := hid (show R0 (w.alloc (.cells #[.int .i64 B, .int .i64 E, .int .i64 R, .int .i64 Fr, .int .i64 N, .int .i64 I, .int .i64 W] 60)) w.heap.size 60 #[.int .i64 B, .int .i64 E, .int .i64 R, .int .i64 Fr, .int .i64 N, .int .i64 I, .int .i64 W] from heap_alloc_new w _)
    go_enter Try.func34, Try.ntmps34
    go_wp2_with fail
    refine (HL.out _).mono ?_; rintro e w1 ⟨rfl, hb1⟩
    have H1 := hid (show Dev w0 w1 p n d F ∧ Keeps F w w1 ∧ R0 w1 w.heap.size 60 #[.int .i64 B, .int .i64 E, .int .i64 R, .int .i64 Fr, .int .i64 N, .int .i64 I, .int .i64 W] from ⟨HD.out.below (bt HA.out hb1), Keeps.of (bt HA.out hb1), HN.out.belowS hb1⟩); clear hb1 HL
    have I1 : Hid (∀ dd os, Calls Try.prog 30 #[.pointer (some ⟨p, 0, none⟩)] (grow (redrawn w1 dd) os) fun e w' => e = .returned (.int .i64 n) ∧ Below (grow (redrawn w1 dd) os).heap.size (grow (redrawn w1 dd) os) w') := fun dd os =>
      (dev_Len (grow (redrawn w1 dd) os) p _ F (H1.out.1.below (below_regrown w1 dd os)).at_ n H1.out.1.ok).mono fun e w' ⟨he, hw⟩ => ⟨he, hw ▸ Below.refl _ _⟩
    have m0 := fun dd os => (cells7 (H1.out.2.2.blk.belowS (below_regrown w1 dd os))).1
    go_wp2_with fail
    refine wp_region_quiet_below (by kernel_rfl) (by kernel_rfl) ?_
    repeat (go_big_quiet_step (with_reducible exact Calls.regrown_of (I1.out _ _)))
    refine wpQuiet_nil ?_
    intro _ hw'
    obtain ⟨⟨dq, osq⟩, hw''⟩ := hw'
    subst hw''
    clear m0
    go_wp2_with fail
    go_ret
    refine ⟨by rw [HV.out]; rfl, ?_⟩
    rw [HV.out]
    exact (DPost.same H1.out.1 H1.out.2.1).post (below_regrown w1 dq osq)
  have hv : V = twoV d (a, zeros256) (a, blk) := by rw [hV]; unfold saveV; rw [if_pos ⟨hg, hB⟩, ← ha, ← hblk]
  obtain ⟨⟨c1, d1⟩, hs1⟩ : ∃ r, r = safeV d (a, zeros256) := ⟨_, rfl⟩
  have hrm := safeV_room d (a, zeros256)
  have hcd := safeV_code d (a, zeros256)
  unfold twoV at hv
  rw [← hs1] at hv hrm hcd
  simp only at hv hrm hcd
  have HBL := hid (fun w1 (hb : Below w.heap.size w w1) => dv_blank (h.below hb) a (by omega) (by omega))
  rw [← hs1] at HBL
  simp only at HBL
  have HV := hid hv; have HH2 := hid h2; have HRM := hid hrm
  have hEN : s.blocks = (n : Int) := hB
  clear hV hv hg hsz h1 h2 hbl2 hblk ha he1 hs1 hrm
  obtain ⟨B, E, R, Fr, N, I, W⟩ := s
  simp only [Sup.vals] at HL HAT ⊢
  simp only at hEN
  subst hEN
  have HD := hid h; clear h hB
  have HA := hid (below_alloc w (.cells #[.int .i64 (n : Int), .int .i64 E, .int .i64 R, .int .i64 Fr, .int .i64 N, .int .i64 I, .int .i64 W] 60))
  have HN := hid (show R0 (w.alloc (.cells #[.int .i64 (n : Int), .int .i64 E, .int .i64 R, .int .i64 Fr, .int .i64 N, .int .i64 I, .int .i64 W] 60)) w.heap.size 60 #[.int .i64 (n : Int), .int .i64 E, .int .i64 R, .int .i64 Fr, .int .i64 N, .int .i64 I, .int .i64 W] from heap_alloc_new w _)
  go_enter Try.func34, Try.ntmps34
  go_wp2_with fail
  refine (HL.out _).mono ?_; rintro e w1 ⟨rfl, hb1⟩
  have H1 := hid (And.intro (bt HA.out hb1) (HN.out.belowS hb1)); clear hb1 HL
  have I1 : Hid (∀ dd os, Calls Try.prog 30 #[.pointer (some ⟨p, 0, none⟩)] (grow (redrawn w1 dd) os) fun e w' => e = .returned (.int .i64 n) ∧ Below (grow (redrawn w1 dd) os).heap.size (grow (redrawn w1 dd) os) w') := fun dd os =>
    (dev_Len (grow (redrawn w1 dd) os) p _ F (HD.out.below (bt H1.out.1 (below_regrown w1 dd os))).at_ n HD.out.ok).mono fun e w' ⟨he, hw⟩ => ⟨he, hw ▸ Below.refl _ _⟩
  have m0 := fun dd os => (cells7 (H1.out.2.blk.belowS (below_regrown w1 dd os))).1
  go_wp2_with fail
  refine wp_region_quiet_below (by kernel_rfl) (by kernel_rfl) ?_
  repeat (go_big_quiet_step (with_reducible exact Calls.regrown_of (I1.out _ _)))
  refine wpQuiet_nil ?_
  intro _ hw'
  obtain ⟨⟨dq, osq⟩, hw''⟩ := hw'
  subst hw''
  clear m0 I1
  have H2 := hid (And.intro (bt H1.out.1 (below_regrown w1 dq osq)) (H1.out.2.belowS (below_regrown w1 dq osq)))
  clear H1
  generalize grow (redrawn w1 dq) osq = w2 at H2 ⊢
  obtain ⟨y0, y1, y2, y3, y4, y5, y6⟩ := cells7 H2.out.2.blk
  go_wp2_with fail
  refine (HAT.out w2).mono ?_; rintro e w3 ⟨rfl, hb3⟩
  have H3 := hid (And.intro (bt H2.out.1 hb3) (H2.out.2.belowS hb3)); clear hb3 H2 y0 y1 y2 y3 y4 y5 y6
  go_wp2_with fail
  refine (HBL.out w3 H3.out.1).mono ?_; rintro e w4 ⟨rfl, hP4⟩
  obtain ⟨F4, hD4, hk4, hF4⟩ := hP4
  have H4 := hid (And.intro hD4 (And.intro (H3.out.2.keeps hk4 HW.out) (And.intro ((Keeps.of H3.out.1).trans hk4) (fun k hk => (hF4 k hk).imp id (fun hh => Nat.le_trans H3.out.1.size hh)))))
  clear hD4 hk4 hF4 H3 HBL
  rcases hcd with rfl | rfl
  case inr =>
    go_wp2_with fail
    go_ret
    refine ⟨by rw [HV.out]; rfl, ?_⟩
    rw [HV.out]
    exact ⟨F4, H4.out.1, H4.out.2.2.1, H4.out.2.2.2⟩
  obtain ⟨⟨c2, d2⟩, hs2⟩ : ∃ r, r = safeV d1 (a, blk) := ⟨_, rfl⟩
  have hv := HV.out
  rw [if_pos rfl, ← hs2] at hv
  have HS := hid (fun w1 (hb : Below w4.heap.size w4 w1) => dv_safe (H4.out.1.below hb) a blk (by omega) HH2.out (by have := HRM.out; omega))
  rw [← hs2] at HS
  simp only at HS
  have HV2 := hid hv
  clear hv hs2 HV HRM
  obtain ⟨y0, y1, y2, y3, y4, y5, y6⟩ := cells7 H4.out.2.1.blk
  go_wp2_with fail
  refine (HAT.out w4).mono ?_; rintro e w5 ⟨rfl, hb5⟩
  have H5 := hid hb5; clear hb5 y0 y1 y2 y3 y4 y5 y6
  go_wp2_with fail
  refine (HS.out w5 H5.out).mono ?_; rintro e w6 ⟨rfl, hP6⟩
  have H6 := hid (DPost.step H4.out.2.2.1 H4.out.2.2.2 (hP6.pre H5.out)); clear hP6 HS
  go_wp2_with fail
  go_ret
  refine ⟨by rw [HV2.out]; rfl, ?_⟩
  rw [HV2.out]
  exact H6.out

set_option maxHeartbeats 16000000 in
set_option maxRecDepth 100000 in
theorem dv_Erase {w0 w : World} {p n : Nat} {d : Dv} {F : List Nat} (h : Dev w0 w p n d F) (hn : 2 ≤ n) (hof : d.off = false) (hroom : d.room ≤ 960) :
    Calls Try.prog 36 #[.pointer (some ⟨p, 0, none⟩)] w fun e w' => e = .returned (.int .i64 (eraseV d n).1) ∧ DPost w0 w w' p n (eraseV d n).2 F := by
  have HBE := hid (dv_Best h hn hof (by omega))
  have hsz := h.at_.sizes
  have HW := hid (fun x (hx : w.heap.size ≤ x) => show x ∉ F from fun hh => by have := hsz _ hh; omega)
  obtain ⟨V, hV⟩ : ∃ V, V = eraseV d n := ⟨_, rfl⟩
  rw [← hV]
  have hv := hV
  unfold eraseV twoV at hv
  obtain ⟨hep, hcode⟩ := bestV_epoch d n
  obtain ⟨⟨s, code⟩, hs⟩ : ∃ r, r = bestV d n := ⟨_, rfl⟩
  rw [← hs] at hep hcode HBE hv
  simp only at hep hcode HBE hv
  obtain ⟨a, ha⟩ : ∃ a, a = placeOf s := ⟨_, rfl⟩
  have ha2 : a < 2 ∧ s.epoch % 2 = (a : Int) := by rw [ha]; unfold placeOf; omega
  have HAT := hid (fun w' => super_at s hep w')
  rw [ha2.2] at HAT
  rw [← ha] at hv
  obtain ⟨d0, hd0⟩ : ∃ d0, d0 = { d with rd := d.rd + 2 } := ⟨_, rfl⟩
  have hr0 : d0.room ≤ 970 := by rw [hd0]; unfold Dv.room at hroom ⊢; simp only; omega
  rw [← hd0] at hv HBE
  obtain ⟨b, hb⟩ : ∃ b, b = 1 - a := ⟨_, rfl⟩
  have e1 : IntKind.i64.wrap (1 - (a : Int)) = (b : Int) := by rw [IntKind.wrap_i64]; omega
  rw [← hb] at hv
  obtain ⟨⟨c1, d1⟩, hs1⟩ : ∃ r, r = safeV d0 (b, zeros256) := ⟨_, rfl⟩
  have hrm := safeV_room d0 (b, zeros256)
  have hcd := safeV_code d0 (b, zeros256)
  rw [← hs1] at hv hrm hcd
  simp only at hv hrm hcd
  have HV := hid hv; have HRM := hid hrm; have HS1 := hid hs1; have HR0 := hid hr0; have HBB := hid (show b < n by omega)
  have HEP := hid hep
  clear hV hv hsz h hep hs ha hd0 hb hs1 hrm hr0 hroom
  obtain ⟨B, E, R, Fr, N, I, W⟩ := s
  simp only [Sup.vals] at HBE HAT
  go_enter Try.func36, Try.ntmps36
  go_wp2_with fail
  refine HBE.out.mono ?_; rintro e w1 ⟨rfl, hD1, hk1⟩
  have hA := below_alloc w1 (.cells #[.int .i64 B, .int .i64 E, .int .i64 R, .int .i64 Fr, .int .i64 N, .int .i64 I, .int .i64 W] 60)
  have hN : R0 (w1.alloc (.cells #[.int .i64 B, .int .i64 E, .int .i64 R, .int .i64 Fr, .int .i64 N, .int .i64 I, .int .i64 W] 60)) w1.heap.size 60 #[.int .i64 B, .int .i64 E, .int .i64 R, .int .i64 Fr, .int .i64 N, .int .i64 I, .int .i64 W] := heap_alloc_new w1 _
  obtain ⟨g3, hg3⟩ : ∃ g, g = w1.heap.size := ⟨_, rfl⟩
  have hgw : w.heap.size ≤ g3 := by rw [hg3]; exact hk1.size
  rw [← hg3] at hN
  have H1 := hid (show Dev w0 (w1.alloc (.cells #[.int .i64 B, .int .i64 E, .int .i64 R, .int .i64 Fr, .int .i64 N, .int .i64 I, .int .i64 W] 60)) p n d0 F ∧ Keeps F w (w1.alloc (.cells #[.int .i64 B, .int .i64 E, .int .i64 R, .int .i64 Fr, .int .i64 N, .int .i64 I, .int .i64 W] 60)) ∧ R0 (w1.alloc (.cells #[.int .i64 B, .int .i64 E, .int .i64 R, .int .i64 Fr, .int .i64 N, .int .i64 I, .int .i64 W] 60)) g3 60 #[.int .i64 B, .int .i64 E, .int .i64 R, .int .i64 Fr, .int .i64 N, .int .i64 I, .int .i64 W] from ⟨hD1.below hA, hk1.trans (Keeps.of hA), hN⟩)
  have HG := hid hg3
  clear hD1 hk1 hA hN hg3 HBE
  have hc7 : ((code != 0) && (code != 7)) = false := by rcases hcode with rfl | rfl <;> rfl
  rcases hcode with rfl | rfl
  all_goals
    go_wp2_with (with_reducible refine at_op (.load 60 (.tmp 3)) rfl ?_; refine Stopped.go ?_)
    rw [← HG.out]
    generalize w1.alloc (.cells #[.int .i64 B, .int .i64 E, .int .i64 R, .int .i64 Fr, .int .i64 N, .int .i64 I, .int .i64 W] 60) = w2 at H1 ⊢
    obtain ⟨y0, y1, y2, y3, y4, y5, y6⟩ := cells7 H1.out.2.2.blk
    refine Stopped.mk ?_
    go_wp2_with fail
    refine (HAT.out w2).mono ?_; rintro e w3 ⟨rfl, hb3⟩
    have H3 := hid (show Dev w0 w3 p n d0 F ∧ Keeps F w w3 ∧ R0 w3 g3 60 #[.int .i64 B, .int .i64 E, .int .i64 R, .int .i64 Fr, .int .i64 N, .int .i64 I, .int .i64 W] from ⟨H1.out.1.below hb3, H1.out.2.1.trans (Keeps.of hb3), H1.out.2.2.belowS hb3⟩); clear hb3 H1 y0 y1 y2 y3 y4 y5 y6
    have HBL := hid (dv_blank H3.out.1 b HBB.out (by have := HR0.out; omega))
    rw [← HS1.out] at HBL
    simp only at HBL
    go_wp2_with fail
    refine HBL.out.mono ?_; rintro e w4 ⟨rfl, hP4⟩
    obtain ⟨F4, hD4, hk4, hF4⟩ := hP4
    have H4 := hid (And.intro hD4 (And.intro (H3.out.2.2.keeps hk4 (HW.out g3 hgw)) (And.intro (H3.out.2.1.trans hk4) (fun k hk => (hF4 k hk).imp id (fun hh => Nat.le_trans H3.out.2.1.size hh)))))
    clear hD4 hk4 hF4 H3 HBL
    rcases hcd with rfl | rfl
    case inr =>
      go_wp2_with fail
      go_ret
      refine ⟨by rw [HV.out]; rfl, ?_⟩
      rw [HV.out]
      exact ⟨F4, H4.out.1, H4.out.2.2.1, H4.out.2.2.2⟩
    obtain ⟨⟨c2, d2⟩, hs2⟩ : ∃ r, r = safeV d1 (a, zeros256) := ⟨_, rfl⟩
    have hv := HV.out
    rw [if_pos rfl, ← hs2] at hv
    have HS := hid (fun w1 (hb : Below w4.heap.size w4 w1) => dv_blank (H4.out.1.below hb) a (by omega) (by have := HRM.out; have := HR0.out; omega))
    rw [← hs2] at HS
    simp only at HS
    have HV2 := hid hv
    clear hv hs2 HV HRM
    obtain ⟨y0, y1, y2, y3, y4, y5, y6⟩ := cells7 H4.out.2.1.blk
    go_wp2_with fail
    refine (HAT.out w4).mono ?_; rintro e w5 ⟨rfl, hb5⟩
    have H5 := hid hb5; clear hb5 y0 y1 y2 y3 y4 y5 y6
    go_wp2_with fail
    refine (HS.out w5 H5.out).mono ?_; rintro e w6 ⟨rfl, hP6⟩
    have H6 := hid (DPost.step H4.out.2.2.1 H4.out.2.2.2 (hP6.pre H5.out)); clear hP6 HS
    go_wp2_with fail
    go_ret
    refine ⟨by rw [HV2.out]; rfl, ?_⟩
    rw [HV2.out]
    exact H6.out
end Go.Proofs.Ytcklgaenedlbiaa
