/-
  SuperSaves: walked.
-/
import Derived.Test.YtjeoelhenlckaaaSuperLaid
namespace Go.Proofs.Ytjeoelhenlckaaa
open Go.RowKit Go.Sort

def supCells (s : Sup) : List Value := s.vals.toList
theorem sup_at : ∀ (l : List Sup) (i j : Nat) (x : Sup) (v : Value), l[i]? = some x → (supCells x)[j]? = some v → (l.flatMap supCells)[i * 7 + j]? = some v
  | y :: l, 0, j, x, v, h, hv => by
    simp only [List.getElem?_cons_zero, Option.some.injEq] at h
    subst h
    rw [List.flatMap_cons, List.getElem?_append_left (by have := (List.getElem?_eq_some_iff.1 hv).1; omega)]
    rw [Nat.zero_mul, Nat.zero_add]; exact hv
  | y :: l, i + 1, j, x, v, h, hv => by
    rw [List.getElem?_cons_succ] at h
    have ih := sup_at l i j x v h hv
    rw [List.flatMap_cons, List.getElem?_append_right (by show 7 ≤ _; omega)]
    rw [show (i + 1) * 7 + j - (supCells y).length = i * 7 + j by show (i + 1) * 7 + j - 7 = _; omega]
    exact ih
theorem again_room (d : Dv) (keep : List Bool) : (again d keep).room ≤ d.room := by
  have h := d.cut_same keep
  have h2 : (again d keep).loose = (d.cut keep).loose ∧ (again d keep).rd = (d.cut keep).rd ∧ (again d keep).wr = (d.cut keep).wr ∧ (again d keep).fl = (d.cut keep).fl := by
    unfold again Dv.come
    split <;> exact ⟨rfl, rfl, rfl, rfl⟩
  unfold Dv.room
  rw [h2.1, h2.2.1, h2.2.2.1, h2.2.2.2]
  omega
theorem save_round {d : Dv} {s : Sup} (h : Still 64 d) (hg : goodB s = true) (hb : s.blocks = 64) (he : s.epoch = (best2 64 (blkL d.safe)).epoch + 1) (keep : List Bool) :
    ∃ c d2, saveV d 64 s = (c, d2) ∧ Still 64 (again d2 keep) ∧ (again d2 keep).fuse < 0 ∧ (again d2 keep).room ≤ d.room + 6 ∧
      ((c = 0 ∧ best2 64 (blkL (again d2 keep).safe) = s) ∨ (c = 4 ∧ d2.off = true ∧ 0 ≤ d.fuse ∧ (best2 64 (blkL (again d2 keep).safe) = s ∨ best2 64 (blkL (again d2 keep).safe) = best2 64 (blkL d.safe)))) := by
  have hr := saveV_room d 64 s
  have hr2 := again_room (saveV d 64 s).2 keep
  have hp := place_lt s
  have hsv := fun B' hs => best_saved (n := 64) (B := blkL d.safe) (B' := B') hg hb he hs
  rcases saveV_still h (by decide) hg hb with ⟨c, st, _, _, o, w⟩ | ⟨c, st, hf, o, w⟩
  · obtain ⟨a1, a2, a3⟩ := st.again keep
    refine ⟨0, (saveV d 64 s).2, Prod.ext c rfl, a1, a2, by omega, .inl ⟨rfl, ?_⟩⟩
    rw [a3]
    exact (hsv _ (fun i hi hne => o i (by omega) hne)).2 w
  · obtain ⟨a1, a2, a3⟩ := st.again keep
    refine ⟨4, (saveV d 64 s).2, Prod.ext c rfl, a1, a2, by omega, .inr ⟨rfl, st.off, hf, ?_⟩⟩
    rw [a3]
    have h2 := hsv _ (fun i hi hne => o i (by omega) hne)
    rcases w with w | w | w
    · exact .inr (h2.1 (.inl w))
    · exact .inr (h2.1 (.inr w))
    · exact .inl (h2.2 w)
theorem bestP_good {n : Nat} {acc : Sup} (h : acc.epoch = 0 ∨ goodB acc = true ∧ acc.blocks = n) (k : Nat) (b : ByteArray) : (bestP n acc k b).epoch = 0 ∨ goodB (bestP n acc k b) = true ∧ (bestP n acc k b).blocks = n := by
  unfold bestP
  split
  · rename_i hc
    exact .inr ⟨superRead_good hc.1, hc.2.1⟩
  · exact h
theorem best2_good (n : Nat) (B : Nat → List UInt8) : (best2 n B).epoch = 0 ∨ goodB (best2 n B) = true ∧ (best2 n B).blocks = n := bestP_good (bestP_good (.inl rfl) _ _) _ _
/-- what Best tells -/
theorem bestO_told (n : Nat) (B : Nat → List UInt8) : 0 ≤ (bestO (best2 n B)).1.epoch ∧ (bestO (best2 n B)).1.epoch ≤ 2147483647 ∧ (((bestO (best2 n B)).2 = 0 ∧ (bestO (best2 n B)).1.blocks = n) ∨ (bestO (best2 n B)).2 = 7) := by
  have hge := best2_ge n B
  rcases best2_good n B with h | ⟨h1, h2⟩
  · unfold bestO; rw [if_pos h]; exact ⟨Int.le_refl _, by show (0 : Int) ≤ _; decide, .inr rfl⟩
  · obtain ⟨_, _, _, _, he1, he2, _⟩ := good_facts h1
    rw [bestO_good (by omega)]
    exact ⟨hge, he2, .inl ⟨rfl, h2⟩⟩
/-- at the head of a round -/
structure Rnd (w wx : World) (p g : Nat) (d : Dv) (F : List Nat) (i : Nat) (e : Int) : Prop where
  st : St w wx p d F [(g, (bestO (best2 64 (blkL d.safe))).1.vals)]
  code : e = (bestO (best2 64 (blkL d.safe))).2
  still : Still 64 d
  fuse : d.fuse < 0
  room : d.room ≤ 10 + 10 * i
theorem neq_epoch {a b : Int} (h : b = a + 1) : (a == b) = false := by rw [beq_eq_false_iff_ne]; omega

set_option maxHeartbeats 32000000 in
set_option maxRecDepth 100000 in
theorem superSaves_walk (a b : ByteArray) (A : Option Addr) (cap : Nat) (xs : List Sup) (FA : Option Addr) (fcap : Nat) (fs : List Int) (KA : Option Addr) (kcap : Nat) (keep : List Bool) (w : World)
    (hr : Row w A (xs.flatMap supCells)) (hfr : Row w FA (i64s fs)) (hkr : Row w KA (bools keep)) :
    Calls Try.prog 10 #[.string a, .string b, .slice A xs.length cap, .slice FA fs.length fcap, .slice KA keep.length kcap] w fun e w' => e = .returned (.bool true) ∧ Below w.heap.size w w' := by
  have HR := hid hr; have HFR := hid hfr; have HKR := hid hkr
  clear hr hfr hkr
  by_cases h6 : 6 < xs.length
  · have h6' : (6 : Int) < (xs.length : Int) := by omega
    go_enter Try.func10, Try.ntmps10
    go_wp2_with fail
    refine (awake21_any _).mono ?_; rintro ee w1 ⟨rfl, hb1⟩
    have H1 := hid hb1; clear hb1
    go_wp2_with fail
    go_ret
    exact ⟨rfl, H1.out⟩
  have h6' : ¬ (6 : Int) < (xs.length : Int) := by omega
  by_cases h40 : 40 < keep.length
  · have h40' : (40 : Int) < (keep.length : Int) := by omega
    go_enter Try.func10, Try.ntmps10
    go_wp2_with fail
    refine (awake21_any _).mono ?_; rintro ee w1 ⟨rfl, hb1⟩
    have H1 := hid hb1; clear hb1
    go_wp2_with fail
    go_ret
    exact ⟨rfl, H1.out⟩
  have h40' : ¬ (40 : Int) < (keep.length : Int) := by omega
  by_cases hab : a.size = 256 ∧ b.size = 256
  case neg =>
    have HL := hid (fun w' => law21_laid_no w' a b (by omega))
    clear hab
    go_enter Try.func10, Try.ntmps10
    go_wp2_with fail
    refine (awake21_any _).mono ?_; rintro ee w1 ⟨rfl, hb1⟩
    have H1 := hid hb1; clear hb1
    go_wp2_with fail
    refine (HL.out w1).mono ?_; rintro ee w2 ⟨rfl, hb1⟩
    have H2 := hid (bt H1.out hb1); clear hb1 H1 HL
    go_wp2_with fail
    go_ret
    exact ⟨rfl, H2.out⟩
  obtain ⟨st0, fu0, -, -, rm0⟩ := laid_still hab.1 hab.2
  have HAB := hid hab; have HST0 := hid st0; have HFU0 := hid fu0; have HRM0 := hid rm0
  clear hab st0 fu0 rm0
  go_enter Try.func10, Try.ntmps10
  go_wp2_with fail
  refine (awake21_any _).mono ?_; rintro ee w1 ⟨rfl, hb1⟩
  have H1 := hid hb1; clear hb1
  go_wp2_with fail
  refine (law21_laid H1.out a b HAB.out.1 HAB.out.2).mono ?_; rintro ee w2 ⟨p, F, rfl, hD2, _, _⟩
  have hC := dv_Best hD2 (by decide) HST0.out.on (by have := HRM0.out; omega)
  rw [HST0.out.best] at hC
  obtain ⟨d0, hd0⟩ : ∃ d, d = { laidV a b with rd := (laidV a b).rd + 2 } := ⟨_, rfl⟩
  rw [← hd0] at hC
  have hs0 : d0.safe = (laidV a b).safe := by rw [hd0]
  rw [← hs0] at hC
  have st1 : Still 64 d0 := by rw [hd0]; exact HST0.out.rd _
  have fu1 : d0.fuse < 0 := by rw [hd0]; exact HFU0.out
  have rm1 : d0.room ≤ 10 := by have := HRM0.out; rw [hd0]; unfold Dv.room at this ⊢; (try simp only); omega
  obtain ⟨⟨bs, e0⟩, hbo⟩ : ∃ x, x = bestO (best2 64 (blkL d0.safe)) := ⟨_, rfl⟩
  rw [← hbo] at hC
  have HC := hid hC; have HST1 := hid st1; have HFU1 := hid fu1; have HRM1 := hid rm1; have HBO := hid hbo
  clear hC hd0 hs0 st1 fu1 rm1 hbo HST0 HFU0 HRM0 HAB H1
  obtain ⟨bB, bE, bR, bF, bN, bI, bW⟩ := bs
  simp only [Sup.vals] at HC
  go_wp2_with fail
  refine HC.out.mono ?_; rintro ee w3 ⟨rfl, hD3, hk3⟩
  have hst : St w w3 p d0 F [] := ⟨hD3, fun x hx => by cases hx⟩
  have hst2 := hst.push #[.int .i64 bB, .int .i64 bE, .int .i64 bR, .int .i64 bF, .int .i64 bN, .int .i64 bI, .int .i64 bW]
  obtain ⟨g, hg⟩ : ∃ g, g = w3.heap.size := ⟨_, rfl⟩
  rw [← hg] at hst2
  have H3 := hid hst2; have HG := hid hg
  clear hst hst2 hg hD3 hk3 hD2 HC
  go_wp2_with fail
  rw [← HG.out]
  clear HG
  generalize w3.alloc (.cells #[.int .i64 bB, .int .i64 bE, .int .i64 bR, .int .i64 bF, .int .i64 bN, .int .i64 bI, .int .i64 bW] 45) = w4 at H3 ⊢
  have HRND : Hid (∃ F, Rnd w w4 p g d0 F 0 e0) := ⟨F, ⟨by rw [← HBO.out]; exact H3.out, by rw [← HBO.out], HST1.out, HFU1.out, by have := HRM1.out; omega⟩⟩
  clear H3 HST1 HFU1 HRM1 HBO
  go_loopg [14, 15] xs.length (fun k v14 v15 wx => ∃ (i : Nat) (e : Int) (d : Dv), i + k = xs.length ∧ v14 = .int .i64 e ∧ v15 = .int .i64 i ∧ Hid (∃ F, Rnd w wx p g d F i e))
  case atStart => exact ⟨0, e0, d0, by omega, rfl, rfl, HRND.out⟩
  case round =>
    clear HRND
    obtain ⟨i, e, d, hik, rfl, rfl, HS⟩ := hrel
    by_cases hlt : i < xs.length
    case neg =>
      have hlt' : ¬ (i : Int) < (xs.length : Int) := by omega
      go_wp2_with fail
      go_ret
      exact ⟨rfl, HS.out.choose_spec.st.dev.bel⟩
    have hlt' : (i : Int) < (xs.length : Int) := by omega
    obtain ⟨F, hrnd⟩ := HS.out
    obtain ⟨hst, hcode, hstill, hfuse, hroom⟩ := hrnd
    obtain ⟨t1, t2, t3⟩ := bestO_told 64 (blkL d.safe)
    have hbe := bestO_epoch (best2 64 (blkL d.safe))
    obtain ⟨⟨bs, e'⟩, hbo⟩ : ∃ x, x = bestO (best2 64 (blkL d.safe)) := ⟨_, rfl⟩
    rw [← hbo] at hst hcode t1 t2 t3 hbe
    simp only at hst hcode t1 t2 t3 hbe
    subst hcode
    obtain ⟨bB, bE, bR, bF, bN, bI, bW⟩ := bs
    simp only [Sup.vals] at hst t1 t2 t3 hbe
    obtain ⟨bl, off, rfl, hbl, hc⟩ := row_cell HR.out (by intro e; have h := sup_at xs i 0 xs[i] (.int .i64 xs[i].blocks) (by simp [hlt]) rfl; rw [e] at h; cases h)
    obtain ⟨s, hs⟩ : ∃ s, s = xs[i] := ⟨_, rfl⟩
    have hxi : xs[i]? = some s := by rw [hs]; simp [hlt]
    obtain ⟨sB, sE, sR, sF, sN, sI, sW⟩ := s
    have hcl : Hid (∀ wx, Below w.heap.size w wx → wx.cell? ⟨bl, off + i * 7, none⟩ = some (.int .i64 sB) ∧ wx.cell? ⟨bl, off + i * 7 + 1, none⟩ = some (.int .i64 sE) ∧ wx.cell? ⟨bl, off + i * 7 + 2, none⟩ = some (.int .i64 sR) ∧ wx.cell? ⟨bl, off + i * 7 + 3, none⟩ = some (.int .i64 sF) ∧ wx.cell? ⟨bl, off + i * 7 + 4, none⟩ = some (.int .i64 sN) ∧ wx.cell? ⟨bl, off + i * 7 + 5, none⟩ = some (.int .i64 sI) ∧ wx.cell? ⟨bl, off + i * 7 + 6, none⟩ = some (.int .i64 sW)) := by
      intro wx hbx
      have h : ∀ j v, (supCells ⟨sB, sE, sR, sF, sN, sI, sW⟩)[j]? = some v → wx.cell? ⟨bl, off + i * 7 + j, none⟩ = some v := fun j v hv => by
        rw [Nat.add_assoc]
        exact (hbx.cell (p := ⟨bl, off + (i * 7 + j), none⟩) hbl).trans (hc (i * 7 + j) v (sup_at xs i j _ v hxi hv))
      exact ⟨h 0 _ rfl, h 1 _ rfl, h 2 _ rfl, h 3 _ rfl, h 4 _ rfl, h 5 _ rfl, h 6 _ rfl⟩
    obtain ⟨y0, y1, y2, y3, y4, y5, y6⟩ := hcl.out _ hst.dev.bel
    obtain ⟨nE, hnE⟩ : ∃ x, x = bE + 1 := ⟨_, rfl⟩
    have e1 : IntKind.i64.wrap (bE + 1) = nE := by rw [IntKind.wrap_i64]; omega
    have hst2 := hst.push #[.int .i64 sB, .int .i64 sE, .int .i64 sR, .int .i64 sF, .int .i64 sN, .int .i64 sI, .int .i64 sW]
    obtain ⟨g2, hg2⟩ : ∃ g, g = wr.heap.size := ⟨_, rfl⟩
    rw [← hg2] at hst2
    have hgg : g ≠ g2 := by have := (hst.box (g, #[.int .i64 bB, .int .i64 bE, .int .i64 bR, .int .i64 bF, .int .i64 bN, .int .i64 bI, .int .i64 bW]) (by simp)).2.2.lt; simp only at this; omega
    have H2 := hid hst2; have HG2 := hid hg2; have HGG := hid hgg
    have HT := hid (And.intro t1 (And.intro t2 (And.intro t3 hbe)))
    have HSTL := hid hstill; have HFUS := hid hfuse; have HROOM := hid hroom; have HBO := hid hbo; have HNE := hid hnE; have HBEL := hid hst.dev.bel
    clear hnE hst hst2 hg2 hgg t1 t2 t3 hbe hstill hfuse hroom hbo hs hxi hcl hc HS
    go_wp2_with (with_reducible refine at_op (.fieldAddr 45 (.tmp 16) 0) rfl ?_; refine Stopped.go ?_)
    rw [← HG2.out]
    clear HG2 y0 y1 y2 y3 y4 y5 y6
    generalize wr.alloc (.cells #[.int .i64 sB, .int .i64 sE, .int .i64 sR, .int .i64 sF, .int .i64 sN, .int .i64 sI, .int .i64 sW] 45) = w5 at H2 ⊢
    have hbx := (H2.out.box (g2, #[.int .i64 sB, .int .i64 sE, .int .i64 sR, .int .i64 sF, .int .i64 sN, .int .i64 sI, .int .i64 sW]) (by simp)).2.2
    have fz : w5.frozen? ⟨g2, 0, none⟩ = false := hbx.blk.free (by simp)
    have z0 : w5.cell? ⟨g2, 0, none⟩ = some (.int .i64 sB) := hbx.blk.at rfl
    have hset := hbx.set 0 (.int .i64 64)
    have hgF := (H2.out.box (g2, #[.int .i64 sB, .int .i64 sE, .int .i64 sR, .int .i64 sF, .int .i64 sN, .int .i64 sI, .int .i64 sW]) (by simp))
    have H3 := hid (show St w (w5.setCell ⟨g2, 0, none⟩ (.int .i64 64)) p d F [(g2, #[.int .i64 64, .int .i64 sE, .int .i64 sR, .int .i64 sF, .int .i64 sN, .int .i64 sI, .int .i64 sW]), (g, #[.int .i64 bB, .int .i64 bE, .int .i64 bR, .int .i64 bF, .int .i64 bN, .int .i64 bI, .int .i64 bW])] from H2.out.store hgF.1 hgF.2.1 hset.2 hset.1 (fun x hx => by
      rcases List.mem_cons.1 hx with rfl | hx
      · exact .inl rfl
      · rcases List.mem_cons.1 hx with rfl | hx
        · exact .inr ⟨by simp, HGG.out⟩
        · cases hx))
    clear hbx hset hgF H2
    refine Stopped.mk ?_
    go_wp2_with (with_reducible refine at_op (.fieldAddr 45 (.tmp 13) 1) rfl ?_; refine Stopped.go ?_)
    clear fz z0
    generalize w5.setCell ⟨g2, 0, none⟩ (.int .i64 64) = w6 at H3 ⊢
    have hbx := (H3.out.box (g2, #[.int .i64 64, .int .i64 sE, .int .i64 sR, .int .i64 sF, .int .i64 sN, .int .i64 sI, .int .i64 sW]) (by simp)).2.2
    have fz : w6.frozen? ⟨g2, 1, none⟩ = false := hbx.blk.free (by simp)
    have z1 : w6.cell? ⟨g2, 1, none⟩ = some (.int .i64 sE) := hbx.blk.at rfl
    have u1 : w6.cell? ⟨g, 1, none⟩ = some (.int .i64 bE) := (H3.out.box (g, #[.int .i64 bB, .int .i64 bE, .int .i64 bR, .int .i64 bF, .int .i64 bN, .int .i64 bI, .int .i64 bW]) (by simp)).2.2.blk.at rfl
    have hset := hbx.set 1 (.int .i64 nE)
    have hgF := (H3.out.box (g2, #[.int .i64 64, .int .i64 sE, .int .i64 sR, .int .i64 sF, .int .i64 sN, .int .i64 sI, .int .i64 sW]) (by simp))
    have H4 := hid (show St w (w6.setCell ⟨g2, 1, none⟩ (.int .i64 nE)) p d F [(g2, #[.int .i64 64, .int .i64 nE, .int .i64 sR, .int .i64 sF, .int .i64 sN, .int .i64 sI, .int .i64 sW]), (g, #[.int .i64 bB, .int .i64 bE, .int .i64 bR, .int .i64 bF, .int .i64 bN, .int .i64 bI, .int .i64 bW])] from H3.out.store hgF.1 hgF.2.1 hset.2 hset.1 (fun x hx => by
      rcases List.mem_cons.1 hx with rfl | hx
      · exact .inl rfl
      · rcases List.mem_cons.1 hx with rfl | hx
        · exact .inr ⟨by simp, HGG.out⟩
        · cases hx))
    clear hbx hset hgF H3
    refine Stopped.mk ?_
    go_wp2_with (with_reducible refine at_op (.load 45 (.tmp 16)) rfl ?_; refine Stopped.go ?_)
    clear fz z1 u1
    generalize w6.setCell ⟨g2, 1, none⟩ (.int .i64 nE) = w7 at H4 ⊢
    obtain ⟨y0, y1, y2, y3, y4, y5, y6⟩ := H4.out.cells (show (g2, #[.int .i64 64, .int .i64 nE, .int .i64 sR, .int .i64 sF, .int .i64 sN, .int .i64 sI, .int .i64 sW]) ∈ _ by simp)
    obtain ⟨S, hS⟩ : ∃ S : Sup, S = ⟨64, nE, sR, sF, sN, sI, sW⟩ := ⟨_, rfl⟩
    have CL := hid (fun w' => super_Lay S w')
    by_cases hgd : goodB S = true
    case neg =>
      rw [superLay_no hgd, hS] at CL
      simp only [Sup.vals] at CL
      refine Stopped.mk ?_
      go_wp2_with fail
      refine (CL.out w7).mono ?_; rintro ee w8 ⟨rfl, hb8⟩
      have H5 := hid (H4.out.below hb8); clear hb8 H4 CL y0 y1 y2 y3 y4 y5 y6
      go_wp2_with fail
      go_roundg (xs.length - (i + 1))
      case measure => omega
      case rel => exact ⟨i + 1, e, d, by omega, rfl, by go_num, F, ⟨H5.out.dev, fun x hx => H5.out.box x (by
        rw [← HBO.out] at hx
        simp only [List.mem_cons, List.not_mem_nil, or_false] at hx
        rw [hx]; simp [Sup.vals])⟩, by rw [← HBO.out], HSTL.out, HFUS.out, by have := HROOM.out; omega⟩
    obtain ⟨l1, _, _⟩ := superRead_laid hgd
    obtain ⟨blk, hblk⟩ : ∃ b, b = (superLayV S).1 := ⟨_, rfl⟩
    rw [show superLayV S = (blk, 0) by rw [hblk, l1]] at CL
    have HGD := hid hgd; have HSE := hid hS
    rw [hS] at CL
    simp only [Sup.vals] at CL
    clear l1 hblk hgd hS
    refine Stopped.mk ?_
    go_wp2_with fail
    refine (CL.out w7).mono ?_; rintro ee w8 ⟨rfl, hb8⟩
    have H5 := hid (H4.out.below hb8); clear hb8 H4 CL y0 y1 y2 y3 y4 y5 y6
    by_cases hcut : ∃ f, fs[i]? = some f ∧ 0 ≤ f
    case neg =>
      rcases Nat.lt_or_ge i fs.length with hil | hil
      · have hil' : (i : Int) < (fs.length : Int) := by omega
        obtain ⟨fb, foff, rfl, hfbl, hfc⟩ := row_cell HFR.out (by intro e; have := congrArg List.length e; simp [i64s] at this; rw [this] at hil; exact absurd hil (Nat.not_lt_zero _))
        obtain ⟨f, hf⟩ : ∃ f, f = fs[i] := ⟨_, rfl⟩
        have hfi : fs[i]? = some f := by rw [hf]; simp [hil]
        have hneg : ¬ (0 : Int) ≤ f := fun h => hcut ⟨f, hfi, h⟩
        have yf : w8.cell? ⟨fb, foff + i, none⟩ = some (.int .i64 f) := (H5.out.dev.bel.cell (p := ⟨fb, foff + i, none⟩) hfbl).trans (hfc i _ (by unfold i64s; rw [List.getElem?_map, hfi]; rfl))
        clear hf hfi hcut hfc
        have H6 := hid H5.out
        clear H5
        obtain ⟨c, d2, hsv, a1, a2, a3, hcase⟩ := save_round (d := d) HSTL.out HGD.out (by rw [HSE.out]) (by rw [HSE.out]; exact HNE.out.trans (by rw [HT.out.2.2.2])) keep
        have hC := dv_Save H6.out.dev (by decide) (by have h2 := HROOM.out; unfold Dv.room at h2 ⊢; (try simp only); omega) S
        rw [hsv] at hC
        have HC := hid hC
        rw [HSE.out] at HC
        simp only [Sup.vals] at HC
        have HA := hid (And.intro a1 (And.intro a2 a3)); have HCASE := hid hcase
        clear hsv a1 a2 a3 hC hcase
        obtain ⟨y0, y1, y2, y3, y4, y5, y6⟩ := H6.out.cells (show (g2, #[.int .i64 64, .int .i64 nE, .int .i64 sR, .int .i64 sF, .int .i64 sN, .int .i64 sI, .int .i64 sW]) ∈ _ by simp)
        go_wp2_with fail
        refine HC.out.mono ?_; rintro ee w10 ⟨rfl, hP⟩
        obtain ⟨F3, hst7⟩ := H6.out.deed hP
        have H7 := hid hst7
        clear hP hst7 H6 HC y0 y1 y2 y3 y4 y5 y6
        obtain ⟨rfl, hbn⟩ : c = 0 ∧ best2 64 (blkL (again d2 keep).safe) = S := by
          rcases HCASE.out with h | ⟨_, _, h, _⟩
          · exact h
          · exfalso; have := HFUS.out; omega
        have HBN := hid hbn
        clear hbn HCASE
        go_wp2_with fail
        refine (dv_Cut H7.out.dev KA kcap keep (HKR.out.below H7.out.dev.bel) (by omega)).mono ?_; rintro ee w11 ⟨rfl, k1, k2⟩
        have H8 := hid (H7.out.look k1 k2); clear k1 k2 H7
        go_wp2_with fail
        refine (dv_Come H8.out.dev).mono ?_; rintro ee wc ⟨rfl, k1, k2⟩
        have H9 := hid (show St w wc p (again d2 keep) _ _ from H8.out.look k1 k2); clear k1 k2 H8
        have hBST := dv_Best H9.out.dev (by decide) HA.out.1.on (by have h1 := HA.out.2.2; have h2 := HROOM.out; unfold Dv.room at h1 h2 ⊢; (try simp only at h1 h2 ⊢); omega)
        rw [HA.out.1.best] at hBST
        rw [HBN.out, bestO_good (by rw [HSE.out]; have := HNE.out; have := HT.out.1; (try simp only); omega), HSE.out] at hBST
        have HB2 := hid (show bestO (best2 64 (blkL (again d2 keep).safe)) = (⟨64, nE, sR, sF, sN, sI, sW⟩, 0) by rw [HBN.out, bestO_good (by rw [HSE.out]; have := HNE.out; have := HT.out.1; (try simp only); omega), HSE.out])
        have HBST := hid hBST
        simp only [Sup.vals] at HBST
        go_wp2_with fail
        refine HBST.out.mono ?_; rintro ee w12 ⟨rfl, hD12, hk12⟩
        have hst12 := (H9.out.look hD12 hk12).push #[.int .i64 64, .int .i64 nE, .int .i64 sR, .int .i64 sF, .int .i64 sN, .int .i64 sI, .int .i64 sW]
        obtain ⟨g3, hg3⟩ : ∃ g, g = w12.heap.size := ⟨_, rfl⟩
        rw [← hg3] at hst12
        have H12 := hid hst12; have HG3 := hid hg3
        clear hst12 hg3 hD12 hk12 HBST H9
        go_wp2_with (with_reducible refine at_op (.binOp .eql 26 (.tmp 124) (.const (.int .i64 0)) 26) rfl ?_; refine Stopped.go ?_)
        rw [← HG3.out]
        clear HG3
        generalize w12.alloc (.cells #[.int .i64 64, .int .i64 nE, .int .i64 sR, .int .i64 sF, .int .i64 sN, .int .i64 sI, .int .i64 sW] 45) = w13 at H12 ⊢
        obtain ⟨y0, y1, y2, y3, y4, y5, y6⟩ := H12.out.cells (show (g3, #[.int .i64 64, .int .i64 nE, .int .i64 sR, .int .i64 sF, .int .i64 sN, .int .i64 sI, .int .i64 sW]) ∈ _ by simp)
        obtain ⟨z0, z1, z2, z3, z4, z5, z6⟩ := H12.out.cells (show (g2, #[.int .i64 64, .int .i64 nE, .int .i64 sR, .int .i64 sF, .int .i64 sN, .int .i64 sI, .int .i64 sW]) ∈ _ by simp)
        obtain ⟨u0, u1, u2, u3, u4, u5, u6⟩ := H12.out.cells (show (g, #[.int .i64 bB, .int .i64 bE, .int .i64 bR, .int .i64 bF, .int .i64 bN, .int .i64 bI, .int .i64 bW]) ∈ _ by simp)
        refine Stopped.mk ?_
        go_wp2_with (with_reducible refine at_op (.store 45 (.tmp 13) (.tmp 147)) rfl ?_; refine Stopped.go ?_)
        refine Stopped.mk (wpList_store_row_ks rfl _ _ _ rfl g #[.int .i64 64, .int .i64 nE, .int .i64 sR, .int .i64 sF, .int .i64 sN, .int .i64 sI, .int .i64 sW] rfl rfl _ _ (H12.out.box (g, #[.int .i64 bB, .int .i64 bE, .int .i64 bR, .int .i64 bF, .int .i64 bN, .int .i64 bI, .int .i64 bW]) (by simp)).2.2 (by kernel_rfl) rfl (by simp [Value.oneCell']) ?_)
        intro w14 hn14 hk14
        have hgF := H12.out.box (g, #[.int .i64 bB, .int .i64 bE, .int .i64 bR, .int .i64 bF, .int .i64 bN, .int .i64 bI, .int .i64 bW]) (by simp)
        have H14 := hid (show St w w14 p _ _ [(g, #[.int .i64 64, .int .i64 nE, .int .i64 sR, .int .i64 sF, .int .i64 sN, .int .i64 sI, .int .i64 sW])] from H12.out.store hgF.1 hgF.2.1 hk14 hn14 (fun x hx => by simp at hx; exact .inl hx))
        clear hn14 hk14 hgF H12 y0 y1 y2 y3 y4 y5 y6 z0 z1 z2 z3 z4 z5 z6 u0 u1 u2 u3 u4 u5 u6
        go_wp2_with fail
        go_roundg (xs.length - (i + 1))
        case measure => omega
        case rel => exact ⟨i + 1, 0, { again d2 keep with rd := (again d2 keep).rd + 2 }, by omega, rfl, by go_num, F3, ⟨by rw [show bestO (best2 64 (blkL (Dv.safe { again d2 keep with rd := (again d2 keep).rd + 2 }))) = (⟨64, nE, sR, sF, sN, sI, sW⟩, 0) from HB2.out]; exact H14.out, by rw [show bestO (best2 64 (blkL (Dv.safe { again d2 keep with rd := (again d2 keep).rd + 2 }))) = (⟨64, nE, sR, sF, sN, sI, sW⟩, 0) from HB2.out], HA.out.1.rd _, HA.out.2.1, by have h1 := HA.out.2.2; have h2 := HROOM.out; unfold Dv.room at h1 h2 ⊢; (try simp only at h1 h2 ⊢); omega⟩⟩
      · have hil' : ¬ (i : Int) < (fs.length : Int) := by omega
        clear hcut
        have H6 := hid H5.out
        clear H5
        obtain ⟨c, d2, hsv, a1, a2, a3, hcase⟩ := save_round (d := d) HSTL.out HGD.out (by rw [HSE.out]) (by rw [HSE.out]; exact HNE.out.trans (by rw [HT.out.2.2.2])) keep
        have hC := dv_Save H6.out.dev (by decide) (by have h2 := HROOM.out; unfold Dv.room at h2 ⊢; (try simp only); omega) S
        rw [hsv] at hC
        have HC := hid hC
        rw [HSE.out] at HC
        simp only [Sup.vals] at HC
        have HA := hid (And.intro a1 (And.intro a2 a3)); have HCASE := hid hcase
        clear hsv a1 a2 a3 hC hcase
        obtain ⟨y0, y1, y2, y3, y4, y5, y6⟩ := H6.out.cells (show (g2, #[.int .i64 64, .int .i64 nE, .int .i64 sR, .int .i64 sF, .int .i64 sN, .int .i64 sI, .int .i64 sW]) ∈ _ by simp)
        go_wp2_with fail
        refine HC.out.mono ?_; rintro ee w10 ⟨rfl, hP⟩
        obtain ⟨F3, hst7⟩ := H6.out.deed hP
        have H7 := hid hst7
        clear hP hst7 H6 HC y0 y1 y2 y3 y4 y5 y6
        obtain ⟨rfl, hbn⟩ : c = 0 ∧ best2 64 (blkL (again d2 keep).safe) = S := by
          rcases HCASE.out with h | ⟨_, _, h, _⟩
          · exact h
          · exfalso; have := HFUS.out; omega
        have HBN := hid hbn
        clear hbn HCASE
        go_wp2_with fail
        refine (dv_Cut H7.out.dev KA kcap keep (HKR.out.below H7.out.dev.bel) (by omega)).mono ?_; rintro ee w11 ⟨rfl, k1, k2⟩
        have H8 := hid (H7.out.look k1 k2); clear k1 k2 H7
        go_wp2_with fail
        refine (dv_Come H8.out.dev).mono ?_; rintro ee wc ⟨rfl, k1, k2⟩
        have H9 := hid (show St w wc p (again d2 keep) _ _ from H8.out.look k1 k2); clear k1 k2 H8
        have hBST := dv_Best H9.out.dev (by decide) HA.out.1.on (by have h1 := HA.out.2.2; have h2 := HROOM.out; unfold Dv.room at h1 h2 ⊢; (try simp only at h1 h2 ⊢); omega)
        rw [HA.out.1.best] at hBST
        rw [HBN.out, bestO_good (by rw [HSE.out]; have := HNE.out; have := HT.out.1; (try simp only); omega), HSE.out] at hBST
        have HB2 := hid (show bestO (best2 64 (blkL (again d2 keep).safe)) = (⟨64, nE, sR, sF, sN, sI, sW⟩, 0) by rw [HBN.out, bestO_good (by rw [HSE.out]; have := HNE.out; have := HT.out.1; (try simp only); omega), HSE.out])
        have HBST := hid hBST
        simp only [Sup.vals] at HBST
        go_wp2_with fail
        refine HBST.out.mono ?_; rintro ee w12 ⟨rfl, hD12, hk12⟩
        have hst12 := (H9.out.look hD12 hk12).push #[.int .i64 64, .int .i64 nE, .int .i64 sR, .int .i64 sF, .int .i64 sN, .int .i64 sI, .int .i64 sW]
        obtain ⟨g3, hg3⟩ : ∃ g, g = w12.heap.size := ⟨_, rfl⟩
        rw [← hg3] at hst12
        have H12 := hid hst12; have HG3 := hid hg3
        clear hst12 hg3 hD12 hk12 HBST H9
        go_wp2_with (with_reducible refine at_op (.binOp .eql 26 (.tmp 124) (.const (.int .i64 0)) 26) rfl ?_; refine Stopped.go ?_)
        rw [← HG3.out]
        clear HG3
        generalize w12.alloc (.cells #[.int .i64 64, .int .i64 nE, .int .i64 sR, .int .i64 sF, .int .i64 sN, .int .i64 sI, .int .i64 sW] 45) = w13 at H12 ⊢
        obtain ⟨y0, y1, y2, y3, y4, y5, y6⟩ := H12.out.cells (show (g3, #[.int .i64 64, .int .i64 nE, .int .i64 sR, .int .i64 sF, .int .i64 sN, .int .i64 sI, .int .i64 sW]) ∈ _ by simp)
        obtain ⟨z0, z1, z2, z3, z4, z5, z6⟩ := H12.out.cells (show (g2, #[.int .i64 64, .int .i64 nE, .int .i64 sR, .int .i64 sF, .int .i64 sN, .int .i64 sI, .int .i64 sW]) ∈ _ by simp)
        obtain ⟨u0, u1, u2, u3, u4, u5, u6⟩ := H12.out.cells (show (g, #[.int .i64 bB, .int .i64 bE, .int .i64 bR, .int .i64 bF, .int .i64 bN, .int .i64 bI, .int .i64 bW]) ∈ _ by simp)
        refine Stopped.mk ?_
        go_wp2_with (with_reducible refine at_op (.store 45 (.tmp 13) (.tmp 147)) rfl ?_; refine Stopped.go ?_)
        refine Stopped.mk (wpList_store_row_ks rfl _ _ _ rfl g #[.int .i64 64, .int .i64 nE, .int .i64 sR, .int .i64 sF, .int .i64 sN, .int .i64 sI, .int .i64 sW] rfl rfl _ _ (H12.out.box (g, #[.int .i64 bB, .int .i64 bE, .int .i64 bR, .int .i64 bF, .int .i64 bN, .int .i64 bI, .int .i64 bW]) (by simp)).2.2 (by kernel_rfl) rfl (by simp [Value.oneCell']) ?_)
        intro w14 hn14 hk14
        have hgF := H12.out.box (g, #[.int .i64 bB, .int .i64 bE, .int .i64 bR, .int .i64 bF, .int .i64 bN, .int .i64 bI, .int .i64 bW]) (by simp)
        have H14 := hid (show St w w14 p _ _ [(g, #[.int .i64 64, .int .i64 nE, .int .i64 sR, .int .i64 sF, .int .i64 sN, .int .i64 sI, .int .i64 sW])] from H12.out.store hgF.1 hgF.2.1 hk14 hn14 (fun x hx => by simp at hx; exact .inl hx))
        clear hn14 hk14 hgF H12 y0 y1 y2 y3 y4 y5 y6 z0 z1 z2 z3 z4 z5 z6 u0 u1 u2 u3 u4 u5 u6
        go_wp2_with fail
        go_roundg (xs.length - (i + 1))
        case measure => omega
        case rel => exact ⟨i + 1, 0, { again d2 keep with rd := (again d2 keep).rd + 2 }, by omega, rfl, by go_num, F3, ⟨by rw [show bestO (best2 64 (blkL (Dv.safe { again d2 keep with rd := (again d2 keep).rd + 2 }))) = (⟨64, nE, sR, sF, sN, sI, sW⟩, 0) from HB2.out]; exact H14.out, by rw [show bestO (best2 64 (blkL (Dv.safe { again d2 keep with rd := (again d2 keep).rd + 2 }))) = (⟨64, nE, sR, sF, sN, sI, sW⟩, 0) from HB2.out], HA.out.1.rd _, HA.out.2.1, by have h1 := HA.out.2.2; have h2 := HROOM.out; unfold Dv.room at h1 h2 ⊢; (try simp only at h1 h2 ⊢); omega⟩⟩
    obtain ⟨f, hfi, hf0⟩ := hcut
    have hil : i < fs.length := (List.getElem?_eq_some_iff.1 hfi).1
    have hil' : (i : Int) < (fs.length : Int) := by omega
    obtain ⟨fb, foff, rfl, hfbl, hfc⟩ := row_cell HFR.out (by intro e; have := congrArg List.length e; simp [i64s] at this; rw [this] at hil; exact absurd hil (Nat.not_lt_zero _))
    have yf : w8.cell? ⟨fb, foff + i, none⟩ = some (.int .i64 f) := (H5.out.dev.bel.cell (p := ⟨fb, foff + i, none⟩) hfbl).trans (hfc i _ (by unfold i64s; rw [List.getElem?_map, hfi]; rfl))
    obtain ⟨m, hm, hml⟩ := umod f 5 (by decide)
    have e2 : IntKind.i64.wrap (m : Int) = (m : Int) := by rw [IntKind.wrap_i64]; omega
    clear hfi hfc
    go_wp2_with fail
    refine (dv_Fuse H5.out.dev (m : Int) (by omega) KA kcap keep (HKR.out.below H5.out.dev.bel) (by omega)).mono ?_; rintro ee w9 ⟨rfl, F', k1, k2, k3⟩
    obtain ⟨F2, hst6⟩ := H5.out.deed ⟨F', k1, k2, k3⟩
    have H6 := hid hst6; have HML := hid hml
    clear k1 k2 k3 hst6 H5 hm hml e2 yf
    obtain ⟨c, d2, hsv, a1, a2, a3, hcase⟩ := save_round (d := { d with fuse := max (m : Int) (-1), keep := keep }) ⟨⟨HSTL.out.ok.n1, HSTL.out.ok.n2, HSTL.out.ok.size, HSTL.out.ok.loose, by have := HML.out; (try simp only); omega⟩, HSTL.out.loose, HSTL.out.on⟩ HGD.out (by rw [HSE.out]) (by rw [HSE.out]; exact HNE.out.trans (by rw [HT.out.2.2.2])) keep
    have hC := dv_Save H6.out.dev (by decide) (by have h2 := HROOM.out; unfold Dv.room at h2 ⊢; (try simp only); omega) S
    rw [hsv] at hC
    have HC := hid hC
    rw [HSE.out] at HC
    simp only [Sup.vals] at HC
    have HA := hid (And.intro a1 (And.intro a2 a3)); have HCASE := hid hcase
    clear hsv a1 a2 a3 hC hcase
    obtain ⟨y0, y1, y2, y3, y4, y5, y6⟩ := H6.out.cells (show (g2, #[.int .i64 64, .int .i64 nE, .int .i64 sR, .int .i64 sF, .int .i64 sN, .int .i64 sI, .int .i64 sW]) ∈ _ by simp)
    go_wp2_with fail
    refine HC.out.mono ?_; rintro ee w10 ⟨rfl, hP⟩
    obtain ⟨F3, hst7⟩ := H6.out.deed hP
    have H7 := hid hst7
    clear hP hst7 H6 HC y0 y1 y2 y3 y4 y5 y6
    rcases HCASE.out with ⟨rfl, hbn⟩ | ⟨rfl, hoff, _, hbn⟩
    · have HBN := hid hbn
      clear hbn HCASE
      go_wp2_with fail
      refine (dv_Cut H7.out.dev KA kcap keep (HKR.out.below H7.out.dev.bel) (by omega)).mono ?_; rintro ee w11 ⟨rfl, k1, k2⟩
      have H8 := hid (H7.out.look k1 k2); clear k1 k2 H7
      go_wp2_with fail
      refine (dv_Come H8.out.dev).mono ?_; rintro ee wc ⟨rfl, k1, k2⟩
      have H9 := hid (show St w wc p (again d2 keep) _ _ from H8.out.look k1 k2); clear k1 k2 H8
      have hBST := dv_Best H9.out.dev (by decide) HA.out.1.on (by have h1 := HA.out.2.2; have h2 := HROOM.out; unfold Dv.room at h1 h2 ⊢; (try simp only at h1 h2 ⊢); omega)
      rw [HA.out.1.best] at hBST
      rw [HBN.out, bestO_good (by rw [HSE.out]; have := HNE.out; have := HT.out.1; (try simp only); omega), HSE.out] at hBST
      have HB2 := hid (show bestO (best2 64 (blkL (again d2 keep).safe)) = (⟨64, nE, sR, sF, sN, sI, sW⟩, 0) by rw [HBN.out, bestO_good (by rw [HSE.out]; have := HNE.out; have := HT.out.1; (try simp only); omega), HSE.out])
      have HBST := hid hBST
      simp only [Sup.vals] at HBST
      go_wp2_with fail
      refine HBST.out.mono ?_; rintro ee w12 ⟨rfl, hD12, hk12⟩
      have hst12 := (H9.out.look hD12 hk12).push #[.int .i64 64, .int .i64 nE, .int .i64 sR, .int .i64 sF, .int .i64 sN, .int .i64 sI, .int .i64 sW]
      obtain ⟨g3, hg3⟩ : ∃ g, g = w12.heap.size := ⟨_, rfl⟩
      rw [← hg3] at hst12
      have H12 := hid hst12; have HG3 := hid hg3
      clear hst12 hg3 hD12 hk12 HBST H9
      go_wp2_with (with_reducible refine at_op (.binOp .eql 26 (.tmp 124) (.const (.int .i64 0)) 26) rfl ?_; refine Stopped.go ?_)
      rw [← HG3.out]
      clear HG3
      generalize w12.alloc (.cells #[.int .i64 64, .int .i64 nE, .int .i64 sR, .int .i64 sF, .int .i64 sN, .int .i64 sI, .int .i64 sW] 45) = w13 at H12 ⊢
      obtain ⟨y0, y1, y2, y3, y4, y5, y6⟩ := H12.out.cells (show (g3, #[.int .i64 64, .int .i64 nE, .int .i64 sR, .int .i64 sF, .int .i64 sN, .int .i64 sI, .int .i64 sW]) ∈ _ by simp)
      obtain ⟨z0, z1, z2, z3, z4, z5, z6⟩ := H12.out.cells (show (g2, #[.int .i64 64, .int .i64 nE, .int .i64 sR, .int .i64 sF, .int .i64 sN, .int .i64 sI, .int .i64 sW]) ∈ _ by simp)
      obtain ⟨u0, u1, u2, u3, u4, u5, u6⟩ := H12.out.cells (show (g, #[.int .i64 bB, .int .i64 bE, .int .i64 bR, .int .i64 bF, .int .i64 bN, .int .i64 bI, .int .i64 bW]) ∈ _ by simp)
      refine Stopped.mk ?_
      go_wp2_with (with_reducible refine at_op (.store 45 (.tmp 13) (.tmp 147)) rfl ?_; refine Stopped.go ?_)
      refine Stopped.mk (wpList_store_row_ks rfl _ _ _ rfl g #[.int .i64 64, .int .i64 nE, .int .i64 sR, .int .i64 sF, .int .i64 sN, .int .i64 sI, .int .i64 sW] rfl rfl _ _ (H12.out.box (g, #[.int .i64 bB, .int .i64 bE, .int .i64 bR, .int .i64 bF, .int .i64 bN, .int .i64 bI, .int .i64 bW]) (by simp)).2.2 (by kernel_rfl) rfl (by simp [Value.oneCell']) ?_)
      intro w14 hn14 hk14
      have hgF := H12.out.box (g, #[.int .i64 bB, .int .i64 bE, .int .i64 bR, .int .i64 bF, .int .i64 bN, .int .i64 bI, .int .i64 bW]) (by simp)
      have H14 := hid (show St w w14 p _ _ [(g, #[.int .i64 64, .int .i64 nE, .int .i64 sR, .int .i64 sF, .int .i64 sN, .int .i64 sI, .int .i64 sW])] from H12.out.store hgF.1 hgF.2.1 hk14 hn14 (fun x hx => by simp at hx; exact .inl hx))
      clear hn14 hk14 hgF H12 y0 y1 y2 y3 y4 y5 y6 z0 z1 z2 z3 z4 z5 z6 u0 u1 u2 u3 u4 u5 u6
      go_wp2_with fail
      go_roundg (xs.length - (i + 1))
      case measure => omega
      case rel => exact ⟨i + 1, 0, { again d2 keep with rd := (again d2 keep).rd + 2 }, by omega, rfl, by go_num, F3, ⟨by rw [show bestO (best2 64 (blkL (Dv.safe { again d2 keep with rd := (again d2 keep).rd + 2 }))) = (⟨64, nE, sR, sF, sN, sI, sW⟩, 0) from HB2.out]; exact H14.out, by rw [show bestO (best2 64 (blkL (Dv.safe { again d2 keep with rd := (again d2 keep).rd + 2 }))) = (⟨64, nE, sR, sF, sN, sI, sW⟩, 0) from HB2.out], HA.out.1.rd _, HA.out.2.1, by have h1 := HA.out.2.2; have h2 := HROOM.out; unfold Dv.room at h1 h2 ⊢; (try simp only at h1 h2 ⊢); omega⟩⟩
    have HOFF := hid hoff
    clear hoff HCASE
    rcases hbn with hbn | hbn
    · have HBN := hid hbn
      clear hbn
      go_wp2_with fail
      have hI : Calls Try.prog 36 #[.pointer (some ⟨p, 0, none⟩)] w10 fun e w' => e = .returned (.bool false) ∧ w10 = w' := by
        have h1 := dev_IsOn w10 p d2 _ H7.out.dev.at_
        rw [HOFF.out] at h1
        exact h1
      refine hI.mono ?_; rintro ee wi ⟨rfl, rfl⟩
      clear hI
      go_wp2_with fail
      refine (dv_Cut H7.out.dev KA kcap keep (HKR.out.below H7.out.dev.bel) (by omega)).mono ?_; rintro ee w11 ⟨rfl, k1, k2⟩
      have H8 := hid (H7.out.look k1 k2); clear k1 k2 H7
      go_wp2_with fail
      refine (dv_Come H8.out.dev).mono ?_; rintro ee wc ⟨rfl, k1, k2⟩
      have H9 := hid (show St w wc p (again d2 keep) _ _ from H8.out.look k1 k2); clear k1 k2 H8
      have hBST := dv_Best H9.out.dev (by decide) HA.out.1.on (by have h1 := HA.out.2.2; have h2 := HROOM.out; unfold Dv.room at h1 h2 ⊢; (try simp only at h1 h2 ⊢); omega)
      rw [HA.out.1.best] at hBST
      rw [HBN.out, bestO_good (by rw [HSE.out]; have := HNE.out; have := HT.out.1; (try simp only); omega), HSE.out] at hBST
      have HB2 := hid (show bestO (best2 64 (blkL (again d2 keep).safe)) = (⟨64, nE, sR, sF, sN, sI, sW⟩, 0) by rw [HBN.out, bestO_good (by rw [HSE.out]; have := HNE.out; have := HT.out.1; (try simp only); omega), HSE.out])
      have HBST := hid hBST
      simp only [Sup.vals] at HBST
      go_wp2_with fail
      refine HBST.out.mono ?_; rintro ee w12 ⟨rfl, hD12, hk12⟩
      have hst12 := (H9.out.look hD12 hk12).push #[.int .i64 64, .int .i64 nE, .int .i64 sR, .int .i64 sF, .int .i64 sN, .int .i64 sI, .int .i64 sW]
      obtain ⟨g3, hg3⟩ : ∃ g, g = w12.heap.size := ⟨_, rfl⟩
      rw [← hg3] at hst12
      have H12 := hid hst12; have HG3 := hid hg3
      clear hst12 hg3 hD12 hk12 HBST H9
      go_wp2_with (with_reducible refine at_op (.binOp .eql 26 (.tmp 124) (.const (.int .i64 0)) 26) rfl ?_; refine Stopped.go ?_)
      rw [← HG3.out]
      clear HG3
      generalize w12.alloc (.cells #[.int .i64 64, .int .i64 nE, .int .i64 sR, .int .i64 sF, .int .i64 sN, .int .i64 sI, .int .i64 sW] 45) = w13 at H12 ⊢
      obtain ⟨y0, y1, y2, y3, y4, y5, y6⟩ := H12.out.cells (show (g3, #[.int .i64 64, .int .i64 nE, .int .i64 sR, .int .i64 sF, .int .i64 sN, .int .i64 sI, .int .i64 sW]) ∈ _ by simp)
      obtain ⟨z0, z1, z2, z3, z4, z5, z6⟩ := H12.out.cells (show (g2, #[.int .i64 64, .int .i64 nE, .int .i64 sR, .int .i64 sF, .int .i64 sN, .int .i64 sI, .int .i64 sW]) ∈ _ by simp)
      obtain ⟨u0, u1, u2, u3, u4, u5, u6⟩ := H12.out.cells (show (g, #[.int .i64 bB, .int .i64 bE, .int .i64 bR, .int .i64 bF, .int .i64 bN, .int .i64 bI, .int .i64 bW]) ∈ _ by simp)
      refine Stopped.mk ?_
      go_wp2_with (with_reducible refine at_op (.store 45 (.tmp 13) (.tmp 147)) rfl ?_; refine Stopped.go ?_)
      refine Stopped.mk (wpList_store_row_ks rfl _ _ _ rfl g #[.int .i64 64, .int .i64 nE, .int .i64 sR, .int .i64 sF, .int .i64 sN, .int .i64 sI, .int .i64 sW] rfl rfl _ _ (H12.out.box (g, #[.int .i64 bB, .int .i64 bE, .int .i64 bR, .int .i64 bF, .int .i64 bN, .int .i64 bI, .int .i64 bW]) (by simp)).2.2 (by kernel_rfl) rfl (by simp [Value.oneCell']) ?_)
      intro w14 hn14 hk14
      have hgF := H12.out.box (g, #[.int .i64 bB, .int .i64 bE, .int .i64 bR, .int .i64 bF, .int .i64 bN, .int .i64 bI, .int .i64 bW]) (by simp)
      have H14 := hid (show St w w14 p _ _ [(g, #[.int .i64 64, .int .i64 nE, .int .i64 sR, .int .i64 sF, .int .i64 sN, .int .i64 sI, .int .i64 sW])] from H12.out.store hgF.1 hgF.2.1 hk14 hn14 (fun x hx => by simp at hx; exact .inl hx))
      clear hn14 hk14 hgF H12 y0 y1 y2 y3 y4 y5 y6 z0 z1 z2 z3 z4 z5 z6 u0 u1 u2 u3 u4 u5 u6
      go_wp2_with fail
      go_roundg (xs.length - (i + 1))
      case measure => omega
      case rel => exact ⟨i + 1, 0, { again d2 keep with rd := (again d2 keep).rd + 2 }, by omega, rfl, by go_num, F3, ⟨by rw [show bestO (best2 64 (blkL (Dv.safe { again d2 keep with rd := (again d2 keep).rd + 2 }))) = (⟨64, nE, sR, sF, sN, sI, sW⟩, 0) from HB2.out]; exact H14.out, by rw [show bestO (best2 64 (blkL (Dv.safe { again d2 keep with rd := (again d2 keep).rd + 2 }))) = (⟨64, nE, sR, sF, sN, sI, sW⟩, 0) from HB2.out], HA.out.1.rd _, HA.out.2.1, by have h1 := HA.out.2.2; have h2 := HROOM.out; unfold Dv.room at h1 h2 ⊢; (try simp only at h1 h2 ⊢); omega⟩⟩
    have HBN := hid hbn
    clear hbn
    have hne : ¬ bE = nE := by have := HNE.out; omega
    rcases HT.out.2.2.1 with ⟨rfl, hb64⟩ | rfl
    · obtain rfl : bB = 64 := hb64
      go_wp2_with fail
      have hI : Calls Try.prog 36 #[.pointer (some ⟨p, 0, none⟩)] w10 fun e w' => e = .returned (.bool false) ∧ w10 = w' := by
        have h1 := dev_IsOn w10 p d2 _ H7.out.dev.at_
        rw [HOFF.out] at h1
        exact h1
      refine hI.mono ?_; rintro ee wi ⟨rfl, rfl⟩
      clear hI
      go_wp2_with fail
      refine (dv_Cut H7.out.dev KA kcap keep (HKR.out.below H7.out.dev.bel) (by omega)).mono ?_; rintro ee w11 ⟨rfl, k1, k2⟩
      have H8 := hid (H7.out.look k1 k2); clear k1 k2 H7
      go_wp2_with fail
      refine (dv_Come H8.out.dev).mono ?_; rintro ee wc ⟨rfl, k1, k2⟩
      have H9 := hid (show St w wc p (again d2 keep) _ _ from H8.out.look k1 k2); clear k1 k2 H8
      have hBST := dv_Best H9.out.dev (by decide) HA.out.1.on (by have h1 := HA.out.2.2; have h2 := HROOM.out; unfold Dv.room at h1 h2 ⊢; (try simp only at h1 h2 ⊢); omega)
      rw [HA.out.1.best] at hBST
      rw [HBN.out, ← HBO.out] at hBST
      have HB2 := hid (show bestO (best2 64 (blkL (again d2 keep).safe)) = (⟨64, bE, bR, bF, bN, bI, bW⟩, 0) by rw [HBN.out, ← HBO.out])
      have HBST := hid hBST
      simp only [Sup.vals] at HBST
      go_wp2_with fail
      refine HBST.out.mono ?_; rintro ee w12 ⟨rfl, hD12, hk12⟩
      have hst12 := (H9.out.look hD12 hk12).push #[.int .i64 64, .int .i64 bE, .int .i64 bR, .int .i64 bF, .int .i64 bN, .int .i64 bI, .int .i64 bW]
      obtain ⟨g3, hg3⟩ : ∃ g, g = w12.heap.size := ⟨_, rfl⟩
      rw [← hg3] at hst12
      have H12 := hid hst12; have HG3 := hid hg3
      clear hst12 hg3 hD12 hk12 HBST H9
      go_wp2_with (with_reducible refine at_op (.binOp .eql 26 (.tmp 124) (.const (.int .i64 0)) 26) rfl ?_; refine Stopped.go ?_)
      rw [← HG3.out]
      clear HG3
      generalize w12.alloc (.cells #[.int .i64 64, .int .i64 bE, .int .i64 bR, .int .i64 bF, .int .i64 bN, .int .i64 bI, .int .i64 bW] 45) = w13 at H12 ⊢
      obtain ⟨y0, y1, y2, y3, y4, y5, y6⟩ := H12.out.cells (show (g3, #[.int .i64 64, .int .i64 bE, .int .i64 bR, .int .i64 bF, .int .i64 bN, .int .i64 bI, .int .i64 bW]) ∈ _ by simp)
      obtain ⟨z0, z1, z2, z3, z4, z5, z6⟩ := H12.out.cells (show (g2, #[.int .i64 64, .int .i64 nE, .int .i64 sR, .int .i64 sF, .int .i64 sN, .int .i64 sI, .int .i64 sW]) ∈ _ by simp)
      obtain ⟨u0, u1, u2, u3, u4, u5, u6⟩ := H12.out.cells (show (g, #[.int .i64 64, .int .i64 bE, .int .i64 bR, .int .i64 bF, .int .i64 bN, .int .i64 bI, .int .i64 bW]) ∈ _ by simp)
      refine Stopped.mk ?_
      go_wp2_with (with_reducible refine at_op (.store 45 (.tmp 13) (.tmp 147)) rfl ?_; refine Stopped.go ?_)
      refine Stopped.mk (wpList_store_row_ks rfl _ _ _ rfl g #[.int .i64 64, .int .i64 bE, .int .i64 bR, .int .i64 bF, .int .i64 bN, .int .i64 bI, .int .i64 bW] rfl rfl _ _ (H12.out.box (g, #[.int .i64 64, .int .i64 bE, .int .i64 bR, .int .i64 bF, .int .i64 bN, .int .i64 bI, .int .i64 bW]) (by simp)).2.2 (by kernel_rfl) rfl (by simp [Value.oneCell']) ?_)
      intro w14 hn14 hk14
      have hgF := H12.out.box (g, #[.int .i64 64, .int .i64 bE, .int .i64 bR, .int .i64 bF, .int .i64 bN, .int .i64 bI, .int .i64 bW]) (by simp)
      have H14 := hid (show St w w14 p _ _ [(g, #[.int .i64 64, .int .i64 bE, .int .i64 bR, .int .i64 bF, .int .i64 bN, .int .i64 bI, .int .i64 bW])] from H12.out.store hgF.1 hgF.2.1 hk14 hn14 (fun x hx => by simp at hx; exact .inl hx))
      clear hn14 hk14 hgF H12 y0 y1 y2 y3 y4 y5 y6 z0 z1 z2 z3 z4 z5 z6 u0 u1 u2 u3 u4 u5 u6
      go_wp2_with fail
      go_roundg (xs.length - (i + 1))
      case measure => omega
      case rel => exact ⟨i + 1, 0, { again d2 keep with rd := (again d2 keep).rd + 2 }, by omega, rfl, by go_num, F3, ⟨by rw [show bestO (best2 64 (blkL (Dv.safe { again d2 keep with rd := (again d2 keep).rd + 2 }))) = (⟨64, bE, bR, bF, bN, bI, bW⟩, 0) from HB2.out]; exact H14.out, by rw [show bestO (best2 64 (blkL (Dv.safe { again d2 keep with rd := (again d2 keep).rd + 2 }))) = (⟨64, bE, bR, bF, bN, bI, bW⟩, 0) from HB2.out], HA.out.1.rd _, HA.out.2.1, by have h1 := HA.out.2.2; have h2 := HROOM.out; unfold Dv.room at h1 h2 ⊢; (try simp only at h1 h2 ⊢); omega⟩⟩
    · go_wp2_with fail
      have hI : Calls Try.prog 36 #[.pointer (some ⟨p, 0, none⟩)] w10 fun e w' => e = .returned (.bool false) ∧ w10 = w' := by
        have h1 := dev_IsOn w10 p d2 _ H7.out.dev.at_
        rw [HOFF.out] at h1
        exact h1
      refine hI.mono ?_; rintro ee wi ⟨rfl, rfl⟩
      clear hI
      go_wp2_with fail
      refine (dv_Cut H7.out.dev KA kcap keep (HKR.out.below H7.out.dev.bel) (by omega)).mono ?_; rintro ee w11 ⟨rfl, k1, k2⟩
      have H8 := hid (H7.out.look k1 k2); clear k1 k2 H7
      go_wp2_with fail
      refine (dv_Come H8.out.dev).mono ?_; rintro ee wc ⟨rfl, k1, k2⟩
      have H9 := hid (show St w wc p (again d2 keep) _ _ from H8.out.look k1 k2); clear k1 k2 H8
      have hBST := dv_Best H9.out.dev (by decide) HA.out.1.on (by have h1 := HA.out.2.2; have h2 := HROOM.out; unfold Dv.room at h1 h2 ⊢; (try simp only at h1 h2 ⊢); omega)
      rw [HA.out.1.best] at hBST
      rw [HBN.out, ← HBO.out] at hBST
      have HB2 := hid (show bestO (best2 64 (blkL (again d2 keep).safe)) = (⟨bB, bE, bR, bF, bN, bI, bW⟩, 7) by rw [HBN.out, ← HBO.out])
      have HBST := hid hBST
      simp only [Sup.vals] at HBST
      go_wp2_with fail
      refine HBST.out.mono ?_; rintro ee w12 ⟨rfl, hD12, hk12⟩
      have hst12 := (H9.out.look hD12 hk12).push #[.int .i64 bB, .int .i64 bE, .int .i64 bR, .int .i64 bF, .int .i64 bN, .int .i64 bI, .int .i64 bW]
      obtain ⟨g3, hg3⟩ : ∃ g, g = w12.heap.size := ⟨_, rfl⟩
      rw [← hg3] at hst12
      have H12 := hid hst12; have HG3 := hid hg3
      clear hst12 hg3 hD12 hk12 HBST H9
      go_wp2_with (with_reducible refine at_op (.binOp .eql 26 (.tmp 124) (.const (.int .i64 0)) 26) rfl ?_; refine Stopped.go ?_)
      rw [← HG3.out]
      clear HG3
      generalize w12.alloc (.cells #[.int .i64 bB, .int .i64 bE, .int .i64 bR, .int .i64 bF, .int .i64 bN, .int .i64 bI, .int .i64 bW] 45) = w13 at H12 ⊢
      obtain ⟨y0, y1, y2, y3, y4, y5, y6⟩ := H12.out.cells (show (g3, #[.int .i64 bB, .int .i64 bE, .int .i64 bR, .int .i64 bF, .int .i64 bN, .int .i64 bI, .int .i64 bW]) ∈ _ by simp)
      obtain ⟨z0, z1, z2, z3, z4, z5, z6⟩ := H12.out.cells (show (g2, #[.int .i64 64, .int .i64 nE, .int .i64 sR, .int .i64 sF, .int .i64 sN, .int .i64 sI, .int .i64 sW]) ∈ _ by simp)
      obtain ⟨u0, u1, u2, u3, u4, u5, u6⟩ := H12.out.cells (show (g, #[.int .i64 bB, .int .i64 bE, .int .i64 bR, .int .i64 bF, .int .i64 bN, .int .i64 bI, .int .i64 bW]) ∈ _ by simp)
      refine Stopped.mk ?_
      go_wp2_with (with_reducible refine at_op (.store 45 (.tmp 13) (.tmp 147)) rfl ?_; refine Stopped.go ?_)
      refine Stopped.mk (wpList_store_row_ks rfl _ _ _ rfl g #[.int .i64 bB, .int .i64 bE, .int .i64 bR, .int .i64 bF, .int .i64 bN, .int .i64 bI, .int .i64 bW] rfl rfl _ _ (H12.out.box (g, #[.int .i64 bB, .int .i64 bE, .int .i64 bR, .int .i64 bF, .int .i64 bN, .int .i64 bI, .int .i64 bW]) (by simp)).2.2 (by kernel_rfl) rfl (by simp [Value.oneCell']) ?_)
      intro w14 hn14 hk14
      have hgF := H12.out.box (g, #[.int .i64 bB, .int .i64 bE, .int .i64 bR, .int .i64 bF, .int .i64 bN, .int .i64 bI, .int .i64 bW]) (by simp)
      have H14 := hid (show St w w14 p _ _ [(g, #[.int .i64 bB, .int .i64 bE, .int .i64 bR, .int .i64 bF, .int .i64 bN, .int .i64 bI, .int .i64 bW])] from H12.out.store hgF.1 hgF.2.1 hk14 hn14 (fun x hx => by simp at hx; exact .inl hx))
      clear hn14 hk14 hgF H12 y0 y1 y2 y3 y4 y5 y6 z0 z1 z2 z3 z4 z5 z6 u0 u1 u2 u3 u4 u5 u6
      go_wp2_with fail
      go_roundg (xs.length - (i + 1))
      case measure => omega
      case rel => exact ⟨i + 1, 7, { again d2 keep with rd := (again d2 keep).rd + 2 }, by omega, rfl, by go_num, F3, ⟨by rw [show bestO (best2 64 (blkL (Dv.safe { again d2 keep with rd := (again d2 keep).rd + 2 }))) = (⟨bB, bE, bR, bF, bN, bI, bW⟩, 7) from HB2.out]; exact H14.out, by rw [show bestO (best2 64 (blkL (Dv.safe { again d2 keep with rd := (again d2 keep).rd + 2 }))) = (⟨bB, bE, bR, bF, bN, bI, bW⟩, 7) from HB2.out], HA.out.1.rd _, HA.out.2.1, by have h1 := HA.out.2.2; have h2 := HROOM.out; unfold Dv.room at h1 h2 ⊢; (try simp only at h1 h2 ⊢); omega⟩⟩
abbrev Tup7 := Int × Int × Int × Int × Int × Int × Int
def toSup (x : Tup7) : Sup := ⟨x.1, x.2.1, x.2.2.1, x.2.2.2.1, x.2.2.2.2.1, x.2.2.2.2.2.1, x.2.2.2.2.2.2⟩
theorem superSaves_row (a b : ByteArray) (A : Option Addr) (cap : Nat) (xs : List Tup7) (FA : Option Addr) (fcap : Nat) (fs : List Int) (KA : Option Addr) (kcap : Nat) (keep : List Bool) (w : World)
    (_ : a.size ≤ 140737488351232) (_ : b.size ≤ 140737488351232)
    (hr : Row w A (xs.flatMap fun x => [.int .i64 x.1, .int .i64 x.2.1, .int .i64 x.2.2.1, .int .i64 x.2.2.2.1, .int .i64 x.2.2.2.2.1, .int .i64 x.2.2.2.2.2.1, .int .i64 x.2.2.2.2.2.2]))
    (_ : ∀ x ∈ xs, (Lit.int .i64 x.1).wf = true ∧ (Lit.int .i64 x.2.1).wf = true ∧ (Lit.int .i64 x.2.2.1).wf = true ∧ (Lit.int .i64 x.2.2.2.1).wf = true ∧ (Lit.int .i64 x.2.2.2.2.1).wf = true ∧ (Lit.int .i64 x.2.2.2.2.2.1).wf = true ∧ (Lit.int .i64 x.2.2.2.2.2.2).wf = true) (_ : xs.length ≤ cap) (_ : cap ≤ maxLen)
    (hfr : Row w FA (fs.map (Value.int .i64))) (_ : ∀ n ∈ fs, (Lit.int .i64 n).wf = true) (_ : fs.length ≤ fcap) (_ : fcap ≤ maxLen)
    (hkr : Row w KA (keep.map Value.bool)) (_ : keep.length ≤ kcap) (_ : kcap ≤ maxLen) :
    Calls Try.prog 10 #[.string a, .string b, .slice A xs.length cap, .slice FA fs.length fcap, .slice KA keep.length kcap] w fun e w' => e = .returned (.bool true) ∧ Below w.heap.size w w' := by
  have h := superSaves_walk a b A cap (xs.map toSup) FA fcap fs KA kcap keep w (by rw [List.flatMap_map]; exact hr) hfr hkr
  rw [List.length_map] at h
  exact h
end Go.Proofs.Ytjeoelhenlckaaa
