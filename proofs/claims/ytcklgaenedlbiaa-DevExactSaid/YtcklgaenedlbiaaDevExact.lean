/-
  DevExact, walked: each answer of a row of deeds, and all that is there, is the document's.
-/
import Derived.Test.YtcklgaenedlbiaaDevTwo
import Derived.Test.YtcklgaenedlbiaaStepApp
namespace Go.Proofs.Ytcklgaenedlbiaa
open Go.RowKit Go.Sort

def D0 (n : Nat) (s : ByteArray) : Dv := { Dv.new n with safe := s.data.toList.take (256 * n) }
def room (d : Dv) : Nat := d.loose.length + d.rd + d.wr + d.fl
theorem room_burn (d : Dv) : room d.burn ≤ room d ∧ d.burn.keep.length = d.keep.length := by
  have h := d.burn_same
  unfold room
  omega
theorem room_flush (d : Dv) : room d.flush ≤ room d + 1 ∧ d.flush.keep.length = d.keep.length := by
  have h := d.burn_same
  unfold room Dv.flush
  split
  · omega
  · simp only [List.length_nil]; omega
theorem room_write (d : Dv) (x : Nat × ByteArray) : room (d.write x) ≤ room d + 2 ∧ (d.write x).keep.length = d.keep.length := by
  have h := d.burn_same
  unfold room Dv.write
  split
  · omega
  · simp only [List.length_append, List.length_cons, List.length_nil]; omega
theorem info_r3write : (Try.prog.info? 50).map (fun i => (i.zero, i.size, i.bytes)) = some (some (.agg #[.int .i64 0, .string ⟨#[]⟩]), 2, 24) := by kernel_rfl
theorem room_cut (d : Dv) (keep : List Bool) : room (d.cut keep) ≤ room d ∧ (d.cut keep).keep.length = d.keep.length := by
  have h := d.cut_same keep
  unfold room
  omega
theorem room_come (d : Dv) : room d.come ≤ room d ∧ d.come.keep.length = d.keep.length := by
  unfold room Dv.come
  split
  · exact ⟨Nat.le_refl _, rfl⟩
  · exact ⟨Nat.le_refl _, rfl⟩

set_option maxHeartbeats 32000000 in
set_option maxRecDepth 100000 in
theorem devExact_walk (image : ByteArray) (A : Option Addr) (cap : Nat) (xs : List ActV) (w : World) (hs : image.size ≤ 140737488351232) (hr : Row w A (xs.flatMap ActV.cells)) (_ : xs.length ≤ 9223372036854775807) (hok : ∀ x ∈ xs, (Lit.int .i64 x.kind).wf = true ∧ (Lit.int .i64 x.at_).wf = true ∧ Row w x.KA (bools x.keep) ∧ x.keep.length ≤ 9223372036854775807) :
    Calls Try.prog 4 #[.string image, .slice A xs.length cap] w fun e w' => e = .returned (.bool true) ∧ Below w.heap.size w w' := by
  have HR := hid hr; have HOK := hid hok; clear hr hok
  by_cases h9 : 2304 < image.size
  · have h9' : (2304 : Int) < (image.size : Int) := by omega
    go_enter Try.func4, Try.ntmps4
    go_wp2_with fail
    refine (awake03_any _).mono ?_; rintro e w1 ⟨rfl, hb⟩
    go_wp2_with fail
    go_ret
    exact ⟨rfl, hb⟩
  have h9' : ¬ (2304 : Int) < (image.size : Int) := by omega
  obtain ⟨n, hn⟩ : ∃ n, n = image.size / 256 := ⟨_, rfl⟩
  have hd : (image.size : Int).tdiv 256 = (n : Int) := by rw [Int.tdiv_eq_ediv_of_nonneg (by omega)]; omega
  have hd2 : (image.size : Int) / 256 = (n : Int) := by omega
  have hn9 : n ≤ 9 := by omega
  by_cases hn0 : n = 0
  · subst hn0
    have HC := hid (fun W => dev_Of_no W image (by omega) hs)
    have hd3 : (image.size : Int) / 256 = 0 := hd2
    have hd4 : (image.size : Int).tdiv 256 = 0 := hd
    clear hn hd hd2
    go_enter Try.func4, Try.ntmps4
    go_wp2_with fail
    refine (awake03_any _).mono ?_; rintro e w1 ⟨rfl, hb⟩
    have HB := hid hb; clear hb
    go_wp2_with fail
    refine (HC.out _).mono ?_; rintro e w2 ⟨rfl, rfl⟩
    go_wp2_with fail
    go_ret
    exact ⟨rfl, HB.out⟩
  have HC := hid (fun W => dev_Of W image n hn (by omega) (by omega))
  have hn1 : ((n : Int) == 0) = false := by simp; exact hn0
  obtain ⟨m, hmm⟩ : ∃ m, m = 256 * n := ⟨_, rfl⟩
  have m1 : IntKind.i64.wrap ((n : Int) * 256) = (m : Int) := by rw [IntKind.wrap_i64]; omega
  have m2 : (0 : Int) ≤ (m : Int) := by omega
  have m3 : (m : Int) ≤ (image.size : Int) := by omega
  obtain ⟨im, him⟩ : ∃ im, im = image.extract 0 m := ⟨_, rfl⟩
  have hr3 : r3new im = D0 n image := by
    unfold r3new D0 Dv.new
    rw [him, Lib.extract_data, hmm]; simp
  have hD0 : DvOk n (D0 n image) := by
    have h0 := DvOk.new n (by omega) (by omega)
    refine ⟨h0.n1, h0.n2, ?_, h0.loose, h0.fuse⟩
    show (image.data.toList.take (256 * n)).length = _
    rw [List.length_take]
    have : image.data.toList.length = image.size := by simp
    omega
  have HD0 := hid hD0; have HR3 := hid hr3; have HNN := hid (And.intro hn0 hn9)
  replace him := him.symm
  clear hn hmm hr3 hD0 hd2
  go_enter Try.func4, Try.ntmps4
  go_wp2_with fail
  refine (awake03_any _).mono ?_; rintro e w1 ⟨rfl, hb⟩
  have HB := hid hb; clear hb
  go_wp2_with fail
  refine (HC.out _).mono ?_; rintro e w2 ⟨p, F0, rfl, hD, hb2, hF⟩
  have hdev : Dev w w2 p n (D0 n image) F0 := ⟨hD, bt HB.out hb2, fun k hk => Nat.le_trans HB.out.size (hF k hk), HD0.out, by show 0 ≤ 1000; omega, by show 0 + 0 + 0 + 0 ≤ 1000; omega⟩
  have HDV := hid hdev
  clear HC hD hb2 hF hdev HB
  go_wp2_with fail
  refine (r3_New w w2 HDV.out.bel im).mono ?_; rintro e w3 ⟨q, G0, rfl, hR, hb3, hG⟩
  rw [HR3.out] at hR
  have hDX : DX w w3 p q n (D0 n image) (D0 n image) F0 G0 [] := ⟨HDV.out.below hb3, hR, fun k hk hk2 => by have h1 := HDV.out.at_.sizes k hk; have h2 := hG k hk2; omega, by simp⟩
  have H0 := hid hDX
  clear hR hb3 hG hDX HDV HR3 m1 m2 m3 him hd
  go_wp2_with fail
  go_loopg [8] xs.length (fun g j wx => ∃ (i : Nat) (d : Dv) (F G : List Nat), i + g = xs.length ∧ j = .int .i64 i ∧ Hid (DX w wx p q n d d F G [] ∧ room d ≤ 2 * i ∧ d.keep.length ≤ 100 ∧ i ≤ 50))
  case atStart => exact ⟨0, _, _, _, by omega, rfl, H0.out, by show 0 + 0 + 0 + 0 ≤ 0; omega, by show 0 ≤ 100; omega, by omega⟩
  case round =>
    obtain ⟨i, d, F, G, hi, rfl, HI⟩ := hrel
    clear H0
    by_cases hlt : i < xs.length
    · have hlt' : (i : Int) < (xs.length : Int) := by omega
      by_cases h50 : i < 50
      · have h50' : (i : Int) < 50 := by omega
        obtain ⟨a, ha⟩ : ∃ a, a = xs[i] := ⟨_, rfl⟩
        have hai : xs[i]? = some a := by rw [ha]; simp [hlt]
        have hokx := HOK.out a (by rw [ha]; exact List.getElem_mem _)
        obtain ⟨K, at_, nb, KA, kc, keep⟩ := a
        obtain ⟨hK, hat, hkr, hkm⟩ := hokx
        simp only at hK hat hkr hkm
        obtain ⟨b, off, rfl, hb, hc⟩ := row_cell HR.out (by intro e; have h := act_at xs i 0 _ _ hai rfl; rw [e] at h; cases h)
        have c0 := hc _ _ (act_at xs i 0 _ _ hai rfl)
        have c1 := hc _ _ (act_at xs i 1 _ _ hai rfl)
        have c2 := hc _ _ (act_at xs i 2 _ _ hai rfl)
        have c3 := hc _ _ (act_at xs i 3 _ _ hai rfl)
        simp only at c0 c1 c2 c3
        rw [← HI.out.1.dev.bel.cell (p := ⟨b, _, none⟩) hb, ← Nat.add_assoc, Nat.add_zero] at c0
        rw [← HI.out.1.dev.bel.cell (p := ⟨b, _, none⟩) hb, ← Nat.add_assoc] at c1 c2 c3
        have hatb := wf_i64 hat
        have HKR := hid hkr
        clear hb hc hai ha hK hat hkr
        go_upto_region 16 with fail
        have h4 := HI.out.1.push #[.int .i64 K, .int .i64 at_, .int .u8 nb.toNat, .slice KA keep.length kc]
        obtain ⟨gx, hgx⟩ : ∃ g, g = wr.heap.size := ⟨_, rfl⟩
        rw [← hgx] at h4 ⊢
        have HRM := hid HI.out.2
        clear hgx HI c0 c1 c2 c3
        generalize wr.alloc (.cells #[.int .i64 K, .int .i64 at_, .int .u8 nb.toNat, .slice KA keep.length kc] 35) = w4 at h4 ⊢
        have HX := hid h4
        obtain ⟨hb4, _, _⟩ := h4.box (gx, [.int .i64 K, .int .i64 at_, .int .u8 nb.toNat, .slice KA keep.length kc]) (by simp)
        have c0 : w4.cell? ⟨gx, 0, none⟩ = some (.int .i64 K) := hb4.at rfl
        have c1 : w4.cell? ⟨gx, 1, none⟩ = some (.int .i64 at_) := hb4.at rfl
        have c2 : w4.cell? ⟨gx, 2, none⟩ = some (.int .u8 nb.toNat) := hb4.at rfl
        have c3 : w4.cell? ⟨gx, 3, none⟩ = some (.slice KA keep.length kc) := hb4.at rfl
        clear h4 hb4
        by_cases h100 : 100 < keep.length
        · have h100' : (100 : Int) < (keep.length : Int) := by omega
          go_wp2_with fail
          go_ret
          exact ⟨rfl, HX.out.dev.bel⟩
        have h100' : ¬ (100 : Int) < (keep.length : Int) := by omega
        obtain ⟨inn, hin⟩ : ∃ inn, inn = (decide (0 ≤ at_) && decide (at_ < (n : Int))) := ⟨_, rfl⟩
        go_upto_region 18 with fail
        go_cut [10] from 57 to 65 (fun v wx => v = .bool inn ∧ wx = w4)
        case first =>
          by_cases h0 : 0 ≤ at_
          · have h0' : decide (0 ≤ at_) = true := decide_eq_true h0
            by_cases h1 : at_ < (n : Int)
            · have h1' : decide (at_ < (n : Int)) = true := decide_eq_true h1
              go_wp2_with fail
              go_meet
              exact ⟨by rw [hin, h0', h1']; rfl, rfl⟩
            · have h1' : decide (at_ < (n : Int)) = false := decide_eq_false h1
              go_wp2_with fail
              go_meet
              exact ⟨by rw [hin, h0', h1']; rfl, rfl⟩
          · have h0' : decide (0 ≤ at_) = false := decide_eq_false h0
            go_wp2_with fail
            go_meet
            exact ⟨by rw [hin, h0']; rfl, rfl⟩
        case rest =>
          obtain ⟨rfl, rfl⟩ := hcut
          have HIN := hid hin; have HAT := hid hatb; have HDK := hid HX.out.dev.ok
          clear hin hatb
          go_upto_block 2 with fail
          go_cut [11, 12, 13, 14, 15] from 68 to 231 (fun v11 v12 v13 v14 v15 wx => ∃ (d2 : Dv) (F2 G2 : List Nat), Hid (DX w wx p q n d2 d2 F2 G2 [] ∧ room d2 ≤ 2 * (i + 1) ∧ d2.keep.length ≤ 100))
          case first =>
            by_cases k6 : K = 6
            · subst k6
              as_aux_lemma =>
                clear c1 c2 c3
                obtain ⟨bo, hbo⟩ : ∃ bo, bo = d.burn.off := ⟨_, rfl⟩
                have hW := dv_Flush HX.out.dev (by have h1 := HRM.out.1; have h2 := HRM.out.2.2; unfold room at h1; omega)
                have hB := fun (w5 : World) (h : R3 w w5 q d G) => r3_Burnt h n HDK.out (by have h1 := HRM.out.2.1; omega) (by have h1 := HRM.out.1; have h2 := HRM.out.2.2; unfold room at h1; omega)
                rw [← hbo] at hW
                simp only [← hbo] at hB
                have HW := hid hW; have HB := hid hB; have HBO := hid hbo
                clear hW hB hbo
                cases bo with
                | true =>
                  go_wp2_with fail
                  refine HW.out.mono ?_; rintro e w5 ⟨rfl, hd, hk⟩
                  have hfl : d.flush = d.burn := by unfold Dv.flush; rw [if_pos HBO.out.symm]
                  rw [hfl] at hd
                  have H5 := hid (HX.out.dev0 hd hk)
                  clear hd hk hfl
                  go_wp2_with fail
                  refine (HB.out _ H5.out.ref).mono ?_; rintro e w6 ⟨rfl, hr, hk⟩
                  have H6 := hid (H5.out.ref0 hr hk)
                  clear hr hk H5
                  go_wp2_with fail
                  go_meet
                  have hb := room_burn d
                  exact ⟨d.burn, F, G, H6.out.bare, by have := HRM.out.1; omega, by have := HRM.out.2.1; omega⟩
                | false =>
                  go_wp2_with fail
                  refine HW.out.mono ?_; rintro e w5 ⟨rfl, hd, hk⟩
                  have hfl : d.flush = { d.burn with safe := flushN d.burn.safe d.burn.loose, loose := [], fl := d.burn.fl + 1 } := by unfold Dv.flush; rw [← HBO.out]; rfl
                  have H5 := hid (HX.out.dev0 hd hk)
                  clear hd hk
                  go_wp2_with fail
                  refine (HB.out _ H5.out.ref).mono ?_; rintro e w6 ⟨rfl, hr, hk⟩
                  have H6 := hid (H5.out.ref0 hr hk)
                  clear hr hk H5
                  go_wp2_with fail
                  have hb := room_burn d
                  refine (r3_Flush H6.out.ref n HDK.out.burn (by have h1 := HRM.out.1; have h2 := HRM.out.2.2; have h3 := hb.1; unfold room at h1 h3; omega) (by have h1 := HRM.out.1; have h2 := HRM.out.2.2; have h3 := hb.1; unfold room at h1 h3; omega)).mono ?_; rintro e w7 ⟨rfl, hr, hk⟩
                  rw [← hfl] at hr
                  have H7 := hid (H6.out.ref0 hr hk)
                  clear hr hk H6
                  go_wp2_with fail
                  go_meet
                  have hb2 := room_flush d
                  exact ⟨d.flush, F, G, H7.out.bare, by have := HRM.out.1; omega, by have := HRM.out.2.1; omega⟩
            by_cases k7 : K = 7
            · subst k7
              as_aux_lemma =>
                go_wp2_with fail
                refine (dv_Cut HX.out.dev KA kc keep (HKR.out.below HX.out.dev.bel) (by omega)).mono ?_; rintro e w5 ⟨rfl, hd, hk⟩
                have H5 := hid (HX.out.dev0 hd hk)
                clear hd hk c0 c1 c2 c3
                obtain ⟨hb_, _, _⟩ := H5.out.box (gx, [.int .i64 7, .int .i64 at_, .int .u8 nb.toNat, .slice KA keep.length kc]) (by simp)
                have c0 : w5.cell? ⟨gx, 0, none⟩ = some (.int .i64 7) := hb_.at rfl
                have c1 : w5.cell? ⟨gx, 1, none⟩ = some (.int .i64 at_) := hb_.at rfl
                have c3 : w5.cell? ⟨gx, 3, none⟩ = some (.slice KA keep.length kc) := hb_.at rfl
                clear hb_
                go_wp2_with fail
                refine (r3_Cut H5.out.ref n HDK.out KA kc keep HKR.out (by omega) (by have h1 := HRM.out.1; have h2 := HRM.out.2.2; unfold room at h1; omega)).mono ?_; rintro e w6 ⟨rfl, hr, hk⟩
                have H6 := hid (H5.out.ref0 hr hk)
                clear hr hk H5 c0 c1 c3
                go_wp2_with fail
                go_meet
                have hb := room_cut d keep
                exact ⟨d.cut keep, F, G, H6.out.bare, by have := HRM.out.1; omega, by have := HRM.out.2.1; omega⟩
            by_cases k8 : K = 8
            · subst k8
              as_aux_lemma =>
                rcases Int.lt_or_le at_ (-1) with hlt8 | hge8
                · have HMX := hid (show (-1 : Int) = max at_ (-1) by omega)
                  have hlt8' : ¬ (-1 : Int) ≤ at_ := by omega
                  go_wp2_with fail
                  have hF8 := dv_Fuse HX.out.dev at_ (by have := HAT.out; omega) KA kc keep (HKR.out.below HX.out.dev.bel) (by omega)
                  rw [show max at_ (-1) = (-1) from HMX.out.symm] at hF8
                  refine hF8.mono ?_; rintro e w5 ⟨rfl, F5, hd, hk, hF⟩
                  have H5 := hid (HX.out.dev1 hd hk hF)
                  clear hF8 hd hk hF c0 c1 c2 c3
                  obtain ⟨hb_, _, _⟩ := H5.out.box (gx, [.int .i64 8, .int .i64 at_, .int .u8 nb.toNat, .slice KA keep.length kc]) (by simp)
                  have c0 : w5.cell? ⟨gx, 0, none⟩ = some (.int .i64 8) := hb_.at rfl
                  have c1 : w5.cell? ⟨gx, 1, none⟩ = some (.int .i64 at_) := hb_.at rfl
                  have c3 : w5.cell? ⟨gx, 3, none⟩ = some (.slice KA keep.length kc) := hb_.at rfl
                  clear hb_
                  have g := H5.out.ref.fuse (-1) KA kc keep HKR.out
                  obtain ⟨L, KA0, kc0, gi, _, _⟩ := H5.out.ref.inn
                  have f3 := gi.free 3 (by decide)
                  have q3 : w5.cell? ⟨q, 3, none⟩ = some (.int .i64 d.fuse) := gi.box.at rfl
                  have gi2 := gi.put (d' := { d with fuse := (-1) }) 3 (.int .i64 (-1)) rfl rfl
                  have f4 := gi2.free 4 (by decide)
                  have q4 : (w5.setCell ⟨q, 3, none⟩ (.int .i64 (-1))).cell? ⟨q, 4, none⟩ = some (.slice KA0 d.keep.length kc0) := gi2.box.at rfl
                  have hk3 := keeps_setCell w5 ⟨q, 3, none⟩ (.int .i64 (-1))
                  have hqx : gx ∉ [q] := by
                    intro hm
                    simp at hm
                    have := (H5.out.box (gx, [.int .i64 8, .int .i64 at_, .int .u8 nb.toNat, .slice KA keep.length kc]) (by simp)).2.2
                    exact this (by rw [hm]; exact H5.out.ref.mem)
                  have hgl : gx < w5.heap.size := (H5.out.box (gx, [.int .i64 8, .int .i64 at_, .int .u8 nb.toNat, .slice KA keep.length kc]) (by simp)).1.lt
                  have c3' : (w5.setCell ⟨q, 3, none⟩ (.int .i64 (-1))).cell? ⟨gx, 3, none⟩ = some (.slice KA keep.length kc) := (hk3.cell hgl hqx).trans c3
                  have H6 := hid (H5.out.ref0 g.1 g.2)
                  clear g gi gi2 hk3 hqx hgl
                  go_wp2_with fail
                  go_meet
                  exact ⟨{ d with fuse := (-1), keep := keep }, F5, G, H6.out.bare, by have := HRM.out.1; show room d ≤ _; omega, by show keep.length ≤ 100; omega⟩
                · have HMX := hid (show at_ = max at_ (-1) by omega)
                  have hge8' : ¬ at_ < -1 := by omega
                  go_wp2_with fail
                  have hF8 := dv_Fuse HX.out.dev at_ (by have := HAT.out; omega) KA kc keep (HKR.out.below HX.out.dev.bel) (by omega)
                  rw [show max at_ (-1) = at_ from HMX.out.symm] at hF8
                  refine hF8.mono ?_; rintro e w5 ⟨rfl, F5, hd, hk, hF⟩
                  have H5 := hid (HX.out.dev1 hd hk hF)
                  clear hF8 hd hk hF c0 c1 c2 c3
                  obtain ⟨hb_, _, _⟩ := H5.out.box (gx, [.int .i64 8, .int .i64 at_, .int .u8 nb.toNat, .slice KA keep.length kc]) (by simp)
                  have c0 : w5.cell? ⟨gx, 0, none⟩ = some (.int .i64 8) := hb_.at rfl
                  have c1 : w5.cell? ⟨gx, 1, none⟩ = some (.int .i64 at_) := hb_.at rfl
                  have c3 : w5.cell? ⟨gx, 3, none⟩ = some (.slice KA keep.length kc) := hb_.at rfl
                  clear hb_
                  have g := H5.out.ref.fuse at_ KA kc keep HKR.out
                  obtain ⟨L, KA0, kc0, gi, _, _⟩ := H5.out.ref.inn
                  have f3 := gi.free 3 (by decide)
                  have q3 : w5.cell? ⟨q, 3, none⟩ = some (.int .i64 d.fuse) := gi.box.at rfl
                  have gi2 := gi.put (d' := { d with fuse := at_ }) 3 (.int .i64 at_) rfl rfl
                  have f4 := gi2.free 4 (by decide)
                  have q4 : (w5.setCell ⟨q, 3, none⟩ (.int .i64 at_)).cell? ⟨q, 4, none⟩ = some (.slice KA0 d.keep.length kc0) := gi2.box.at rfl
                  have hk3 := keeps_setCell w5 ⟨q, 3, none⟩ (.int .i64 at_)
                  have hqx : gx ∉ [q] := by
                    intro hm
                    simp at hm
                    have := (H5.out.box (gx, [.int .i64 8, .int .i64 at_, .int .u8 nb.toNat, .slice KA keep.length kc]) (by simp)).2.2
                    exact this (by rw [hm]; exact H5.out.ref.mem)
                  have hgl : gx < w5.heap.size := (H5.out.box (gx, [.int .i64 8, .int .i64 at_, .int .u8 nb.toNat, .slice KA keep.length kc]) (by simp)).1.lt
                  have c3' : (w5.setCell ⟨q, 3, none⟩ (.int .i64 at_)).cell? ⟨gx, 3, none⟩ = some (.slice KA keep.length kc) := (hk3.cell hgl hqx).trans c3
                  have H6 := hid (H5.out.ref0 g.1 g.2)
                  clear g gi gi2 hk3 hqx hgl
                  go_wp2_with fail
                  go_meet
                  exact ⟨{ d with fuse := at_, keep := keep }, F5, G, H6.out.bare, by have := HRM.out.1; show room d ≤ _; omega, by show keep.length ≤ 100; omega⟩
            by_cases k9 : K = 9
            · subst k9
              as_aux_lemma =>
                obtain ⟨bo, hbo⟩ : ∃ bo, bo = d.off := ⟨_, rfl⟩
                have HBO := hid hbo
                clear hbo c1 c2 c3
                go_wp2_with fail
                refine (dv_Come HX.out.dev).mono ?_; rintro e w5 ⟨rfl, hd, hk⟩
                have H5 := hid (HX.out.dev0 hd hk)
                clear hd hk c0
                have hb := room_come d
                obtain ⟨L, KA0, kc0, gi, _, _⟩ := H5.out.ref.inn
                have q2 : w5.cell? ⟨q, 2, none⟩ = some (.bool (!d.off)) := gi.box.at rfl
                rw [← HBO.out] at q2
                have f2 := gi.free 2 (by decide)
                cases bo with
                | true =>
                  simp only [Bool.not_true] at q2
                  have g := H5.out.ref.come HBO.out.symm
                  have gi2 := gi.put (d' := { d with off := false }) 2 (.bool true) rfl rfl
                  have f3 := gi2.free 3 (by decide)
                  have q3 : (w5.setCell ⟨q, 2, none⟩ (.bool true)).cell? ⟨q, 3, none⟩ = some (.int .i64 d.fuse) := gi2.box.at rfl
                  have H6 := hid (H5.out.ref0 g.1 g.2)
                  clear g gi gi2
                  go_wp2_with fail
                  go_meet
                  exact ⟨d.come, F, G, H6.out.bare, by have := HRM.out.1; omega, by have := HRM.out.2.1; omega⟩
                | false =>
                  simp only [Bool.not_false] at q2
                  have hdc : d.come = d := by unfold Dv.come; rw [← HBO.out]; rfl
                  rw [hdc] at H5
                  clear gi
                  go_wp2_with fail
                  go_meet
                  exact ⟨d, F, G, H5.out.bare, by have := HRM.out.1; omega, by have := HRM.out.2.1; omega⟩
            by_cases k10 : K = 10
            · subst k10
              as_aux_lemma =>
                obtain ⟨bo, hbo⟩ : ∃ bo, bo = d.off := ⟨_, rfl⟩
                have HBO := hid hbo
                clear hbo c1 c2 c3
                go_wp2_with fail
                refine (dv_Come HX.out.dev).mono ?_; rintro e w5 ⟨rfl, hd, hk⟩
                have H5 := hid (HX.out.dev0 hd hk)
                clear hd hk c0
                have hb := room_come d
                obtain ⟨L, KA0, kc0, gi, _, _⟩ := H5.out.ref.inn
                have q2 : w5.cell? ⟨q, 2, none⟩ = some (.bool (!d.off)) := gi.box.at rfl
                rw [← HBO.out] at q2
                have f2 := gi.free 2 (by decide)
                cases bo with
                | true =>
                  simp only [Bool.not_true] at q2
                  have g := H5.out.ref.come HBO.out.symm
                  have gi2 := gi.put (d' := { d with off := false }) 2 (.bool true) rfl rfl
                  have f3 := gi2.free 3 (by decide)
                  have q3 : (w5.setCell ⟨q, 2, none⟩ (.bool true)).cell? ⟨q, 3, none⟩ = some (.int .i64 d.fuse) := gi2.box.at rfl
                  have H6 := hid (H5.out.ref0 g.1 g.2)
                  clear g gi gi2
                  go_wp2_with fail
                  go_meet
                  exact ⟨d.come, F, G, H6.out.bare, by have := HRM.out.1; omega, by have := HRM.out.2.1; omega⟩
                | false =>
                  simp only [Bool.not_false] at q2
                  have hdc : d.come = d := by unfold Dv.come; rw [← HBO.out]; rfl
                  rw [hdc] at H5
                  clear gi
                  go_wp2_with fail
                  go_meet
                  exact ⟨d, F, G, H5.out.bare, by have := HRM.out.1; omega, by have := HRM.out.2.1; omega⟩
            by_cases k11 : K = 11
            · subst k11
              as_aux_lemma =>
                cases inn with
                | false =>
                  go_wp2_with fail
                  refine (dev_Read_range wc p d F HX.out.dev.at_ n HDK.out at_ HIN.out.symm).mono ?_; rintro e w5 ⟨rfl, rfl⟩
                  clear c0 c1 c2 c3
                  go_wp2_with fail
                  go_meet
                  exact ⟨d, F, G, HX.out.bare, by have := HRM.out.1; omega, by have := HRM.out.2.1; omega⟩
                | true =>
                  obtain ⟨hi0, hi1⟩ : 0 ≤ at_ ∧ at_ < (n : Int) := by have := HIN.out; simpa using this.symm
                  obtain ⟨a, rfl⟩ : ∃ a : Nat, at_ = (a : Int) := ⟨at_.toNat, by omega⟩
                  have han : a < n := by omega
                  clear hi0 hi1
                  obtain ⟨bo, hbo⟩ : ∃ bo, bo = d.off := ⟨_, rfl⟩
                  have HBO := hid hbo
                  clear hbo
                  cases bo with
                  | true =>
                    go_wp2_with fail
                    refine (dev_Read_off wc p d F HX.out.dev.at_ n HDK.out a han HBO.out.symm).mono ?_; rintro e w5 ⟨rfl, rfl⟩
                    obtain ⟨L, KA0, kc0, gi, _, _⟩ := HX.out.ref.inn
                    have q2 : wc.cell? ⟨q, 2, none⟩ = some (.bool (!d.off)) := gi.box.at rfl
                    rw [← HBO.out] at q2
                    simp only [Bool.not_true] at q2
                    clear c0 c1 c2 c3 gi
                    go_wp2_with fail
                    go_meet
                    exact ⟨d, F, G, HX.out.bare, by have := HRM.out.1; omega, by have := HRM.out.2.1; omega⟩
                  | false =>
                    go_wp2_with fail
                    refine (dv_Read HX.out.dev a han HBO.out.symm (by have h1 := HRM.out.1; have h2 := HRM.out.2.2; unfold room at h1; omega)).mono ?_; rintro e w5 ⟨rfl, hd, hk⟩
                    have H5 := hid (HX.out.dev0 hd hk)
                    clear hd hk c0 c1 c2 c3
                    obtain ⟨L, KA0, kc0, gi, gkr, gL⟩ := H5.out.ref.inn
                    have q2 : w5.cell? ⟨q, 2, none⟩ = some (.bool (!d.off)) := gi.box.at rfl
                    rw [← HBO.out] at q2
                    simp only [Bool.not_false] at q2
                    have q5 : w5.cell? ⟨q, 5, none⟩ = some (.int .i64 d.rd) := gi.box.at rfl
                    have f5 := gi.free 5 (by decide)
                    have g := H5.out.ref.set (d' := { d with rd := d.rd + 1 }) gi gL gkr 5 (.int .i64 ((d.rd + 1 : Nat) : Int)) rfl rfl
                    have e5 : ((d.rd + 1 : Nat) : Int) = (d.rd : Int) + 1 := by omega
                    rw [e5] at g
                    have H6 := hid (H5.out.ref0 g.1 g.2)
                    have hrd : (d.rd : Int) ≤ 1000 := by have h1 := HRM.out.1; have h2 := HRM.out.2.2; unfold room at h1; omega
                    have hrd0 : (0 : Int) ≤ (d.rd : Int) := by omega
                    obtain ⟨blk, hblk⟩ : ∃ blk, blk = d.read a := ⟨_, rfl⟩
                    rw [← hblk]
                    have HBK := hid hblk
                    obtain ⟨hb6, _, _⟩ := H6.out.box (gx, [.int .i64 11, .int .i64 a, .int .u8 nb.toNat, .slice KA keep.length kc]) (by simp)
                    have c1 : (w5.setCell ⟨q, 5, none⟩ (.int .i64 ((d.rd : Int) + 1))).cell? ⟨gx, 1, none⟩ = some (.int .i64 a) := hb6.at rfl
                    clear g gi gkr gL H5 e5 hblk hb6
                    go_wp2_with fail
                    have hC := r3_Read H6.out.ref n ⟨HDK.out.n1, HDK.out.n2, HDK.out.size, HDK.out.loose, HDK.out.fuse⟩ a han (by have h1 := HRM.out.1; have h2 := HRM.out.2.2; unfold room at h1; show d.loose.length ≤ _; omega)
                    rw [show ({ d with rd := d.rd + 1 } : Dv).read a = d.read a from rfl, ← HBK.out] at hC
                    refine hC.mono ?_; rintro e w6 ⟨rfl, rfl⟩
                    clear hC
                    go_wp2_with fail
                    go_meet
                    exact ⟨{ d with rd := d.rd + 1 }, F, G, H6.out.bare, by have := HRM.out.1; unfold room at this ⊢; simp only; omega, by have := HRM.out.2.1; exact this⟩
            have e6 : (K == 6) = false := by simpa using k6
            have e7 : (K == 7) = false := by simpa using k7
            have e8 : (K == 8) = false := by simpa using k8
            have e9 : (K == 9) = false := by simpa using k9
            have e10 : (K == 10) = false := by simpa using k10
            have e11 : (K == 11) = false := by simpa using k11
            obtain ⟨B, hB⟩ : ∃ B, B = oneB nb := ⟨_, rfl⟩
            have hbs : B.size = 256 := by rw [hB]; exact oneB_size nb
            go_wp2_with fail
            refine (law03_block nb _).mono ?_; rintro e w5 ⟨rfl, hb⟩
            rw [← hB]
            have H5 := hid (HX.out.below hb)
            clear hb c0 c1 c2 c3 hB
            by_cases k4 : K = 4
            · subst k4
              obtain ⟨B1, hB1⟩ : ∃ B1, B1 = B.extract 1 256 := ⟨_, rfl⟩
              have hbz : B1.size = 255 := by rw [hB1, ByteArray.size_extract, hbs]; decide
              have hbs' : (B.size : Int) = 256 := by rw [hbs]; rfl
              replace hB1 := hB1.symm
              as_aux_lemma =>
                obtain ⟨hb_, _, _⟩ := H5.out.box (gx, [.int .i64 4, .int .i64 at_, .int .u8 nb.toNat, .slice KA keep.length kc]) (by simp)
                have c0 : w5.cell? ⟨gx, 0, none⟩ = some (.int .i64 4) := hb_.at rfl
                have c1 : w5.cell? ⟨gx, 1, none⟩ = some (.int .i64 at_) := hb_.at rfl
                have c3 : w5.cell? ⟨gx, 3, none⟩ = some (.slice KA keep.length kc) := hb_.at rfl
                clear hb_
                cases inn with
                | false =>
                  go_wp2_with fail
                  refine (dev_Write_range w5 p d F H5.out.dev.at_ n HDK.out at_ B1 HIN.out.symm).mono ?_; rintro e w6 ⟨rfl, rfl⟩
                  clear c0 c1 c3
                  go_wp2_with fail
                  go_meet
                  exact ⟨d, F, G, H5.out.bare, by have := HRM.out.1; omega, by have := HRM.out.2.1; omega⟩
                | true =>
                  obtain ⟨hi0, hi1⟩ : 0 ≤ at_ ∧ at_ < (n : Int) := by have := HIN.out; simpa using this.symm
                  obtain ⟨a, rfl⟩ : ∃ a : Nat, at_ = (a : Int) := ⟨at_.toNat, by omega⟩
                  have han : a < n := by omega
                  clear hi0 hi1
                  go_wp2_with fail
                  refine (dev_Write_arg w5 p d F H5.out.dev.at_ n HDK.out a B1 han (by rw [hbz]; decide)).mono ?_; rintro e w6 ⟨rfl, rfl⟩
                  clear c0 c1 c3
                  have hbz' : (B1.size : Int) = 255 := by rw [hbz]; rfl
                  go_wp2_with fail
                  go_meet
                  exact ⟨d, F, G, H5.out.bare, by have := HRM.out.1; omega, by have := HRM.out.2.1; omega⟩
            by_cases k5 : K = 5
            · subst k5
              obtain ⟨B2, hB2⟩ : ∃ B2 : ByteArray, B2 = B ++ ⟨#[120]⟩ := ⟨_, rfl⟩
              have hbz : B2.size = 257 := by rw [hB2, ByteArray.size_append, hbs]; rfl
              have s1 : ¬ (9223372036854775807 < B.size + 1) := by omega
              replace hB2 := hB2.symm
              as_aux_lemma =>
                obtain ⟨hb_, _, _⟩ := H5.out.box (gx, [.int .i64 5, .int .i64 at_, .int .u8 nb.toNat, .slice KA keep.length kc]) (by simp)
                have c0 : w5.cell? ⟨gx, 0, none⟩ = some (.int .i64 5) := hb_.at rfl
                have c1 : w5.cell? ⟨gx, 1, none⟩ = some (.int .i64 at_) := hb_.at rfl
                have c3 : w5.cell? ⟨gx, 3, none⟩ = some (.slice KA keep.length kc) := hb_.at rfl
                clear hb_
                cases inn with
                | false =>
                  go_wp2_with fail
                  refine (dev_Write_range w5 p d F H5.out.dev.at_ n HDK.out at_ B2 HIN.out.symm).mono ?_; rintro e w6 ⟨rfl, rfl⟩
                  clear c0 c1 c3
                  go_wp2_with fail
                  go_meet
                  exact ⟨d, F, G, H5.out.bare, by have := HRM.out.1; omega, by have := HRM.out.2.1; omega⟩
                | true =>
                  obtain ⟨hi0, hi1⟩ : 0 ≤ at_ ∧ at_ < (n : Int) := by have := HIN.out; simpa using this.symm
                  obtain ⟨a, rfl⟩ : ∃ a : Nat, at_ = (a : Int) := ⟨at_.toNat, by omega⟩
                  have han : a < n := by omega
                  clear hi0 hi1
                  go_wp2_with fail
                  refine (dev_Write_arg w5 p d F H5.out.dev.at_ n HDK.out a B2 han (by rw [hbz]; decide)).mono ?_; rintro e w6 ⟨rfl, rfl⟩
                  clear c0 c1 c3
                  have hbz' : (B2.size : Int) = 257 := by rw [hbz]; rfl
                  go_wp2_with fail
                  go_meet
                  exact ⟨d, F, G, H5.out.bare, by have := HRM.out.1; omega, by have := HRM.out.2.1; omega⟩
            have e4 : (K == 4) = false := by simpa using k4
            have e5 : (K == 5) = false := by simpa using k5
            have hbz := hbs
            as_aux_lemma =>
              obtain ⟨hb_, _, _⟩ := H5.out.box (gx, [.int .i64 K, .int .i64 at_, .int .u8 nb.toNat, .slice KA keep.length kc]) (by simp)
              have c0 : w5.cell? ⟨gx, 0, none⟩ = some (.int .i64 K) := hb_.at rfl
              have c1 : w5.cell? ⟨gx, 1, none⟩ = some (.int .i64 at_) := hb_.at rfl
              have c3 : w5.cell? ⟨gx, 3, none⟩ = some (.slice KA keep.length kc) := hb_.at rfl
              clear hb_
              cases inn with
              | false =>
                go_wp2_with fail
                refine (dev_Write_range w5 p d F H5.out.dev.at_ n HDK.out at_ B HIN.out.symm).mono ?_; rintro e w6 ⟨rfl, rfl⟩
                clear c0 c1 c3
                go_wp2_with fail
                go_meet
                exact ⟨d, F, G, H5.out.bare, by have := HRM.out.1; omega, by have := HRM.out.2.1; omega⟩
              | true =>
                obtain ⟨hi0, hi1⟩ : 0 ≤ at_ ∧ at_ < (n : Int) := by have := HIN.out; simpa using this.symm
                obtain ⟨a, rfl⟩ : ∃ a : Nat, at_ = (a : Int) := ⟨at_.toNat, by omega⟩
                have han : a < n := by omega
                clear hi0 hi1
                obtain ⟨bo, hbo⟩ : ∃ bo, bo = d.burn.off := ⟨_, rfl⟩
                have hW := dv_Write H5.out.dev a B han hbz (by have h1 := HRM.out.1; have h2 := HRM.out.2.2; unfold room at h1; omega)
                have hB := fun (w6 : World) (h : R3 w w6 q d G) => r3_Burnt h n HDK.out (by have h1 := HRM.out.2.1; omega) (by have h1 := HRM.out.1; have h2 := HRM.out.2.2; unfold room at h1; omega)
                rw [← hbo] at hW
                simp only [← hbo] at hB
                have HW := hid hW; have HB := hid hB; have HBO := hid hbo
                have hbz' : (B.size : Int) = 256 := by rw [hbz]; rfl
                clear hW hB hbo
                cases bo with
                | true =>
                  go_wp2_with fail
                  refine HW.out.mono ?_; rintro e w6 ⟨rfl, F6, hd, hk, hF⟩
                  have hdw : d.write (a, B) = d.burn := by unfold Dv.write; rw [if_pos HBO.out.symm]
                  rw [hdw] at hd
                  have H6 := hid (H5.out.dev1 hd hk hF)
                  clear hd hk hF hdw c0 c1 c3 H5 HW
                  go_wp2_with fail
                  refine (HB.out _ H6.out.ref).mono ?_; rintro e w7 ⟨rfl, hr, hk⟩
                  have H7 := hid (H6.out.ref0 hr hk)
                  clear hr hk H6
                  go_wp2_with fail
                  go_meet
                  have hb := room_burn d
                  exact ⟨d.burn, F6, G, H7.out.bare, by have := HRM.out.1; omega, by have := HRM.out.2.1; omega⟩
                | false =>
                  go_wp2_with fail
                  refine HW.out.mono ?_; rintro e w6 ⟨rfl, F6, hd, hk, hF⟩
                  have hdw : d.write (a, B) = { d.burn with loose := d.burn.loose ++ [(a, B)], wr := d.burn.wr + 1 } := by unfold Dv.write; rw [← HBO.out]; rfl
                  have H6 := hid (H5.out.dev1 hd hk hF)
                  clear hd hk hF c0 c1 c3 H5 HW
                  go_wp2_with fail
                  refine (HB.out _ H6.out.ref).mono ?_; rintro e w7 ⟨rfl, hr, hk⟩
                  have H7 := hid (H6.out.ref0 hr hk)
                  clear hr hk H6
                  go_upto_region 35 with fail
                  obtain ⟨hb7, _, _⟩ := H7.out.box (gx, [.int .i64 K, .int .i64 a, .int .u8 nb.toNat, .slice KA keep.length kc]) (by simp)
                  have c1 : w7.cell? ⟨gx, 1, none⟩ = some (.int .i64 a) := hb7.at rfl
                  have hgq : gx ≠ q := fun e => (H7.out.box (gx, [.int .i64 K, .int .i64 a, .int .u8 nb.toNat, .slice KA keep.length kc]) (by simp)).2.2 (by rw [show gx = q from e]; exact H7.out.ref.mem)
                  obtain ⟨L, KA0, kc0, gi, gkr, gL⟩ := H7.out.ref.inn
                  obtain ⟨LA, lcap, rfl, _⟩ := ownsRowF_row gi.loose
                  have q1 : w7.cell? ⟨q, 1, none⟩ = some (.slice LA d.burn.loose.length lcap) := gi.box.at rfl
                  obtain ⟨i0, hi0, hz0, hz1, hz2⟩ := info_parts info_r3write
                  have HI0 := hid hi0; have HZ0 := hid hz0; have HZ1 := hid hz1; have HZ2 := hid hz2
                  have OWN : Hid ((w7.drew.alloc (.cells #[.int .i64 a, .string B] 50)).ownsRowF 0 50 2 (.slice LA d.burn.loose.length lcap) d.burn.loose.length (d.burn.loose.flatMap wrCells)) := ownsRowF_below (show w7.drew.ownsRowF 0 50 2 (.slice LA d.burn.loose.length lcap) d.burn.loose.length (d.burn.loose.flatMap wrCells) from gi.loose) (below_alloc _ _)
                  have ROWN : Hid (Row (w7.drew.alloc (.cells #[.int .i64 a, .string B] 50)) (some ⟨w7.heap.size, 0, none⟩) (wrCells (a, B))) := row_new w7.drew #[.int .i64 a, .string B] _
                  have hbu := room_burn d
                  have hrm9 : d.burn.loose.length ≤ 1000 ∧ d.burn.wr ≤ 1000 := by have h1 := HRM.out.1; have h2 := HRM.out.2.2; have h3 := hbu.1; unfold room at h1 h3; omega
                  have HR9 := hid hrm9; have GI := hid (And.intro gi (And.intro gkr gL)); have HDW := hid hdw
                  have hne := ownsRowF_ne gi.loose gi.box (by decide)
                  have HNE := hid hne
                  have c1a : (w7.alloc (.cells #[.int .i64 a, .string B] 50)).cell? ⟨gx, 1, none⟩ = some (.int .i64 a) := (hb7.belowS (below_alloc _ _)).at rfl
                  have q1a : (w7.alloc (.cells #[.int .i64 a, .string B] 50)).cell? ⟨q, 1, none⟩ = some (.slice LA d.burn.loose.length lcap) := (gi.box.belowS (below_alloc _ _)).at rfl
                  have HB7 := hid (And.intro hb7 (And.intro (fun (hm : gx ∈ (Value.slice LA d.burn.loose.length lcap).ownBlock.toList) => (H7.out.box (gx, [.int .i64 K, .int .i64 a, .int .u8 nb.toNat, .slice KA keep.length kc]) (by simp)).2.2 (gL _ (Option.mem_toList.1 hm))) hgq))
                  clear hi0 hz0 hz1 hz2 gi gkr gL hbu hrm9 hdw hne hgq hb7
                  go_cut [] from 99 to 111 (fun wx => ∃ (VA : Option Addr) (vcap : Nat) (w8 : World), Hid (w8.ownsRowF 0 50 2 (.slice VA (d.burn.loose.length + 1) vcap) (d.burn.loose.length + 1) (d.burn.loose.flatMap wrCells ++ wrCells (a, B)) ∧ Keeps (Value.slice LA d.burn.loose.length lcap).ownBlock.toList w7 w8 ∧ ∀ k, (Value.slice VA (d.burn.loose.length + 1) vcap).ownBlock = some k → (Value.slice LA d.burn.loose.length lcap).ownBlock = some k ∨ w7.heap.size ≤ k) ∧ wx = w8.setCell ⟨q, 1, none⟩ (.slice VA (d.burn.loose.length + 1) vcap))
                  case first =>
                   rename_i J1 K1 hJ1 hK1
                   have hk1 := fun (a' : Act) (w' : World) h => hK1 a' w' (Met.intro (hJ1 a' w' h))
                   clear hJ1 hK1
                   go_light
                   go_region_law (first
                    | (refine step_append_row rfl (.tmp 103) (.tmp 108) 41 50 rfl i0 _ 2 24 Try.underlying41 HI0.out HZ0.out HZ1.out HZ2.out rfl (by decide) (.slice LA d.burn.loose.length lcap) d.burn.loose.length (d.burn.loose.flatMap wrCells) rfl OWN.out (some ⟨w7.heap.size, 0, none⟩) 1 1 (wrCells (a, B)) rfl rfl ROWN.out (by intro u hu; simp only [wrCells, List.mem_cons, List.not_mem_nil, or_false] at hu; rcases hu with rfl | rfl <;> rfl) (by have := HR9.out.1; simp only [maxLen]; omega) (by have := HR9.out.1; omega) ?_
                       intro V6 w8 hown6 hkp6 hvb6
                       obtain ⟨VA, vcap, rfl, _⟩ := ownsRowF_row hown6
                       have hk8 : Keeps (Value.slice LA d.burn.loose.length lcap).ownBlock.toList w7 w8 := ((Keeps.refl _ w7).drew.trans (Keeps.of (below_alloc _ _))).trans hkp6
                       have b8 : Blk w8 q 43 (r3Cells d.burn (.slice LA d.burn.loose.length lcap) KA0 kc0) := GI.out.1.box.keeps hk8 (fun hm => HNE.out (Option.mem_toList.1 hm))
                       have q1 : w8.cell? ⟨q, 1, none⟩ = some (.slice LA d.burn.loose.length lcap) := b8.at rfl
                       have f1 : w8.frozen? ⟨q, 1, none⟩ = false := b8.free (i := 1) (by show 1 < 8; decide)
                       have c18 : w8.cell? ⟨gx, 1, none⟩ = some (.int .i64 a) := (Keeps.cell hk8 HB7.out.1.lt HB7.out.2.1).trans c1
                       have c1s : (w8.setCell ⟨q, 1, none⟩ (.slice VA (d.burn.loose.length + 1) vcap)).cell? ⟨gx, 1, none⟩ = some (.int .i64 a) := ((keeps_setCell w8 ⟨q, 1, none⟩ (.slice VA (d.burn.loose.length + 1) vcap)).cell (Nat.lt_of_lt_of_le HB7.out.1.lt hk8.size) (by simp; exact HB7.out.2.2)).trans c18
                       have H8 := hid (And.intro hown6 (And.intro hk8 (fun (k : Nat) (hk : (Value.slice VA (d.burn.loose.length + 1) vcap).ownBlock = some k) => (hvb6 k hk).imp id (fun h => Nat.le_trans (show w7.heap.size ≤ (w7.drew.alloc (.cells #[.int .i64 a, .string B] 50)).heap.size by simp) h))))
                       clear hown6 hkp6 hvb6 b8 hk8))
                   all_goals
                     refine hk1 _ _ ?_
                     (repeat apply Exists.intro)
                     refine ⟨⟨VA, vcap, w8, H8.out, rfl⟩, rfl⟩
                  case rest =>
                    obtain ⟨VA, vcap, w8, H8, rfl⟩ := hcut
                    have b8 : Blk w8 q 43 (r3Cells d.burn (.slice LA d.burn.loose.length lcap) KA0 kc0) := GI.out.1.box.keeps H8.out.2.1 (fun hm => HNE.out (Option.mem_toList.1 hm))
                    have b9 := b8.set 1 (.slice VA (d.burn.loose.length + 1) vcap)
                    have q6 : (w8.setCell ⟨q, 1, none⟩ (.slice VA (d.burn.loose.length + 1) vcap)).cell? ⟨q, 6, none⟩ = some (.int .i64 d.burn.wr) := b9.at rfl
                    have f6 : (w8.setCell ⟨q, 1, none⟩ (.slice VA (d.burn.loose.length + 1) vcap)).frozen? ⟨q, 6, none⟩ = false := b9.free (i := 6) (by show 6 < 8; decide)
                    clear b8 b9
                    have g := H7.out.ref.write GI.out.1 GI.out.2.2 GI.out.2.1 (a, B) (L' := .slice VA (d.burn.loose.length + 1) vcap) (w1 := w8) (by rw [List.length_append, List.flatMap_append]; exact H8.out.1) H8.out.2.1 H8.out.2.2
                    have H9 := hid (H7.out.ref1 g.1 g.2.1 g.2.2)
                    have hwr : (d.burn.wr : Int) ≤ 1000 := by have := HR9.out.2; omega
                    have hwr0 : (0 : Int) ≤ (d.burn.wr : Int) := by omega
                    clear g OWN ROWN H8 H7 GI c1 q1a c1a HB7
                    go_wp2_with fail
                    go_meet
                    have hb2 := room_write d (a, B)
                    have h9 := H9.out.bare
                    rw [← HDW.out] at h9
                    exact ⟨d.write (a, B), F6, _, h9, by have := HRM.out.1; omega, by have := HRM.out.2.1; omega⟩
          case rest =>
            obtain ⟨d2, F2, G2, HT⟩ := hcut
            as_aux_lemma =>
              go_wp2_with fail
              have hA := dev_At wc p d2 F2 HT.out.1.dev.at_ (by have := HT.out.1.dev.ll; omega)
              obtain ⟨l, hl⟩ : ∃ l, l = d2.loose := ⟨_, rfl⟩
              simp only [← hl] at hA
              refine hA.mono ?_
              clear hA
              rintro e w5 ⟨A5, cap5, rfl, hrow, hb5⟩
              have H5 := hid (HT.out.1.below hb5)
              have HRW := hid hrow; have HRM2 := hid HT.out.2
              clear hrow hb5 HT
              obtain ⟨L, KA0, kc0, gi, _, _⟩ := H5.out.ref.inn
              obtain ⟨LA, lcap, rfl, hlr⟩ := ownsRowF_row gi.loose
              have HLR := hid hlr
              have hll : d2.loose.length ≤ 1000 := by have := H5.out.dev.ll; omega
              obtain ⟨S, hS⟩ : ∃ S : ByteArray, S = ⟨d2.safe.toArray⟩ := ⟨_, rfl⟩
              obtain ⟨ob, hob⟩ : ∃ ob, ob = (!d2.off) := ⟨_, rfl⟩
              have q0 : ∀ dd os, (grow (redrawn w5 dd) os).cell? ⟨q, 0, none⟩ = some (.string ⟨d2.safe.toArray⟩) := fun dd os => cell_regrown (gi.box.at rfl) dd os
              have q1 : ∀ dd os, (grow (redrawn w5 dd) os).cell? ⟨q, 1, none⟩ = some (.slice LA d2.loose.length lcap) := fun dd os => cell_regrown (gi.box.at rfl) dd os
              have q2 : ∀ dd os, (grow (redrawn w5 dd) os).cell? ⟨q, 2, none⟩ = some (.bool (!d2.off)) := fun dd os => cell_regrown (gi.box.at rfl) dd os
              have q5 : ∀ dd os, (grow (redrawn w5 dd) os).cell? ⟨q, 5, none⟩ = some (.int .i64 d2.rd) := fun dd os => cell_regrown (gi.box.at rfl) dd os
              have q6 : ∀ dd os, (grow (redrawn w5 dd) os).cell? ⟨q, 6, none⟩ = some (.int .i64 d2.wr) := fun dd os => cell_regrown (gi.box.at rfl) dd os
              have q7 : ∀ dd os, (grow (redrawn w5 dd) os).cell? ⟨q, 7, none⟩ = some (.int .i64 d2.fl) := fun dd os => cell_regrown (gi.box.at rfl) dd os
              have hkl := H5.out.dev.kl
              have KIs := fun (dd : Nat) (os : Array Obj) => dev_IsOn _ p d2 F2 (H5.out.dev.below (below_regrown w5 dd os)).at_
              have KLo := fun (dd : Nat) (os : Array Obj) => dev_Loose _ p d2 F2 (H5.out.dev.below (below_regrown w5 dd os)).at_ (by omega)
              have KIm := fun (dd : Nat) (os : Array Obj) => dev_Image _ p d2 F2 (H5.out.dev.below (below_regrown w5 dd os)).at_
              have KLe := fun (dd : Nat) (os : Array Obj) => dev_Len _ p d2 F2 (H5.out.dev.below (below_regrown w5 dd os)).at_ n H5.out.dev.ok
              have KCo := fun (dd : Nat) (os : Array Obj) => dev_Count _ p d2 F2 (H5.out.dev.below (below_regrown w5 dd os)).at_
              rw [← hl] at HLR
              simp only [← hl, ← hS, ← hob] at q0 q1 q2 KIs KLo KIm
              rw [← hl] at hll
              have HIs := hid KIs; have HLo := hid KLo; have HIm := hid KIm; have HLe := hid KLe; have HCo := hid KCo
              have HL := hid hl
              clear KIs KLo KIm KLe KCo gi hkl hl hS hob hlr
              go_upto_region 70 with fail
              have hu := Try.underlying56
              refine wp_region_quiet_below (by kernel_rfl) (by kernel_rfl) ?_
              repeat (go_big_quiet_step (first
                | with_reducible exact regrown_eq (HIs.out _ _)
                | with_reducible exact Calls.regrown_of (HLo.out _ _)
                | with_reducible exact regrown_eq (HIm.out _ _)
                | with_reducible exact regrown_eq (HLe.out _ _)
                | with_reducible exact Calls.regrown_of (HCo.out _ _)))
              refine wpQuiet_nil ?_
              intro _ hw'
              obtain ⟨⟨dq, osq⟩, hw''⟩ := hw'
              subst hw''
              have H6 := hid (H5.out.below (below_regrown w5 dq osq))
              have R1 := hid (HRW.out.below (below_regrown w5 dq osq))
              have R2 := hid (HLR.out.below (below_regrown w5 dq osq))
              have c1 := q1 dq osq
              clear q0 q1 q2 q5 q6 q7 HIs HLo HIm HLe HCo H5 HRW HLR hu
              generalize grow (redrawn w5 dq) osq = w6 at H6 R1 R2 c1 ⊢
              have C1 := hid c1
              clear c1
              go_wp2_with fail
              go_loopg [17] l.length (fun g j wx => ∃ k : Nat, k + g = l.length ∧ j = .int .i64 k ∧ Hid (Below w6.heap.size w6 wx))
              case atStart => exact ⟨0, by omega, rfl, Below.refl _ _⟩
              case round =>
                obtain ⟨k, hk, rfl, HB⟩ := hrel
                by_cases hkl : k < l.length
                · have hkl' : (k : Int) < (l.length : Int) := by omega
                  obtain ⟨⟨a, blk⟩, hx⟩ : ∃ x, x = l[k] := ⟨_, rfl⟩
                  have hxi : l[k]? = some (a, blk) := by rw [hx]; simp [hkl]
                  obtain ⟨b1, o1, rfl, hb1, hc1⟩ := row_cell (R1.out.below HB.out) (by intro e; have := congrArg List.length e; simp [i64s] at this; subst this; simp at hkl)
                  obtain ⟨b2, o2, rfl, hb2, hc2⟩ := row_cell (R2.out.below HB.out) (by intro e; have h := wr_at l k 0 _ (.int .i64 a) hxi rfl; rw [e] at h; cases h)
                  have g1 := hc1 k (.int .i64 a) (by simp [i64s, hxi])
                  have g2 := hc2 _ _ (wr_at l k 0 _ (.int .i64 a) hxi rfl)
                  rw [← Nat.add_assoc, Nat.add_zero] at g2
                  have g3 : wr.cell? ⟨q, 1, none⟩ = some (.slice (some ⟨b2, o2, none⟩) l.length lcap) := (HB.out.cell (p := ⟨q, 1, none⟩) (World.block_lt_of_cell? w6 _ C1.out)).trans C1.out
                  clear hx hxi hb1 hc1 hb2 hc2
                  have hk1000 : (k : Int) ≤ 1000 := by omega
                  go_wp2_with fail
                  go_still_tail 12, (by kernel_rfl)
                  change wpList _ _ _ _ _ wr.drew
                  go_wp2_with fail
                  go_roundg (l.length - (k + 1))
                  case measure => omega
                  case rel => exact ⟨k + 1, by omega, by go_num, by first | exact HB.out | exact HB.out.drew⟩
                · have hkl' : ¬ (k : Int) < (l.length : Int) := by omega
                  go_wp2_with fail
                  go_roundg (xs.length - (i + 1))
                  case measure => omega
                  case rel => exact ⟨i + 1, d2, F2, G2, by omega, by go_num, H6.out.below HB.out, HRM2.out.1, HRM2.out.2, by omega⟩
      · have h50' : decide ((i : Int) < 50) = false := by simp; omega
        go_wp2_with fail
        go_ret
        exact ⟨rfl, HI.out.1.dev.bel⟩
    · have hlt' : ¬ (i : Int) < (xs.length : Int) := by omega
      go_wp2_with fail
      go_ret
      exact ⟨rfl, HI.out.1.dev.bel⟩
end Go.Proofs.Ytcklgaenedlbiaa
