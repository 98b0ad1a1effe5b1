/-
  The document's log of layer 23: Scan.
  The document's Same of layer 10: of rows that are the same.
-/
import Derived.Test.YtcklgaenedlbiaaGreatGWalExact36
import Derived.Test.YtcklgaenedlbiaaGreatGWalExact25

namespace Go.Proofs.YtcklgaenedlbiaaGreat
open Go.RowKit Go.Sort

theorem scan_skip {rd : Nat → List Msg3 × Int} {k : Nat} (h : (rd k).1 = [] ∨ (scanN rd k).1 ≠ k) (h2 : (rd k).2 = 0) : scanN rd (k + 1) = scanN rd k := by
  have hc : ¬ ((scanN rd k).1 = k ∧ (rd k).1 ≠ []) := by
    rcases h with h | h
    · exact fun hh => hh.2 h
    · exact fun hh => h hh.1
  rw [scanN]
  simp only [if_neg hc, h2]
  simp
theorem scan_take {rd : Nat → List Msg3 × Int} {k : Nat} (h : (scanN rd k).1 = k) (hn : (rd k).1 ≠ []) (h2 : (rd k).2 = 0) : scanN rd (k + 1) = (k + 1, (scanN rd k).2.1 ++ (rd k).1, (scanN rd k).2.2) := by
  rw [scanN]
  simp only [h2, h]
  simp [hn]
theorem scan_mono {rd : Nat → List Msg3 × Int} {k : Nat} (h : (scanN rd k).2.2 = true) : ∀ n, (scanN rd (k + n)).2.2 = true
  | 0 => h
  | n + 1 => by
    rw [← Nat.add_assoc, scanN]
    simp only [scan_mono h n, Bool.true_or]
theorem scan_stop {rd : Nat → List Msg3 × Int} {k : Nat} (hk : k < 8) (h : (rd k).2 = 5) : scanV rd = ([], 0, 5) := by
  have h1 : (scanN rd (k + 1)).2.2 = true := by rw [scanN]; simp [h]
  have h2 := scan_mono h1 (7 - k)
  rw [show k + 1 + (7 - k) = 8 by omega] at h2
  unfold scanV
  rw [if_pos h2]

set_option maxHeartbeats 16000000 in
set_option maxRecDepth 100000 in
theorem r23_Scan (A : Option Addr) (cap : Nat) (B : List ByteArray) (hB : B.length = 8) (hs : ∀ b ∈ B, b.size = 256) (e : Int) (fr : Nat) (hfr : fr < 8) (w : World) (hr : Row w A (strs B)) :
    Calls Tryz.prog 16 #[.slice A 8 cap, .int .i64 e, .int .i64 fr] w fun e' w' => ∃ A' cap' l n c, (l, n, c) = scanV (fun k => readW e k (B.getD ((fr + k) % 8) zerosB)) ∧ e' = .returned (.tuple #[.slice A' l.length cap', .int .i64 (n : Nat), .int .i64 c]) ∧ Row w' A' (l.flatMap msgCells) ∧ Below w.heap.size w w' := by
  obtain ⟨i0, hi0, hz0, hz1, hz2⟩ := info_parts info_msg
  have HI0 := hid hi0; have HZ0 := hid hz0; have HZ1 := hid hz1; have HZ2 := hid hz2
  clear hi0 hz0 hz1 hz2
  obtain ⟨rd, hrd⟩ : ∃ rd : Nat → List Msg3 × Int, rd = fun k => readW e k (B.getD ((fr + k) % 8) zerosB) := ⟨_, rfl⟩
  rw [← hrd]
  obtain ⟨X, hX⟩ : ∃ X, X = scanV rd := ⟨_, rfl⟩
  rw [← hX]
  have hlen : ∀ n, (scanN rd n).2.1.length ≤ 72 * n := scanN_len rd (fun k => by rw [hrd]; exact readW_len _ _ _)
  have HLEN := hid hlen
  have HX := hid hX; have HRD := hid hrd; have HR := hid hr; have HB := hid (And.intro hB hs); have HFR := hid hfr
  have H0 := hid (show Below w.heap.size w (w.alloc (.cells #[] 39)) ∧ (w.alloc (.cells #[] 39)).ownsRowF 0 39 3 (.slice (some ⟨w.heap.size, 0, none⟩) 0 0) 0 [] from ⟨below_alloc _ _, ownsRowF_empty _ _ _⟩)
  clear hX hrd hr hB hs hfr hlen
  go_enter Tryz.func16, Tryz.ntmps16
  go_wp2_with fail
  go_loopg [11, 10, 9] 8 (fun gg x y o wx => ∃ (k us : Nat) (ov : Value), k + gg = 8 ∧ x = .int .i64 k ∧ y = .int .i64 us ∧ o = ov ∧ Hid (us = (scanN rd k).1 ∧ (scanN rd k).2.2 = false) ∧ Hid (Below w.heap.size w wx ∧ wx.ownsRowF 0 39 3 ov (scanN rd k).2.1.length ((scanN rd k).2.1.flatMap msgCells) ∧ ∀ b, ov.ownBlock = some b → w.heap.size ≤ b))
  case atStart => exact ⟨0, 0, _, rfl, rfl, rfl, rfl, ⟨rfl, rfl⟩, H0.out.1, H0.out.2, fun b hb => by simp [Value.ownBlock] at hb; omega⟩
  case round =>
    obtain ⟨k, us, ov, hk, rfl, rfl, rfl, HU, HS⟩ := hrel
    by_cases hlt : k < 8
    · obtain ⟨q, hq⟩ : ∃ q, q = (fr + k) % 8 := ⟨_, rfl⟩
      obtain ⟨s, hsm⟩ : ∃ s, s = fr + k := ⟨_, rfl⟩
      have e1 : IntKind.i64.wrap ((fr : Int) + (k : Int)) = (s : Int) := by rw [IntKind.wrap_i64]; have := HFR.out; omega
      have e2 : (s : Int).tmod 8 = (q : Int) := by rw [hq, ← hsm]; exact (Int.ofNat_tmod s 8).symm
      have hq8 : q < 8 := by rw [hq]; exact Nat.mod_lt _ (by decide)
      have hq8' : (q : Int) < 8 := by omega
      have hqB : q < B.length := by rw [HB.out.1]; exact hq8
      obtain ⟨b, off, rfl, hb, hc⟩ := row_cell HR.out (strs_ne hqB)
      have c0 := hc q _ (strs_get B q hqB)
      rw [← HS.out.1.cell (p := ⟨b, off + q, none⟩) hb] at c0
      obtain ⟨blk, hblk⟩ : ∃ x, x = B[q] := ⟨_, rfl⟩
      have hsz : blk.size = 256 := by rw [hblk]; exact HB.out.2 _ (List.getElem_mem _)
      rw [← hblk] at c0
      have hrdk : rd k = readW e k blk := by rw [HRD.out]; simp only [← hq]; rw [List.getD_eq_getElem?_getD, List.getElem?_eq_getElem hqB, hblk]; rfl
      obtain ⟨e', sq, t, er, hV⟩ : ∃ e' sq t er, readV blk = (e', sq, t, er) := ⟨_, _, _, _, rfl⟩
      have KR := hid (fun W => ref04_Read blk hsz W)
      rw [hV] at KR
      unfold readW at hrdk
      rw [hV] at hrdk
      simp only at hrdk
      have HRDK := hid hrdk
      clear hq hsm hq8 hqB hb hc hblk hsz hrdk hV
      by_cases her : er = 0
      case neg =>
        have hr0 : rd k = ([], 0) := by rw [HRDK.out, if_pos her]
        have hskip : scanN rd (k + 1) = scanN rd k := scan_skip (.inl (by rw [hr0])) (by rw [hr0])
        have HSK := hid hskip
        have her' : (er == 0) = false := by simpa using her
        have her2 : (er != 0) = true := by simpa using her
        clear hr0 hskip HRDK
        go_wp2_with fail
        refine (KR.out wr).mono ?_; rintro e2 w3 ⟨rfl, hb3⟩
        have H5 := hid (show Below w.heap.size w w3 ∧ w3.ownsRowF 0 39 3 _ (scanN rd k).2.1.length ((scanN rd k).2.1.flatMap msgCells) ∧ _ from ⟨bt HS.out.1 hb3, ownsRowF_below HS.out.2.1 hb3, HS.out.2.2⟩)
        clear hb3 KR c0
        go_wp2_with fail
        go_roundg (8 - (k + 1))
        case measure => omega
        case rel => exact ⟨k + 1, us, _, by omega, by go_num, rfl, rfl, by rw [HSK.out]; exact HU.out, by rw [HSK.out]; exact H5.out⟩
      subst her
      by_cases hlater : e < e'
      · have hr5 : rd k = ([], 5) := by rw [HRDK.out, if_neg (by simp), if_pos hlater]
        have hst : X = ([], 0, 5) := by rw [HX.out]; exact scan_stop hlt (by rw [hr5])
        have HST := hid hst
        clear hr5 hst HRDK
        go_wp2_with fail
        refine (KR.out wr).mono ?_; rintro e2 w3 ⟨rfl, hb3⟩
        have HB3 := hid (bt HS.out.1 hb3)
        clear hb3 KR c0
        go_wp2_with fail
        go_ret3
        exact ⟨none, 0, [], 0, 5, HST.out.symm, rfl, .inl rfl, HB3.out⟩
      · have hnl : ¬ e' > e := hlater
        have hrd2 : rd k = if e' ≠ e ∨ sq ≠ (k : Int) then ([], 0) else ((parseR t).getD [], 0) := by rw [HRDK.out, if_neg (by simp), if_neg hlater]
        have HRD2 := hid hrd2
        clear hrd2 HRDK
        have KP := hid (fun W => ref22_Parse t W)
        obtain ⟨po, hpo⟩ : ∃ po, po = parseR t := ⟨_, rfl⟩
        have HPO := hid hpo
        clear hpo
        have h4 : (¬ e' = e) ∨ (e' = e ∧ ¬ sq = (k : Int)) ∨ (e' = e ∧ sq = (k : Int) ∧ ¬ us = k) ∨ (e' = e ∧ sq = (k : Int) ∧ us = k) := by
          by_cases a : e' = e
          · by_cases b : sq = (k : Int)
            · by_cases c : us = k
              · exact .inr (.inr (.inr ⟨a, b, c⟩))
              · exact .inr (.inr (.inl ⟨a, b, c⟩))
            · exact .inr (.inl ⟨a, b⟩)
          · exact .inl a
        have hskip : (e' ≠ e ∨ sq ≠ (k : Int) ∨ po = none ∨ us ≠ k) → scanN rd (k + 1) = scanN rd k := by
          intro hh
          refine scan_skip ?_ ?_
          · rw [HRD2.out]
            by_cases c : e' ≠ e ∨ sq ≠ (k : Int)
            · rw [if_pos c]; exact .inl rfl
            · rw [if_neg c]
              rcases hh with h | h | h | h
              · exact absurd (.inl h) c
              · exact absurd (.inr h) c
              · rw [← HPO.out, h]; exact .inl rfl
              · exact .inr (by rw [← HU.out.1]; exact h)
          · rw [HRD2.out]; split <;> rfl
        have HSKIP := hid hskip
        clear hskip
        cases po with
        | none =>
          have HSK := hid (HSKIP.out (.inr (.inr (.inl rfl))))
          have KP1 : Hid (∀ W, Calls Tryz.prog 43 #[.string t] W fun e w' => e = .returned (.tuple #[.slice none 0 0, .bool false]) ∧ Below W.heap.size W w') := fun W => (KP.out W).mono fun e' w' h => ⟨h.1 HPO.out.symm, h.2.2⟩
          clear KP HSKIP HRD2
          rcases h4 with h | ⟨h, h'⟩ | ⟨h, h', h''⟩ | ⟨h, h', h''⟩
          case' inr.inr.inl => have h3 : ¬ (us : Int) = (k : Int) := by omega
          case' inr.inr.inr => have h3 : (us : Int) = (k : Int) := by omega
          all_goals
            try subst h
            try subst h'
            go_wp2_with fail
            refine (KR.out wr).mono ?_; rintro e2 w3 ⟨rfl, hb3⟩
            have H3 := hid hb3
            clear hb3 c0
            go_wp2_with fail
            refine (KP1.out w3).mono ?_; rintro e2 w4 ⟨rfl, hb4⟩
            have H5 := hid (show Below w.heap.size w w4 ∧ w4.ownsRowF 0 39 3 _ (scanN rd k).2.1.length ((scanN rd k).2.1.flatMap msgCells) ∧ _ from ⟨bt HS.out.1 (bt H3.out hb4), ownsRowF_below HS.out.2.1 (bt H3.out hb4), HS.out.2.2⟩)
            clear hb4 H3
            go_wp2_with fail
            go_roundg (8 - (k + 1))
            case measure => omega
            case rel => exact ⟨k + 1, us, _, by omega, by go_num, by first | rfl | rw [h3], rfl, by rw [HSK.out]; exact HU.out, by rw [HSK.out]; exact H5.out⟩
        | some l =>
          have KP1 : Hid (∀ W, Calls Tryz.prog 43 #[.string t] W fun e w' => ∃ A cap, e = .returned (.tuple #[.slice A l.length cap, .bool true]) ∧ Row w' A (l.flatMap msgCells) ∧ Below W.heap.size W w') := fun W => (KP.out W).mono fun e' w' h => by
            obtain ⟨A, cap, he, hrw⟩ := h.2.1 l HPO.out.symm
            exact ⟨A, cap, he, hrw, h.2.2⟩
          clear KP
          rcases h4 with h | ⟨h, h'⟩ | ⟨h, h', h''⟩ | ⟨h, h', h''⟩
          case' inl => have HSK := hid (HSKIP.out (.inl h))
          case' inr.inl => have HSK := hid (HSKIP.out (.inr (.inl h')))
          case' inr.inr.inl =>
            have HSK := hid (HSKIP.out (.inr (.inr (.inr h''))))
            have h3 : ¬ (us : Int) = (k : Int) := by omega
          case inr.inr.inr =>
            have h3 : (us : Int) = (k : Int) := by omega
            have hl0 : l ≠ [] := (parseR_inv HPO.out.symm).1
            have hl72 : l.length ≤ 72 := parseR_len HPO.out.symm
            have hrk : rd k = (l, 0) := by rw [HRD2.out, if_neg (by rw [h, h']; simp), ← HPO.out]; rfl
            have htk : scanN rd (k + 1) = (k + 1, (scanN rd k).2.1 ++ l, (scanN rd k).2.2) := by
              have := scan_take (rd := rd) (k := k) (by rw [← HU.out.1]; exact h'') (by rw [hrk]; exact hl0) (by rw [hrk])
              rw [hrk] at this
              exact this
            have HTK := hid htk
            clear hl0 hrk htk HSKIP HRD2 HPO h''
            subst h
            subst h'
            go_wp2_with fail
            refine (KR.out wr).mono ?_; rintro e2 w3 ⟨rfl, hb3⟩
            have H3 := hid hb3
            clear hb3 c0
            go_wp2_with fail
            refine (KP1.out w3).mono ?_; rintro e2 w4 ⟨A4, cap4, rfl, hrw, hb4⟩
            have H5 := hid (show Below w.heap.size w w4 ∧ w4.ownsRowF 0 39 3 _ (scanN rd k).2.1.length ((scanN rd k).2.1.flatMap msgCells) ∧ _ from ⟨bt HS.out.1 (bt H3.out hb4), ownsRowF_below HS.out.2.1 (bt H3.out hb4), HS.out.2.2⟩)
            have HRW := hid hrw
            clear hb4 H3 hrw
            go_wp2_with (with_reducible refine at_op (.call { callee := .builtin .append, args := #[.tmp 68, .tmp 69], argTypes := #[32, 32] }) rfl ?_; refine Stopped.go ?_)
            refine Stopped.mk ?_
            have hln := HLEN.out k
            refine wpList_append_row rfl _ _ 32 39 rfl i0 _ 3 40 Tryz.underlying32 HI0.out HZ0.out HZ1.out HZ2.out rfl (by decide) _ (scanN rd k).2.1.length ((scanN rd k).2.1.flatMap msgCells) rfl H5.out.2.1 A4 l.length cap4 (l.flatMap msgCells) rfl (flat_cells l) HRW.out (cells_one l) (by simp only [maxLen]; omega) (by omega) ?_
            intro V w5 hown hkp hvb
            have H6 := hid (show Below w.heap.size w w5 ∧ w5.ownsRowF 0 39 3 V (scanN rd (k + 1)).2.1.length ((scanN rd (k + 1)).2.1.flatMap msgCells) ∧ ∀ b, V.ownBlock = some b → w.heap.size ≤ b from by
              obtain ⟨s1, s2, s3⟩ := H5.out
              refine ⟨Keeps.below s1 hkp (fun x hx => s3 x (Option.mem_toList.1 hx)), ?_, fun x hx => ?_⟩
              · rw [HTK.out]
                simp only
                rw [List.length_append, List.flatMap_append]
                exact hown
              · rcases hvb x hx with h | h
                · exact s3 x h
                · have := s1.size; omega)
            clear hown hkp hvb hln H5 HRW
            go_wp2_with fail
            go_roundg (8 - (k + 1))
            case measure => omega
            case rel => exact ⟨k + 1, us + 1, _, by omega, by go_num, by go_num, rfl, ⟨by rw [HTK.out]; simp only; omega, by rw [HTK.out]; exact HU.out.2⟩, H6.out⟩
          all_goals
            clear HSKIP HRD2
            try subst h
            try subst h'
            go_wp2_with fail
            refine (KR.out wr).mono ?_; rintro e2 w3 ⟨rfl, hb3⟩
            have H3 := hid hb3
            clear hb3 c0
            go_wp2_with fail
            refine (KP1.out w3).mono ?_; rintro e2 w4 ⟨A4, cap4, rfl, _, hb4⟩
            have H5 := hid (show Below w.heap.size w w4 ∧ w4.ownsRowF 0 39 3 _ (scanN rd k).2.1.length ((scanN rd k).2.1.flatMap msgCells) ∧ _ from ⟨bt HS.out.1 (bt H3.out hb4), ownsRowF_below HS.out.2.1 (bt H3.out hb4), HS.out.2.2⟩)
            clear hb4 H3
            go_wp2_with fail
            go_roundg (8 - (k + 1))
            case measure => omega
            case rel => exact ⟨k + 1, us, _, by omega, by go_num, by first | rfl | rw [h3], rfl, by rw [HSK.out]; exact HU.out, by rw [HSK.out]; exact H5.out⟩
    · obtain rfl : k = 8 := by omega
      obtain ⟨AV, cV, rfl, hrow⟩ := ownsRowF_row HS.out.2.1
      have HROW := hid hrow
      have hsv : X = ((scanN rd 8).2.1, us, 0) := by rw [HX.out]; unfold scanV; rw [if_neg (by rw [HU.out.2]; simp), HU.out.1]
      have HSV := hid hsv
      have HB1 := hid HS.out.1
      clear hrow hsv HS
      go_wp2_with fail
      go_ret3
      exact ⟨AV, cV, (scanN rd 8).2.1, us, 0, HSV.out.symm, rfl, HROW.out, HB1.out⟩
end Go.Proofs.YtcklgaenedlbiaaGreat

namespace Go.Proofs.YtcklgaenedlbiaaGreat
open Go.RowKit

set_option maxHeartbeats 4000000 in
set_option maxRecDepth 100000 in
theorem same10 (A B : Option Addr) (cap bcap : Nat) (l : List Msg3) (hlen : l.length ≤ 1000) (w : World) (hr : Row w A (l.flatMap msgCells)) (hr2 : Row w B (l.flatMap msgCells)) :
    Calls Tryz.prog 17 #[.slice A l.length cap, .slice B l.length bcap] w fun e w' => e = .returned (.bool true) ∧ Below w.heap.size w w' := by
  have HR := hid hr; have HR2 := hid hr2; clear hr hr2
  obtain ⟨L, hL⟩ : ∃ L, L = l.length := ⟨_, rfl⟩
  rw [← hL] at hlen ⊢
  have HL := hid hL; clear hL
  go_enter Tryz.func17, Tryz.ntmps17
  go_wp2_with fail
  go_loopg [5] L (fun g x wx => ∃ k : Nat, k + g = L ∧ x = .int .i64 k ∧ Hid (Below w.heap.size w wx))
  case atStart => exact ⟨0, by omega, rfl, Below.refl _ _⟩
  case round =>
    obtain ⟨k, hk, rfl, HS⟩ := hrel
    by_cases hlt : k < L
    · have hltl : k < l.length := by have := HL.out; omega
      obtain ⟨b, off, rfl, hb, hc⟩ := row_cell HR.out (by intro e; have h := msg_at l k 0 l[k] (.int .i64 l[k].1) (by simp [hltl]) rfl; rw [e] at h; cases h)
      obtain ⟨b', off', rfl, hb', hc'⟩ := row_cell HR2.out (by intro e; have h := msg_at l k 0 l[k] (.int .i64 l[k].1) (by simp [hltl]) rfl; rw [e] at h; cases h)
      obtain ⟨⟨K, kk, v⟩, hx⟩ : ∃ x, x = l[k] := ⟨_, rfl⟩
      have hxi : l[k]? = some (K, kk, v) := by rw [hx]; simp [hltl]
      have c0 := hc _ _ (msg_at l k 0 _ (.int .i64 K) hxi rfl)
      rw [← HS.out.cell (p := ⟨b, off + (k * 3 + 0), none⟩) hb, ← Nat.add_assoc, Nat.add_zero] at c0
      have c1 := hc _ _ (msg_at l k 1 _ (.string kk) hxi rfl)
      rw [← HS.out.cell (p := ⟨b, off + (k * 3 + 1), none⟩) hb, ← Nat.add_assoc] at c1
      have c2 := hc _ _ (msg_at l k 2 _ (.string v) hxi rfl)
      rw [← HS.out.cell (p := ⟨b, off + (k * 3 + 2), none⟩) hb, ← Nat.add_assoc] at c2
      have d0 := hc' _ _ (msg_at l k 0 _ (.int .i64 K) hxi rfl)
      rw [← HS.out.cell (p := ⟨b', off' + (k * 3 + 0), none⟩) hb', ← Nat.add_assoc, Nat.add_zero] at d0
      have d1 := hc' _ _ (msg_at l k 1 _ (.string kk) hxi rfl)
      rw [← HS.out.cell (p := ⟨b', off' + (k * 3 + 1), none⟩) hb', ← Nat.add_assoc] at d1
      have d2 := hc' _ _ (msg_at l k 2 _ (.string v) hxi rfl)
      rw [← HS.out.cell (p := ⟨b', off' + (k * 3 + 2), none⟩) hb', ← Nat.add_assoc] at d2
      clear hc hb hc' hb' hx hxi hltl
      go_wp2_with fail
      go_quiet (fail)
      go_wp2_with fail
      go_roundg (L - (k + 1))
      case measure => omega
      case rel => exact ⟨k + 1, by omega, by go_num, bdn HS.out _⟩
    · go_wp2_with fail
      go_ret
      exact ⟨rfl, HS.out⟩
end Go.Proofs.YtcklgaenedlbiaaGreat
