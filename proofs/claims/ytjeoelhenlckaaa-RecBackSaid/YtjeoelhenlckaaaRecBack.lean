/-
  RecBack, walked.
-/
import Derived.Test.YtjeoelhenlckaaaRecParse
import Derived.Test.YtjeoelhenlckaaaRecExact
namespace Go.Proofs.Ytjeoelhenlckaaa
open Go.RowKit Go.Sort

theorem cutting_at {gs : List (List Msg3)} {l : List Msg3} {i at_ : Nat} (hi : i < gs.length) (h : Cutting (gs.drop i) (l.drop at_)) (hat : at_ ≤ l.length) :
    gs[i] ≠ [] ∧ 1 + sw gs[i] ≤ 218 ∧ at_ + gs[i].length ≤ l.length ∧ (∀ k (hk : k < gs[i].length), l[at_ + k]? = some gs[i][k]) ∧
      (∀ x, l[at_ + gs[i].length]? = some x → 218 < 1 + sw gs[i] + wt x) ∧ Cutting (gs.drop (i + 1)) (l.drop (at_ + gs[i].length)) := by
  rw [List.drop_eq_getElem_cons hi] at h
  obtain ⟨h1, h2, l', h3, h4, h5⟩ := h
  have hlen := congrArg List.length h3
  rw [List.length_drop, List.length_append] at hlen
  have hd : l.drop (at_ + gs[i].length) = l' := by
    rw [← List.drop_drop, h3]; simp
  refine ⟨h1, h2, by omega, fun k hk => ?_, fun x hx => ?_, by rw [hd]; exact h5⟩
  · rw [← List.getElem?_drop, h3, List.getElem?_append_left hk]; simp [hk]
  · have : (l.drop (at_ + gs[i].length))[0]? = some x := by rw [List.getElem?_drop]; exact hx
    rw [hd] at this
    cases l' with
    | nil => cases this
    | cons y t => simp at this; subst this; exact h4 _ t rfl

/-- a row's message, in whatever later world -/
theorem msg_cells {A : Option Addr} {l : List Msg3} {w : World} (hr : Row w A (l.flatMap msgCells)) {i : Nat} {K : Int} {kk v : ByteArray} (hi : l[i]? = some (K, kk, v)) :
    ∃ b off, A = some ⟨b, off, none⟩ ∧ ∀ B wx, w.heap.size ≤ B → Below B w wx → wx.cell? ⟨b, off + i * 3, none⟩ = some (.int .i64 K) ∧ wx.cell? ⟨b, off + i * 3 + 1, none⟩ = some (.string kk) ∧ wx.cell? ⟨b, off + i * 3 + 2, none⟩ = some (.string v) := by
  obtain ⟨b, off, rfl, hb, hc⟩ := row_cell hr (by intro e; have h := msg_at l i 0 _ (.int .i64 K) hi rfl; rw [e] at h; cases h)
  refine ⟨b, off, rfl, fun B wx hB hw => ?_⟩
  have hb' : b < B := by omega
  have c0 := hc _ _ (msg_at l i 0 _ (.int .i64 K) hi rfl)
  rw [← hw.cell (p := ⟨b, off + (i * 3 + 0), none⟩) hb', ← Nat.add_assoc, Nat.add_zero] at c0
  have c1 := hc _ _ (msg_at l i 1 _ (.string kk) hi rfl)
  rw [← hw.cell (p := ⟨b, off + (i * 3 + 1), none⟩) hb', ← Nat.add_assoc] at c1
  have c2 := hc _ _ (msg_at l i 2 _ (.string v) hi rfl)
  rw [← hw.cell (p := ⟨b, off + (i * 3 + 2), none⟩) hb', ← Nat.add_assoc] at c2
  exact ⟨c0, c1, c2⟩

set_option maxHeartbeats 16000000 in
set_option maxRecDepth 100000 in
theorem recBack_walk (A : Option Addr) (cap : Nat) (l : List Msg3) (s : ByteArray) (hm : l.length ≤ 9223372036854775807) (hcap : l.length ≤ cap) (w : World) (hr : Row w A (l.flatMap msgCells)) :
    Calls Try.prog 5 #[.slice A l.length cap, .string s] w fun e w' => e = .returned (.bool true) ∧ Below w.heap.size w w' := by
  have HR := hid hr; clear hr
  have HV := hid (fun w' h => heavy_any A cap l hm w' h)
  obtain ⟨f1, hf1⟩ : ∃ f, f = heavyB l := ⟨_, rfl⟩
  rw [← hf1] at HV
  have HF1 := hid hf1; clear hf1
  obtain ⟨L, hL⟩ : ∃ L, L = l.length := ⟨_, rfl⟩
  rw [← hL] at hm hcap HV ⊢
  have HL := hid hL; clear hL
  have HP := hid (fun w' => rec_Parse_any s w')
  go_enter Try.func5, Try.ntmps5
  go_wp2_with fail
  refine (awake22_any _).mono ?_; rintro e w1 ⟨rfl, hb_⟩
  have H1 := hid hb_; clear hb_
  cases f1 with
  | true =>
    go_wp2_with fail
    refine (HV.out w1 (HR.out.below H1.out)).mono ?_; rintro e w3 ⟨rfl, rfl⟩
    go_wp2_with fail
    go_ret
    exact ⟨rfl, H1.out⟩
  | false =>
    obtain ⟨hl200, hsz⟩ := heavyB_no HF1.out.symm
    have hL200 : L ≤ 200 := by rw [HL.out]; exact hl200
    have HSZ := hid hsz
    clear hl200 hsz
    by_cases h3 : (300 : Int) < (s.size : Int)
    · go_wp2_with fail
      refine (HV.out w1 (HR.out.below H1.out)).mono ?_; rintro e w3 ⟨rfl, rfl⟩
      go_wp2_with fail
      go_ret
      exact ⟨rfl, H1.out⟩
    go_wp2_with fail
    refine (HV.out w1 (HR.out.below H1.out)).mono ?_; rintro e w3 ⟨rfl, rfl⟩
    clear HV
    obtain ⟨any, hany⟩ : ∃ a, a = (l.any fun x => !isB x) := ⟨_, rfl⟩
    have HANY := hid hany; clear hany
    obtain ⟨o, ho⟩ : ∃ o, o = parseR s := ⟨_, rfl⟩
    have HO := hid ho; clear ho
    cases o
    case' none =>
      go_wp2_with fail
      refine (HP.out w1).mono ?_; rintro e w2 ⟨h1, _, hb_⟩
      obtain rfl := h1 HO.out.symm
      have H2 := hid (bt H1.out hb_); clear hb_ h1 H1 HP
      go_wp2_with fail
    case' some m =>
      obtain ⟨q1, q2, q3, q4⟩ := parseR_inv HO.out.symm
      have hm255 : m.length ≤ 255 := by have := sw_ge m; omega
      have hg1 : g2 [] m = [m] := g2_one m [] (by simpa using q1) (by have e : sw ([] : List Msg3) = 0 := rfl; omega)
      have HTX : Hid (∀ W A2 cap2, m.length ≤ cap2 → Row W A2 (m.flatMap msgCells) → Calls Try.prog 13 #[.slice A2 m.length cap2] W fun e w' => ∃ A' cap', e = .returned (.tuple #[.slice A' 1 cap', .int .i64 0]) ∧ Row w' A' [.string s] ∧ Below W.heap.size W w') := by
        intro W A2 cap2 hc h
        have := rec_Texts_yes A2 cap2 m hm255 hc q2 W h
        rw [hg1] at this
        simp only [List.length_singleton, List.map_cons, List.map_nil, ← q3] at this
        exact this
      clear q1 q2 q3 q4 hg1
      go_wp2_with fail
      refine (HP.out w1).mono ?_; rintro e w3 ⟨_, h1, hb_⟩
      obtain ⟨A1, cap1, rfl, hc1, hr1⟩ := h1 _ HO.out.symm
      have H3 := hid (And.intro (bt H1.out hb_) (And.intro hc1 hr1)); clear hb_ h1 H1 HP hc1 hr1
      go_wp2_with fail
      refine (HTX.out w3 A1 cap1 H3.out.2.1 H3.out.2.2).mono ?_; rintro e w2 ⟨A2, cap2, rfl, hr2, hb_⟩
      obtain ⟨b2, off2, rfl, hlb2, hc2⟩ := row_cell hr2 (by simp)
      have c0 := hc2 0 _ rfl
      rw [Nat.add_zero] at c0
      have H2 := hid (bt H3.out.1 hb_); clear hb_ hr2 hlb2 hc2 H3 HTX hm255
      go_wp2_with fail
      clear c0
    all_goals
      cases any with
      | true =>
        have HTX := hid (fun w' h => rec_Texts_no A cap l (by have := HL.out; omega) HANY.out.symm w' h)
        rw [← HL.out] at HTX
        refine (HTX.out w2 (HR.out.below H2.out)).mono ?_; rintro e w3 ⟨rfl, hb_⟩
        have H3 := hid (bt H2.out hb_); clear hb_ H2 HTX
        go_wp2_with fail
        go_ret
        exact ⟨rfl, H3.out⟩
      | false =>
        have hall : ∀ x ∈ l, isB x = true := by
          intro x hx
          have := List.any_eq_false.1 HANY.out.symm x hx
          simpa using this
        obtain ⟨gs, hgs⟩ : ∃ gs, gs = g2 [] l := ⟨_, rfl⟩
        have hcut : Cutting gs l := by rw [hgs]; simpa using g2_cutting l [] (fun x hx => isB_wt (hall x hx)) (by decide)
        have hmem : ∀ g ∈ gs, ∀ x ∈ g, isB x = true := by rw [hgs]; exact fun g hg x hx => hall x ((g2_mem hg).1 x hx)
        obtain ⟨n, hn⟩ : ∃ n, n = gs.length := ⟨_, rfl⟩
        have hn201 : n ≤ 201 := by rw [hn, hgs]; have := g2_len l []; have := HL.out; omega
        have HTX : Hid (∀ W, Row W A (l.flatMap msgCells) → Calls Try.prog 13 #[.slice A L cap] W fun e w' => ∃ A' cap', e = .returned (.tuple #[.slice A' n cap', .int .i64 0]) ∧ Row w' A' (strs (gs.map bytesG)) ∧ Below W.heap.size W w') := by
          intro W h
          have := rec_Texts_yes A cap l (by have := HL.out; omega) (by have := HL.out; omega) hall W h
          rw [← HL.out, ← hgs, ← hn] at this
          exact this
        have HN := hid hn; have HCUT := hid hcut; have HMEM := hid hmem
        clear hall hgs hcut hmem hn
        refine (HTX.out w2 (HR.out.below H2.out)).mono ?_; rintro e w3 ⟨A3, cap3, rfl, hr3, hb_⟩
        have H3 := hid (And.intro (bt H2.out hb_) hr3); clear hb_ H2 HTX hr3
        go_wp2_with fail
        go_loopg [11, 12] n (fun g x y wx => ∃ i a : Nat, i + g = n ∧ x = .int .i64 a ∧ y = .int .i64 i ∧ Hid (Below w3.heap.size w3 wx ∧ a ≤ l.length ∧ Cutting (gs.drop i) (l.drop a)))
        case atStart => exact ⟨0, 0, by omega, rfl, rfl, Below.refl _ _, Nat.zero_le _, HCUT.out⟩
        case round =>
          obtain ⟨i, a, hi, rfl, rfl, HS⟩ := hrel
          by_cases hlt : i < n
          · have hlt' : i < gs.length := by have := HN.out; omega
            obtain ⟨k1, k2, k3, k4, k5, k6⟩ := cutting_at hlt' HS.out.2.2 HS.out.2.1
            have hmg := HMEM.out gs[i] (List.getElem_mem _)
            have hxi : (strs (gs.map bytesG))[i]? = some (.string (bytesG gs[i])) := by simp [strs, hlt']
            obtain ⟨gg, hgg⟩ : ∃ gg, gg = gs[i] := ⟨_, rfl⟩
            rw [← hgg] at k1 k2 k3 k4 k5 k6 hmg hxi
            obtain ⟨t, ht⟩ : ∃ t, t = bytesG gg := ⟨_, rfl⟩
            have hts : t.size = 1 + sw gg := by rw [ht]; unfold bytesG; rw [list_size, textG_len]
            have hpar := parseR_yes gg k1 hmg k2
            have HPW : Hid (∀ W, Calls Try.prog 17 #[.string t] W fun e w' => ∃ A' cap', e = .returned (.tuple #[.slice A' gg.length cap', .int .i64 0]) ∧ Row w' A' (gg.flatMap msgCells) ∧ Below W.heap.size W w') := by
              intro W
              rw [ht]
              refine (rec_Parse_any _ W).mono ?_
              rintro e w' ⟨_, h1, h2⟩
              obtain ⟨A', cap', h4, _, h5⟩ := h1 _ hpar
              exact ⟨A', cap', h4, h5, h2⟩
            rw [← ht] at hxi
            obtain ⟨b, off, rfl, hb, hc⟩ := row_cell H3.out.2 (by intro e; rw [e] at hxi; cases hxi)
            have HCT : Hid (∀ wx, Below w3.heap.size w3 wx → wx.cell? ⟨b, off + i, none⟩ = some (.string t)) := by
              intro wx hw
              rw [hw.cell (p := ⟨b, off + i, none⟩) hb]; exact hc _ _ hxi
            have hgl := sw_ge gg
            obtain ⟨gl, hgl2⟩ : ∃ gl, gl = gg.length := ⟨_, rfl⟩
            rw [← hgl2] at HPW k3 k5 k6 hgl
            have hgl73 : gl ≤ 73 := by omega
            obtain ⟨q, hq⟩ : ∃ q, q = a + gl := ⟨_, rfl⟩
            have hqL : q ≤ L := by have := HL.out; omega
            have e1 : IntKind.i64.wrap ((a : Int) + (gl : Int)) = (q : Int) := by rw [IntKind.wrap_i64]; omega
            have t1 : ¬ (218 : Int) < (t.size : Int) := by omega
            rw [← hq] at k5 k6
            have HK4 := hid k4; have HK5 := hid k5; have HK6 := hid k6; have HGL := hid hgl2; have HTS := hid hts; have HQ := hid hq
            clear k1 k2 k3 k4 k5 k6 hmg hxi hgg ht hpar hb hc hts hgl hlt' hgl2 hq
            have c0 := HCT.out wr HS.out.1
            go_wp2_with fail
            clear c0
            refine (HPW.out wr).mono ?_; rintro e w4 ⟨A4, cap4, rfl, hr4, hb_⟩
            have H4 := hid (And.intro (Below.trans HS.out.1 (hb_.mono HS.out.1.size)) hr4)
            clear hb_ hr4 HPW HS
            have c0 := HCT.out w4 H4.out.1
            go_wp2_with fail
            clear c0
            go_loopg [15] gl (fun g x wx => ∃ k : Nat, k + g = gl ∧ x = .int .i64 k ∧ Hid (Below w4.heap.size w4 wx))
            case atStart => exact ⟨0, by omega, rfl, Below.refl _ _⟩
            case round =>
              obtain ⟨k, hk, rfl, HS⟩ := hrel
              by_cases hkl : k < gl
              · have hkl' : k < gg.length := by have := HGL.out; omega
                obtain ⟨⟨K, kk, v⟩, hx⟩ : ∃ x, x = gg[k] := ⟨_, rfl⟩
                have hxi : gg[k]? = some (K, kk, v) := by rw [hx]; simp [hkl']
                have hxl : l[a + k]? = some (K, kk, v) := by rw [HK4.out k hkl', ← hx]
                obtain ⟨b1, off1, hA1, hcm⟩ := msg_cells H4.out.2 hxi
                obtain ⟨b2, off2, hA2, hcl⟩ := msg_cells HR.out hxl
                obtain ⟨c0, c1, c2⟩ := hcm w4.heap.size wr (Nat.le_refl _) HS.out
                obtain ⟨d0, d1, d2⟩ := hcl w.heap.size wr (Nat.le_refl _) (bt (bt H3.out.1 H4.out.1) HS.out)
                obtain ⟨p, hp⟩ : ∃ p, p = a + k := ⟨_, rfl⟩
                rw [← hp] at d0 d1 d2
                have e2 : IntKind.i64.wrap ((a : Int) + (k : Int)) = (p : Int) := by have := HQ.out; rw [IntKind.wrap_i64]; omega
                have hpL : p < L := by have := HQ.out; omega
                clear hx hxi hxl hcm hcl hkl' hp
                subst hA1; subst hA2
                go_wp2_with fail
                go_quiet (fail)
                go_wp2_with fail
                go_roundg (gl - (k + 1))
                case measure => omega
                case rel => exact ⟨k + 1, by omega, by go_num, bdn HS.out _⟩
              · have hke : k = gl := by omega
                subst hke
                have c0 := HCT.out wr (Below.trans H4.out.1 (HS.out.mono H4.out.1.size))
                by_cases hqq : q < L
                · have hql : q < l.length := by have := HL.out; omega
                  obtain ⟨⟨K, kk, v⟩, hx⟩ : ∃ x, x = l[q] := ⟨_, rfl⟩
                  have hxi : l[q]? = some (K, kk, v) := by rw [hx]; simp [hql]
                  have h5 := HK5.out _ hxi
                  have hz := HSZ.out _ (List.mem_of_getElem? hxi)
                  obtain ⟨b2, off2, hA2, hcl⟩ := msg_cells HR.out hxi
                  obtain ⟨d0, d1, d2⟩ := hcl w.heap.size wr (Nat.le_refl _) (bt (bt H3.out.1 H4.out.1) HS.out)
                  simp only [wt] at h5 hz
                  have I1 : Hid (∀ W', Calls Try.prog 20 #[.agg #[.int .i64 K, .string kk, .string v]] W' fun e w' => e = .returned (.int .i64 (3 + (kk.size : Int) + (v.size : Int))) ∧ Below W'.heap.size W' w') := fun W' => msg_Weight_any K kk v (by omega) (by omega) W'
                  obtain ⟨r, hr⟩ : ∃ r : Nat, r = t.size + (3 + kk.size + v.size) := ⟨_, rfl⟩
                  have e3 : IntKind.i64.wrap ((t.size : Int) + (3 + (kk.size : Int) + (v.size : Int))) = (r : Int) := by rw [IntKind.wrap_i64]; omega
                  have hr218 : ¬ (r : Int) ≤ 218 := by have := HTS.out; omega
                  have m0 : ∀ d os, (grow (redrawn wr d) os).cell? ⟨b2, off2 + q * 3, none⟩ = some (.int .i64 K) := fun d os => cell_regrown d0 d os
                  have m1 : ∀ d os, (grow (redrawn wr d) os).cell? ⟨b2, off2 + q * 3 + 1, none⟩ = some (.string kk) := fun d os => cell_regrown d1 d os
                  have m2 : ∀ d os, (grow (redrawn wr d) os).cell? ⟨b2, off2 + q * 3 + 2, none⟩ = some (.string v) := fun d os => cell_regrown d2 d os
                  have m3 : ∀ d os, (grow (redrawn wr d) os).cell? ⟨b, off + i, none⟩ = some (.string t) := fun d os => cell_regrown c0 d os
                  clear hx hxi hcl h5 hz hr d0 d1 d2 c0 hql
                  subst hA2
                  go_wp2_with fail
                  refine wp_region_quiet_below (by kernel_rfl) (by kernel_rfl) ?_
                  repeat (go_big_quiet_step (first
                    | with_reducible exact Calls.regrown_of (I1.out _)))
                  refine wpQuiet_nil ?_
                  intro _ hw'
                  obtain ⟨⟨dq, osq⟩, hw''⟩ := hw'
                  subst hw''
                  clear m0 m1 m2 m3
                  go_wp2_with fail
                  go_roundg (n - (i + 1))
                  case measure => omega
                  case rel => exact ⟨i + 1, q, by omega, rfl, by go_num, bt (Below.trans H4.out.1 (HS.out.mono H4.out.1.size)) (below_regrown wr dq osq), by have := HL.out; omega, HK6.out⟩
                · have hqe : q = L := by omega
                  clear c0
                  go_wp2_with fail
                  refine wp_region_quiet_below (by kernel_rfl) (by kernel_rfl) ?_
                  repeat (go_big_quiet_step (fail))
                  refine wpQuiet_nil ?_
                  intro _ hw'
                  obtain ⟨⟨dq, osq⟩, hw''⟩ := hw'
                  subst hw''
                  go_wp2_with fail
                  go_roundg (n - (i + 1))
                  case measure => omega
                  case rel => exact ⟨i + 1, q, by omega, by rw [hqe], by go_num, bt (Below.trans H4.out.1 (HS.out.mono H4.out.1.size)) (below_regrown wr dq osq), by have := HL.out; omega, HK6.out⟩
          · have hin : i = n := by omega
            subst hin
            have haL : a = L := by
              have h := HS.out.2.2
              rw [List.drop_of_length_le (by have := HN.out; omega)] at h
              have h2 := congrArg List.length (show l.drop a = [] from h)
              rw [List.length_drop] at h2
              have := HS.out.2.1; have := HL.out
              simp at h2; omega
            subst haL
            go_wp2_with fail
            go_ret
            exact ⟨rfl, bt H3.out.1 HS.out.1⟩
theorem recBack_row (A : Option Addr) (cap : Nat) (xs : List Msg3) (s : ByteArray) (w : World) (hr : Row w A (xs.flatMap msgCells))
    (_ : ∀ x ∈ xs, (Lit.int .i64 x.1).wf = true ∧ x.2.1.size ≤ 140737488351232 ∧ x.2.2.size ≤ 140737488351232) (hu : xs.length ≤ cap) (hm : cap ≤ maxLen) (_ : s.size ≤ 140737488351232) :
    Calls Try.prog 5 #[.slice A xs.length cap, .string s] w fun e w' => e = .returned (.bool true) ∧ Below w.heap.size w w' :=
  recBack_walk A cap xs s (by simp only [maxLen] at hm; omega) hu w hr
end Go.Proofs.Ytjeoelhenlckaaa
