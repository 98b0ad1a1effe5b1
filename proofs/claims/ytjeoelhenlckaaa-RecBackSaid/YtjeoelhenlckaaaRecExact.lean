/-
  RecExact, walked.
-/
import Derived.Test.YtjeoelhenlckaaaRecRef
import Derived.Test.YtjeoelhenlckaaaRecGrows
namespace Go.Proofs.Ytjeoelhenlckaaa
open Go.RowKit

theorem filter_all {l : List Msg3} (h : (l.any fun x => !isB x) = false) : l.filter isB = l := by
  rw [List.filter_eq_self]
  intro x hx
  have := List.any_eq_false.1 h x hx
  simpa using this
theorem filter_less {l : List Msg3} (h : (l.any fun x => !isB x) = true) : (l.filter isB).length < l.length := by
  rw [List.length_filter_lt_length_iff_exists]
  obtain ⟨x, hx, h2⟩ := List.any_eq_true.1 h
  exact ⟨x, hx, by simpa using h2⟩

set_option maxHeartbeats 16000000 in
set_option maxRecDepth 100000 in
theorem recExact_walk (A : Option Addr) (cap : Nat) (l : List Msg3) (hm : l.length ≤ 9223372036854775807) (hcap : l.length ≤ cap) (w : World) (hr : Row w A (l.flatMap msgCells)) :
    Calls Try.prog 3 #[.slice A l.length cap] w fun e w' => e = .returned (.bool true) ∧ Below w.heap.size w w' := by
  have HR := hid hr; clear hr
  have HV := hid (fun w' h => heavy_any A cap l hm w' h)
  obtain ⟨f1, hf1⟩ : ∃ f, f = heavyB l := ⟨_, rfl⟩
  rw [← hf1] at HV
  have HF1 := hid hf1; clear hf1
  obtain ⟨L, hL⟩ : ∃ L, L = l.length := ⟨_, rfl⟩
  rw [← hL] at hm hcap HV ⊢
  have HL := hid hL; clear hL
  go_enter Try.func3, Try.ntmps3
  go_wp2_with fail
  refine (awake22_any _).mono ?_; rintro e w1 ⟨rfl, hb_⟩
  have H1 := hid hb_; clear hb_
  cases f1 with
  | true =>
    go_wp2_with fail
    refine (HV.out w1 (HR.out.below H1.out)).mono ?_; rintro e w3 ⟨rfl, rfl⟩
    go_wp2_with fail
    go_ret
    exact ⟨rfl, H1.out⟩
  | false =>
    obtain ⟨hl200, hsz⟩ := heavyB_no HF1.out.symm
    have hL200 : L ≤ 200 := by rw [HL.out]; exact hl200
    clear hl200 hsz
    go_wp2_with fail
    refine (HV.out w1 (HR.out.below H1.out)).mono ?_; rintro e w3 ⟨rfl, rfl⟩
    clear HV
    obtain ⟨fl, hfl⟩ : ∃ fl, fl = l.filter isB := ⟨_, rfl⟩
    have hfl2 : fl.length ≤ L := by rw [hfl, HL.out]; exact List.length_filter_le _ _
    have hfall : ∀ x ∈ fl, isB x = true := by rw [hfl]; exact fun x hx => (List.mem_filter.1 hx).2
    have HGOOD : Hid (∀ W, Row W A (l.flatMap msgCells) → Calls Try.prog 14 #[.slice A L cap] W fun e w' => ∃ v, e = .returned v ∧ w'.ownsRowF 0 39 3 v fl.length (fl.flatMap msgCells) ∧ Below W.heap.size W w') := by
      intro W h
      have := ref22_Good A cap l (by have := HL.out; omega) W h
      rw [← HL.out, ← hfl] at this
      exact this
    have HTXT : Hid (∀ W B bcap, Row W B (fl.flatMap msgCells) → Calls Try.prog 15 #[.slice B fl.length bcap] W fun e w' => ∃ v, e = .returned v ∧ w'.ownsRowF 0 9 1 v (g2 [] fl).length (strs ((g2 [] fl).map bytesG)) ∧ Below W.heap.size W w') :=
      fun W B bcap h => ref22_Texts B bcap fl (by omega) hfall W h
    have HCNT : Hid (∀ W, Row W A (l.flatMap msgCells) → Calls Try.prog 16 #[.slice A L cap] W fun e w' => e = .returned (.int .i64 ((g2 [] fl).length : Nat)) ∧ Below W.heap.size W w') := by
      intro W h
      have := rec_Count_any A cap l (by have := HL.out; omega) W h
      rw [← HL.out, ← hfl] at this
      exact this
    obtain ⟨gs, hgs⟩ : ∃ gs, gs = (g2 [] fl).map bytesG := ⟨_, rfl⟩
    have hgl : (g2 [] fl).length = gs.length := by rw [hgs, List.length_map]
    rw [hgl, ← hgs] at HTXT
    rw [hgl] at HCNT
    obtain ⟨n, hn⟩ : ∃ n, n = gs.length := ⟨_, rfl⟩
    obtain ⟨m, hmm⟩ : ∃ m, m = fl.length := ⟨_, rfl⟩
    rw [← hn] at HTXT HCNT
    rw [← hmm] at HTXT HGOOD hfl2
    have hn2 : n ≤ 201 := by have := g2_len fl []; omega
    obtain ⟨any, hany⟩ : ∃ a, a = (l.any fun x => !isB x) := ⟨_, rfl⟩
    cases any with
    | true =>
      have hlt : m < L := by rw [hmm, hfl, HL.out]; exact filter_less hany.symm
      have HTX := hid (fun w' h => rec_Texts_no A cap l (by have := HL.out; omega) hany.symm w' h)
      rw [← HL.out] at HTX
      clear hany hgs hgl hn hmm hfall hfl
      go_wp2_with fail
      refine (HTX.out w1 (HR.out.below H1.out)).mono ?_; rintro e w2 ⟨rfl, hb_⟩
      have H2 := hid (bt H1.out hb_); clear hb_ H1 HTX
      go_wp2_with fail
      refine (HGOOD.out w2 (HR.out.below H2.out)).mono ?_; rintro e w3 ⟨v3, rfl, ho, hb_⟩
      obtain ⟨A3, cap3, rfl, hr3⟩ := ownsRowF_row ho
      have H3 := hid (And.intro (bt H2.out hb_) hr3); clear hb_ H2 HGOOD ho hr3
      go_wp2_with fail
      refine (HTXT.out w3 A3 cap3 H3.out.2).mono ?_; rintro e w4 ⟨v4, rfl, ho, hb_⟩
      obtain ⟨A4, cap4, rfl, hr4⟩ := ownsRowF_row ho
      have H4 := hid (bt H3.out.1 hb_); clear hb_ H3 HTXT ho hr4
      go_wp2_with fail
      refine (HCNT.out w4 (HR.out.below H4.out)).mono ?_; rintro e w5 ⟨rfl, hb_⟩
      have H5 := hid (bt H4.out hb_); clear hb_ H4 HCNT
      go_wp2_with fail
      go_ret
      exact ⟨rfl, H5.out⟩
    | false =>
      have hfll : fl = l := by rw [hfl]; exact filter_all hany.symm
      have hmL : m = L := by rw [hmm, hfll, HL.out]
      subst hmL
      have HTX : Hid (∀ W, Row W A (l.flatMap msgCells) → Calls Try.prog 13 #[.slice A m cap] W fun e w' => ∃ A' cap', e = .returned (.tuple #[.slice A' n cap', .int .i64 0]) ∧ Row w' A' (strs gs) ∧ Below W.heap.size W w') := by
        intro W h
        have := rec_Texts_yes A cap l (by have := HL.out; omega) (by have := HL.out; omega) (by rw [← hfll]; exact hfall) W h
        rw [← HL.out] at this
        have e : (g2 [] l).length = n := by rw [← hfll, hgl, hn]
        have e2 : (g2 [] l).map bytesG = gs := by rw [← hfll, hgs]
        rw [e, e2] at this
        exact this
      have HN := hid hn
      clear hany hgs hgl hn hmm hfall hfl hfll
      go_wp2_with fail
      refine (HTX.out w1 (HR.out.below H1.out)).mono ?_; rintro e w2 ⟨A2, cap2, rfl, hr2, hb_⟩
      have H2 := hid (And.intro (bt H1.out hb_) hr2); clear hb_ H1 HTX hr2
      go_wp2_with fail
      refine (HGOOD.out w2 (HR.out.below H2.out.1)).mono ?_; rintro e w3 ⟨v3, rfl, ho, hb_⟩
      obtain ⟨A3, cap3, rfl, hr3⟩ := ownsRowF_row ho
      have H3 := hid (And.intro (bt H2.out.1 hb_) (And.intro hr3 (H2.out.2.below hb_))); clear hb_ H2 HGOOD ho hr3
      go_wp2_with fail
      refine (HTXT.out w3 A3 cap3 H3.out.2.1).mono ?_; rintro e w4 ⟨v4, rfl, ho, hb_⟩
      obtain ⟨A4, cap4, rfl, hr4⟩ := ownsRowF_row ho
      have H4 := hid (And.intro (bt H3.out.1 hb_) (And.intro hr4 (H3.out.2.2.below hb_))); clear hb_ H3 HTXT ho hr4
      go_wp2_with fail
      refine (HCNT.out w4 (HR.out.below H4.out.1)).mono ?_; rintro e w5 ⟨rfl, hb_⟩
      have H5 := hid (And.intro (bt H4.out.1 hb_) (And.intro (H4.out.2.1.below hb_) (H4.out.2.2.below hb_))); clear hb_ H4 HCNT
      go_wp2_with fail
      go_loopg [7] n (fun g j wx => ∃ k : Nat, k + g = n ∧ j = .int .i64 k ∧ Hid (Below w5.heap.size w5 wx))
      case atStart => exact ⟨0, by omega, rfl, Below.refl _ _⟩
      case round =>
        obtain ⟨k, hk, rfl, HS⟩ := hrel
        by_cases hlt : k < n
        · have hlt' : k < gs.length := by have := HN.out; omega
          obtain ⟨t, ht⟩ : ∃ t, t = gs[k] := ⟨_, rfl⟩
          have hxi : (strs gs)[k]? = some (.string t) := by rw [ht]; simp [strs, hlt']
          obtain ⟨b, off, rfl, hb, hc⟩ := row_cell H5.out.2.1 (by intro e; rw [e] at hxi; cases hxi)
          obtain ⟨b', off', rfl, hb', hc'⟩ := row_cell H5.out.2.2 (by intro e; rw [e] at hxi; cases hxi)
          have c0 := hc _ _ hxi
          rw [← HS.out.cell (p := ⟨b, off + k, none⟩) hb] at c0
          have d0 := hc' _ _ hxi
          rw [← HS.out.cell (p := ⟨b', off' + k, none⟩) hb'] at d0
          clear hc hb hc' hb' hxi hlt' ht
          go_wp2_with fail
          go_quiet (fail)
          go_wp2_with fail
          go_roundg (n - (k + 1))
          case measure => omega
          case rel => exact ⟨k + 1, by omega, by go_num, bdn HS.out _⟩
        · go_wp2_with fail
          go_ret
          exact ⟨rfl, bt H5.out.1 HS.out⟩
end Go.Proofs.Ytjeoelhenlckaaa
