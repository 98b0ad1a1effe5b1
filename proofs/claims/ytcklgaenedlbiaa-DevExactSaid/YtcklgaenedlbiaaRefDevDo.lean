/-
  The document's device (grangerref03): the power goes; the fuse; what was written is safe; a block is read.
-/
import Derived.Test.YtcklgaenedlbiaaRefDev
import Derived.Test.YtcklgaenedlbiaaQuietTail
import Derived.Lib.QuietBelow
namespace Go.Proofs.Ytcklgaenedlbiaa
open Go.RowKit Go.Sort

set_option maxHeartbeats 16000000 in
set_option maxRecDepth 100000 in
theorem r3_Cut {w0 w : World} {q : Nat} {d : Dv} {G : List Nat} (h : R3 w0 w q d G) (n : Nat) (ho : DvOk n d) (A : Option Addr) (cap : Nat) (keep : List Bool) (hr : Row w0 A (bools keep)) (hkl : keep.length ≤ 1000000) (hlen : d.loose.length ≤ 1000000) :
    Calls Try.prog 19 #[.pointer (some ⟨q, 0, none⟩), .slice A keep.length cap] w fun e w' => e = .returned (.tuple #[]) ∧ R3 w0 w' q (d.cut keep) G ∧ Keeps G w w' := by
  cases hof : d.off with
  | true =>
    have he : d.cut keep = d := by unfold Dv.cut; rw [hof]; rfl
    rw [he]
    have H := hid h
    obtain ⟨hb, hs, hm, L, KA, kc, h, hkr, hL⟩ := h
    have c2 : w.cell? ⟨q, 2, none⟩ = some (.bool (!d.off)) := h.box.at rfl
    rw [hof] at c2
    simp only [Bool.not_true] at c2
    clear h hb hs hm hkr hL he hr hkl hlen ho
    go_enter Try.func19, Try.ntmps19
    go_wp2_with fail
    (try simp only [Exit.inBlock, Exit.then])
    exact bodyPost_ret (results_none rfl _ _ _) rfl ⟨rfl, H.out, Keeps.refl _ _⟩
  | false =>
    have he : d.cut keep = { d with safe := cutN keep d.loose d.safe d.loose.length, loose := [], off := true } := by unfold Dv.cut; rw [hof]; rfl
    rw [he]
    obtain ⟨hb, hs, hm, L, KA, kc, h, hkr, hL⟩ := h
    obtain ⟨LA, lcap, rfl, hlr, _⟩ := ownsRowF_own h.loose
    have c2 : w.cell? ⟨q, 2, none⟩ = some (.bool (!d.off)) := h.box.at rfl
    rw [hof] at c2
    simp only [Bool.not_false] at c2
    obtain ⟨l, hl⟩ : ∃ l, l = d.loose := ⟨_, rfl⟩
    obtain ⟨s, hs0⟩ : ∃ s, s = d.safe := ⟨_, rfl⟩
    have hsz := ho.size
    have hn2 := ho.n2
    have hlo := ho.loose
    rw [← hl] at hlen hlo
    rw [← hs0] at hsz
    have HH := hid (And.intro hb (And.intro hs (And.intro hm (And.intro h (And.intro hkr hL))))); have HOF := hid hof
    have HL := hid hl; have HS0 := hid hs0; have HO := hid (And.intro hsz (And.intro hn2 hlo)); have HR := hid hr
    have h0 : R3In w q { d with safe := cutN keep l s 0 } (.slice LA l.length lcap) KA kc := by rw [hl, show cutN keep d.loose s 0 = d.safe from hs0]; exact h
    have H0 := hid h0
    rw [← hl] at hlr
    clear hb hs hm h hkr hL he hl hs0 ho hr hlr hof hsz hn2 hlo h0
    go_enter Try.func19, Try.ntmps19
    go_wp2_with fail
    clear c2
    go_loopg [4] l.length (fun g j wx => ∃ i : Nat, i + g = l.length ∧ j = .int .i64 i ∧ Hid (R3In wx q { d with safe := cutN keep l s i } (.slice LA l.length lcap) KA kc ∧ Keeps [q] w wx))
    case atStart => exact ⟨0, by omega, rfl, H0.out, Keeps.refl _ _⟩
    case round =>
      obtain ⟨i, hi, rfl, HI⟩ := hrel
      have c1 : wr.cell? ⟨q, 1, none⟩ = some (.slice LA l.length lcap) := HI.out.1.box.at rfl
      by_cases hlt : i < l.length
      · have hlt' : (i : Int) < (l.length : Int) := by omega
        obtain ⟨⟨at_, blk⟩, hx⟩ : ∃ x, x = l[i] := ⟨_, rfl⟩
        have hxi : l[i]? = some (at_, blk) := by rw [hx]; simp [hlt]
        have HX := hid (And.intro hx hxi)
        have hli : (i : Int) ≤ 1000000 := by omega
        clear hx hxi
        go_wp2_with fail
        clear c1
        go_loopg [5] 4 (fun g j wx => ∃ k : Nat, k + g = 4 ∧ j = .int .i64 k ∧ Hid (R3In wx q { d with safe := cutK keep i (cutN keep l s i) (at_, blk) k } (.slice LA l.length lcap) KA kc ∧ Keeps [q] w wx))
        case atStart => exact ⟨0, by omega, rfl, HI.out⟩
        case round =>
          obtain ⟨k, hk, rfl, HJ⟩ := hrel
          by_cases hk4 : k < 4
          · have hk4' : (k : Int) < 4 := by omega
            obtain ⟨u, hu⟩ : ∃ u, u = 4 * i + k := ⟨_, rfl⟩
            have huu : 4 * (i : Int) + (k : Int) = (u : Int) := by omega
            have hb := HH.out.1
            have hq := (HH.out.2.1 q HH.out.2.2.1).1
            by_cases huk : u < keep.length
            · have huk' : (u : Int) < (keep.length : Int) := by omega
              obtain ⟨kb, ko, rfl, hkb, hkc⟩ := row_cell HR.out (by intro e; have := congrArg List.length e; simp [bools] at this; subst this; simp at huk)
              replace hkc := hkc u _ (bools_at huk)
              rw [← (Keeps.below hb HJ.out.2 (by simpa using hq)).cell (p := ⟨kb, ko + u, none⟩) hkb] at hkc
              obtain ⟨B, hB⟩ : ∃ B, B = keep[u] := ⟨_, rfl⟩
              rw [← hB] at hkc
              have hkd : keep.getD (4 * i + k) false = B := by rw [← hu, List.getD_eq_getElem?_getD, List.getElem?_eq_getElem huk, hB]; rfl
              have HQ := hid hu; have HKD := hid hkd
              clear hu hkd hB hkb hb hq
              cases B with
              | false =>
                go_wp2_with fail
                go_roundg (4 - (k + 1))
                case measure => omega
                case rel =>
                  refine ⟨k + 1, by omega, by go_num, ?_⟩
                  rw [cutK_succ, HKD.out]
                  exact HJ.out
              | true =>
                go_wp2_with fail
                have ho := HO.out
                have hxx : at_ < n ∧ blk.size = 256 := by have := ho.2.2 l[i] (List.getElem_mem _); rw [← HX.out.1] at this; exact this
                have hcl := cutK_length keep i (at_, blk) hxx k _ (by omega) (cutN_length keep l ho.2.2 s ho.1 i (by omega))
                have c0 : wr.cell? ⟨q, 0, none⟩ = some (.string ⟨(cutK keep i (cutN keep l s i) (at_, blk) k).toArray⟩) := HJ.out.1.box.at rfl
                have c1 : wr.cell? ⟨q, 1, none⟩ = some (.slice LA l.length lcap) := HJ.out.1.box.at rfl
                have f0 := HJ.out.1.free 0 (by decide)
                have hrow : Row wr LA (l.flatMap wrCells) := by have := HJ.out.1.loose; rw [show ({ d with safe := cutK keep i (cutN keep l s i) (at_, blk) k } : Dv).loose = l from HL.out.symm] at this; exact own_row this
                obtain ⟨b, off, rfl, hb, hc⟩ := row_cell hrow (by intro e; have h := wr_at l i 0 _ (.int .i64 at_) HX.out.2 rfl; rw [e] at h; cases h)
                have g0 := hc _ _ (wr_at l i 0 _ (.int .i64 at_) HX.out.2 rfl)
                have g1 := hc _ _ (wr_at l i 1 _ (.string blk) HX.out.2 rfl)
                rw [← Nat.add_assoc, Nat.add_zero] at g0
                rw [← Nat.add_assoc] at g1
                obtain ⟨o, hoo⟩ : ∃ o, o = 256 * at_ + 64 * k := ⟨_, rfl⟩
                obtain ⟨m, hm⟩ : ∃ m, m = 256 * at_ := ⟨_, rfl⟩
                obtain ⟨j, hj⟩ : ∃ j, j = 64 * k := ⟨_, rfl⟩
                obtain ⟨r, hr⟩ : ∃ r, r = 64 * k + 64 := ⟨_, rfl⟩
                have m1 : IntKind.i64.wrap (256 * (at_ : Int)) = (m : Int) := by rw [IntKind.wrap_i64]; have := ho.2.1; omega
                have m2 : IntKind.i64.wrap (64 * (k : Int)) = (j : Int) := by rw [IntKind.wrap_i64]; omega
                have m3 : IntKind.i64.wrap ((m : Int) + (j : Int)) = (o : Int) := by rw [IntKind.wrap_i64]; have := ho.2.1; omega
                have m4 : IntKind.i64.wrap ((j : Int) + 64) = (r : Int) := by rw [IntKind.wrap_i64]; omega
                have n0 : (at_ : Int) ≤ 512 := by have := ho.2.1; omega
                have n1 : (0 : Int) ≤ (j : Int) := by omega
                have n2 : (j : Int) ≤ (r : Int) := by omega
                have n3 : (r : Int) ≤ (blk.size : Int) := by omega
                have n4 : (m : Int) ≤ 131072 := by omega
                have n5 : (j : Int) ≤ 256 := by omega
                have hll : (blk.extract j r).size = 64 := by rw [ByteArray.size_extract]; omega
                have hsec : (blk.extract j r).data.toList = sect blk k := by rw [hj, hr]; exact sect_extract blk k
                have hfit : o + (blk.extract j r).size ≤ (cutK keep i (cutN keep l s i) (at_, blk) k).length := by omega
                have hz : (cutK keep i (cutN keep l s i) (at_, blk) k).length ≤ 140737488351232 := by have := ho.2.1; omega
                have hlay : over (cutK keep i (cutN keep l s i) (at_, blk) k) o (blk.extract j r).data.toList = lay1 (cutK keep i (cutN keep l s i) (at_, blk) k) (at_, blk) k := by
                  rw [hsec, hoo]; rfl
                obtain ⟨S, hS⟩ : ∃ S, S = cutK keep i (cutN keep l s i) (at_, blk) k := ⟨_, rfl⟩
                rw [← hS] at c0 hlay hfit hz
                have HLAY := hid hlay; have HFIT := hid hfit; have HZ := hid hz; have HS := hid hS; have HM := hid (And.intro hoo (And.intro hm (And.intro hj hr)))
                have HBL := hid hb
                clear hlay hfit hz hS hoo hm hj hr hcl hsec hll hxx ho hrow hb hc huu hkc
                have HJ2 := hid (show R3In wr q { d with safe := S } (.slice (some ⟨b, off, none⟩) l.length lcap) KA kc ∧ Keeps [q] w wr from by rw [HS.out]; exact HJ.out)
                have KL : Hid (∀ (dd : Nat) (os : Array Obj), Calls Try.prog 59 #[.string ⟨S.toArray⟩, .int .i64 o, .string (blk.extract j r)] (grow (redrawn wr dd) os) fun e w' => e = .returned (.string ⟨(lay1 S (at_, blk) k).toArray⟩) ∧ Below (grow (redrawn wr dd) os).heap.size (grow (redrawn wr dd) os) w') := fun dd os => by
                  have h1 := r3_lay (grow (redrawn wr dd) os) S o (blk.extract j r) HFIT.out HZ.out
                  rw [HLAY.out] at h1
                  exact h1
                have x0 : ∀ (dd : Nat) (os : Array Obj), (grow (redrawn wr dd) os).cell? ⟨q, 0, none⟩ = some (.string ⟨S.toArray⟩) := fun dd os => cell_regrown c0 dd os
                have x1 : ∀ (dd : Nat) (os : Array Obj), (grow (redrawn wr dd) os).cell? ⟨q, 1, none⟩ = some (.slice (some ⟨b, off, none⟩) l.length lcap) := fun dd os => cell_regrown c1 dd os
                have y0 : ∀ (dd : Nat) (os : Array Obj), (grow (redrawn wr dd) os).cell? ⟨b, off + i * 2, none⟩ = some (.int .i64 at_) := fun dd os => cell_regrown g0 dd os
                have y1 : ∀ (dd : Nat) (os : Array Obj), (grow (redrawn wr dd) os).cell? ⟨b, off + i * 2 + 1, none⟩ = some (.string blk) := fun dd os => cell_regrown g1 dd os
                clear c0 c1 g0 g1 f0
                refine wp_region_quiet_tail 34 (C := fun w' => ∃ p : Regrown, w' = grow (redrawn wr p.d) p.os) (by kernel_rfl) (by kernel_rfl) (regrown_of_below (Below.refl _ wr).drew) ?_
                simp only [List.take_succ_cons, List.take_zero, List.drop_succ_cons, List.drop_zero]
                repeat (go_big_quiet_step (first
                  | with_reducible exact Calls.regrown_of (KL.out _ _)))
                refine wpQuiet_nil ?_
                intro _ hw'
                obtain ⟨⟨dq, osq⟩, hw''⟩ := hw'
                subst hw''
                have hb3 := below_regrown wr dq osq
                have k0 := x0 dq osq
                clear x0 x1 y0 y1 KL
                generalize grow (redrawn wr dq) osq = w6 at hb3 k0 ⊢
                have g := HJ2.out.1.keeps (F := []) (Keeps.of hb3) (by simp) (by simp)
                have f0 := g.free 0 (by decide)
                have hk3 : Keeps [q] w w6 := HJ2.out.2.trans (Keeps.of hb3)
                have g2 := g.put (d' := { d with safe := lay1 S (at_, blk) k }) 0 (.string ⟨(lay1 S (at_, blk) k).toArray⟩) rfl rfl
                have HJ3 := hid (And.intro g2 (hk3.setCell (p := ⟨q, 0, none⟩) (by simp) (.string ⟨(lay1 S (at_, blk) k).toArray⟩)))
                clear g g2 hb3 hk3 HJ2 m1 m2 m3 m4 n0 n1 n2 n3 n4 n5
                go_wp2_with fail
                go_roundg (4 - (k + 1))
                case measure => omega
                case rel =>
                  refine ⟨k + 1, by omega, by go_num, ?_⟩
                  rw [cutK_succ, HKD.out, ← HS.out]
                  exact HJ3.out
            · have huk' : decide ((u : Int) < (keep.length : Int)) = false := by simp; omega
              have HQ := hid hu
              have hkd : keep.getD (4 * i + k) false = false := by rw [← hu, List.getD_eq_getElem?_getD, List.getElem?_eq_none (by omega)]; rfl
              have HKD := hid hkd
              clear hu hkd hb hq
              go_wp2_with fail
              go_roundg (4 - (k + 1))
              case measure => omega
              case rel =>
                refine ⟨k + 1, by omega, by go_num, ?_⟩
                rw [cutK_succ, HKD.out]
                exact HJ.out
          · have hk4' : k = 4 := by omega
            subst hk4'
            go_wp2_with fail
            go_roundg (l.length - (i + 1))
            case measure => omega
            case rel =>
              refine ⟨i + 1, by omega, by go_num, ?_, HJ.out.2⟩
              rw [cutN_succ]
              rw [List.getD_eq_getElem?_getD, HX.out.2]
              exact HJ.out.1
      · have hin : i = l.length := by omega
        subst hin
        obtain ⟨h1, h2, h3, _, h5, h6⟩ := HH.out
        have g5 := HI.out.1.putL (l := []) (L' := .slice none 0 0) (World.ownsRowF_nil _ _ _ _)
        have g6 := g5.put (d' := { d with safe := cutN keep l s l.length, loose := [], off := true }) 2 (.bool false) rfl rfl
        have hk : Keeps [q] w _ := (HI.out.2.setCell (p := ⟨q, 1, none⟩) (by simp) (.slice none 0 0)).setCell (p := ⟨q, 2, none⟩) (by simp) (.bool false)
        have c2 : (wr.setCell ⟨q, 1, none⟩ (.slice none 0 0)).cell? ⟨q, 2, none⟩ = some (.bool (!d.off)) := g5.box.at rfl
        have f1 := HI.out.1.free 1 (by decide)
        have f2 := g5.free 2 (by decide)
        have HE2 := hid (And.intro g6 hk)
        clear h1 h2 h3 h5 h6 g5 g6 hk
        go_wp2_with fail
        go_end0
        obtain ⟨h1, h2, h3, _, h5, h6⟩ := HH.out
        have hk : Keeps G w _ := HE2.out.2.mono (fun x hx => by simp at hx; rw [hx]; exact h3)
        exact ⟨rfl, ⟨Keeps.below h1 hk (fun x hx => (h2 x hx).1), fun k hk' => ⟨(h2 k hk').1, Nat.lt_of_lt_of_le (h2 k hk').2 hk.size⟩, h3, _, KA, kc, (by rw [← HL.out, ← HS0.out]; exact HE2.out.1), h5, fun k hk => by cases hk⟩, hk⟩
end Go.Proofs.Ytcklgaenedlbiaa
