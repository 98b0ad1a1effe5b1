/-
  A device of layer 3: a sector is laid, the power goes.
  A device of layer 3: the fuse goes on; what was written is safe; a block is written.
-/
import Derived.Test.YtcklgaenedlbiaaGreatGWalExact12

namespace Go.Proofs.YtcklgaenedlbiaaGreat
open Go.RowKit

theorem sect_extract (b : ByteArray) (k : Nat) : (b.extract (64 * k) (64 * k + 64)).data.toList = sect b k := by
  rw [Lib.extract_data]
  unfold sect
  congr 1
  omega

set_option maxHeartbeats 4000000 in
set_option maxRecDepth 100000 in
theorem dev_lay (w : World) (at_ : Nat) (blk : ByteArray) (S : Nat) (s : List UInt8) (n : Nat) (hs : s.length = 256 * n) (hx : at_ < n ∧ blk.size = 256) (k : Nat) (hk : k < 4) (hn : n ≤ 512) (hB : Blk w S 5 (u8s s)) (c : Nat) (hc : c = s.length) :
    Calls Tryz.prog 66 #[.agg #[.int .i64 at_, .string blk], .slice (some ⟨S, 0, none⟩) c c, .int .i64 k] w fun e w' => e = .returned (.tuple #[]) ∧ Blk w' S 5 (u8s (lay1 s (at_, blk) k)) ∧ Keeps [S] w w' := by
  have hA := below_alloc w (.cells #[.int .i64 at_, .string blk] 94)
  have BX := Blk.new w #[.int .i64 at_, .string blk] 94
  obtain ⟨gx, hgx⟩ : ∃ g, g = w.heap.size := ⟨_, rfl⟩
  have hz : 64 * k + 64 ≤ blk.size := by omega
  have e1 : (blk.extract (64 * k) (64 * k + 64)).data.toList = sect blk k := sect_extract blk k
  have hB2 := hB.belowS hA
  have HB := hid hB2; have HA := hid hA; have HE := hid e1; have HG := hid hgx
  obtain ⟨hx1, hx2⟩ := hx
  obtain ⟨m, hm⟩ : ∃ m, m = 256 * at_ := ⟨_, rfl⟩
  obtain ⟨j, hj⟩ : ∃ j, j = 64 * k := ⟨_, rfl⟩
  obtain ⟨r, hr⟩ : ∃ r, r = 64 * k + 64 := ⟨_, rfl⟩
  obtain ⟨q, hq⟩ : ∃ q, q = 256 * at_ + 64 * k := ⟨_, rfl⟩
  have hat : (at_ : Int) ≤ 512 := by omega
  have hk' : (k : Int) ≤ 4 := by omega
  have hk0 : (0 : Int) ≤ (k : Int) := by omega
  have w1' : IntKind.i64.wrap ((at_ : Int) * 256) = (m : Int) := by rw [IntKind.wrap_i64]; omega
  have w2' : IntKind.i64.wrap ((m : Int) + (j : Int)) = (q : Int) := by rw [IntKind.wrap_i64]; omega
  have w3' : IntKind.i64.wrap ((j : Int) + 64) = (r : Int) := by rw [IntKind.wrap_i64]; omega
  have q0 : (0 : Int) ≤ (q : Int) := by omega
  have q1 : (q : Int) < (c : Int) := by omega
  have q2 : (q : Int) ≤ (c : Int) := by omega
  have q3 : ¬ c = q := by omega
  have j0 : (0 : Int) ≤ (j : Int) := by omega
  have j1 : (j : Int) ≤ (r : Int) := by omega
  have j2 : (r : Int) ≤ (blk.size : Int) := by omega
  have hkj : (k : Int) * 64 = (j : Int) := by omega
  have HKJ := hid hkj; have HM := hid (And.intro hm (And.intro hj (And.intro hq hr)))
  have HW := hid (And.intro w1' (And.intro w2' w3'))
  clear hm hj hq hr w1' w2' w3' hkj
  have HC := hid hc; have HS := hid hs; have HX := hid (And.intro hx1 hx2); have HK := hid (And.intro hk hn)
  rw [← hgx] at BX
  clear hB hB2 hA e1 hgx hc hs hx1 hx2 hk hn hz
  go_enter Tryz.func66, Tryz.ntmps66
  go_wp2_with fail
  rw [← HG.out]
  generalize w.alloc (.cells #[.int .i64 at_, .string blk] 94) = w1 at *
  have c0 : w1.cell? ⟨gx, 0, none⟩ = some (.int .i64 at_) := BX.at rfl
  have c1 : w1.cell? ⟨gx, 1, none⟩ = some (.string blk) := BX.at rfl
  rw [HKJ.out]
  obtain ⟨w1', w2', w3'⟩ := HW.out
  go_still_tail 13, (by kernel_rfl)
  change wpList _ _ _ _ _ w1.drew
  have hfit : q + (blk.extract j r).size ≤ s.length := by
    have h1 := HX.out; have h2 := HM.out; have h3 := HK.out; have h4 := HS.out
    rw [ByteArray.size_extract]; omega
  refine wpList_copy_str rfl _ _ _ _ rfl _ Tryz.underlying62 (by kernel_rfl) S q (c - q) (c - q) rfl (blk.extract j r) rfl (by have h1 := HC.out; omega) 5 s HB.out hfit ?_
  intro w2 hB2 hK2
  have hl : over s q (blk.extract j r).data.toList = lay1 s (at_, blk) k := by
    have h2 := HM.out
    rw [h2.2.1, h2.2.2.2, HE.out, h2.2.2.1]
    rfl
  rw [hl] at hB2
  have HB2 := hid hB2; have HK2 := hid hK2
  clear hB2 hK2 hl hfit w1' w2' w3'
  go_wp2_with fail
  go_end0
  exact ⟨rfl, HB2.out, Keeps.go (Keeps.of HA.out) (Keeps.go (Keeps.refl _ w1).drew HK2.out (fun x hx => .inl hx)) (fun x hx => .inl hx)⟩

theorem bools_at {l : List Bool} {i : Nat} (h : i < l.length) : (bools l)[i]? = some (.bool l[i]) := by simp [bools, h]
/-- a row of bools is none of bytes -/
theorem bools_ne {w : World} {S : Nat} {T : TypeId} {s : List UInt8} {A : Option Addr} {keep : List Bool} (hr : Row w A (bools keep)) (hb : Blk w S T (u8s s)) (i : Nat) (hi : i < keep.length) :
    ∃ b off, A = some ⟨b, off, none⟩ ∧ b < w.heap.size ∧ b ≠ S ∧ w.cell? ⟨b, off + i, none⟩ = some (.bool keep[i]) := by
  obtain ⟨b, off, h1, h2, h3⟩ := row_cell hr (by intro e; have := congrArg List.length e; simp [bools] at this; subst this; simp at hi)
  have h4 := h3 i _ (bools_at hi)
  refine ⟨b, off, h1, h2, ?_, h4⟩
  rintro rfl
  rw [hb.cell] at h4
  simp [u8s] at h4

set_option maxHeartbeats 16000000 in
set_option maxRecDepth 100000 in
theorem dev_Cut (w : World) (p : Nat) (d : Dv) (F : List Nat) (h : DevAt w p d F) (n : Nat) (ho : DvOk n d) (A : Option Addr) (cap : Nat) (keep : List Bool) (hr : Row w A (bools keep)) (hkl : keep.length ≤ 9223372036854775807) (hlen : d.loose.length ≤ 1000000) :
    Calls Tryz.prog 92 #[.pointer (some ⟨p, 0, none⟩), .slice A keep.length cap] w fun e w' => e = .returned (.tuple #[]) ∧ DevAt w' p (d.cut keep) F ∧ Keeps F w w' := by
  cases hof : d.off with
  | true =>
    have he : d.cut keep = d := by unfold Dv.cut; rw [hof]; rfl
    rw [he]
    have H := hid h
    obtain ⟨hs, S, L, K, h, hF⟩ := h
    have c2 := h.c2
    rw [hof] at c2
    clear h hF hs he hr hkl hlen ho
    go_enter Tryz.func92, Tryz.ntmps92
    go_wp2_with fail
    (try simp only [Exit.inBlock, Exit.then])
    exact bodyPost_ret (results_none rfl _ _ _) rfl ⟨rfl, H.out, Keeps.refl _ _⟩
  | false =>
    have he : d.cut keep = { d with safe := cutN keep d.loose d.safe d.loose.length, loose := [], off := true } := by unfold Dv.cut; rw [hof]; rfl
    rw [he]
    obtain ⟨hs, S, L, K, h, hF⟩ := h
    obtain ⟨LA, lcap, hL, hlr, _⟩ := ownsRowF_own h.loose
    have c0 := h.c0
    have c1 := h.c1
    have c2 := h.c2
    rw [hof] at c2
    rw [hL] at c1
    obtain ⟨l, hl⟩ : ∃ l, l = d.loose := ⟨_, rfl⟩
    obtain ⟨s, hs0⟩ : ∃ s, s = d.safe := ⟨_, rfl⟩
    obtain ⟨sl, hsl⟩ : ∃ sl, sl = d.safe.length := ⟨_, rfl⟩
    rw [← hsl] at c0
    rw [← hl] at c1 hlr hlen
    have HH := hid (And.intro hs (And.intro h hF)); have HOF := hid hof
    have HE := hid he; have HL := hid hl; have HS0 := hid hs0; have HSL := hid hsl; have HO := hid ho; have HR := hid hr; have HLR := hid hlr
    have hsafe := hid h.safe
    clear hs h hF he hl hs0 hsl ho hr hL hlr hof
    go_enter Tryz.func92, Tryz.ntmps92
    go_wp2_with fail
    clear c0 c1 c2
    go_loopg [21] l.length (fun g j wx => ∃ i : Nat, i + g = l.length ∧ j = .int .i64 i ∧ Hid (Blk wx S 5 (u8s (cutN keep l s i)) ∧ Keeps [S] w wx))
    case atStart => exact ⟨0, by omega, rfl, by rw [HS0.out]; exact hsafe.out, Keeps.refl _ _⟩
    case round =>
      obtain ⟨i, hi, rfl, HI⟩ := hrel
      by_cases hlt : i < l.length
      · obtain ⟨⟨at_, blk⟩, hx⟩ : ∃ x, x = l[i] := ⟨_, rfl⟩
        have hxi : l[i]? = some (at_, blk) := by rw [hx]; simp [hlt]
        obtain ⟨b, off, rfl, hb, hc⟩ := row_cell HLR.out (by intro e; have h := wr_at l i 0 _ (.int .i64 at_) hxi rfl; rw [e] at h; cases h)
        have hbS : b ≠ S := by
          rintro rfl
          have h1 := hc _ _ (wr_at l i 1 _ (.string blk) hxi rfl)
          rw [hsafe.out.cell] at h1
          simp [u8s] at h1
        have c0 := hc _ _ (wr_at l i 0 _ (.int .i64 at_) hxi rfl)
        have c1 := hc _ _ (wr_at l i 1 _ (.string blk) hxi rfl)
        rw [← HI.out.2.cell hb (by simp; exact hbS), ← Nat.add_assoc, Nat.add_zero] at c0
        rw [← HI.out.2.cell hb (by simp; exact hbS), ← Nat.add_assoc] at c1
        have HX := hid (And.intro hx hxi)
        clear hb hc hx hxi hbS
        have hli : (i : Int) ≤ 1000000 := by omega
        go_wp2_with fail
        clear c0 c1
        obtain ⟨gx, hgx⟩ : ∃ g, g = wr.heap.size := ⟨_, rfl⟩
        obtain ⟨w1, hw1⟩ : ∃ w1, w1 = wr.alloc (.cells #[.int .i64 at_, .string blk] 94) := ⟨_, rfl⟩
        have hA : Below wr.heap.size wr w1 := by rw [hw1]; exact below_alloc wr _
        have BX : Blk w1 gx 94 [.int .i64 at_, .string blk] := by rw [hw1, hgx]; exact Blk.new wr _ _
        rw [← hgx, ← hw1]
        have hSg : S ≠ gx := by have := HI.out.1.lt; omega
        have HI2 := hid (show Blk w1 S 5 (u8s (cutN keep l s i)) ∧ Keeps [S] w w1 ∧ Blk w1 gx 94 [.int .i64 at_, .string blk] from ⟨HI.out.1.belowS hA, HI.out.2.go (F := [S]) (G := []) (Keeps.of hA) (by simp), BX⟩)
        have HG := hid hSg
        have hgw : w.heap.size ≤ gx := by rw [hgx]; exact HI.out.2.size
        clear hA BX hgx hSg HI hw1
        go_loopg [26] 4 (fun g j wx => ∃ k : Nat, k + g = 4 ∧ j = .int .i64 k ∧ Hid (Blk wx S 5 (u8s (cutK keep i (cutN keep l s i) (at_, blk) k)) ∧ Keeps [S] w wx ∧ Blk wx gx 94 [.int .i64 at_, .string blk]))
        case atStart => exact ⟨0, by omega, rfl, HI2.out⟩
        case round =>
          obtain ⟨k, hk, rfl, HJ⟩ := hrel
          by_cases hk4 : k < 4
          · have hk4' : (k : Int) < 4 := by omega
            obtain ⟨q, hq⟩ : ∃ q, q = 4 * i + k := ⟨_, rfl⟩
            have hqq : (i : Int) * 4 + (k : Int) = (q : Int) := by omega
            by_cases hqk : q < keep.length
            · have hqk' : (q : Int) < (keep.length : Int) := by omega
              obtain ⟨kb, ko, rfl, hkb, hkS, hkc⟩ := bools_ne HR.out hsafe.out q hqk
              rw [← HJ.out.2.1.cell hkb (by simp; exact hkS)] at hkc
              obtain ⟨B, hB⟩ : ∃ B, B = keep[q] := ⟨_, rfl⟩
              rw [← hB] at hkc
              have hkd : keep.getD (4 * i + k) false = B := by rw [← hq, List.getD_eq_getElem?_getD, List.getElem?_eq_getElem hqk, hB]; rfl
              have HQ := hid hq; have HKD := hid hkd
              clear hq hkd hB hkb hkS
              cases B with
              | false =>
                go_wp2_with fail
                go_roundg (4 - (k + 1))
                case measure => omega
                case rel =>
                  refine ⟨k + 1, by omega, by go_num, ?_⟩
                  rw [cutK_succ, HKD.out]
                  exact HJ.out
              | true =>
                go_wp2_with fail
                have g0 : wr.cell? ⟨gx, 0, none⟩ = some (.int .i64 at_) := HJ.out.2.2.at rfl
                have g1 : wr.cell? ⟨gx, 1, none⟩ = some (.string blk) := HJ.out.2.2.at rfl
                have c0 : wr.cell? ⟨p, 0, none⟩ = some (.slice (some ⟨S, 0, none⟩) sl sl) := by
                  obtain ⟨h1, h2, h3⟩ := HH.out
                  rw [HJ.out.2.1.cell h2.box.lt (by simp; exact fun e => h2.ne e.symm), HSL.out]; exact h2.c0
                go_still_tail 6, (by kernel_rfl)
                have ho := HO.out
                have hlo : ∀ x ∈ l, x.1 < n ∧ x.2.size = 256 := by rw [HL.out]; exact ho.loose
                have hxx : at_ < n ∧ blk.size = 256 := by have := hlo l[i] (List.getElem_mem _); rw [← HX.out.1] at this; exact this
                have hsz : s.length = 256 * n := by rw [HS0.out]; exact ho.size
                have hcl := cutK_length keep i (at_, blk) hxx k _ (by omega) (cutN_length keep l hlo s hsz i (by omega))
                have hsl2 : sl = 256 * n := by rw [HSL.out]; exact ho.size
                change wpList _ _ _ _ _ wr.drew
                obtain ⟨w2, hw2⟩ : ∃ w2, w2 = wr.drew := ⟨_, rfl⟩
                have HJ2 := hid (show Blk w2 S 5 (u8s (cutK keep i (cutN keep l s i) (at_, blk) k)) ∧ Keeps [S] w w2 ∧ Blk w2 gx 94 [.int .i64 at_, .string blk] from by rw [hw2]; exact ⟨HJ.out.1, HJ.out.2.1.drew, HJ.out.2.2⟩)
                rw [← hw2]
                have HCL := hid (And.intro hcl (And.intro hsl2 (And.intro hxx ho.n2)))
                clear hw2 HJ g0 g1 c0 hcl hsl2 hxx ho hlo hsz
                go_wp2_with fail
                refine (dev_lay w2 at_ blk S _ n HCL.out.1 HCL.out.2.2.1 k hk4 HCL.out.2.2.2 HJ2.out.1 sl (by rw [HCL.out.1]; exact HCL.out.2.1)).mono ?_
                rintro e w3 ⟨rfl, hB3, hK3⟩
                have HJ3 := hid (show Blk w3 S 5 (u8s (lay1 (cutK keep i (cutN keep l s i) (at_, blk) k) (at_, blk) k)) ∧ Keeps [S] w w3 ∧ Blk w3 gx 94 [.int .i64 at_, .string blk] from ⟨hB3, HJ2.out.2.1.trans hK3, HJ2.out.2.2.keeps hK3 (by simp; exact fun e => HG.out e.symm)⟩)
                clear hB3 hK3 HJ2 hkc
                go_wp2_with fail
                go_roundg (4 - (k + 1))
                case measure => omega
                case rel =>
                  refine ⟨k + 1, by omega, by go_num, ?_⟩
                  rw [cutK_succ, HKD.out]
                  exact HJ3.out
            · have hqk' : decide ((q : Int) < (keep.length : Int)) = false := by simp; omega
              have HQ := hid hq
              have hkd : keep.getD (4 * i + k) false = false := by rw [← hq, List.getD_eq_getElem?_getD, List.getElem?_eq_none (by omega)]; rfl
              have HKD := hid hkd
              clear hq hkd
              go_wp2_with fail
              go_roundg (4 - (k + 1))
              case measure => omega
              case rel =>
                refine ⟨k + 1, by omega, by go_num, ?_⟩
                rw [cutK_succ, HKD.out]
                exact HJ.out
          · have hk4' : k = 4 := by omega
            subst hk4'
            go_wp2_with fail
            go_roundg (l.length - (i + 1))
            case measure => omega
            case rel =>
              refine ⟨i + 1, by omega, by go_num, ?_, HJ.out.2.1⟩
              rw [cutN_succ]
              rw [List.getD_eq_getElem?_getD, HX.out.2]
              exact HJ.out.1
      · have hin : i = l.length := by omega
        subst hin
        obtain ⟨h1, h2, h3⟩ := HH.out
        have ho := HO.out
        have h4 : DevIn wr p { d with safe := cutN keep d.loose d.safe d.loose.length } S L K := h2.safeTo HI.out.2 _ (by rw [cutN_length keep d.loose ho.loose d.safe ho.size _ (Nat.le_refl _), ho.size]) (by rw [← HL.out, ← HS0.out]; exact HI.out.1)
        have h5 := h4.putL (l := []) (L' := .slice none 0 0) (World.ownsRowF_nil _ _ _ _)
        have h6 := h5.put (d' := { d with safe := cutN keep d.loose d.safe d.loose.length, loose := [], off := true }) 2 (.bool true) rfl rfl rfl rfl
        have hk : Keeps F w _ := ((HI.out.2.mono (fun x hx => by simp at hx; rw [hx]; exact h3.safe)).setCell (p := ⟨p, 1, none⟩) h3.box (.slice none 0 0)).setCell (p := ⟨p, 2, none⟩) h3.box (.bool true)
        have c1 := h4.c1
        have c2 := h5.c2
        have f1 := h4.free 1 (by decide)
        have f2 := h5.free 2 (by decide)
        rw [show ({ d with safe := cutN keep d.loose d.safe d.loose.length, loose := [] } : Dv).off = false from HOF.out] at c2
        have HE2 := hid (And.intro h6 hk)
        have H3 := hid h3; have H1 := hid h1
        clear h1 h2 h3 h4 h5 h6 hk ho
        go_wp2_with fail
        go_end0
        exact ⟨rfl, ⟨fun k hk' => Nat.lt_of_lt_of_le (H1.out k hk') HE2.out.2.size, S, _, K, HE2.out.1, H3.out.box, H3.out.safe, (fun k hk => by cases hk), H3.out.keep⟩, HE2.out.2⟩
end Go.Proofs.YtcklgaenedlbiaaGreat

namespace Go.Proofs.YtcklgaenedlbiaaGreat
open Go.RowKit

theorem Dv.cut_off (d : Dv) (keep : List Bool) : (d.cut keep).off = true := by
  unfold Dv.cut
  split
  · assumption
  · rfl
theorem Dv.cut_keep (d : Dv) (keep : List Bool) : (d.cut keep).keep = d.keep := by
  unfold Dv.cut
  split <;> rfl

set_option maxHeartbeats 4000000 in
set_option maxRecDepth 100000 in
theorem dev_burn (w : World) (p : Nat) (d : Dv) (F : List Nat) (h : DevAt w p d F) (n : Nat) (ho : DvOk n d) (hkl : d.keep.length ≤ 1000000) (hlen : d.loose.length ≤ 1000000) :
    Calls Tryz.prog 65 #[.pointer (some ⟨p, 0, none⟩)] w fun e w' => e = .returned (.bool d.burn.off) ∧ DevAt w' p d.burn F ∧ Keeps F w w' := by
  by_cases h0 : d.fuse = 0
  · have hb : d.burn = d.cut d.keep := by
      unfold Dv.burn
      rw [if_pos h0]
      simp only [d.cut_off, Bool.not_true, Bool.false_and, Bool.false_eq_true, if_false]
    rw [hb, d.cut_off]
    have H := hid h; have HO := hid ho
    obtain ⟨hs, S, L, K, h, hF⟩ := h
    obtain ⟨KA, kcap, hK, hkr, _⟩ := ownsRowF_own h.keep
    have c3 := h.c3
    have c4 := h.c4
    rw [h0] at c3
    rw [hK] at c4
    have HKR := hid hkr
    clear h hF hs hb hkr hK
    go_enter Tryz.func65, Tryz.ntmps65
    go_wp2_with fail
    refine (dev_Cut w p d F H.out n HO.out KA kcap d.keep HKR.out (by omega) hlen).mono ?_
    rintro e w1 ⟨rfl, h1, hk1⟩
    have H1 := hid (And.intro h1 hk1)
    obtain ⟨_, S1, L1, K1, h1, _⟩ := h1
    have c2 := h1.c2
    rw [d.cut_off] at c2
    clear h1 hk1 c3 c4
    go_wp2_with fail
    go_ret
    exact ⟨rfl, H1.out⟩
  · cases hof : d.off with
    | true =>
      have hb : d.burn = d := by
        unfold Dv.burn
        rw [if_neg h0]
        simp only [hof, Bool.not_true, Bool.false_and, Bool.false_eq_true, if_false]
      rw [hb, hof]
      have H := hid h
      obtain ⟨hs, S, L, K, h, hF⟩ := h
      have c2 := h.c2
      have c3 := h.c3
      rw [hof] at c2
      generalize d.fuse = f at *
      have h0' : (f == 0) = false := by simpa using h0
      clear h hF hs hb ho hof h0
      go_enter Tryz.func65, Tryz.ntmps65
      go_wp2_with fail
      go_ret
      exact ⟨rfl, H.out, Keeps.refl _ _⟩
    | false =>
      by_cases hp : 0 < d.fuse
      · have hb : d.burn = { d with fuse := d.fuse - 1 } := by
          unfold Dv.burn
          rw [if_neg h0]
          simp only [hof, Bool.not_false, Bool.true_and, decide_eq_true hp, if_true]
        rw [hb]
        show Calls _ _ _ _ fun e w' => e = .returned (.bool d.off) ∧ _
        rw [hof]
        obtain ⟨hs, S, L, K, h, hF⟩ := h
        have c2 := h.c2
        have c3 := h.c3
        have f3 := h.free 3 (by decide)
        have h1 := h.put (d' := { d with fuse := d.fuse - 1 }) 3 (.int .i64 (d.fuse - 1)) rfl rfl rfl rfl
        have c2' := h1.c2
        have hk := (Keeps.refl F w).setCell (p := ⟨p, 3, none⟩) hF.box (.int .i64 (d.fuse - 1))
        have H1 := hid (show DevAt _ p { d with fuse := d.fuse - 1 } F ∧ Keeps F w _ from ⟨⟨fun k hk' => Nat.lt_of_lt_of_le (hs k hk') hk.size, S, L, K, h1, hF⟩, hk⟩)
        rw [show ({ d with fuse := d.fuse - 1 } : Dv).off = false from hof] at c2'
        rw [hof] at c2 H1
        have hfu := ho.fuse
        generalize d.fuse = f at *
        have h0' : (f == 0) = false := by simpa using h0
        clear h hF hs hb ho hof h1 hk h0
        obtain ⟨hf1, hf2⟩ := hfu
        go_enter Tryz.func65, Tryz.ntmps65
        go_wp2_with fail
        go_ret
        exact ⟨rfl, H1.out⟩
      · have hb : d.burn = d := by
          unfold Dv.burn
          rw [if_neg h0]
          simp only [hof, Bool.not_false, Bool.true_and, decide_eq_false hp, Bool.false_eq_true, if_false]
        rw [hb, hof]
        have H := hid h
        obtain ⟨hs, S, L, K, h, hF⟩ := h
        have c2 := h.c2
        have c3 := h.c3
        rw [hof] at c2
        generalize d.fuse = f at *
        have h0' : (f == 0) = false := by simpa using h0
        have hp' : decide (f > 0) = false := by simpa using hp
        have hp2 : decide (0 < f) = false := by simpa using hp
        clear h hF hs hb ho hof h0 hp
        go_enter Tryz.func65, Tryz.ntmps65
        go_wp2_with fail
        go_ret
        exact ⟨rfl, H.out, Keeps.refl _ _⟩

set_option maxHeartbeats 16000000 in
set_option maxRecDepth 100000 in
theorem dev_Flush (w : World) (p : Nat) (d : Dv) (F : List Nat) (h : DevAt w p d F) (n : Nat) (ho : DvOk n d) (hkl : d.keep.length ≤ 1000000) (hlen : d.burn.loose.length ≤ 1000000) (hl0 : d.loose.length ≤ 1000000) (hfl : d.burn.fl ≤ 1000000) :
    Calls Tryz.prog 41 #[.pointer (some ⟨p, 0, none⟩)] w fun e w' => e = .returned (.int .i64 (if d.burn.off then 4 else 0)) ∧ DevAt w' p d.flush F ∧ Keeps F w w' := by
  have H := hid h; have HO1 := hid ho; have HB := hid ho.burn
  have HC := hid (dev_burn w p d F h n ho hkl hl0)
  clear h ho
  unfold Dv.flush
  obtain ⟨b, hb⟩ : ∃ b, b = d.burn := ⟨_, rfl⟩
  rw [← hb] at HC HB hlen hfl ⊢
  clear hb
  obtain ⟨bo, hof⟩ : ∃ bo, bo = b.off := ⟨_, rfl⟩
  rw [← hof] at HC ⊢
  have HOF := hid hof
  clear hof
  cases bo with
  | true =>
    go_enter Tryz.func41, Tryz.ntmps41
    go_wp2_with fail
    refine HC.out.mono ?_
    rintro e w0 ⟨rfl, h, hk0⟩
    have H1 := hid (And.intro h hk0)
    clear h hk0
    go_wp2_with fail
    go_ret
    exact ⟨rfl, H1.out⟩
  | false =>
    simp only [Bool.false_eq_true, if_false]
    go_enter Tryz.func41, Tryz.ntmps41
    go_wp2_with fail
    refine HC.out.mono ?_
    rintro e w0 ⟨rfl, h, hk0⟩
    have HK0 := hid hk0; clear hk0 H HO1
    obtain ⟨hs, S, L, K, h, hF⟩ := h
    obtain ⟨LA, lcap, hL, hlr, _⟩ := ownsRowF_own h.loose
    have c0 := h.c0
    have c1 := h.c1
    rw [hL] at c1
    obtain ⟨l, hl⟩ : ∃ l, l = b.loose := ⟨_, rfl⟩
    obtain ⟨s, hs0⟩ : ∃ s, s = b.safe := ⟨_, rfl⟩
    obtain ⟨sl, hsl⟩ : ∃ sl, sl = b.safe.length := ⟨_, rfl⟩
    rw [← hsl] at c0
    rw [← hl] at c1 hlr hlen
    have HH := hid (And.intro hs (And.intro h hF))
    have HL := hid hl; have HS0 := hid hs0; have HSL := hid hsl; have HLR := hid hlr
    have hsafe := hid h.safe
    have HFL := hid hfl
    clear hs h hF hl hs0 hsl hL hlr hfl HC
    go_wp2_with fail
    clear c0 c1
    go_loopg [17] l.length (fun g j wx => ∃ i : Nat, i + g = l.length ∧ j = .int .i64 i ∧ Hid (Blk wx S 5 (u8s (flushN s (l.take i))) ∧ Keeps [S] w0 wx))
    case atStart => exact ⟨0, by omega, rfl, by rw [HS0.out]; exact hsafe.out, Keeps.refl _ _⟩
    case round =>
      obtain ⟨i, hi, rfl, HI⟩ := hrel
      by_cases hlt : i < l.length
      · obtain ⟨⟨at_, blk⟩, hx⟩ : ∃ x, x = l[i] := ⟨_, rfl⟩
        have hxi : l[i]? = some (at_, blk) := by rw [hx]; simp [hlt]
        obtain ⟨b', off, rfl, hb, hc⟩ := row_cell HLR.out (by intro e; have h := wr_at l i 0 _ (.int .i64 at_) hxi rfl; rw [e] at h; cases h)
        have hbS : b' ≠ S := by
          rintro rfl
          have h1 := hc _ _ (wr_at l i 1 _ (.string blk) hxi rfl)
          rw [hsafe.out.cell] at h1
          simp [u8s] at h1
        have c0 := hc _ _ (wr_at l i 0 _ (.int .i64 at_) hxi rfl)
        have c1 := hc _ _ (wr_at l i 1 _ (.string blk) hxi rfl)
        rw [← HI.out.2.cell hb (by simp; exact hbS), ← Nat.add_assoc, Nat.add_zero] at c0
        rw [← HI.out.2.cell hb (by simp; exact hbS), ← Nat.add_assoc] at c1
        have HX := hid (And.intro hx hxi)
        clear hb hc hx hxi hbS
        have hli : (i : Int) ≤ 1000000 := by omega
        go_wp2_with fail
        clear c0 c1
        obtain ⟨gx, hgx⟩ : ∃ g, g = wr.heap.size := ⟨_, rfl⟩
        obtain ⟨w1, hw1⟩ : ∃ w1, w1 = wr.alloc (.cells #[.int .i64 at_, .string blk] 94) := ⟨_, rfl⟩
        have hA : Below wr.heap.size wr w1 := by rw [hw1]; exact below_alloc wr _
        have BX : Blk w1 gx 94 [.int .i64 at_, .string blk] := by rw [hw1, hgx]; exact Blk.new wr _ _
        rw [← hgx, ← hw1]
        have hSg : S ≠ gx := by have := HI.out.1.lt; omega
        have HI2 := hid (show Blk w1 S 5 (u8s (flushN s (l.take i))) ∧ Keeps [S] w0 w1 ∧ Blk w1 gx 94 [.int .i64 at_, .string blk] from ⟨HI.out.1.belowS hA, HI.out.2.go (F := [S]) (G := []) (Keeps.of hA) (by simp), BX⟩)
        have HG := hid hSg
        clear hA BX hgx hSg HI hw1
        go_loopg [21] 4 (fun g j wx => ∃ k : Nat, k + g = 4 ∧ j = .int .i64 k ∧ Hid (Blk wx S 5 (u8s (layN (flushN s (l.take i)) (at_, blk) k)) ∧ Keeps [S] w0 wx ∧ Blk wx gx 94 [.int .i64 at_, .string blk]))
        case atStart => exact ⟨0, by omega, rfl, HI2.out⟩
        case round =>
          obtain ⟨k, hk, rfl, HJ⟩ := hrel
          by_cases hk4 : k < 4
          · have hk4' : (k : Int) < 4 := by omega
            go_wp2_with fail
            have g0 : wr.cell? ⟨gx, 0, none⟩ = some (.int .i64 at_) := HJ.out.2.2.at rfl
            have g1 : wr.cell? ⟨gx, 1, none⟩ = some (.string blk) := HJ.out.2.2.at rfl
            have c0 : wr.cell? ⟨p, 0, none⟩ = some (.slice (some ⟨S, 0, none⟩) sl sl) := by
              obtain ⟨h1, h2, h3⟩ := HH.out
              rw [HJ.out.2.1.cell h2.box.lt (by simp; exact fun e => h2.ne e.symm), HSL.out]; exact h2.c0
            go_still_tail 6, (by kernel_rfl)
            have ho := HB.out
            have hlo : ∀ x ∈ l, x.1 < n ∧ x.2.size = 256 := by rw [HL.out]; exact ho.loose
            have hxx : at_ < n ∧ blk.size = 256 := by have := hlo l[i] (List.getElem_mem _); rw [← HX.out.1] at this; exact this
            have hsz : s.length = 256 * n := by rw [HS0.out]; exact ho.size
            have hcl := layN_length (at_, blk) hxx k _ (by omega) (flushN_length (l.take i) s (fun x hx => hlo x (List.mem_of_mem_take hx)) hsz)
            have hsl2 : sl = 256 * n := by rw [HSL.out]; exact ho.size
            change wpList _ _ _ _ _ wr.drew
            obtain ⟨w2, hw2⟩ : ∃ w2, w2 = wr.drew := ⟨_, rfl⟩
            have HJ2 := hid (show Blk w2 S 5 (u8s (layN (flushN s (l.take i)) (at_, blk) k)) ∧ Keeps [S] w0 w2 ∧ Blk w2 gx 94 [.int .i64 at_, .string blk] from by rw [hw2]; exact ⟨HJ.out.1, HJ.out.2.1.drew, HJ.out.2.2⟩)
            rw [← hw2]
            have HCL := hid (And.intro hcl (And.intro hsl2 (And.intro hxx ho.n2)))
            clear hw2 HJ g0 g1 c0 hcl hsl2 hxx ho hlo hsz
            go_wp2_with fail
            refine (dev_lay w2 at_ blk S _ n HCL.out.1 HCL.out.2.2.1 k hk4 HCL.out.2.2.2 HJ2.out.1 sl (by rw [HCL.out.1]; exact HCL.out.2.1)).mono ?_
            rintro e w3 ⟨rfl, hB3, hK3⟩
            have HJ3 := hid (show Blk w3 S 5 (u8s (lay1 (layN (flushN s (l.take i)) (at_, blk) k) (at_, blk) k)) ∧ Keeps [S] w0 w3 ∧ Blk w3 gx 94 [.int .i64 at_, .string blk] from ⟨hB3, HJ2.out.2.1.trans hK3, HJ2.out.2.2.keeps hK3 (by simp; exact fun e => HG.out e.symm)⟩)
            clear hB3 hK3 HJ2
            go_wp2_with fail
            go_roundg (4 - (k + 1))
            case measure => omega
            case rel =>
              refine ⟨k + 1, by omega, by go_num, ?_⟩
              rw [layN_succ]
              exact HJ3.out
          · have hk4' : k = 4 := by omega
            subst hk4'
            go_wp2_with fail
            go_roundg (l.length - (i + 1))
            case measure => omega
            case rel =>
              refine ⟨i + 1, by omega, by go_num, ?_, HJ.out.2.1⟩
              have hxl : l[i] = (at_, blk) := HX.out.1.symm
              rw [List.take_succ_eq_append_getElem hlt, hxl]
              unfold flushN
              rw [List.foldl_append]
              exact HJ.out.1
      · have hin : i = l.length := by omega
        subst hin
        obtain ⟨h1, h2, h3⟩ := HH.out
        have ho := HB.out
        have h4 : DevIn wr p { b with safe := flushN b.safe b.loose } S L K := h2.safeTo HI.out.2 _ (by rw [flushN_length b.loose b.safe ho.loose ho.size, ho.size]) (by rw [← HL.out, ← HS0.out]; have := HI.out.1; rwa [List.take_length] at this)
        have h5 := h4.putL (l := []) (L' := .slice none 0 0) (World.ownsRowF_nil _ _ _ _)
        have h6 := h5.put (d' := { b with safe := flushN b.safe b.loose, loose := [], fl := b.fl + 1 }) 7 (.int .i64 ((b.fl + 1 : Nat) : Int)) rfl rfl rfl rfl
        have hk : Keeps F w0 _ := ((HI.out.2.mono (fun x hx => by simp at hx; rw [hx]; exact h3.safe)).setCell (p := ⟨p, 1, none⟩) h3.box (.slice none 0 0)).setCell (p := ⟨p, 7, none⟩) h3.box (.int .i64 ((b.fl + 1 : Nat) : Int))
        have c1 := h4.c1
        have c7 := h5.c7
        have f1 := h4.free 1 (by decide)
        have f7 := h5.free 7 (by decide)
        have hflb := HFL.out
        have HE2 := hid (And.intro h6 hk)
        have H3 := hid h3; have H1 := hid h1
        have e7 : ((b.fl + 1 : Nat) : Int) = (b.fl : Int) + 1 := by omega
        rw [e7] at HE2
        clear h1 h2 h3 h4 h5 h6 hk ho e7
        go_wp2_with fail
        go_ret
        have hk2 : Keeps F w _ := HK0.out.trans HE2.out.2
        exact ⟨rfl, ⟨fun k hk' => Nat.lt_of_lt_of_le (H1.out k hk') HE2.out.2.size, S, _, K, HE2.out.1, H3.out.box, H3.out.safe, (fun k hk => by cases hk), H3.out.keep⟩, hk2⟩

set_option maxHeartbeats 1000000 in
set_option maxRecDepth 100000 in
theorem dev_Write_range (w : World) (p : Nat) (d : Dv) (F : List Nat) (h : DevAt w p d F) (n : Nat) (ho : DvOk n d) (i : Int) (blk : ByteArray) (hi : (decide (0 ≤ i) && decide (i < n)) = false) :
    Calls Tryz.prog 39 #[.pointer (some ⟨p, 0, none⟩), .int .i64 i, .string blk] w fun e w' => e = .returned (.int .i64 3) ∧ w = w' := by
  have HC := hid (dev_is w p d F h n ho i)
  rw [hi] at HC
  clear h ho hi
  go_enter Tryz.func39, Tryz.ntmps39
  go_wp2_with fail
  refine HC.out.mono ?_; rintro e w1 ⟨rfl, rfl⟩
  go_wp2_with fail
  go_ret
  exact ⟨rfl, rfl⟩

set_option maxHeartbeats 1000000 in
set_option maxRecDepth 100000 in
theorem dev_Write_arg (w : World) (p : Nat) (d : Dv) (F : List Nat) (h : DevAt w p d F) (n : Nat) (ho : DvOk n d) (i : Nat) (blk : ByteArray) (hi : i < n) (hb : blk.size ≠ 256) :
    Calls Tryz.prog 39 #[.pointer (some ⟨p, 0, none⟩), .int .i64 i, .string blk] w fun e w' => e = .returned (.int .i64 1) ∧ w = w' := by
  have HC := hid (dev_is w p d F h n ho i)
  rw [show (decide (0 ≤ (i : Int)) && decide ((i : Int) < n)) = true by simp; omega] at HC
  clear h ho hi
  have hb1 : ((blk.size : Int) == 256) = false := by simp; omega
  have hb2 : ((blk.size : Int) != 256) = true := by simp; omega
  clear hb
  go_enter Tryz.func39, Tryz.ntmps39
  go_wp2_with fail
  refine HC.out.mono ?_; rintro e w1 ⟨rfl, rfl⟩
  go_wp2_with fail
  go_ret
  exact ⟨rfl, rfl⟩

end Go.Proofs.YtcklgaenedlbiaaGreat
