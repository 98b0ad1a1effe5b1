/-
  The document's device (grangerref03): the fuse; what was written is safe; a block is read.
-/
import Derived.Test.YtcklgaenedlbiaaRefDevDo
import Derived.Test.YtcklgaenedlbiaaDevDo
namespace Go.Proofs.Ytcklgaenedlbiaa
open Go.RowKit Go.Sort

theorem R3.set {w0 w : World} {q : Nat} {d d' : Dv} {G : List Nat} {L : Value} {KA : Option Addr} {kc : Nat} (h : R3 w0 w q d G) (hi : R3In w q d L KA kc) (hL : ∀ k, L.ownBlock = some k → k ∈ G) (hr : Row w0 KA (bools d'.keep)) (i : Nat) (u : Value) (hc : (r3Cells d L KA kc).set i u = r3Cells d' L KA kc) (h2 : d'.loose = d.loose) :
    R3 w0 (w.setCell ⟨q, i, none⟩ u) q d' G ∧ Keeps G w (w.setCell ⟨q, i, none⟩ u) := by
  have hk : Keeps G w (w.setCell ⟨q, i, none⟩ u) := (Keeps.refl G w).setCell (p := ⟨q, i, none⟩) h.mem u
  exact ⟨⟨Keeps.below h.bel hk (fun x hx => (h.own x hx).1), fun k hk' => ⟨(h.own k hk').1, Nat.lt_of_lt_of_le (h.own k hk').2 hk.size⟩, h.mem, L, KA, kc, hi.put i u hc h2, hr, hL⟩, hk⟩

set_option maxHeartbeats 4000000 in
set_option maxRecDepth 100000 in
theorem r3_Burnt {w0 w : World} {q : Nat} {d : Dv} {G : List Nat} (h : R3 w0 w q d G) (n : Nat) (ho : DvOk n d) (hkl : d.keep.length ≤ 1000000) (hlen : d.loose.length ≤ 1000000) :
    Calls Try.prog 16 #[.pointer (some ⟨q, 0, none⟩)] w fun e w' => e = .returned (.bool d.burn.off) ∧ R3 w0 w' q d.burn G ∧ Keeps G w w' := by
  cases hof : d.off with
  | true =>
    have hb : d.burn = d := by
      unfold Dv.burn
      have h1 : d.cut d.keep = d := by unfold Dv.cut; rw [if_pos hof]
      rw [h1]
      simp only [ite_self, hof, Bool.not_true, Bool.false_and, Bool.false_eq_true, if_false]
    rw [hb, hof]
    have H := hid h
    obtain ⟨_, _, _, L, KA, kc, h, _, _⟩ := h
    have c2 : w.cell? ⟨q, 2, none⟩ = some (.bool (!d.off)) := h.box.at rfl
    rw [hof] at c2
    simp only [Bool.not_true] at c2
    clear h hb hof ho hkl hlen
    go_enter Try.func16, Try.ntmps16
    go_wp2_with fail
    go_ret
    exact ⟨rfl, H.out, Keeps.refl _ _⟩
  | false =>
    have hon : (!d.off) = true := by rw [hof]; rfl
    by_cases h0 : d.fuse = 0
    · have hb : d.burn = d.cut d.keep := by
        unfold Dv.burn
        rw [if_pos h0]
        simp only [d.cut_off, Bool.not_true, Bool.false_and, Bool.false_eq_true, if_false]
      rw [hb, d.cut_off]
      have H := hid h; have HO := hid ho
      obtain ⟨_, _, _, L, KA, kc, h, hkr, _⟩ := h
      have c2 : w.cell? ⟨q, 2, none⟩ = some (.bool (!d.off)) := h.box.at rfl
      have c3 : w.cell? ⟨q, 3, none⟩ = some (.int .i64 d.fuse) := h.box.at rfl
      have c4 : w.cell? ⟨q, 4, none⟩ = some (.slice KA d.keep.length kc) := h.box.at rfl
      rw [hon] at c2
      rw [h0] at c3
      have HKR := hid hkr
      have HCO := hid d.cut_off
      clear h hb hof hon ho hkr
      go_enter Try.func16, Try.ntmps16
      go_wp2_with fail
      refine (r3_Cut H.out n HO.out KA kc d.keep HKR.out hkl hlen).mono ?_
      rintro e w1 ⟨rfl, h1, hk1⟩
      have H1 := hid (And.intro h1 hk1)
      obtain ⟨_, _, _, L1, KA1, kc1, h1, _, _⟩ := h1
      have c2' : w1.cell? ⟨q, 2, none⟩ = some (.bool (!(d.cut d.keep).off)) := h1.box.at rfl
      rw [HCO.out] at c2'
      simp only [Bool.not_true] at c2'
      clear h1 hk1 c2 c3 c4
      go_wp2_with fail
      go_ret
      exact ⟨rfl, H1.out⟩
    · have h0' : (d.fuse == 0) = false := by simpa using h0
      by_cases hp : 0 < d.fuse
      · have hb : d.burn = { d with fuse := d.fuse - 1 } := by
          unfold Dv.burn
          rw [if_neg h0]
          simp only [hof, Bool.not_false, Bool.true_and, decide_eq_true hp, if_true]
        rw [hb]
        show Calls _ _ _ _ fun e w' => e = .returned (.bool d.off) ∧ _
        have H := hid h
        obtain ⟨_, _, _, L, KA, kc, h, hkr, hL⟩ := h
        have c2 : w.cell? ⟨q, 2, none⟩ = some (.bool (!d.off)) := h.box.at rfl
        have c3 : w.cell? ⟨q, 3, none⟩ = some (.int .i64 d.fuse) := h.box.at rfl
        have f3 := h.free 3 (by decide)
        have g := H.out.set (d' := { d with fuse := d.fuse - 1 }) h hL hkr 3 (.int .i64 (d.fuse - 1)) rfl rfl
        have c2' : (w.setCell ⟨q, 3, none⟩ (.int .i64 (d.fuse - 1))).cell? ⟨q, 2, none⟩ = some (.bool (!d.off)) := (h.put (d' := { d with fuse := d.fuse - 1 }) 3 (.int .i64 (d.fuse - 1)) rfl rfl).box.at rfl
        rw [hon] at c2 c2'
        rw [hof] at g ⊢
        have HG := hid g
        have hfu := ho.fuse
        generalize d.fuse = f at *
        clear h hkr hL H ho hof hon g hb
        obtain ⟨hf1, hf2⟩ := hfu
        go_enter Try.func16, Try.ntmps16
        go_wp2_with fail
        go_ret
        exact ⟨rfl, HG.out⟩
      · have hb : d.burn = d := by
          unfold Dv.burn
          rw [if_neg h0]
          simp only [hof, Bool.not_false, Bool.true_and, decide_eq_false hp, Bool.false_eq_true, if_false]
        rw [hb, hof]
        have H := hid h
        obtain ⟨_, _, _, L, KA, kc, h, hkr, hL⟩ := h
        have c2 : w.cell? ⟨q, 2, none⟩ = some (.bool (!d.off)) := h.box.at rfl
        have c3 : w.cell? ⟨q, 3, none⟩ = some (.int .i64 d.fuse) := h.box.at rfl
        rw [hon] at c2
        generalize d.fuse = f at *
        have hp' : decide (f > 0) = false := by simpa using hp
        have hp2 : decide (0 < f) = false := by simpa using hp
        clear h hkr hL hb hof hon hp h0
        go_enter Try.func16, Try.ntmps16
        go_wp2_with fail
        go_ret
        exact ⟨rfl, H.out, Keeps.refl _ _⟩

set_option maxHeartbeats 16000000 in
set_option maxRecDepth 100000 in
theorem r3_Flush {w0 w : World} {q : Nat} {d : Dv} {G : List Nat} (h : R3 w0 w q d G) (n : Nat) (ho : DvOk n d) (hlen : d.loose.length ≤ 1000000) (hfl : d.fl ≤ 1000000) :
    Calls Try.prog 17 #[.pointer (some ⟨q, 0, none⟩)] w fun e w' => e = .returned (.tuple #[]) ∧ R3 w0 w' q { d with safe := flushN d.safe d.loose, loose := [], fl := d.fl + 1 } G ∧ Keeps G w w' := by
  obtain ⟨hb, hs, hm, L, KA, kc, h, hkr, hL⟩ := h
  obtain ⟨LA, lcap, rfl, hlr, _⟩ := ownsRowF_own h.loose
  obtain ⟨l, hl⟩ : ∃ l, l = d.loose := ⟨_, rfl⟩
  obtain ⟨s, hs0⟩ : ∃ s, s = d.safe := ⟨_, rfl⟩
  have hsz := ho.size
  have hn2 := ho.n2
  have hlo := ho.loose
  rw [← hl] at hlen hlo
  rw [← hs0] at hsz
  have HH := hid (And.intro hb (And.intro hs (And.intro hm (And.intro h (And.intro hkr hL)))))
  have HL := hid hl; have HS0 := hid hs0; have HO := hid (And.intro hsz (And.intro hn2 hlo))
  have h0 : R3In w q { d with safe := flushN s (l.take 0) } (.slice LA l.length lcap) KA kc := by rw [hl, show flushN s (d.loose.take 0) = d.safe from hs0]; exact h
  have H0 := hid h0
  clear hb hs hm h hkr hL hl hs0 ho hlr hsz hn2 hlo h0
  go_enter Try.func17, Try.ntmps17
  go_wp2_with fail
  go_loopg [2] l.length (fun g j wx => ∃ i : Nat, i + g = l.length ∧ j = .int .i64 i ∧ Hid (R3In wx q { d with safe := flushN s (l.take i) } (.slice LA l.length lcap) KA kc ∧ Keeps [q] w wx))
  case atStart => exact ⟨0, by omega, rfl, H0.out, Keeps.refl _ _⟩
  case round =>
    obtain ⟨i, hi, rfl, HI⟩ := hrel
    have c1 : wr.cell? ⟨q, 1, none⟩ = some (.slice LA l.length lcap) := HI.out.1.box.at rfl
    by_cases hlt : i < l.length
    · have hlt' : (i : Int) < (l.length : Int) := by omega
      obtain ⟨⟨at_, blk⟩, hx⟩ : ∃ x, x = l[i] := ⟨_, rfl⟩
      have hxi : l[i]? = some (at_, blk) := by rw [hx]; simp [hlt]
      have HX := hid (And.intro hx hxi)
      have hli : (i : Int) ≤ 1000000 := by omega
      clear hx hxi
      go_wp2_with fail
      have ho := HO.out
      have hxx : at_ < n ∧ blk.size = 256 := by have := ho.2.2 l[i] (List.getElem_mem _); rw [← HX.out.1] at this; exact this
      have hcl := flushN_length (n := n) (l.take i) s (fun x hx => ho.2.2 x (List.mem_of_mem_take hx)) ho.1
      have c0 : wr.cell? ⟨q, 0, none⟩ = some (.string ⟨(flushN s (l.take i)).toArray⟩) := HI.out.1.box.at rfl
      have f0 := HI.out.1.free 0 (by decide)
      have hrow : Row wr LA (l.flatMap wrCells) := by have := HI.out.1.loose; rw [show ({ d with safe := flushN s (l.take i) } : Dv).loose = l from HL.out.symm] at this; exact own_row this
      obtain ⟨b, off, rfl, hb, hc⟩ := row_cell hrow (by intro e; have h := wr_at l i 0 _ (.int .i64 at_) HX.out.2 rfl; rw [e] at h; cases h)
      have g0 := hc _ _ (wr_at l i 0 _ (.int .i64 at_) HX.out.2 rfl)
      have g1 := hc _ _ (wr_at l i 1 _ (.string blk) HX.out.2 rfl)
      rw [← Nat.add_assoc, Nat.add_zero] at g0
      rw [← Nat.add_assoc] at g1
      obtain ⟨o, hoo⟩ : ∃ o, o = 256 * at_ := ⟨_, rfl⟩
      have m1 : IntKind.i64.wrap (256 * (at_ : Int)) = (o : Int) := by rw [IntKind.wrap_i64]; have := ho.2.1; omega
      have hfit : o + blk.size ≤ (flushN s (l.take i)).length := by omega
      have hz : (flushN s (l.take i)).length ≤ 140737488351232 := by have := ho.2.1; omega
      obtain ⟨S, hS⟩ : ∃ S, S = flushN s (l.take i) := ⟨_, rfl⟩
      have hlay : over S o blk.data.toList = flushN s (l.take (i + 1)) := by
        rw [hoo, hS, over_block (n := n) _ (at_, blk) hcl hxx, List.take_succ_eq_append_getElem hlt, ← HX.out.1, flushN_snoc]
      rw [← hS] at c0 hfit hz
      have HLAY := hid hlay; have HFIT := hid hfit; have HZ := hid hz; have HS := hid hS
      have HBL := hid hb
      have HJ2 := hid (show R3In wr q { d with safe := S } (.slice (some ⟨b, off, none⟩) l.length lcap) KA kc ∧ Keeps [q] w wr from by rw [HS.out]; exact HI.out)
      obtain ⟨T, hT⟩ : ∃ T, T = flushN s (l.take (i + 1)) := ⟨_, rfl⟩
      rw [← hT] at HLAY
      have HT := hid hT
      clear hlay hfit hz hS hoo hcl hxx ho hrow hb hc HI hT
      have KL : Hid (∀ (dd : Nat) (os : Array Obj), Calls Try.prog 59 #[.string ⟨S.toArray⟩, .int .i64 o, .string blk] (grow (redrawn wr dd) os) fun e w' => e = .returned (.string ⟨T.toArray⟩) ∧ Below (grow (redrawn wr dd) os).heap.size (grow (redrawn wr dd) os) w') := fun dd os => by
        have h1 := r3_lay (grow (redrawn wr dd) os) S o blk HFIT.out HZ.out
        rw [HLAY.out] at h1
        exact h1
      have x0 : ∀ (dd : Nat) (os : Array Obj), (grow (redrawn wr dd) os).cell? ⟨q, 0, none⟩ = some (.string ⟨S.toArray⟩) := fun dd os => cell_regrown c0 dd os
      have x1 : ∀ (dd : Nat) (os : Array Obj), (grow (redrawn wr dd) os).cell? ⟨q, 1, none⟩ = some (.slice (some ⟨b, off, none⟩) l.length lcap) := fun dd os => cell_regrown c1 dd os
      have y0 : ∀ (dd : Nat) (os : Array Obj), (grow (redrawn wr dd) os).cell? ⟨b, off + i * 2, none⟩ = some (.int .i64 at_) := fun dd os => cell_regrown g0 dd os
      have y1 : ∀ (dd : Nat) (os : Array Obj), (grow (redrawn wr dd) os).cell? ⟨b, off + i * 2 + 1, none⟩ = some (.string blk) := fun dd os => cell_regrown g1 dd os
      clear c0 c1 g0 g1 f0
      refine wp_region_quiet_tail 25 (C := fun w' => ∃ p : Regrown, w' = grow (redrawn wr p.d) p.os) (by kernel_rfl) (by kernel_rfl) (regrown_of_below (Below.refl _ wr).drew) ?_
      simp only [List.take_succ_cons, List.take_zero, List.drop_succ_cons, List.drop_zero]
      repeat (go_big_quiet_step (first
        | with_reducible exact Calls.regrown_of (KL.out _ _)))
      refine wpQuiet_nil ?_
      intro _ hw'
      obtain ⟨⟨dq, osq⟩, hw''⟩ := hw'
      subst hw''
      have hb3 := below_regrown wr dq osq
      have k0 := x0 dq osq
      clear x0 x1 y0 y1 KL
      generalize grow (redrawn wr dq) osq = w6 at hb3 k0 ⊢
      have g := HJ2.out.1.keeps (F := []) (Keeps.of hb3) (by simp) (by simp)
      have f0 := g.free 0 (by decide)
      have hk3 : Keeps [q] w w6 := HJ2.out.2.trans (Keeps.of hb3)
      have g2 := g.put (d' := { d with safe := T }) 0 (.string ⟨T.toArray⟩) rfl rfl
      have HJ3 := hid (And.intro g2 (hk3.setCell (p := ⟨q, 0, none⟩) (by simp) (.string ⟨T.toArray⟩)))
      clear g g2 hb3 hk3 HJ2 m1
      go_wp2_with fail
      go_roundg (l.length - (i + 1))
      case measure => omega
      case rel =>
        refine ⟨i + 1, by omega, by go_num, ?_⟩
        rw [← HT.out]
        exact HJ3.out
    · have hin : i = l.length := by omega
      subst hin
      have g5 := HI.out.1.putL (l := []) (L' := .slice none 0 0) (World.ownsRowF_nil _ _ _ _)
      have g6 := g5.put (d' := { d with safe := flushN s (l.take l.length), loose := [], fl := d.fl + 1 }) 7 (.int .i64 ((d.fl + 1 : Nat) : Int)) rfl rfl
      have e7 : ((d.fl + 1 : Nat) : Int) = (d.fl : Int) + 1 := by omega
      rw [e7] at g6
      have hk : Keeps [q] w _ := (HI.out.2.setCell (p := ⟨q, 1, none⟩) (by simp) (.slice none 0 0)).setCell (p := ⟨q, 7, none⟩) (by simp) (.int .i64 ((d.fl : Int) + 1))
      have c7 : (wr.setCell ⟨q, 1, none⟩ (.slice none 0 0)).cell? ⟨q, 7, none⟩ = some (.int .i64 d.fl) := g5.box.at rfl
      have f1 := HI.out.1.free 1 (by decide)
      have f7 := g5.free 7 (by decide)
      have HE2 := hid (And.intro g6 hk)
      have hfl' : (d.fl : Int) ≤ 1000000 := by omega
      have hfl0 : (0 : Int) ≤ (d.fl : Int) := by omega
      clear g5 g6 hk e7
      go_wp2_with fail
      go_end0
      obtain ⟨h1, h2, h3, _, h5, h6⟩ := HH.out
      have hk : Keeps G w _ := HE2.out.2.mono (fun x hx => by simp at hx; rw [hx]; exact h3)
      exact ⟨rfl, ⟨Keeps.below h1 hk (fun x hx => (h2 x hx).1), fun k hk' => ⟨(h2 k hk').1, Nat.lt_of_lt_of_le (h2 k hk').2 hk.size⟩, h3, _, KA, kc, (by rw [← HL.out, ← HS0.out]; have := HE2.out.1; rw [List.take_length] at this; exact this), h5, fun k hk => by cases hk⟩, hk⟩

set_option maxHeartbeats 4000000 in
set_option maxRecDepth 100000 in
theorem r3_Read {w0 w : World} {q : Nat} {d : Dv} {G : List Nat} (h : R3 w0 w q d G) (n : Nat) (ho : DvOk n d) (i : Nat) (hi : i < n) (hlen : d.loose.length ≤ 1000000) :
    Calls Try.prog 23 #[.pointer (some ⟨q, 0, none⟩), .int .i64 i] w fun e w' => e = .returned (.string (d.read i)) ∧ w' = w := by
  obtain ⟨hb, hs, hm, L, KA, kc, h, hkr, hL⟩ := h
  obtain ⟨LA, lcap, rfl, hlr, _⟩ := ownsRowF_own h.loose
  have c0 : w.cell? ⟨q, 0, none⟩ = some (.string ⟨d.safe.toArray⟩) := h.box.at rfl
  have c1 : w.cell? ⟨q, 1, none⟩ = some (.slice LA d.loose.length lcap) := h.box.at rfl
  have hsz := ho.size
  have hn2 := ho.n2
  rw [Dv.read_to]
  generalize d.loose = l at *
  generalize hsf : d.safe = s at *
  obtain ⟨S, hS⟩ : ∃ S : ByteArray, S = ⟨s.toArray⟩ := ⟨_, rfl⟩
  have hSs : S.size = s.length := by rw [hS]; exact List.size_toArray ..
  rw [← hS] at c0
  obtain ⟨o, hoo⟩ : ∃ o, o = 256 * i := ⟨_, rfl⟩
  obtain ⟨r, hr⟩ : ∃ r, r = 256 * i + 256 := ⟨_, rfl⟩
  have m1 : IntKind.i64.wrap (256 * (i : Int)) = (o : Int) := by rw [IntKind.wrap_i64]; omega
  have m2 : IntKind.i64.wrap ((o : Int) + 256) = (r : Int) := by rw [IntKind.wrap_i64]; omega
  have n0 : (0 : Int) ≤ (o : Int) := by omega
  have n1 : (o : Int) ≤ (r : Int) := by omega
  have n2 : (r : Int) ≤ (S.size : Int) := by omega
  have hex : S.extract o r = readTo (l.take 0) s i := by
    show _ = (⟨((s.drop (256 * i)).take 256).toArray⟩ : ByteArray)
    apply ByteArray.ext
    apply Array.toList_inj.1
    rw [Lib.extract_data, hS, hoo, hr]
    congr 1
    omega
  have HEX := hid hex; have HLR := hid hlr
  clear hb hs hm h hkr hL ho hi hsz hn2 hS hSs hoo hr hex hlr hsf
  go_enter Try.func23, Try.ntmps23
  go_wp2_with fail
  rw [HEX.out]
  clear HEX c0 m1 m2 n0 n1 n2
  go_loopg [5, 6] l.length (fun g v j wx => ∃ k : Nat, k + g = l.length ∧ j = .int .i64 k ∧ v = .string (readTo (l.take k) s i) ∧ Hid (wx = w))
  case atStart => exact ⟨0, by omega, rfl, rfl, rfl⟩
  case round =>
    obtain ⟨k, hk, rfl, rfl, HW⟩ := hrel
    have hw := HW.out
    subst hw
    clear HW
    by_cases hlt : k < l.length
    · have hlt' : (k : Int) < (l.length : Int) := by omega
      have hkl : (k : Int) ≤ 1000000 := by omega
      obtain ⟨⟨at_, blk⟩, hx⟩ : ∃ x, x = l[k] := ⟨_, rfl⟩
      have hxi : l[k]? = some (at_, blk) := by rw [hx]; simp [hlt]
      obtain ⟨b, off, rfl, hb, hc⟩ := row_cell HLR.out (by intro e; have h := wr_at l k 0 _ (.int .i64 at_) hxi rfl; rw [e] at h; cases h)
      have g0 := hc _ _ (wr_at l k 0 _ (.int .i64 at_) hxi rfl)
      have g1 := hc _ _ (wr_at l k 1 _ (.string blk) hxi rfl)
      rw [← Nat.add_assoc, Nat.add_zero] at g0
      rw [← Nat.add_assoc] at g1
      have hnext : readTo (l.take (k + 1)) s i = if at_ == i then blk else readTo (l.take k) s i := by
        rw [List.take_succ_eq_append_getElem hlt, ← hx, readTo_snoc]
      have HN := hid hnext
      clear hb hc hx hxi hnext
      by_cases hai : at_ = i
      · subst hai
        go_wp2_with fail
        go_roundg (l.length - (k + 1))
        case measure => omega
        case rel =>
          refine ⟨k + 1, by omega, by go_num, ?_, rfl⟩
          rw [HN.out, beq_self_eq_true, if_pos rfl]
      · have hai' : ((at_ : Int) == (i : Int)) = false := by simp; omega
        have hai2 : ¬ (at_ : Int) = (i : Int) := by omega
        have hai3 : (at_ == i) = false := by simpa using hai
        have HA := hid hai3
        clear hai hai3
        go_wp2_with fail
        go_roundg (l.length - (k + 1))
        case measure => omega
        case rel =>
          refine ⟨k + 1, by omega, by go_num, ?_, rfl⟩
          rw [HN.out, HA.out]; rfl
    · have hin : k = l.length := by omega
      subst hin
      rw [List.take_length]
      go_wp2_with fail
      go_ret
      exact ⟨rfl, rfl⟩
end Go.Proofs.Ytcklgaenedlbiaa
