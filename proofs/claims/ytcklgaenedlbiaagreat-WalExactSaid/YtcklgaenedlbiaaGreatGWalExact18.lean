/-
  A log of layer 23: whether there is room; a message more.
  A log of layer 23: a message is pending.
-/
import Derived.Test.YtcklgaenedlbiaaGreatGWalExact17
import Derived.Lib.QuietBelow
import Derived.Deep.Cut
import Derived.Deep.CutRange

namespace Go.Proofs.YtcklgaenedlbiaaGreat
open Go.RowKit Go.Sort

theorem ownsRowF_zero {w : World} {B : Nat} {e : TypeId} {size n : Nat} {v : Value} {xs : List Value} (h : w.ownsRowF B e size v n xs) : w.ownsRowF 0 e size v n xs := by
  refine ⟨h.1, ?_⟩
  rcases h.2 with hn | ⟨g, cap, cur, fz, hv, _, r⟩
  · exact .inl hn
  · exact .inr ⟨g, cap, cur, fz, hv, Nat.zero_le _, r⟩

def needOf (l : List Msg3) : Nat := (g2 [] (l.filter isB)).length
def Wl.fits (v : Wl) (m : Msg3) : Bool := isB m && decide (v.used + needOf (v.pend ++ [m]) ≤ v.size)

set_option maxHeartbeats 8000000 in
set_option maxRecDepth 100000 in
theorem wal_Fits {w : World} {r p : Nat} {v : Wl} {P : Value} (h : WlIn w r p v P) (m : Msg3) (hl : v.pend.length ≤ 900) (hs : v.size ≤ 1000) (hu : v.used ≤ 1000) :
    Calls Tryz.prog 9 #[.pointer (some ⟨r, 0, none⟩), .agg #[.int .i64 m.1, .string m.2.1, .string m.2.2]] w fun e w' => e = .returned (.bool (v.fits m)) ∧ Below w.heap.size w w' := by
  obtain ⟨K, kk, vv⟩ := m
  simp only
  obtain ⟨f, hf⟩ : ∃ f, f = msgIs K kk vv := ⟨_, rfl⟩
  have hfi : isB (K, kk, vv) = f := by rw [hf]; rfl
  have H0 := h.keeps (F := []) (Keeps.of (below_alloc w (.cells #[.int .i64 K, .string kk, .string vv] 39))) (by simp) (by simp)
  have hA := below_alloc w (.cells #[.int .i64 K, .string kk, .string vv] 39)
  have hB := Blk.new w #[.int .i64 K, .string kk, .string vv] 39
  obtain ⟨g, hg⟩ : ∃ g, g = w.heap.size := ⟨_, rfl⟩
  have HG := hid hg
  rw [← hg] at hB
  have HA := hid hA
  obtain ⟨w1, hw1⟩ : ∃ w1, w1 = w.alloc (.cells #[.int .i64 K, .string kk, .string vv] 39) := ⟨_, rfl⟩
  have KI : Hid (∀ W, Calls Tryz.prog 32 #[.agg #[.int .i64 K, .string kk, .string vv]] W fun e w' => e = .returned (.bool f) ∧ Below W.heap.size W w') := fun W => by rw [hf]; exact msg_Is_any K kk vv W
  rw [← hw1] at H0 hB HA
  have KM : Hid (∀ wx, Kept w1 wx → (wx.cell? ⟨g, 0, none⟩ = some (.int .i64 K) ∧ wx.cell? ⟨g, 1, none⟩ = some (.string kk) ∧ wx.cell? ⟨g, 2, none⟩ = some (.string vv) ∧ wx.cell? ⟨r, 1, none⟩ = some (.int .i64 v.size) ∧ wx.cell? ⟨r, 4, none⟩ = some (.int .i64 v.used) ∧ Kept w1 wx)) := fun wx hk =>
    ⟨(hB.belowS hk).at rfl, (hB.belowS hk).at rfl, (hB.belowS hk).at rfl, (H0.box.belowS hk).at rfl, (H0.box.belowS hk).at rfl, hk⟩
  have HW := hid H0
  clear h H0 hA hB hf hg
  unfold Wl.fits
  rw [hfi]
  cases f with
  | false =>
    go_enter Tryz.func9, Tryz.ntmps9
    go_wp2_with fail
    rw [← HG.out, ← hw1]
    clear hw1
    have hk0 : Kept w1 w1 := Below.refl _ _
    have m0 : ∀ d os, (grow (redrawn w1 d) os).cell? ⟨g, 0, none⟩ = some (.int .i64 K) := fun d os => cell_regrown (KM.out w1 hk0).1 d os
    have m1 : ∀ d os, (grow (redrawn w1 d) os).cell? ⟨g, 1, none⟩ = some (.string kk) := fun d os => cell_regrown (KM.out w1 hk0).2.1 d os
    have m2 : ∀ d os, (grow (redrawn w1 d) os).cell? ⟨g, 2, none⟩ = some (.string vv) := fun d os => cell_regrown (KM.out w1 hk0).2.2.1 d os
    refine wp_region_quiet_below (by kernel_rfl) (by kernel_rfl) ?_
    repeat (go_big_quiet_step (first
      | with_reducible exact Calls.regrown_of (KI.out _)))
    refine wpQuiet_nil ?_
    intro _ hw'
    obtain ⟨⟨dq, osq⟩, hw''⟩ := hw'
    subst hw''
    clear m0 m1 m2
    go_wp2_with fail
    go_ret
    exact ⟨rfl, bt HA.out (below_regrown w1 dq osq)⟩
  | true =>
    obtain ⟨i0, hi0, hz0, hz1, hz2⟩ := info_parts info_msg
    have HI0 := hid hi0; have HZ0 := hid hz0; have HZ1 := hid hz1; have HZ2 := hid hz2
    obtain ⟨n, hn⟩ : ∃ n, n = needOf (v.pend ++ [(K, kk, vv)]) := ⟨_, rfl⟩
    have hnl : n ≤ 1000 := by
      rw [hn]
      have h1 := g2_len ((v.pend ++ [(K, kk, vv)]).filter isB) []
      have h2 := List.length_filter_le isB (v.pend ++ [(K, kk, vv)])
      rw [List.length_append, List.length_singleton] at h2
      unfold needOf; omega
    rw [← hn]
    have HN := hid hn; have HL := hid hl
    have n0 : (n : Int) ≤ 1000 := by omega
    have n1 : (0 : Int) ≤ (n : Int) := by omega
    have u0 : (v.used : Int) ≤ 1000 := by omega
    have u1 : (0 : Int) ≤ (v.used : Int) := by omega
    have hdec : decide (IntKind.i64.wrap ((v.used : Int) + (n : Int)) ≤ (v.size : Int)) = (true && decide (v.used + n ≤ v.size)) := by
      rw [IntKind.wrap_i64, Bool.true_and]
      by_cases h : v.used + n ≤ v.size
      · rw [decide_eq_true h, decide_eq_true (by omega)]
      · rw [decide_eq_false h, decide_eq_false (by omega)]
    have HDEC := hid hdec
    clear hdec
    obtain ⟨L, hL⟩ : ∃ L, L = v.pend.length := ⟨_, rfl⟩
    have HLL := hid hL
    have KP : Hid (∀ W, Kept w1 W → Calls Tryz.prog 18 #[.pointer (some ⟨r, 0, none⟩)] W fun e w' => ∃ A cap, e = .returned (.slice A L cap) ∧ w'.ownsRowF 0 39 3 (.slice A L cap) L (v.pend.flatMap msgCells) ∧ Below W.heap.size W w' ∧ ∀ k, (Value.slice A L cap).ownBlock = some k → w1.heap.size ≤ k) := fun W hW => by
      refine (wal_Pending (HW.out.keeps (F := []) (Keeps.of hW) (by simp) (by simp)) (by have := HL.out; omega)).mono ?_
      rintro e w' ⟨V, rfl, ho, hb⟩
      have h1 := World.ownsRowF_of ho
      obtain ⟨A, cap, rfl, _⟩ := ownsRowF_row (ownsRowF_zero h1)
      rw [← hL] at h1 ⊢
      exact ⟨A, cap, rfl, ownsRowF_zero h1, hb, fun k hk => Nat.le_trans hW.size (h1.lt k hk).1⟩
    have KC : Hid (∀ W A cap, Row W A ((v.pend ++ [(K, kk, vv)]).flatMap msgCells) → Calls Tryz.prog 33 #[.slice A (L + 1) cap] W fun e w' => e = .returned (.int .i64 n) ∧ Below W.heap.size W w') := fun W A cap hr => by
      have h1 := rec_Count_any A cap (v.pend ++ [(K, kk, vv)]) (by rw [List.length_append, List.length_singleton]; have := HL.out; omega) W hr
      rw [List.length_append, List.length_singleton, ← hL] at h1
      rw [HN.out]; exact h1
    clear hi0 hz0 hz1 hz2 hn hL hnl hl hs hu HW
    go_enter Tryz.func9, Tryz.ntmps9
    go_wp2_with fail
    rw [← HG.out, ← hw1]
    clear hw1
    have hk0 : Kept w1 w1 := Below.refl _ _
    go_region_held3 (fun wx => wx.cell? ⟨g, 0, none⟩ = some (.int .i64 K) ∧ wx.cell? ⟨g, 1, none⟩ = some (.string kk) ∧ wx.cell? ⟨g, 2, none⟩ = some (.string vv) ∧ wx.cell? ⟨r, 1, none⟩ = some (.int .i64 v.size) ∧ wx.cell? ⟨r, 4, none⟩ = some (.int .i64 v.used) ∧ Kept w1 wx)
      ((first | assumption | (refine KM.out _ ?_; first | assumption | exact Kept.drew (by assumption) | exact Kept.alloc (by assumption) _ | exact Kept.go (by assumption) (by assumption))))
      (first
        | (go_at_call 32; with_reducible refine (KI.out _).mono ?_; rintro e w2 ⟨rfl, hb_⟩; have hk2 := Kept.go (by first | assumption | exact Kept.drew (by assumption) | exact Kept.alloc (by assumption) _) hb_; clear hb_)
        | (go_at_call 18; with_reducible refine (KP.out _ ?_).mono ?_; (first | assumption | exact Kept.drew (by assumption) | exact Kept.alloc (by assumption) _); rintro e w3 ⟨PA, pcap, rfl, ho3, hb_, hv3⟩; (try have RB := hid (Row.below (row_new _ #[.int .i64 K, .string kk, .string vv] 39) hb_)); have hk3 := Kept.go (by first | assumption | exact Kept.drew (by assumption) | exact Kept.alloc (by assumption) _) hb_; clear hb_; have HO3 := hid ho3; have HV3 := hid hv3; clear ho3 hv3)
        | (refine step_append_rowG (by rfl) (.tmp 17) (.tmp 19) 32 39 rfl i0 _ 3 40 Tryz.underlying32 HI0.out HZ0.out HZ1.out HZ2.out rfl (by decide) (.slice PA L pcap) L (v.pend.flatMap msgCells) rfl (by first | exact HO3.out | exact ownsRowF_below HO3.out (below_alloc _ _)) _ 1 1 (msgCells (K, kk, vv)) rfl rfl (by first | exact row_new _ #[.int .i64 K, .string kk, .string vv] _ | exact RB.out) (by intro u hu; simp only [msgCells, List.mem_cons, List.not_mem_nil, or_false] at hu; rcases hu with rfl | rfl | rfl <;> rfl) (by have := HL.out; have := HLL.out; simp only [maxLen]; omega) (by have := HL.out; have := HLL.out; omega) ?_
           intro V7 w7 hown7 hkp7 hvb7
           obtain ⟨A7, cap7, rfl, hr7⟩ := ownsRowF_row hown7
           have hk7 : Kept w1 w7 := Keeps.below (by first | assumption | exact Kept.alloc (by assumption) _) hkp7 (fun x hx => HV3.out x (Option.mem_toList.1 hx))
           have HR7 := hid (show Row w7 A7 ((v.pend ++ [(K, kk, vv)]).flatMap msgCells) from by rw [List.flatMap_append]; simpa using hr7)
           clear hown7 hkp7 hvb7 hr7)
        | (go_at_call 33; with_reducible refine (KC.out _ _ _ HR7.out).mono ?_; rintro e w8 ⟨rfl, hb_⟩; have hk8 := Kept.go hk7 hb_; clear hb_))
    all_goals go_wp2_with fail
    all_goals go_ret
    all_goals exact ⟨ret_bool HDEC.out, bt HA.out hk8⟩
end Go.Proofs.YtcklgaenedlbiaaGreat

namespace Go.Proofs.YtcklgaenedlbiaaGreat
open Go.RowKit Go.Sort

def Wl.add (v : Wl) (m : Msg3) : Wl × Int := if isB m = true then (if v.fits m = true then ({ v with pend := v.pend ++ [m] }, 0) else (v, 8)) else (v, 1)
/-- what a deed leaves of a log -/
def WPost (w0 w w' : World) (r p : Nat) (v' : Wl) (G : List Nat) : Prop := ∃ G', WlAt w0 w' r p v' G' ∧ Keeps G w w' ∧ ∀ k, k ∈ G' → k ∈ G ∨ w.heap.size ≤ k
theorem WPost.same {w0 w w' : World} {r p : Nat} {v : Wl} {G : List Nat} (h : WlAt w0 w r p v G) (hb : Below w.heap.size w w') : WPost w0 w w' r p v G := ⟨G, h.below hb, Keeps.of hb, fun _ h => .inl h⟩
/-- one message more -/
theorem WlAt.push {w0 w w1 : World} {r p : Nat} {v : Wl} {G : List Nat} (h : WlAt w0 w r p v G) (hb0 : w0.heap.size ≤ w.heap.size) {P P' : Value} (hi : WlIn w r p v P) (hP : ∀ k, P.ownBlock = some k → k ∈ G) (l : List Msg3)
    (ho : w1.ownsRowF 0 39 3 P' l.length (l.flatMap msgCells)) (hk : Keeps P.ownBlock.toList w w1) (hP' : ∀ k, P'.ownBlock = some k → P.ownBlock = some k ∨ w.heap.size ≤ k) :
    WPost w0 w (w1.setCell ⟨r, 5, none⟩ P') r p { v with pend := l } G := by
  have hne := ownsRowF_ne hi.pend hi.box (by decide)
  have hb : Blk w1 r 69 (wlCells p v P) := hi.box.keeps hk (fun hm => hne (Option.mem_toList.1 hm))
  have b1 := hb.set 5 P'
  have o1 := ownsRowF_setCell (u := P') (i := 5) ho hb (by decide)
  have hk2 : Keeps G w (w1.setCell ⟨r, 5, none⟩ P') := (hk.mono (fun x hx => hP x (Option.mem_toList.1 hx))).setCell (p := ⟨r, 5, none⟩) h.mem P'
  have hG : ∀ k, k ∈ G ++ P'.ownBlock.toList → k ∈ G ∨ w.heap.size ≤ k := by
    intro k hk
    rcases List.mem_append.1 hk with h1 | h1
    · exact .inl h1
    · rcases hP' k (Option.mem_toList.1 h1) with h2 | h2
      · exact .inl (hP k h2)
      · exact .inr h2
  refine ⟨G ++ P'.ownBlock.toList, ⟨fun k hk' => ?_, List.mem_append_left _ h.mem, P', ⟨b1, o1⟩, fun k hk => List.mem_append_right _ (Option.mem_toList.2 hk)⟩, hk2, hG⟩
  rcases List.mem_append.1 hk' with h1 | h1
  · exact ⟨(h.own k h1).1, Nat.lt_of_lt_of_le (h.own k h1).2 hk2.size⟩
  · have h3 := ownsRowF_new o1 k (Option.mem_toList.1 h1)
    refine ⟨?_, h3⟩
    rcases hG k hk' with h4 | h4
    · exact (h.own k h4).1
    · exact Nat.le_trans hb0 h4

set_option maxHeartbeats 8000000 in
set_option maxRecDepth 100000 in
theorem wal_Add {w0 w : World} {r p : Nat} {v : Wl} {G : List Nat} (h : WlAt w0 w r p v G) (hb0 : w0.heap.size ≤ w.heap.size) (m : Msg3) (hl : v.pend.length ≤ 900) (hs : v.size ≤ 1000) (hu : v.used ≤ 1000) :
    Calls Tryz.prog 11 #[.pointer (some ⟨r, 0, none⟩), .agg #[.int .i64 m.1, .string m.2.1, .string m.2.2]] w fun e w' => e = .returned (.int .i64 (v.add m).2) ∧ WPost w0 w w' r p (v.add m).1 G := by
  obtain ⟨K, kk, vv⟩ := m
  simp only
  obtain ⟨f, hf⟩ : ∃ f, f = msgIs K kk vv := ⟨_, rfl⟩
  have hfi : isB (K, kk, vv) = f := by rw [hf]; rfl
  have hA := below_alloc w (.cells #[.int .i64 K, .string kk, .string vv] 39)
  have hB := Blk.new w #[.int .i64 K, .string kk, .string vv] 39
  have hW := h.below hA
  have HGL : Hid (∀ k, k ∈ G → k < w.heap.size) := fun k hk => (h.own k hk).2
  obtain ⟨g, hg⟩ : ∃ g, g = w.heap.size := ⟨_, rfl⟩
  have HG := hid hg
  rw [← hg] at hB
  obtain ⟨w1, hw1⟩ : ∃ w1, w1 = w.alloc (.cells #[.int .i64 K, .string kk, .string vv] 39) := ⟨_, rfl⟩
  rw [← hw1] at hA hB hW
  have HA := hid hA; have HB := hid hB; have HW := hid hW;  have HL := hid (And.intro hl (And.intro hs hu)); have HB0 := hid hb0
  have KI : Hid (∀ W, Calls Tryz.prog 32 #[.agg #[.int .i64 K, .string kk, .string vv]] W fun e w' => e = .returned (.bool f) ∧ Below W.heap.size W w') := fun W => by rw [hf]; exact msg_Is_any K kk vv W
  have c0 : w1.cell? ⟨g, 0, none⟩ = some (.int .i64 K) := hB.at rfl
  have c1 : w1.cell? ⟨g, 1, none⟩ = some (.string kk) := hB.at rfl
  have c2 : w1.cell? ⟨g, 2, none⟩ = some (.string vv) := hB.at rfl
  unfold Wl.add
  rw [hfi]
  clear h hA hB hW hg hf hl hs hu hb0
  cases f with
  | false =>
    go_enter Tryz.func11, Tryz.ntmps11
    go_wp2_with fail
    rw [← HG.out, ← hw1]
    clear hw1
    refine (KI.out _).mono ?_; rintro e w2 ⟨rfl, hb⟩
    have HB2 := hid hb; clear hb
    go_wp2_with fail
    go_ret
    exact ⟨rfl, by
      obtain ⟨G', h1, h2, h3⟩ := WPost.same HW.out HB2.out
      exact ⟨G', h1, (Keeps.of HA.out).trans h2, fun k hk => (h3 k hk).imp id (fun h => Nat.le_trans HA.out.size h)⟩⟩
  | true =>
    obtain ⟨f2, hf2⟩ : ∃ f2, f2 = v.fits (K, kk, vv) := ⟨_, rfl⟩
    have KF : Hid (∀ W, Below w1.heap.size w1 W → Calls Tryz.prog 9 #[.pointer (some ⟨r, 0, none⟩), .agg #[.int .i64 K, .string kk, .string vv]] W fun e w' => e = .returned (.bool f2) ∧ Below W.heap.size W w') := fun W hb => by
      obtain ⟨P, hi, _⟩ := (HW.out.below hb).inn
      rw [hf2]; exact wal_Fits hi (K, kk, vv) HL.out.1 HL.out.2.1 HL.out.2.2
    rw [← hf2]
    clear hf2
    cases f2 with
    | false =>
      go_enter Tryz.func11, Tryz.ntmps11
      go_wp2_with fail
      rw [← HG.out, ← hw1]
      clear hw1
      refine (KI.out _).mono ?_; rintro e w2 ⟨rfl, hb⟩
      have HB2 := hid hb
      have c0 := (hb.cell (p := ⟨g, 0, none⟩) HB.out.lt).trans c0
      have c1 := (hb.cell (p := ⟨g, 1, none⟩) HB.out.lt).trans c1
      have c2 := (hb.cell (p := ⟨g, 2, none⟩) HB.out.lt).trans c2
      clear hb
      go_wp2_with fail
      refine (KF.out _ HB2.out).mono ?_; rintro e w3 ⟨rfl, hb⟩
      have HB3 := hid (bt HB2.out hb); clear hb
      go_wp2_with fail
      go_ret
      exact ⟨rfl, by
        obtain ⟨G', h1, h2, h3⟩ := WPost.same HW.out HB3.out
        exact ⟨G', h1, (Keeps.of HA.out).trans h2, fun k hk => (h3 k hk).imp id (fun h => Nat.le_trans HA.out.size h)⟩⟩
    | true =>
      obtain ⟨i0, hi0, hz0, hz1, hz2⟩ := info_parts info_msg
      have HI0 := hid hi0; have HZ0 := hid hz0; have HZ1 := hid hz1; have HZ2 := hid hz2
      clear hi0 hz0 hz1 hz2
      go_enter Tryz.func11, Tryz.ntmps11
      go_wp2_with fail
      rw [← HG.out, ← hw1]
      clear hw1
      refine (KI.out _).mono ?_; rintro e w2 ⟨rfl, hb⟩
      have HB2 := hid hb
      have d0 := (hb.cell (p := ⟨g, 0, none⟩) HB.out.lt).trans c0
      have d1 := (hb.cell (p := ⟨g, 1, none⟩) HB.out.lt).trans c1
      have d2 := (hb.cell (p := ⟨g, 2, none⟩) HB.out.lt).trans c2
      clear hb
      go_wp2_with fail
      refine (KF.out _ HB2.out).mono ?_; rintro e w3 ⟨rfl, hb⟩
      have HB3 := hid (bt HB2.out hb)
      clear hb c0 c1 c2 d0 d1 d2 KF KI
      go_upto_region 7 with fail
      have hbk := HB.out.belowS HB3.out
      have c0 : w3.cell? ⟨g, 0, none⟩ = some (.int .i64 K) := hbk.at rfl
      have c1 : w3.cell? ⟨g, 1, none⟩ = some (.string kk) := hbk.at rfl
      have c2 : w3.cell? ⟨g, 2, none⟩ = some (.string vv) := hbk.at rfl
      have hW3 := HW.out.below HB3.out
      obtain ⟨P, hi, hP⟩ := hW3.inn
      obtain ⟨PA, pcap, rfl, _, _⟩ := hi.row
      have q5 : w3.cell? ⟨r, 5, none⟩ = some (.slice PA v.pend.length pcap) := hi.box.at rfl
      have hbk2 := hbk.belowS (below_alloc w3 (.cells #[.int .i64 K, .string kk, .string vv] 39))
      have S1 : Hid ((w3.alloc (.cells #[.int .i64 K, .string kk, .string vv] 39)).cell? ⟨g, 0, none⟩ = some (.int .i64 K) ∧ (w3.alloc (.cells #[.int .i64 K, .string kk, .string vv] 39)).cell? ⟨g, 1, none⟩ = some (.string kk) ∧ (w3.alloc (.cells #[.int .i64 K, .string kk, .string vv] 39)).cell? ⟨g, 2, none⟩ = some (.string vv)) := ⟨hbk2.at rfl, hbk2.at rfl, hbk2.at rfl⟩
      have q5a : (w3.alloc (.cells #[.int .i64 K, .string kk, .string vv] 39)).cell? ⟨r, 5, none⟩ = some (.slice PA v.pend.length pcap) := (hi.box.belowS (below_alloc _ _)).at rfl
      have OWN : Hid ((w3.drew.alloc (.cells #[.int .i64 K, .string kk, .string vv] 39)).ownsRowF 0 39 3 (.slice PA v.pend.length pcap) v.pend.length (v.pend.flatMap msgCells)) := ownsRowF_below (show w3.drew.ownsRowF 0 39 3 (.slice PA v.pend.length pcap) v.pend.length (v.pend.flatMap msgCells) from hi.pend) (below_alloc _ _)
      have ROWN : Hid (Row (w3.drew.alloc (.cells #[.int .i64 K, .string kk, .string vv] 39)) (some ⟨w3.heap.size, 0, none⟩) (msgCells (K, kk, vv))) := row_new w3.drew #[.int .i64 K, .string kk, .string vv] _
      have hgr : g ≠ r := fun e => by have h1 := HGL.out r HW.out.mem; have h2 := HG.out; omega
      have hgP : g ∉ (Value.slice PA v.pend.length pcap).ownBlock.toList := fun hm => by
        have h1 := HGL.out g (hP g (Option.mem_toList.1 hm)); have h2 := HG.out; omega
      have HX := hid (And.intro hW3 (And.intro hi (And.intro hP (And.intro hgr (And.intro hgP hbk)))))
      have hne := ownsRowF_ne hi.pend hi.box (by decide)
      have HNE := hid hne
      clear hbk hbk2 hW3 hi hP hgr hgP hne
      go_region_law (first
          | (refine step_append_row rfl (.tmp 21) (.tmp 23) 32 39 rfl i0 _ 3 40 Tryz.underlying32 HI0.out HZ0.out HZ1.out HZ2.out rfl (by decide) (.slice PA v.pend.length pcap) v.pend.length (v.pend.flatMap msgCells) rfl OWN.out (some ⟨w3.heap.size, 0, none⟩) 1 1 (msgCells (K, kk, vv)) rfl rfl ROWN.out (by intro u hu; simp only [msgCells, List.mem_cons, List.not_mem_nil, or_false] at hu; rcases hu with rfl | rfl | rfl <;> rfl) (by have := HL.out.1; simp only [maxLen]; omega) (by have := HL.out.1; omega) ?_
             intro V6 w8 hown6 hkp6 hvb6
             obtain ⟨VA, vcap, rfl, _⟩ := ownsRowF_row hown6
             have hk8 : Keeps (Value.slice PA v.pend.length pcap).ownBlock.toList w3 w8 := ((Keeps.refl _ w3).drew.trans (Keeps.of (below_alloc _ _))).trans hkp6
             have b8 : Blk w8 r 69 (wlCells p v (.slice PA v.pend.length pcap)) := HX.out.2.1.box.keeps hk8 (fun hm => HNE.out (Option.mem_toList.1 hm))
             have q5b : w8.cell? ⟨r, 5, none⟩ = some (.slice PA v.pend.length pcap) := b8.at rfl
             have f5 : w8.frozen? ⟨r, 5, none⟩ = false := b8.free (i := 5) (by show 5 < 6; decide)
             have g8 := HX.out.2.2.2.2.2.keeps hk8 HX.out.2.2.2.2.1
             have g9 := g8.other ⟨r, 5, none⟩ (.slice VA (v.pend.length + 1) vcap) HX.out.2.2.2.1
             have S2 : Hid (w8.cell? ⟨g, 0, none⟩ = some (.int .i64 K) ∧ w8.cell? ⟨g, 1, none⟩ = some (.string kk) ∧ w8.cell? ⟨g, 2, none⟩ = some (.string vv)) := ⟨g8.at rfl, g8.at rfl, g8.at rfl⟩
             have S3 : Hid ((w8.setCell ⟨r, 5, none⟩ (.slice VA (v.pend.length + 1) vcap)).cell? ⟨g, 0, none⟩ = some (.int .i64 K) ∧ (w8.setCell ⟨r, 5, none⟩ (.slice VA (v.pend.length + 1) vcap)).cell? ⟨g, 1, none⟩ = some (.string kk) ∧ (w8.setCell ⟨r, 5, none⟩ (.slice VA (v.pend.length + 1) vcap)).cell? ⟨g, 2, none⟩ = some (.string vv)) := ⟨g9.at rfl, g9.at rfl, g9.at rfl⟩
             have H8 := hid (And.intro hown6 (And.intro hk8 (fun (k : Nat) (hk : (Value.slice VA (v.pend.length + 1) vcap).ownBlock = some k) => (hvb6 k hk).imp id (fun h => Nat.le_trans (show w3.heap.size ≤ (w3.drew.alloc (.cells #[.int .i64 K, .string kk, .string vv] 39)).heap.size by simp) h))))
             clear hown6 hkp6 hvb6 b8 hk8 g8 g9))
      all_goals go_wp2_with fail
      all_goals go_ret
      all_goals
        obtain ⟨G', h1, h2, h3⟩ := HX.out.1.push (Nat.le_trans HB0.out (Nat.le_trans HA.out.size HB3.out.size)) HX.out.2.1 HX.out.2.2.1 (v.pend ++ [(K, kk, vv)]) (P' := .slice VA (v.pend.length + 1) vcap) (w1 := w8) (by rw [List.length_append, List.flatMap_append]; exact H8.out.1) H8.out.2.1 H8.out.2.2
        exact ⟨rfl, G', h1, (Keeps.of (HA.out.trans (HB3.out.mono HA.out.size))).trans h2, fun k hk => (h3 k hk).imp id (fun h => Nat.le_trans (Nat.le_trans HA.out.size HB3.out.size) h)⟩
end Go.Proofs.YtcklgaenedlbiaaGreat
