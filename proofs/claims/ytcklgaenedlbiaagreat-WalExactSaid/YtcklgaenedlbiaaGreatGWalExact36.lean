/-
  The document's log of layer 23: Add.
  The document's log of layer 23: Sync.
-/
import Derived.Test.YtcklgaenedlbiaaGreatGWalExact35
import Derived.Test.YtcklgaenedlbiaaGreatGWalExact28

namespace Go.Proofs.YtcklgaenedlbiaaGreat
open Go.RowKit Go.Sort

def RPost (w0 w w' : World) (u : Nat) (B : List ByteArray) (v : Wl) (H : List Nat) : Prop := ∃ H', R23At w0 w' u B v H' ∧ Keeps H w w' ∧ ∀ k, k ∈ H' → k ∈ H ∨ w.heap.size ≤ k
theorem RPost.same {w0 w w' : World} {u : Nat} {B : List ByteArray} {v : Wl} {H : List Nat} (h : R23At w0 w u B v H) (hb : Below w.heap.size w w') : RPost w0 w w' u B v H := ⟨H, h.below hb, Keeps.of hb, fun _ h => .inl h⟩
theorem own_ltR {w : World} {e : TypeId} {size n : Nat} {v : Value} {xs : List Value} (h : w.ownsRowF 0 e size v n xs) {k : Nat} (hk : v.ownBlock = some k) : k < w.heap.size := (h.lt k hk).2
theorem R23At.put {w0 w w9 : World} {u : Nat} {B : List ByteArray} {v : Wl} {H : List Nat} (h : R23At w0 w u B v H) (hb0 : w0.heap.size ≤ w.heap.size) (hk : Below w.heap.size w w9) {V : Value} {l : List Msg3} (ho : w9.ownsRowF 0 39 3 V l.length (l.flatMap msgCells)) (hn : ∀ k, V.ownBlock = some k → w.heap.size ≤ k) :
    RPost w0 w (w9.setCell ⟨u, 4, none⟩ V) u B { v with pend := l } H := by
  obtain ⟨g, cap, rest, VP, hR, hg, hP⟩ := h.inn
  have hb := hR.box.belowS hk
  have hl := hR.blocks.belowS hk
  have hne := hl.ne hb (by decide)
  have hk9 : Keeps H w (w9.setCell ⟨u, 4, none⟩ V) := (Keeps.of hk).setCell (p := ⟨u, 4, none⟩) h.mem V
  refine ⟨H ++ V.ownBlock.toList, ⟨fun k hk' => ?_, List.mem_append.2 (.inl h.mem), g, cap, rest, V, ⟨hb.set 4 V, hl.other _ _ hne, hR.len, ownsRowF_setCell ho hb (by decide)⟩, List.mem_append.2 (.inl hg), fun k hk' => List.mem_append.2 (.inr (Option.mem_toList.2 hk'))⟩, hk9, fun k hk' => ?_⟩
  · rcases List.mem_append.1 hk' with h1 | h1
    · exact ⟨(h.own k h1).1, Nat.lt_of_lt_of_le (h.own k h1).2 hk9.size⟩
    · have h2 := Option.mem_toList.1 h1
      have h3 := own_ltR ho h2
      exact ⟨Nat.le_trans hb0 (hn k h2), by simpa [World.setCell] using h3⟩
  · rcases List.mem_append.1 hk' with h1 | h1
    · exact .inl h1
    · exact .inr (hn k (Option.mem_toList.1 h1))

set_option maxHeartbeats 16000000 in
set_option maxRecDepth 100000 in
theorem r23_Add {w0 w : World} {u : Nat} {B : List ByteArray} {v : Wl} {H : List Nat} (h : R23At w0 w u B v H) (hb0 : w0.heap.size ≤ w.heap.size) (hv : WlOk v) (hl : v.pend.length ≤ 150) (m : Msg3) :
    Calls Tryz.prog 12 #[.pointer (some ⟨u, 0, none⟩), .agg #[.int .i64 m.1, .string m.2.1, .string m.2.2]] w fun e w' => e = .returned (.int .i64 (v.add m).2) ∧ RPost w0 w w' u B (v.add m).1 H := by
  obtain ⟨K, kk, vv⟩ := m
  simp only
  obtain ⟨i0, hi0, hz0, hz1, hz2⟩ := info_parts info_msg
  have HI0 := hid hi0; have HZ0 := hid hz0; have HZ1 := hid hz1; have HZ2 := hid hz2
  clear hi0 hz0 hz1 hz2
  obtain ⟨f, hf⟩ : ∃ f, f = msgIs K kk vv := ⟨_, rfl⟩
  have hfi : isB (K, kk, vv) = f := by rw [hf]; rfl
  have hA := below_alloc w (.cells #[.int .i64 K, .string kk, .string vv] 39)
  have hBx := Blk.new w #[.int .i64 K, .string kk, .string vv] 39
  obtain ⟨x, hx⟩ : ∃ x, x = w.heap.size := ⟨_, rfl⟩
  obtain ⟨w1, hw1⟩ : ∃ w1, w1 = w.alloc (.cells #[.int .i64 K, .string kk, .string vv] 39) := ⟨_, rfl⟩
  rw [← hx] at hBx
  rw [← hw1] at hA hBx
  have HX := hid hBx; have HG := hid (And.intro hx hw1); have HA := hid hA
  have H1 := hid (h.below hA)
  have KI : Hid (∀ W, Calls Tryz.prog 34 #[.agg #[.int .i64 K, .string kk, .string vv]] W fun e w' => e = .returned (.bool f) ∧ Below W.heap.size W w') := fun W => by rw [hf]; exact ref_Is_any K kk vv W
  have HH := hid (And.intro h (And.intro hb0 (And.intro hv hl)))
  obtain ⟨fb, hfb⟩ : ∃ fb, fb = v.fits (K, kk, vv) := ⟨_, rfl⟩
  have KF : Hid (∀ W, Below w1.heap.size w1 W → Calls Tryz.prog 10 #[.pointer (some ⟨u, 0, none⟩), .agg #[.int .i64 K, .string kk, .string vv]] W fun e w' => e = .returned (.bool fb) ∧ Below W.heap.size W w') := fun W hW => by
    rw [hfb]; exact r23_Fits (H1.out.below hW) HH.out.2.2.1 HH.out.2.2.2 (K, kk, vv)
  have c0 : w1.cell? ⟨x, 0, none⟩ = some (.int .i64 K) := hBx.at rfl
  have c1 : w1.cell? ⟨x, 1, none⟩ = some (.string kk) := hBx.at rfl
  have c2 : w1.cell? ⟨x, 2, none⟩ = some (.string vv) := hBx.at rfl
  unfold Wl.add
  rw [hfi, ← hfb]
  clear h hb0 hv hl hf hfi hA hBx hx hfb
  cases f with
  | false =>
    go_enter Tryz.func12, Tryz.ntmps12
    go_wp2_with fail
    rw [← HG.out.1, ← hw1]
    clear hw1
    refine (KI.out _).mono ?_; rintro e w2 ⟨rfl, hb⟩
    have HB2 := hid hb; clear hb
    go_wp2_with fail
    go_ret
    exact ⟨rfl, RPost.same HH.out.1 (bt HA.out HB2.out)⟩
  | true =>
    cases fb with
    | false =>
      go_enter Tryz.func12, Tryz.ntmps12
      go_wp2_with fail
      rw [← HG.out.1, ← hw1]
      clear hw1
      refine (KI.out _).mono ?_; rintro e w2 ⟨rfl, hb⟩
      have HB2 := hid hb
      have c0 := (hb.cell (p := ⟨x, 0, none⟩) HX.out.lt).trans c0
      have c1 := (hb.cell (p := ⟨x, 1, none⟩) HX.out.lt).trans c1
      have c2 := (hb.cell (p := ⟨x, 2, none⟩) HX.out.lt).trans c2
      clear hb
      go_wp2_with fail
      refine (KF.out _ HB2.out).mono ?_; rintro e w3 ⟨rfl, hb⟩
      have HB3 := hid (bt HB2.out hb); clear hb
      go_wp2_with fail
      go_ret
      exact ⟨rfl, RPost.same HH.out.1 (bt HA.out HB3.out)⟩
    | true =>
      go_enter Tryz.func12, Tryz.ntmps12
      go_wp2_with fail
      rw [← HG.out.1, ← hw1]
      clear hw1
      refine (KI.out _).mono ?_; rintro e w2 ⟨rfl, hb⟩
      have HB2 := hid hb
      have d0 := (hb.cell (p := ⟨x, 0, none⟩) HX.out.lt).trans c0
      have d1 := (hb.cell (p := ⟨x, 1, none⟩) HX.out.lt).trans c1
      have d2 := (hb.cell (p := ⟨x, 2, none⟩) HX.out.lt).trans c2
      clear hb
      go_wp2_with fail
      refine (KF.out _ HB2.out).mono ?_; rintro e w3 ⟨rfl, hb⟩
      have HB3 := hid (bt HB2.out hb)
      clear hb c0 c1 c2 d0 d1 d2 KF KI HB2
      go_upto_region 5 with fail
      have h3 := H1.out.below HB3.out
      have hX3 := HX.out.belowS HB3.out
      obtain ⟨g, bcap, rest, VP, hR, hg, hP⟩ := h3.inn
      obtain ⟨PA, pcap, rfl, hpr⟩ := ownsRowF_row hR.pend
      obtain ⟨L, hL⟩ : ∃ L, L = v.pend.length := ⟨_, rfl⟩
      have hbox := hR.box
      rw [← hL] at hbox
      have bE := below_alloc w3 (.cells #[] 39)
      have bM := below_alloc w3 (.cells #[.int .i64 K, .string kk, .string vv] 39)
      have bEM := bE.trans (below_alloc (w3.alloc (.cells #[] 39)) (.cells #[.int .i64 K, .string kk, .string vv] 39) |>.mono bE.size)
      have bME := bM.trans (below_alloc (w3.alloc (.cells #[.int .i64 K, .string kk, .string vv] 39)) (.cells #[] 39) |>.mono bM.size)
      have q0 : w3.cell? ⟨u, 4, none⟩ = some (.slice PA L pcap) := hbox.at rfl
      have q1 : (w3.alloc (.cells #[] 39)).cell? ⟨u, 4, none⟩ = some (.slice PA L pcap) := (hbox.belowS bE).at rfl
      have q2 : (w3.alloc (.cells #[.int .i64 K, .string kk, .string vv] 39)).cell? ⟨u, 4, none⟩ = some (.slice PA L pcap) := (hbox.belowS bM).at rfl
      have q3 : ((w3.alloc (.cells #[] 39)).alloc (.cells #[.int .i64 K, .string kk, .string vv] 39)).cell? ⟨u, 4, none⟩ = some (.slice PA L pcap) := (hbox.belowS bEM).at rfl
      have q4 : ((w3.alloc (.cells #[.int .i64 K, .string kk, .string vv] 39)).alloc (.cells #[] 39)).cell? ⟨u, 4, none⟩ = some (.slice PA L pcap) := (hbox.belowS bME).at rfl
      have s0 : w3.cell? ⟨x, 0, none⟩ = some (.int .i64 K) := hX3.at rfl
      have s1 : w3.cell? ⟨x, 1, none⟩ = some (.string kk) := hX3.at rfl
      have s2 : w3.cell? ⟨x, 2, none⟩ = some (.string vv) := hX3.at rfl
      have t0 : (w3.alloc (.cells #[] 39)).cell? ⟨x, 0, none⟩ = some (.int .i64 K) := (hX3.belowS bE).at rfl
      have t1 : (w3.alloc (.cells #[] 39)).cell? ⟨x, 1, none⟩ = some (.string kk) := (hX3.belowS bE).at rfl
      have t2 : (w3.alloc (.cells #[] 39)).cell? ⟨x, 2, none⟩ = some (.string vv) := (hX3.belowS bE).at rfl
      have E1 : Hid ((w3.alloc (.cells #[] 39)).drew.ownsRowF 0 39 3 (.slice (some ⟨w3.heap.size, 0, none⟩) 0 0) 0 []) := ownsRowF_empty w3 _ _
      have E2 : Hid (((w3.alloc (.cells #[] 39)).alloc (.cells #[.int .i64 K, .string kk, .string vv] 39)).drew.ownsRowF 0 39 3 (.slice (some ⟨w3.heap.size, 0, none⟩) 0 0) 0 []) := ownsRowF_below (ownsRowF_empty w3 _ _) (below_alloc _ _).drew
      have E3 : Hid (((w3.alloc (.cells #[.int .i64 K, .string kk, .string vv] 39)).alloc (.cells #[] 39)).drew.ownsRowF 0 39 3 (.slice (some ⟨w3.heap.size + 1, 0, none⟩) 0 0) 0 []) := by
        have := ownsRowF_empty (w3.alloc (.cells #[.int .i64 K, .string kk, .string vv] 39)) 39 3
        rwa [show (w3.alloc (.cells #[.int .i64 K, .string kk, .string vv] 39)).heap.size = w3.heap.size + 1 by simp] at this
      have k1 : Kept w3 (w3.alloc (.cells #[] 39)).drew := Kept.drew bE
      have k2 : Kept w3 ((w3.alloc (.cells #[] 39)).alloc (.cells #[.int .i64 K, .string kk, .string vv] 39)).drew := Kept.drew bEM
      have k3 : Kept w3 ((w3.alloc (.cells #[.int .i64 K, .string kk, .string vv] 39)).alloc (.cells #[] 39)).drew := Kept.drew bME
      have EB2 : Hid (Blk ((w3.alloc (.cells #[] 39)).alloc (.cells #[.int .i64 K, .string kk, .string vv] 39)).drew (w3.heap.size + 1) 39 (msgCells (K, kk, vv))) := by
        have := Blk.new (w3.alloc (.cells #[] 39)) #[.int .i64 K, .string kk, .string vv] 39
        rwa [show (w3.alloc (.cells #[] 39)).heap.size = w3.heap.size + 1 by simp] at this
      have EB3 : Hid (Blk ((w3.alloc (.cells #[.int .i64 K, .string kk, .string vv] 39)).alloc (.cells #[] 39)).drew w3.heap.size 39 (msgCells (K, kk, vv))) := (Blk.new w3 #[.int .i64 K, .string kk, .string vv] 39).belowS (below_alloc _ _).drew
      have KROW : Hid (∀ wx, Kept w3 wx → Row wx PA (v.pend.flatMap msgCells)) := fun wx hk => hpr.below hk
      have KBX : Hid (∀ wx, Kept w3 wx → Blk wx u 37 [.slice (some ⟨g, 0, none⟩) 8 bcap, .int .i64 v.epoch, .int .i64 v.from_, .int .i64 v.used, .slice PA L pcap] ∧ Blk wx x 39 [.int .i64 K, .string kk, .string vv]) := fun wx hk => ⟨hbox.belowS hk, hX3.belowS hk⟩
      have HML : Hid ((v.pend.flatMap msgCells).length = L * 3) := by show _ = _; rw [hL]; exact flat_cells v.pend
      have hL150 : L ≤ 150 := by have := HH.out.2.2.2; omega
      have HL := hid hL; have H3 := hid h3
      clear h3 hX3 hR hg hP hpr hL hbox bE bM bEM bME
      go_region_law (first
          | (refine step_append_row rfl (.tmp 13) (.tmp 17) 32 39 rfl i0 _ 3 40 Tryz.underlying32 HI0.out HZ0.out HZ1.out HZ2.out rfl (by decide) (.slice (some ⟨_, 0, none⟩) 0 0) 0 [] rfl (by first | exact E1.out | exact E2.out | exact E3.out) PA L pcap (v.pend.flatMap msgCells) rfl HML.out (KROW.out _ (by first | exact k1 | exact k2 | exact k3)) (cells_one v.pend) (by simp only [maxLen]; omega) (by omega) ?_
             intro V5 w5 hown5 hkp5 hvb5
             rw [Nat.zero_add] at hown5
             obtain ⟨A5, cap5, rfl, hr5⟩ := ownsRowF_row hown5
             have hk5 : Kept w3 w5 := Keeps.below (by first | exact k1 | exact k2 | exact k3) hkp5 (fun y hy => by simp [Value.ownBlock] at hy; omega)
             have HB5 : Hid (∀ k, (Value.slice A5 L cap5).ownBlock = some k → w3.heap.size ≤ k) := fun k hk => by
               rcases hvb5 k hk with h | h
               · simp [Value.ownBlock] at h; omega
               · simp at h; omega
             (first
               | (have RB := hid ((EB2.out.keeps hkp5 (by simp [Value.ownBlock])).row))
               | (have RB := hid ((EB3.out.keeps hkp5 (by simp [Value.ownBlock])).row))
               | skip)
             have HO5 := hid hown5
             have z0 : w5.cell? ⟨x, 0, none⟩ = some (.int .i64 K) := (KBX.out _ hk5).2.at rfl
             have z1 : w5.cell? ⟨x, 1, none⟩ = some (.string kk) := (KBX.out _ hk5).2.at rfl
             have z2 : w5.cell? ⟨x, 2, none⟩ = some (.string vv) := (KBX.out _ hk5).2.at rfl
             clear hown5 hkp5 hvb5 hr5)
          | (refine step_append_row rfl (.tmp 18) (.tmp 20) 32 39 rfl i0 _ 3 40 Tryz.underlying32 HI0.out HZ0.out HZ1.out HZ2.out rfl (by decide) (.slice A5 L cap5) L ([] ++ v.pend.flatMap msgCells) rfl (by first | exact HO5.out | exact ownsRowF_below HO5.out (below_alloc _ _)) _ 1 1 (msgCells (K, kk, vv)) rfl rfl (by first | exact row_new _ #[.int .i64 K, .string kk, .string vv] _ | exact RB.out) (by intro u hu; simp only [msgCells, List.mem_cons, List.not_mem_nil, or_false] at hu; rcases hu with rfl | rfl | rfl <;> rfl) (by simp only [maxLen]; omega) (by omega) ?_
             intro V8 w8 hown8 hkp8 hvb8
             obtain ⟨A8, cap8, rfl, hr8⟩ := ownsRowF_row hown8
             have hk8 : Kept w3 w8 := Keeps.below (by first | exact hk5 | exact Kept.alloc hk5 _) hkp8 (fun y hy => HB5.out y (Option.mem_toList.1 hy))
             have HO8 := hid (show w8.ownsRowF 0 39 3 (.slice A8 (L + 1) cap8) (L + 1) ((v.pend ++ [(K, kk, vv)]).flatMap msgCells) from by rw [List.flatMap_append]; simpa using hown8)
             have HN8 : Hid (∀ k, (Value.slice A8 (L + 1) cap8).ownBlock = some k → w3.heap.size ≤ k) := fun k hk => by
               rcases hvb8 k hk with h | h
               · exact HB5.out k h
               · exact Nat.le_trans hk5.size (by first | exact h | (simp at h; omega))
             have y4 : w8.cell? ⟨u, 4, none⟩ = some (.slice PA L pcap) := (KBX.out _ hk8).1.at rfl
             have f4 : w8.frozen? ⟨u, 4, none⟩ = false := (KBX.out _ hk8).1.free (i := 4) (by show 4 < 5; decide)
             have HK8 := hid hk8
             clear hown8 hkp8 hvb8 hr8))
      all_goals go_wp2_with fail
      all_goals go_ret
      all_goals
        have hput := H3.out.put (Nat.le_trans HH.out.2.1 (Nat.le_trans HA.out.size HB3.out.size)) HK8.out (V := .slice A8 (L + 1) cap8) (l := v.pend ++ [(K, kk, vv)]) (by rw [List.length_append, List.length_singleton, ← HL.out]; exact HO8.out) HN8.out
        obtain ⟨H', r1, r2, r3⟩ := hput
        exact ⟨rfl, H', r1, (Keeps.of (bt HA.out HB3.out)).trans r2, fun k hk => (r3 k hk).imp id (fun h => Nat.le_trans (Nat.le_trans HA.out.size HB3.out.size) h)⟩
end Go.Proofs.YtcklgaenedlbiaaGreat

namespace Go.Proofs.YtcklgaenedlbiaaGreat
open Go.RowKit Go.Sort

/-- the blocks, as texts are written one by one -/
def setB (B : List ByteArray) (v : Wl) (ts : List ByteArray) : Nat → List ByteArray
  | 0 => B
  | i + 1 => (setB B v ts i).set ((v.from_ + (v.used + i)) % 8) (stampV v.epoch ((v.used + i : Nat) : Int) (ts.getD i ⟨#[]⟩)).1
theorem setB_len (B : List ByteArray) (v : Wl) (ts : List ByteArray) : ∀ i, (setB B v ts i).length = B.length
  | 0 => rfl
  | i + 1 => by rw [setB, List.length_set, setB_len B v ts i]
theorem logL_set (f : Nat → ByteArray) (q : Nat) (hq : q < 8) (b : ByteArray) : logL (fun i => if i = 2 + q then b else f i) = (logL f).set q b := by
  apply List.ext_getElem?
  intro i
  unfold logL
  rw [List.getElem?_set]
  simp only [List.getElem?_map, List.length_map, List.length_range]
  by_cases h : q = i
  · subst h
    rw [if_pos rfl, if_pos hq, List.getElem?_range hq]
    simp
  · rw [if_neg h]
    rcases Nat.lt_or_ge i 8 with h8 | h8
    · rw [List.getElem?_range h8]
      simp only [Option.map_some]
      rw [if_neg (by omega)]
    · rw [List.getElem?_eq_none (by simpa using h8)]; rfl
theorem logL_stamps {v : Wl} (h8 : v.size = 8) (ts : List ByteArray) (f : Nat → ByteArray) : ∀ n, logL (putL f (stamps v ts n)) = setB (logL f) v ts n
  | 0 => rfl
  | n + 1 => by
    have h : putL f (stamps v ts (n + 1)) = fun i => if i = 2 + (v.from_ + (v.used + n)) % 8 then (stampV v.epoch ((v.used + n : Nat) : Int) (ts.getD n ⟨#[]⟩)).1 else putL f (stamps v ts n) i := by
      funext i
      rw [stamps_succ, putL_snoc]
      unfold stampOf Wl.at_
      rw [h8]
    rw [h, logL_set _ _ (Nat.mod_lt _ (by decide)), logL_stamps h8 ts f n, setB]
theorem logL_len (f : Nat → ByteArray) : (logL f).length = 8 := by simp [logL]
theorem strs_set (B : List ByteArray) (rest : List Value) (q : Nat) (b : ByteArray) (hq : q < B.length) : (strs B ++ rest).set q (.string b) = strs (B.set q b) ++ rest := by
  rw [List.set_append_left _ _ (by simpa [strs] using hq)]
  simp [strs, List.map_set]
theorem syncV_eq (v : Wl) : syncV v = { v with used := v.used + v.texts.length, pend := [] } := by
  unfold syncV
  by_cases h : v.pend = []
  · rw [if_pos h, texts_nil h]
    obtain ⟨a, b, c, d, e⟩ := v
    simp only at h
    subst h; rfl
  · rw [if_neg h]
theorem rstamp_is {e q : Int} {s : ByteArray} (h1 : 1 ≤ e) (h2 : e ≤ 2147483647) (h3 : 0 ≤ q) (h4 : q ≤ 2147483647) (hs : s.size ≤ 218) : rstampV e q s = ((stampV e q s).1, true) := by
  unfold rstampV stampV
  rw [if_pos ⟨hs, h1, h2, h3, h4⟩, if_pos ⟨hs, h1, h2, h3, h4⟩]

set_option maxHeartbeats 16000000 in
set_option maxRecDepth 100000 in
theorem r23_Sync {w0 w : World} {u : Nat} {B : List ByteArray} {v : Wl} {H : List Nat} (h : R23At w0 w u B v H) (hv : WlOk v) (hl : v.pend.length ≤ 150) :
    Calls Tryz.prog 14 #[.pointer (some ⟨u, 0, none⟩)] w fun e w' => e = .returned (.tuple #[]) ∧ RPost w0 w w' u (setB B v v.texts v.texts.length) (syncV v) H := by
  obtain ⟨g, bcap, rest, VP, hR, hg, hP⟩ := h.inn
  obtain ⟨PA, pcap, rfl, hpr⟩ := ownsRowF_row hR.pend
  obtain ⟨L, hL⟩ : ∃ L, L = v.pend.length := ⟨_, rfl⟩
  obtain ⟨ts, hts⟩ : ∃ ts, ts = v.texts := ⟨_, rfl⟩
  obtain ⟨n, hn⟩ : ∃ n, n = ts.length := ⟨_, rfl⟩
  have hng : n = (g2 [] v.pend).length := by rw [hn, hts, texts_length]
  have hfit := hv.fit
  rw [← hng] at hfit
  have KT : Hid (Calls Tryz.prog 35 #[.slice PA L pcap] w fun e w' => ∃ A cap, e = .returned (.slice A n cap) ∧ w'.ownsRowF 0 9 1 (.slice A n cap) n (strs ts) ∧ (∀ b, (Value.slice A n cap).ownBlock = some b → w.heap.size ≤ b) ∧ Below w.heap.size w w') := by
    have h1 := ref22_Texts_own PA pcap v.pend (by omega) hv.all w hpr
    rw [← hng, ← hL, show (g2 [] v.pend).map bytesG = ts from hts.symm] at h1
    refine h1.mono ?_
    rintro e w' ⟨V, rfl, ho, hnw, hb⟩
    obtain ⟨A, cap, rfl, _⟩ := ownsRowF_row ho
    exact ⟨A, cap, rfl, ho, hnw, hb⟩
  have c4 : w.cell? ⟨u, 4, none⟩ = some (.slice PA L pcap) := by rw [hL]; exact hR.box.at rfl
  have HT := hid (fun i (hi : i < n) => show (ts.getD i ⟨#[]⟩).size ≤ 218 from by
    rw [List.getD_eq_getElem?_getD, List.getElem?_eq_getElem (by omega)]
    exact texts_size hv _ (by rw [← hts]; exact List.getElem_mem _))
  have hB8 := hR.len
  have hgu := hR.blocks.ne hR.box (by decide)
  have hsz := syncV_eq v
  rw [← hts, ← hn] at hsz ⊢
  rw [← hL] at hR
  have HR0 := hid hR; have HH := hid h; have HV := hid hv; have HGU := hid hgu; have HB8 := hid hB8; have HSV := hid hsz; have HGM := hid hg; have HNL := hid hn
  have hus : v.used ≤ 8 := by omega
  have HFIT := hid hfit
  clear h hR hg hP hpr hL hts hn hng hfit hv hl hB8 hgu hsz
  go_enter Tryz.func14, Tryz.ntmps14
  go_wp2_with fail
  refine KT.out.mono ?_; rintro e w3 ⟨TA, tcap, rfl, ho, hnw, hb⟩
  have HTO := hid ho; have HB3 := hid hb
  have HR3 := hid (HR0.out.keeps (F := []) (Keeps.of hb) (by simp) (by simp) (by simp))
  have HTN : Hid (∀ k, (Value.slice TA n tcap).ownBlock = some k → k ∉ [u, g]) := fun k hk hm => by
    have h1 := hnw k hk
    have h2 := HR0.out.box.lt
    have h3 := HR0.out.blocks.lt
    simp only [List.mem_cons, List.not_mem_nil, or_false] at hm
    omega
  clear ho hb hnw KT c4
  go_wp2_with fail
  go_loopg [3] n (fun gg x wx => ∃ i : Nat, i + gg = n ∧ x = .int .i64 i ∧ Hid (R23 wx u g bcap rest (.slice PA L pcap) (setB B v ts i) { v with used := v.used + i } ∧ Keeps [u, g] w3 wx))
  case atStart => exact ⟨0, by omega, rfl, HR3.out, Keeps.refl _ _⟩
  case round =>
    obtain ⟨i, hi, rfl, HI⟩ := hrel
    by_cases hlt : i < n
    · obtain ⟨T, hT⟩ : ∃ T, T = ts.getD i ⟨#[]⟩ := ⟨_, rfl⟩
      have hit : i < ts.length := by have := HNL.out; omega
      have hown := ownsRowF_keeps HTO.out HI.out.2 HTN.out
      obtain ⟨tb, toff, rfl, htb, htc⟩ := row_cell (own_rowW hown) (strs_ne hit)
      have t0 : wr.cell? ⟨tb, toff + i, none⟩ = some (.string T) := by
        have h1 := htc i _ (strs_get ts i hit)
        rw [h1, hT, List.getD_eq_getElem?_getD, List.getElem?_eq_getElem hit]; rfl
      have htsz := HT.out i hlt
      rw [← hT] at htsz
      obtain ⟨s, hs⟩ : ∃ s, s = v.used + i := ⟨_, rfl⟩
      obtain ⟨a, ha⟩ : ∃ a, a = v.from_ + s := ⟨_, rfl⟩
      obtain ⟨q, hq⟩ : ∃ q, q = a % 8 := ⟨_, rfl⟩
      have hs8 : s ≤ 8 := by have := HFIT.out; omega
      have hf8 : v.from_ < 8 := HV.out.from_
      have e1 : IntKind.i64.wrap ((v.from_ : Int) + (s : Int)) = (a : Int) := by rw [IntKind.wrap_i64]; omega
      have e2 : (a : Int).tmod 8 = (q : Int) := by rw [hq]; exact (Int.ofNat_tmod a 8).symm
      have hq8 : q < 8 := by rw [hq]; exact Nat.mod_lt _ (by decide)
      have hq8' : (q : Int) < 8 := by omega
      have e3 : IntKind.i64.wrap ((s : Int) + 1) = ((s + 1 : Nat) : Int) := by rw [IntKind.wrap_i64]; omega
      obtain ⟨b, hb⟩ : ∃ b, b = (stampV v.epoch ((s : Nat) : Int) T).1 := ⟨_, rfl⟩
      have KS : Hid (∀ W, Calls Tryz.prog 36 #[.int .i64 v.epoch, .int .i64 s, .string T] W fun e w' => e = .returned (.tuple #[.string b, .bool true]) ∧ Below W.heap.size W w') := fun W => by
        have h1 := ref04_Stamp v.epoch ((s : Nat) : Int) T (by omega) W
        rw [rstamp_is HV.out.e1 HV.out.e2 (by omega) (by omega) htsz, ← hb] at h1
        exact h1
      have hBset : setB B v ts (i + 1) = (setB B v ts i).set q b := by rw [setB, ← hs, ← ha, ← hq, ← hT, ← hb]
      have hBl : (setB B v ts i).length = 8 := by rw [setB_len]; exact HB8.out
      have hbox := HI.out.1.box
      simp only at hbox
      rw [← hs] at hbox
      have hn8 : n ≤ 8 := by have := HFIT.out; omega
      obtain ⟨ob, hob⟩ : ∃ ob, (strs (setB B v ts i) ++ rest)[q]? = some ob := ⟨_, List.getElem?_eq_getElem (by simp [strs]; omega)⟩
      have htg : tb ≠ g := fun e => HTN.out tb (by simp [Value.ownBlock]) (by simp [e])
      have htu : tb ≠ u := fun e => HTN.out tb (by simp [Value.ownBlock]) (by simp [e])
      have hgl := HI.out.1.blocks
      have htl : tb < wr.heap.size := Nat.lt_of_lt_of_le htb (Nat.le_refl _)
      have KQ : Hid (∀ wx, Kept wr wx → wx.cell? ⟨u, 0, none⟩ = some (.slice (some ⟨g, 0, none⟩) 8 bcap) ∧ wx.cell? ⟨u, 1, none⟩ = some (.int .i64 v.epoch) ∧ wx.cell? ⟨u, 2, none⟩ = some (.int .i64 v.from_) ∧ wx.cell? ⟨u, 3, none⟩ = some (.int .i64 s) ∧ wx.cell? ⟨tb, toff + i, none⟩ = some (.string T)) := fun wx hk =>
        ⟨(hbox.belowS hk).at rfl, (hbox.belowS hk).at rfl, (hbox.belowS hk).at rfl, (hbox.belowS hk).at rfl, (hk.cell (p := ⟨tb, toff + i, none⟩) htl).trans t0⟩
      have KQ2 : Hid (∀ wy, Kept wr wy → (fun wx : World => wx.cell? ⟨u, 0, none⟩ = some (.slice (some ⟨g, 0, none⟩) 8 bcap) ∧ wx.cell? ⟨u, 1, none⟩ = some (.int .i64 v.epoch) ∧ wx.cell? ⟨u, 2, none⟩ = some (.int .i64 v.from_) ∧ wx.cell? ⟨u, 3, none⟩ = some (.int .i64 s) ∧ wx.cell? ⟨tb, toff + i, none⟩ = some (.string T)) (wy.setCell ⟨g, q, none⟩ (.string b))) := fun wy hk => by
        have hbx := (hbox.belowS hk).other ⟨g, q, none⟩ (.string b) (fun e => HGU.out e.symm)
        have ht := (hk.cell (p := ⟨tb, toff + i, none⟩) htl).trans t0
        refine ⟨hbx.at rfl, hbx.at rfl, hbx.at rfl, hbx.at rfl, ?_⟩
        rw [← ht]
        exact (keeps_setCell wy ⟨g, q, none⟩ (.string b)).cell (by have := hk.size; omega) (by simpa using htg)
      have KBL : Hid (∀ wx, Kept wr wx → wx.cell? ⟨g, q, none⟩ = some ob ∧ wx.frozen? ⟨g, q, none⟩ = false) := fun wx hk => ⟨(hgl.belowS hk).at hob, (hgl.belowS hk).free (by simp [strs]; omega)⟩
      obtain ⟨a0, a1, a2, a3, a4⟩ := KQ.out wr (Below.refl _ _)
      have hk0 : Kept wr wr.drew := (Below.refl _ _).drew
      have HS := hid hs; have HBS := hid hBset; have HBL := hid hBl; have HQ8 := hid hq8
      clear hT hit hown htb htc t0 htsz hs ha hq hs8 hf8 hb hBset hBl hbox hob htg htu hgl htl
      go_upto_region 4 with fail
      go_region_held3 (fun wx => wx.cell? ⟨u, 0, none⟩ = some (.slice (some ⟨g, 0, none⟩) 8 bcap) ∧ wx.cell? ⟨u, 1, none⟩ = some (.int .i64 v.epoch) ∧ wx.cell? ⟨u, 2, none⟩ = some (.int .i64 v.from_) ∧ wx.cell? ⟨u, 3, none⟩ = some (.int .i64 s) ∧ wx.cell? ⟨tb, toff + i, none⟩ = some (.string T))
        ((first | assumption | (refine KQ.out _ ?_; first | assumption | exact Kept.drew (by assumption)) | (refine KQ2.out _ ?_; assumption)))
        (first
          | (go_at_call 36; with_reducible refine (KS.out _).mono ?_; rintro e w4 ⟨rfl, hb_⟩; have hk4 := Kept.go hk0 hb_; have x0 : w4.cell? ⟨g, q, none⟩ = some ob := (KBL.out _ hk4).1; have f0 : w4.frozen? ⟨g, q, none⟩ = false := (KBL.out _ hk4).2; clear hb_))
      have hbel : Below wr.heap.size wr w4 := hk4
      clear KQ KQ2 KBL KS a0 a1 a2 a3 a4 hk0
      have hR4 := HI.out.1.keeps (F := []) (Keeps.of hbel) (by simp) (by simp) (by simp)
      have hb5 := hR4.blocks.set q (.string b)
      rw [strs_set _ _ _ _ (by have := HBL.out; have := HQ8.out; omega), ← HBS.out] at hb5
      have hx5 := hR4.box.other ⟨g, q, none⟩ (.string b) (fun e => HGU.out e.symm)
      have hp5 : (w4.setCell ⟨g, q, none⟩ (.string b)).ownsRowF 0 39 3 (.slice PA L pcap) v.pend.length (v.pend.flatMap msgCells) := ownsRowF_setCell hR4.pend hR4.blocks (by decide)
      have hk5 : Keeps [u, g] w3 (w4.setCell ⟨g, q, none⟩ (.string b)) := (HI.out.2.trans (Keeps.of hbel)).setCell (p := ⟨g, q, none⟩) (by simp) (.string b)
      obtain ⟨w5, hw5⟩ : ∃ w5, w5 = w4.setCell ⟨g, q, none⟩ (.string b) := ⟨_, rfl⟩
      rw [← hw5] at hb5 hx5 hp5 hk5
      have y3 : w5.cell? ⟨u, 3, none⟩ = some (.int .i64 s) := by rw [HS.out]; exact hx5.at rfl
      have z3 : w5.frozen? ⟨u, 3, none⟩ = false := hx5.free (i := 3) (by show 3 < 5; decide)
      have hx6 := hx5.set 3 (.int .i64 ((s + 1 : Nat) : Int))
      have H6 := hid (show R23 (w5.setCell ⟨u, 3, none⟩ (.int .i64 ((s + 1 : Nat) : Int))) u g bcap rest (.slice PA L pcap) (setB B v ts (i + 1)) { v with used := v.used + (i + 1) } ∧ Keeps [u, g] w3 (w5.setCell ⟨u, 3, none⟩ (.int .i64 ((s + 1 : Nat) : Int))) from
        ⟨⟨by
          have : s + 1 = v.used + (i + 1) := by have := HS.out; omega
          rw [this] at hx6 ⊢
          exact hx6, hb5.other _ _ HGU.out, by rw [setB_len]; exact HB8.out, ownsRowF_setCell hp5 hx5 (by decide)⟩, hk5.setCell (p := ⟨u, 3, none⟩) (by simp) _⟩)
      have HW5 := hid hw5
      clear hR4 hb5 hx5 hp5 hk5 hx6 hbel HI hw5
      go_upto_region 5 with fail
      rw [← HW5.out]
      clear x0 f0 HW5
      go_wp2_with fail
      go_roundg (n - (i + 1))
      case measure => omega
      case rel => exact ⟨i + 1, by omega, by go_num, H6.out⟩
    · obtain rfl : i = n := by omega
      have hR9 := HI.out.1
      have y4 : wr.cell? ⟨u, 4, none⟩ = some (.slice PA L pcap) := hR9.box.at rfl
      have z4 : wr.frozen? ⟨u, 4, none⟩ = false := hR9.box.free (i := 4) (by show 4 < 5; decide)
      have HF : Hid (RPost w0 w (wr.setCell ⟨u, 4, none⟩ (.slice none 0 0)) u (setB B v ts i) (syncV v) H) := by
        have hsub : ∀ k, k ∈ [u, g] → k ∈ H := fun k hk => by
          simp only [List.mem_cons, List.not_mem_nil, or_false] at hk
          rcases hk with rfl | rfl
          · exact HH.out.mem
          · exact HGM.out
        have hk := ((Keeps.of HB3.out (F := [u, g])).trans HI.out.2).mono hsub
        have hk2 := hk.setCell (p := ⟨u, 4, none⟩) HH.out.mem (.slice none 0 0)
        refine ⟨H, ⟨fun k hk' => ⟨(HH.out.own k hk').1, Nat.lt_of_lt_of_le (HH.out.own k hk').2 hk2.size⟩, HH.out.mem, g, bcap, rest, .slice none 0 0, ?_, HGM.out, fun k hk => by cases hk⟩, hk2, fun k hk => .inl hk⟩
        rw [HSV.out]
        exact ⟨hR9.box.set 4 (.slice none 0 0), hR9.blocks.other _ _ HGU.out, hR9.len, World.ownsRowF_nil _ _ _ _⟩
      clear hR9 HI
      go_wp2_with fail
      go_end0
      exact ⟨rfl, HF.out⟩
end Go.Proofs.YtcklgaenedlbiaaGreat
