/-
  A device with a log over it, as a statement goes on: what is kept from deed to deed.
  WalRoom: what fits can be synced: walked.
-/
import Derived.Test.YtcklgaenedlbiaaGWalRoom29
import Derived.Test.YtcklgaenedlbiaaGWalRoom28
import Derived.Test.YtcklgaenedlbiaaGWalRoom30

namespace Go.Proofs.Ytcklgaenedlbiaa
open Go.RowKit Go.Sort

theorem texts_pos {v : Wl} (hv : WlOk v) (h : v.pend ≠ []) : 1 ≤ v.texts.length := by
  rw [texts_length]
  exact (g2_bound v.pend [] (by simp) (fun x hx => isB_wt (hv.all x hx)) (by simpa using h)).2
theorem sync_used (v : Wl) : (syncV v).used = v.used + v.texts.length := by
  unfold syncV
  by_cases h : v.pend = []
  · rw [if_pos h, texts_nil h]; rfl
  · rw [if_neg h]
theorem sync_pend (v : Wl) : (syncV v).pend = [] := by
  unfold syncV
  by_cases h : v.pend = []
  · rw [if_pos h]; exact h
  · rw [if_neg h]
theorem sync_same (v : Wl) : (syncV v).size = v.size ∧ (syncV v).epoch = v.epoch ∧ (syncV v).from_ = v.from_ := by
  unfold syncV
  split
  · exact ⟨rfl, rfl, rfl⟩
  · exact ⟨rfl, rfl, rfl⟩
theorem WlOk.sync {v : Wl} (hv : WlOk v) : WlOk (syncV v) := by
  obtain ⟨h1, h2, h3⟩ := sync_same v
  have hf := hv.fit
  rw [← texts_length] at hf
  exact ⟨by rw [h1]; exact hv.size, by rw [h3]; exact hv.from_, by rw [h2]; exact hv.e1, by rw [h2]; exact hv.e2, by rw [sync_pend]; simp, by rw [sync_pend]; simp, by rw [sync_pend, sync_used]; exact hf⟩
theorem filter_all {l : List Msg3} (h : ∀ x ∈ l, isB x = true) : l.filter isB = l := List.filter_eq_self.2 h
theorem need_all {l : List Msg3} (h : ∀ x ∈ l, isB x = true) : needOf l = (g2 [] l).length := by unfold needOf; rw [filter_all h]
theorem WlOk.add {v : Wl} (hv : WlOk v) {m : Msg3} (hm : isB m = true) (hf : v.fits m = true) (hl : v.pend.length ≤ 240) : WlOk { v with pend := v.pend ++ [m] } := by
  have hall : ∀ x ∈ v.pend ++ [m], isB x = true := by
    intro x hx
    rcases List.mem_append.1 hx with h | h
    · exact hv.all x h
    · rw [List.mem_singleton.1 h]; exact hm
  unfold Wl.fits at hf
  rw [hm, Bool.true_and, decide_eq_true_eq, need_all hall, hv.size] at hf
  exact ⟨hv.size, hv.from_, hv.e1, hv.e2, hall, by simp only [List.length_append, List.length_singleton]; omega, hf⟩
/-- a device with a log over it, as a statement goes on -/
structure RoomI (w wx : World) (p r c : Nat) (d : Dv) (v : Wl) (F G : List Nat) : Prop where
  lw : LW w wx p r d v F G
  ok : WlOk v
  fuse : d.fuse < 0
  on : d.off = false
  count : d.loose.length + d.rd + d.wr + d.fl ≤ c + 2 * v.used
  cl : c ≤ 940
theorem RoomI.below {w wx wy : World} {p r c : Nat} {d : Dv} {v : Wl} {F G : List Nat} (h : RoomI w wx p r c d v F G) (hb : Below wx.heap.size wx wy) : RoomI w wy p r c d v F G := ⟨h.lw.below hb, h.ok, h.fuse, h.on, h.count, h.cl⟩
theorem syncD_same (v : Wl) (d : Dv) : (syncD v d).fuse = d.fuse ∧ (syncD v d).off = d.off ∧ (syncD v d).rd = d.rd := by
  unfold syncD
  split
  · exact ⟨rfl, rfl, rfl⟩
  · exact ⟨rfl, rfl, rfl⟩
theorem syncD_count {v : Wl} (hv : WlOk v) (d : Dv) : (syncD v d).loose.length + (syncD v d).wr + (syncD v d).fl ≤ d.loose.length + d.wr + d.fl + 2 * v.texts.length := by
  by_cases h : v.pend = []
  · unfold syncD; rw [if_pos h]; omega
  · have := texts_pos hv h
    unfold syncD; rw [if_neg h]
    simp only [List.length_nil]; omega
theorem RoomI.sync {w wx : World} {p r c : Nat} {d : Dv} {v : Wl} {F G : List Nat} (h : RoomI w wx p r c d v F G) :
    Calls Try.prog 43 #[.pointer (some ⟨r, 0, none⟩)] wx fun e w' => e = .returned (.int .i64 0) ∧ ∃ F' G', RoomI w w' p r c (syncD v d) (syncV v) F' G' := by
  have hu := h.ok.fit
  have hc := h.count
  have hcl := h.cl
  refine (wal_Sync h.lw h.ok h.fuse h.on (by omega)).mono ?_
  rintro e w' ⟨rfl, F', G', hl, _, _⟩
  obtain ⟨s1, s2, s3⟩ := syncD_same v d
  have s4 := syncD_count h.ok d
  exact ⟨rfl, F', G', hl, h.ok.sync, by rw [s1]; exact h.fuse, by rw [s2]; exact h.on, by rw [sync_used, s3]; omega, hcl⟩
theorem RoomI.used {w wx : World} {p r c : Nat} {d : Dv} {v : Wl} {F G : List Nat} (h : RoomI w wx p r c d v F G) :
    Calls Try.prog 45 #[.pointer (some ⟨r, 0, none⟩)] wx fun e w' => e = .returned (.int .i64 v.used) ∧ wx = w' := by
  obtain ⟨P, hi, _⟩ := h.lw.wal.inn
  exact wal_Used hi
theorem RoomI.pending {w wx : World} {p r c : Nat} {d : Dv} {v : Wl} {F G : List Nat} (h : RoomI w wx p r c d v F G) :
    Calls Try.prog 44 #[.pointer (some ⟨r, 0, none⟩)] wx fun e w' => ∃ A cap, e = .returned (.slice A v.pend.length cap) ∧ w'.ownsRowF 0 70 3 (.slice A v.pend.length cap) v.pend.length (v.pend.flatMap msgCells) ∧ Below wx.heap.size wx w' ∧ ∀ k, (Value.slice A v.pend.length cap).ownBlock = some k → wx.heap.size ≤ k := by
  obtain ⟨P, hi, _⟩ := h.lw.wal.inn
  have hl := h.ok.len
  refine (wal_Pending hi (by omega)).mono ?_
  rintro e w' ⟨V, rfl, ho, hb⟩
  have h1 := World.ownsRowF_of ho
  obtain ⟨A, cap, rfl, _⟩ := ownsRowF_row (ownsRowF_zero h1)
  exact ⟨A, cap, rfl, ownsRowF_zero h1, hb, fun k hk => (h1.lt k hk).1⟩
theorem RoomI.fits {w wx : World} {p r c : Nat} {d : Dv} {v : Wl} {F G : List Nat} (h : RoomI w wx p r c d v F G) (m : Msg3) :
    Calls Try.prog 41 #[.pointer (some ⟨r, 0, none⟩), .agg #[.int .i64 m.1, .string m.2.1, .string m.2.2]] wx fun e w' => e = .returned (.bool (v.fits m)) ∧ Below wx.heap.size wx w' := by
  obtain ⟨P, hi, _⟩ := h.lw.wal.inn
  have hl := h.ok.len
  have hs := h.ok.size
  have hu := h.ok.fit
  exact wal_Fits hi m (by omega) (by omega) (by omega)
theorem RoomI.add {w wx : World} {p r c : Nat} {d : Dv} {v : Wl} {F G : List Nat} (h : RoomI w wx p r c d v F G) (m : Msg3) (hl : v.pend.length ≤ 240) :
    Calls Try.prog 42 #[.pointer (some ⟨r, 0, none⟩), .agg #[.int .i64 m.1, .string m.2.1, .string m.2.2]] wx fun e w' => e = .returned (.int .i64 (v.add m).2) ∧ ∃ G', RoomI w w' p r c d (v.add m).1 F G' := by
  have hs := h.ok.size
  have hu := h.ok.fit
  refine (wal_Add h.lw.wal h.lw.dev.bel.size m (by omega) (by omega) (by omega)).mono ?_
  rintro e w' ⟨rfl, hp⟩
  obtain ⟨G', hl', _, _⟩ := h.lw.wal1 hp
  refine ⟨rfl, G', hl', ?_, h.fuse, h.on, ?_, h.cl⟩
  · unfold Wl.add
    split
    · rename_i h1
      split
      · rename_i h2
        exact h.ok.add h1 h2 hl
      · exact h.ok
    · exact h.ok
  · unfold Wl.add
    split
    · split
      · exact h.count
      · exact h.count
    · exact h.count
theorem RoomI.count_ {w wx : World} {p r c : Nat} {d : Dv} {v : Wl} {F G : List Nat} (h : RoomI w wx p r c d v F G) (A : Option Addr) (cap : Nat) (W : World) (hr : Row W A (v.pend.flatMap msgCells)) :
    Calls Try.prog 53 #[.slice A v.pend.length cap] W fun e w' => e = .returned (.int .i64 (v.texts.length : Nat)) ∧ Below W.heap.size W w' := by
  have hl := h.ok.len
  have := rec_Count_any A cap v.pend (by omega) W hr
  rw [filter_all h.ok.all, ← texts_length] at this
  exact this
end Go.Proofs.Ytcklgaenedlbiaa

namespace Go.Proofs.Ytcklgaenedlbiaa
open Go.RowKit Go.Sort

theorem row_kept {w w3 : World} {cs : Array Value} {e : TypeId} {B : Nat} (h : Below B (w.alloc (.cells cs e)).drew w3) (hB : B = (w.alloc (.cells cs e)).drew.heap.size := by rfl) : Row w3 (some ⟨w.heap.size, 0, none⟩) cs.toList := by
  subst hB
  exact Row.below (show Row (w.alloc (.cells cs e)).drew (some ⟨w.heap.size, 0, none⟩) cs.toList from row_new w cs e) h
theorem row_kept2 {w w3 : World} {cs : Array Value} {e : TypeId} {B : Nat} (h : Below B (w.drew.alloc (.cells cs e)) w3) (hB : B = (w.drew.alloc (.cells cs e)).heap.size := by rfl) : Row w3 (some ⟨w.heap.size, 0, none⟩) cs.toList := by
  subst hB
  exact Row.below (show Row (w.drew.alloc (.cells cs e)) (some ⟨w.heap.size, 0, none⟩) cs.toList from row_new w.drew cs e) h
theorem bools_get (l : List Bool) (k : Nat) (h : k < l.length) : (bools l)[k]? = some (.bool l[k]) := by simp [bools, h]

set_option maxHeartbeats 32000000 in
set_option maxRecDepth 100000 in
theorem walRoom_walk (fr : Int) (A : Option Addr) (cap : Nat) (l : List Msg3) (S : Option Addr) (scap : Nat) (sy : List Bool) (w : World) (hr : Row w A (l.flatMap msgCells)) (hsr : Row w S (bools sy)) (hsl : sy.length ≤ 9223372036854775807) :
    Calls Try.prog 8 #[.int .i64 fr, .slice A l.length cap, .slice S sy.length scap] w fun e w' => e = .returned (.bool true) ∧ Below w.heap.size w w' := by
  obtain ⟨i0, hi0, hz0, hz1, hz2⟩ := info_parts info_msg
  have HI0 := hid hi0; have HZ0 := hid hz0; have HZ1 := hid hz1; have HZ2 := hid hz2
  clear hi0 hz0 hz1 hz2
  have HR := hid hr; have HSR := hid hsr
  obtain ⟨L, hL⟩ : ∃ L, L = l.length := ⟨_, rfl⟩
  obtain ⟨M, hM⟩ : ∃ M, M = sy.length := ⟨_, rfl⟩
  rw [← hL, ← hM]
  rw [← hM] at hsl
  have HL := hid hL; have HM := hid hM
  clear hr hsr hL hM
  obtain ⟨fr0, hfr, hfl⟩ := umod fr 8 (by decide)
  have efr : IntKind.i64.wrap (fr0 : Int) = (fr0 : Int) := by rw [IntKind.wrap_i64]; omega
  have HFR : Hid (fr0 < 8) := by show fr0 < 8; omega
  by_cases h2 : (200 : Int) < (L : Int)
  · go_enter Try.func8, Try.ntmps8
    go_wp2_with fail
    refine (awake23_any _).mono ?_; rintro e1 w1 ⟨rfl, hb⟩
    have HB := hid hb; clear hb
    go_wp2_with fail
    go_ret
    exact ⟨rfl, HB.out⟩
  have hL200 : L ≤ 200 := by omega
  go_enter Try.func8, Try.ntmps8
  go_wp2_with fail
  refine (awake23_any _).mono ?_; rintro e1 w1 ⟨rfl, hb⟩
  have HB1 := hid hb; clear hb
  go_wp2_with fail
  refine (law23_blocks none 0 [] _ (.inl rfl)).mono ?_; rintro e1 w2 ⟨V, rfl, ho, _, hb⟩
  obtain ⟨g, bcap, rest, rfl, hbk, _⟩ := ownsRow_blk ho (by decide)
  have HB2 := hid (bt HB1.out hb)
  have HROW := hid (show Row w2 (some ⟨g, 0, none⟩) (strs (blkL8 [] 8)) from blk_row hbk)
  clear ho hb hbk HB1
  go_wp2_with fail
  refine (law23_over HB2.out _ bcap (blkL8 [] 8) (blkL8_len [] 8) (fun b hb => by obtain ⟨k, _, rfl⟩ := List.mem_map.1 hb; exact blkOf_size _ _) HROW.out).mono ?_
  rintro e1 w3 ⟨p, F, rfl, hD, _, _⟩
  have D3 := hid hD
  clear hD HB2 HROW
  go_wp2_with fail
  clear hfr hfl efr
  refine (wal_New_yes D3.out 1 fr0 (by decide) (by decide) HFR.out).mono ?_; rintro e1 w4 ⟨r, G, rfl, hW, hb, hG⟩
  have hl4 : LW w w4 p r (overD (blkL8 [] 8)) (Wl.new 1 fr0) F G := ⟨D3.out.below hb, hW, fun k hk hg => by have := D3.out.at_.sizes k hk; have := hG k hg; omega⟩
  have H4 := hid (show ∃ d v F G, RoomI w w4 p r 0 d v F G ∧ v.pend.length ≤ 0 from ⟨_, _, F, G, ⟨hl4, ⟨rfl, HFR.out, by show (1 : Int) ≤ 1; decide, by show (1 : Int) ≤ 2147483647; decide, by simp [Wl.new], by simp [Wl.new], by simp [Wl.new, g2]⟩, by show (-1 : Int) < 0; decide, rfl, Nat.le_refl _, by decide⟩, Nat.le_refl _⟩)
  clear hW hb hG hl4 D3 HFR
  go_wp2_with fail
  go_loopg [10] L (fun g x wx => ∃ k : Nat, k + g = L ∧ x = .int .i64 k ∧ Hid (∃ d v F G, RoomI w wx p r 0 d v F G ∧ v.pend.length ≤ k))
  case atStart => exact ⟨0, by omega, rfl, H4.out⟩
  case round =>
    obtain ⟨k, hk, rfl, HS⟩ := hrel
    by_cases hlt : k < L
    · have hltl : k < l.length := by have := HL.out; omega
      obtain ⟨d, v, Fd, Gd, hI, hpl⟩ := HS.out
      have HI := hid hI; have HP := hid hpl
      obtain ⟨b, off, rfl, hb, hc⟩ := row_cell HR.out (by intro e; have h := msg_at l k 0 l[k] (.int .i64 l[k].1) (by simp [hltl]) rfl; rw [e] at h; cases h)
      obtain ⟨⟨K, kk, vv⟩, hx⟩ : ∃ x, x = l[k] := ⟨_, rfl⟩
      have hxi : l[k]? = some (K, kk, vv) := by rw [hx]; simp [hltl]
      have KM : Hid (∀ wx, Below w.heap.size w wx → wx.cell? ⟨b, off + k * 3, none⟩ = some (.int .i64 K) ∧ wx.cell? ⟨b, off + k * 3 + 1, none⟩ = some (.string kk) ∧ wx.cell? ⟨b, off + k * 3 + 2, none⟩ = some (.string vv)) := fun wx hw => by
        have c0 := hc _ _ (msg_at l k 0 _ (.int .i64 K) hxi rfl)
        rw [← hw.cell (p := ⟨b, off + (k * 3 + 0), none⟩) hb, ← Nat.add_assoc, Nat.add_zero] at c0
        have c1 := hc _ _ (msg_at l k 1 _ (.string kk) hxi rfl)
        rw [← hw.cell (p := ⟨b, off + (k * 3 + 1), none⟩) hb, ← Nat.add_assoc] at c1
        have c2 := hc _ _ (msg_at l k 2 _ (.string vv) hxi rfl)
        rw [← hw.cell (p := ⟨b, off + (k * 3 + 2), none⟩) hb, ← Nat.add_assoc] at c2
        exact ⟨c0, c1, c2⟩
      obtain ⟨c0, c1, c2⟩ := KM.out wr HI.out.lw.dev.bel
      clear hI hpl hb hc hx hxi hltl HS
      obtain ⟨f, hf⟩ : ∃ f, f = msgIs K kk vv := ⟨_, rfl⟩
      have HISC := hid (msg_Is_any K kk vv wr)
      rw [← hf] at HISC
      have HF : Hid (isB (K, kk, vv) = f) := by show isB (K, kk, vv) = f; rw [hf]; rfl
      clear hf
      cases f with
      | false =>
        go_wp2_with fail
        refine HISC.out.mono ?_; rintro e2 w5 ⟨rfl, hb5⟩
        have H5 := hid (show ∃ d v F G, RoomI w w5 p r 0 d v F G ∧ v.pend.length ≤ k + 1 from ⟨d, v, Fd, Gd, HI.out.below hb5, by have := HP.out; omega⟩)
        clear hb5 HISC HI HP KM c0 c1 c2 HF
        go_wp2_with fail
        go_roundg (L - (k + 1))
        case measure => omega
        case rel => exact ⟨k + 1, by omega, by go_num, H5.out⟩
      | true =>
        go_wp2_with fail
        refine HISC.out.mono ?_; rintro e2 w5 ⟨rfl, hb5⟩
        have HI5 := hid (HI.out.below hb5)
        clear hb5 HISC HI c0 c1 c2
        obtain ⟨c0, c1, c2⟩ := KM.out w5 HI5.out.lw.dev.bel
        have HFC := hid (HI5.out.fits (K, kk, vv))
        obtain ⟨fb, hfb⟩ : ∃ fb, fb = v.fits (K, kk, vv) := ⟨_, rfl⟩
        rw [← hfb] at HFC
        have HFB := hid hfb
        clear hfb
        go_wp2_with fail
        refine HFC.out.mono ?_; rintro e2 w6 ⟨rfl, hb6⟩
        have HI6 := hid (HI5.out.below hb6)
        clear hb6 HFC HI5 c0 c1 c2
        obtain ⟨U, hU⟩ : ∃ U, U = v.used := ⟨_, rfl⟩
        obtain ⟨PL, hPL⟩ : ∃ PL, PL = v.pend.length := ⟨_, rfl⟩
        obtain ⟨n, hn⟩ : ∃ n, n = needOf (v.pend ++ [(K, kk, vv)]) := ⟨_, rfl⟩
        obtain ⟨N, hN⟩ : ∃ N, N = U + n := ⟨_, rfl⟩
        have hPL200 : PL ≤ 200 := by have := HP.out; omega
        have hU8 : U ≤ 8 := by have := HI6.out.ok.fit; omega
        have hnl : n ≤ 1000 := by
          rw [hn]
          have h1 := g2_len ((v.pend ++ [(K, kk, vv)]).filter isB) []
          have h2 := List.length_filter_le isB (v.pend ++ [(K, kk, vv)])
          rw [List.length_append, List.length_singleton] at h2
          unfold needOf; omega
        have hfN : fb = decide (N ≤ 8) := by
          rw [HFB.out, hN, hU, hn]
          unfold Wl.fits
          rw [HF.out, Bool.true_and, HI6.out.ok.size]
        have HFN := hid hfN
        have e1 : IntKind.i64.wrap ((U : Int) + (n : Int)) = (N : Int) := by rw [IntKind.wrap_i64]; omega
        have KM6 : Hid (∀ wx, Kept w6 wx → (wx.cell? ⟨b, off + k * 3, none⟩ = some (.int .i64 K) ∧ wx.cell? ⟨b, off + k * 3 + 1, none⟩ = some (.string kk) ∧ wx.cell? ⟨b, off + k * 3 + 2, none⟩ = some (.string vv) ∧ Kept w6 wx)) := fun wx hk => by
          obtain ⟨a0, a1, a2⟩ := KM.out wx (bt HI6.out.lw.dev.bel hk)
          exact ⟨a0, a1, a2, hk⟩
        have KU : Hid (∀ W, Kept w6 W → Calls Try.prog 45 #[.pointer (some ⟨r, 0, none⟩)] W fun e w' => e = .returned (.int .i64 U) ∧ W = w') := fun W hW => by rw [hU]; exact (HI6.out.below hW).used
        have KP : Hid (∀ W, Kept w6 W → Calls Try.prog 44 #[.pointer (some ⟨r, 0, none⟩)] W fun e w' => ∃ A cap, e = .returned (.slice A PL cap) ∧ w'.ownsRowF 0 70 3 (.slice A PL cap) PL (v.pend.flatMap msgCells) ∧ Below W.heap.size W w' ∧ ∀ k, (Value.slice A PL cap).ownBlock = some k → w6.heap.size ≤ k) := fun W hW => by
          refine (HI6.out.below hW).pending.mono ?_
          rintro e w' ⟨A, cap, rfl, ho, hb, hn⟩
          rw [← hPL] at ho hn ⊢
          exact ⟨A, cap, rfl, ho, hb, fun k hk => Nat.le_trans hW.size (hn k hk)⟩
        have KC : Hid (∀ W A cap, Row W A ((v.pend ++ [(K, kk, vv)]).flatMap msgCells) → Calls Try.prog 53 #[.slice A (PL + 1) cap] W fun e w' => e = .returned (.int .i64 n) ∧ Below W.heap.size W w') := fun W A cap hr => by
          have h1 := rec_Count_any A cap (v.pend ++ [(K, kk, vv)]) (by rw [List.length_append, List.length_singleton]; omega) W hr
          rw [List.length_append, List.length_singleton, ← hPL] at h1
          rw [hn]; exact h1
        have HPL := hid hPL200
        have hk00 : Kept w6 w6 := Below.refl _ _
        have hk0 : Kept w6 w6.drew := (Below.refl _ _).drew
        clear hU hPL hn hN hnl hfN hPL200 hU8
        obtain ⟨c0, c1, c2⟩ := KM.out w6 HI6.out.lw.dev.bel
        go_upto_region 14 with fail
        clear c0 c1 c2
        go_region_held3 (fun wx => wx.cell? ⟨b, off + k * 3, none⟩ = some (.int .i64 K) ∧ wx.cell? ⟨b, off + k * 3 + 1, none⟩ = some (.string kk) ∧ wx.cell? ⟨b, off + k * 3 + 2, none⟩ = some (.string vv) ∧ Kept w6 wx)
          ((first | assumption | (refine KM6.out _ ?_; first | assumption | exact Kept.drew (Kept.alloc hk00 _) | exact Kept.drew (by assumption) | exact Kept.alloc (by assumption) _ | exact Kept.go (by assumption) (by assumption))))
          (first
            | (go_at_call 45; with_reducible refine (KU.out _ ?_).mono ?_; (first | assumption | exact Kept.drew (Kept.alloc hk00 _) | exact Kept.drew (by assumption) | exact Kept.alloc (by assumption) _); rintro e w2 ⟨rfl, rfl⟩)
            | (go_at_call 44; with_reducible refine (KP.out _ ?_).mono ?_; (first | assumption | exact Kept.drew (Kept.alloc hk00 _) | exact Kept.drew (by assumption) | exact Kept.alloc (by assumption) _); rintro e w3 ⟨PA, pcap, rfl, ho3, hb_, hv3⟩; (first | (have RB := hid (row_kept hb_)) | (have RB := hid (row_kept2 hb_)) | skip); have hk3 := Kept.go (by first | assumption | exact Kept.drew (Kept.alloc hk00 _) | exact Kept.drew (by assumption) | exact Kept.alloc (by assumption) _) hb_; clear hb_; have HO3 := hid ho3; have HV3 := hid hv3; clear ho3 hv3)
            | (refine step_append_rowG (by rfl) (.tmp 54) (.tmp 59) 74 70 rfl i0 _ 3 40 Try.underlying74 HI0.out HZ0.out HZ1.out HZ2.out rfl (by decide) (.slice PA PL pcap) PL (v.pend.flatMap msgCells) rfl (by first | exact HO3.out | exact ownsRowF_below HO3.out (below_alloc _ _)) _ 1 1 (msgCells (K, kk, vv)) rfl rfl (by first | exact row_new _ #[.int .i64 K, .string kk, .string vv] _ | exact RB.out) (by intro u hu; simp only [msgCells, List.mem_cons, List.not_mem_nil, or_false] at hu; rcases hu with rfl | rfl | rfl <;> rfl) (by have := HPL.out; simp only [maxLen]; omega) (by have := HPL.out; omega) ?_
               intro V7 w7 hown7 hkp7 hvb7
               obtain ⟨A7, cap7, rfl, hr7⟩ := ownsRowF_row hown7
               have hk7 : Kept w6 w7 := Keeps.below (by first | assumption | exact Kept.alloc (by assumption) _) hkp7 (fun x hx => HV3.out x (Option.mem_toList.1 hx))
               have HR7 := hid (show Row w7 A7 ((v.pend ++ [(K, kk, vv)]).flatMap msgCells) from by rw [List.flatMap_append]; simpa using hr7)
               clear hown7 hkp7 hvb7 hr7)
            | (go_at_call 53; with_reducible refine (KC.out _ _ _ HR7.out).mono ?_; rintro e w8 ⟨rfl, hb_⟩; have hk8 := Kept.go hk7 hb_; clear hb_))
        all_goals
          have HI8 := hid (HI6.out.below hk8)
          obtain ⟨c0, c1, c2⟩ := KM.out w8 HI8.out.lw.dev.bel
          clear hk8 hk7 HR7 hk3 HO3 HV3 hk0 hk00 KM6 KU KP KC HI6 e1
          have HAC := hid (HI8.out.add (K, kk, vv) (by have := HP.out; omega))
          obtain ⟨va, hva⟩ : ∃ va, va = (v.add (K, kk, vv)).1 := ⟨_, rfl⟩
          obtain ⟨ca, hca⟩ : ∃ ca, ca = (v.add (K, kk, vv)).2 := ⟨_, rfl⟩
          rw [← hva, ← hca] at HAC
          have hcb : ca = if fb then 0 else 8 := by
            rw [hca, HFB.out]
            unfold Wl.add
            rw [if_pos HF.out]
            split <;> rfl
          have hvl : va.pend.length ≤ k + 1 := by
            rw [hva]
            have := HP.out
            unfold Wl.add
            split
            · split
              · simp only [List.length_append, List.length_singleton]; omega
              · show v.pend.length ≤ k + 1; omega
            · show v.pend.length ≤ k + 1; omega
          have HVL := hid hvl
          have q8 : decide ((N : Int) ≤ 8) = fb := by
            rw [HFN.out]
            by_cases h : N ≤ 8
            · rw [decide_eq_true h, decide_eq_true (by omega)]
            · rw [decide_eq_false h, decide_eq_false (by omega)]
          clear hva hca hvl HF HFB HFN HP KM
          go_wp2_with fail
          refine HAC.out.mono ?_; rintro e2 w9 ⟨rfl, G9, hI9⟩
          have HI9 := hid hI9
          clear hI9 HAC HI8 c0 c1 c2
          obtain ⟨bo, hbo⟩ : ∃ bo : Option Bool, bo = sy[k]? := ⟨_, rfl⟩
          have HSY : Hid (∀ bb, bo = some bb → ∃ sb so, S = some ⟨sb, so, none⟩ ∧ w9.cell? ⟨sb, so + k, none⟩ = some (.bool bb)) := fun bb hbb => by
            have hk' : k < sy.length := by
              rw [hbo] at hbb
              exact (List.getElem?_eq_some_iff.1 hbb).1
            obtain ⟨sb, so, rfl, hlb, hcc⟩ := row_cell HSR.out (by intro e; have h := bools_get sy k hk'; rw [e] at h; cases h)
            have h1 := hcc k _ (bools_get sy k hk')
            rw [← HI9.out.lw.dev.bel.cell (p := ⟨sb, so + k, none⟩) hlb] at h1
            rw [hbo, List.getElem?_eq_getElem hk', Option.some.injEq] at hbb
            rw [← hbb]
            exact ⟨sb, so, rfl, h1⟩
          have hMk : (bo = none ↔ ¬ k < M) := by
            rw [hbo, HM.out, List.getElem?_eq_none_iff]; omega
          clear hbo
          have hq9 : (fb = true ∧ (N : Int) ≤ 8 ∧ ca = 0) ∨ (fb = false ∧ ¬ (N : Int) ≤ 8 ∧ ca = 8) := by
            cases fb
            · exact .inr ⟨rfl, of_decide_eq_false q8, by simpa using hcb⟩
            · exact .inl ⟨rfl, of_decide_eq_true q8, by simpa using hcb⟩
          clear q8 hcb
          rcases bo with _ | bb
          · have hkM : ¬ (k : Int) < (M : Int) := by have := hMk.1 rfl; omega
            clear hMk HSY
            rcases hq9 with ⟨rfl, q9, rfl⟩ | ⟨rfl, q9, rfl⟩
            all_goals
              go_wp2_with fail
              go_roundg (L - (k + 1))
              case measure => omega
              case rel => exact ⟨k + 1, by omega, by go_num, d, va, Fd, G9, HI9.out, HVL.out⟩
          · have hkM' : k < M := by
              rcases Nat.lt_or_ge k M with h | h
              · exact h
              · exact absurd (hMk.2 (by omega)) (by simp)
            have hkM : (k : Int) < (M : Int) := by omega
            obtain ⟨sb, so, rfl, c0⟩ := HSY.out _ rfl
            clear hMk HSY
            cases bb
            · rcases hq9 with ⟨rfl, q9, rfl⟩ | ⟨rfl, q9, rfl⟩
              all_goals
                go_wp2_with fail
                go_roundg (L - (k + 1))
                case measure => omega
                case rel => exact ⟨k + 1, by omega, by go_num, d, va, Fd, G9, HI9.out, HVL.out⟩
            · obtain ⟨U2, hU2⟩ : ∃ u, u = va.used := ⟨_, rfl⟩
              obtain ⟨T2, hT2⟩ : ∃ u, u = va.texts.length := ⟨_, rfl⟩
              obtain ⟨W2, hW2⟩ : ∃ u, u = U2 + T2 := ⟨_, rfl⟩
              have hfit := HI9.out.ok.fit
              rw [← texts_length, ← hU2, ← hT2] at hfit
              have e2 : IntKind.i64.wrap ((U2 : Int) + (T2 : Int)) = (W2 : Int) := by rw [IntKind.wrap_i64]; omega
              have q10 : ¬ (8 : Int) < (W2 : Int) := by omega
              have K1 := hid HI9.out.used
              rw [← hU2] at K1
              have KT : Hid (∀ A cap W, Row W A (va.pend.flatMap msgCells) → Calls Try.prog 53 #[.slice A va.pend.length cap] W fun e w' => e = .returned (.int .i64 T2) ∧ Below W.heap.size W w') := fun A cap W hr => by
                rw [hT2]; exact HI9.out.count_ A cap W hr
              have HW2 : Hid ((syncV va).used = W2) := by show (syncV va).used = W2; rw [sync_used, ← hU2, ← hT2, hW2]
              clear hU2 hT2 hW2 hfit
              rcases hq9 with ⟨rfl, q9, rfl⟩ | ⟨rfl, q9, rfl⟩
              all_goals
                go_wp2_with fail
                refine K1.out.mono ?_; rintro e3 w10 ⟨rfl, rfl⟩
                go_wp2_with fail
                refine HI9.out.pending.mono ?_; rintro e3 w10 ⟨PA3, pc3, rfl, ho, hb, _⟩
                have HI10 := hid (HI9.out.below hb); have HRW := hid (own_rowW ho)
                clear ho hb
                go_wp2_with fail
                refine (KT.out _ _ _ HRW.out).mono ?_; rintro e3 w11 ⟨rfl, hb⟩
                have HI11 := hid (HI10.out.below hb)
                clear hb HI10 HRW
                go_wp2_with fail
                refine HI11.out.sync.mono ?_; rintro e3 w12 ⟨rfl, F12, G12, hI12⟩
                have HI12 := hid hI12
                have K5 := hid hI12.used
                rw [HW2.out] at K5
                have k6 := hI12.pending
                rw [sync_pend] at k6
                have K6 := hid k6
                clear hI12 k6
                go_wp2_with fail
                refine K5.out.mono ?_; rintro e3 w13 ⟨rfl, rfl⟩
                go_wp2_with fail
                refine K6.out.mono ?_; rintro e3 w13 ⟨PA4, pc4, rfl, _, hb, _⟩
                have H13 := hid (show ∃ d v F G, RoomI w w13 p r 0 d v F G ∧ v.pend.length ≤ k + 1 from ⟨_, _, F12, G12, HI12.out.below hb, by rw [sync_pend]; simp⟩)
                clear hb HI12 K5 K6
                go_wp2_with fail
                go_roundg (L - (k + 1))
                case measure => omega
                case rel => exact ⟨k + 1, by omega, by go_num, H13.out⟩
    · obtain ⟨d, v, Fd, Gd, hI, hpl⟩ := HS.out
      have HI := hid hI
      have HY := hid hI.sync
      have hu := hI.ok.sync.fit
      obtain ⟨u2, hu2⟩ : ∃ u, u = (syncV v).used := ⟨_, rfl⟩
      have hu8 : (u2 : Int) ≤ 8 := by omega
      have HU2 := hid hu2
      clear hI hpl hu hu2 HS
      go_wp2_with fail
      refine HY.out.mono ?_; rintro e2 w5 ⟨rfl, F5, G5, hI5⟩
      have HI5 := hid hI5
      have HUS := hid hI5.used
      rw [← HU2.out] at HUS
      clear hI5 HY HI
      go_wp2_with fail
      refine HUS.out.mono ?_; rintro e2 w6 ⟨rfl, rfl⟩
      go_wp2_with fail
      go_ret
      exact ⟨rfl, HI5.out.lw.dev.bel⟩
end Go.Proofs.Ytcklgaenedlbiaa
