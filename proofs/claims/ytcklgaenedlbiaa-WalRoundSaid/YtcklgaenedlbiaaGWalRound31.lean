/-
  The statements of layer 23: elder: the blocks of a log of epochs before.
  A device with a log over it, as a statement goes on: what is kept from deed to deed.
-/
import Derived.Test.YtcklgaenedlbiaaGWalRound30
import Derived.Test.YtcklgaenedlbiaaGWalRound23
import Derived.Test.YtcklgaenedlbiaaGWalRound29
import Derived.Test.YtcklgaenedlbiaaGWalRound26

namespace Go.Proofs.Ytcklgaenedlbiaa
open Go.RowKit Go.Sort

def elderB (n : Nat) (l : List ByteArray) (i : Nat) : ByteArray :=
  if (stampV ((1 + i % (n - 1) : Nat) : Int) (i : Nat) (l.getD i ⟨#[]⟩)).2 = 0 then (stampV ((1 + i % (n - 1) : Nat) : Int) (i : Nat) (l.getD i ⟨#[]⟩)).1 else zerosB
def elderR (n : Nat) (l : List ByteArray) (k : Nat) : List ByteArray := (List.range k).map (elderB n l)
def elderL (n : Nat) (l : List ByteArray) : List ByteArray := blkL8 (elderR n l (min l.length 8)) 8
theorem elderR_snoc (n : Nat) (l : List ByteArray) (k : Nat) : elderR n l (k + 1) = elderR n l k ++ [elderB n l k] := by unfold elderR; rw [List.range_succ, List.map_append]; rfl
theorem elderR_len (n : Nat) (l : List ByteArray) (k : Nat) : (elderR n l k).length = k := by simp [elderR]
theorem elderB_elder {n : Nat} (h2 : 2 ≤ n) (h3 : n ≤ 2000) (l : List ByteArray) (i : Nat) : Elder (n : Int) (elderB n l i) := by
  unfold elderB
  split
  · rename_i h
    have hc : (l.getD i ⟨#[]⟩).size ≤ 218 ∧ 1 ≤ ((1 + i % (n - 1) : Nat) : Int) ∧ ((1 + i % (n - 1) : Nat) : Int) ≤ 2147483647 ∧ 0 ≤ ((i : Nat) : Int) ∧ ((i : Nat) : Int) ≤ 2147483647 := by
      apply Classical.byContradiction
      intro hn
      unfold stampV at h
      rw [if_neg hn] at h
      simp at h
    refine .inr ?_
    rw [readV_stampW hc.1 hc.2.1 hc.2.2.1 hc.2.2.2.1 hc.2.2.2.2]
    show ((1 + i % (n - 1) : Nat) : Int) < (n : Int)
    have := Nat.mod_lt i (show 0 < n - 1 by omega)
    omega
  · exact Elder.zeros _
theorem elderL_elder {n : Nat} (h2 : 2 ≤ n) (h3 : n ≤ 2000) (l : List ByteArray) (k : Nat) (hk : k < 8) : Elder (n : Int) (overF (elderL n l) (2 + k)) := by
  have hlen : (elderL n l).length = 8 := blkL8_len _ 8
  rw [overF_get hlen k hk]
  have he : ∀ h, (elderL n l)[k]'h = blkOf (elderR n l (min l.length 8)) k := fun h => by simp [elderL, blkL8]
  rw [he]
  unfold blkOf
  split
  · rcases Nat.lt_or_ge k (min l.length 8) with h | h
    · have : (elderR n l (min l.length 8)).getD k ⟨#[]⟩ = elderB n l k := by
        rw [List.getD_eq_getElem?_getD, List.getElem?_eq_getElem (by rw [elderR_len]; exact h)]
        simp [elderR]
      rw [this]
      exact elderB_elder h2 h3 l k
    · rename_i hs
      rw [List.getD_eq_getElem?_getD, List.getElem?_eq_none (by rw [elderR_len]; exact h)] at hs
      exact absurd hs (by decide)
  · exact Elder.zeros _

set_option maxHeartbeats 16000000 in
set_option maxRecDepth 100000 in
theorem law23_elder (A : Option Addr) (cap : Nat) (l : List ByteArray) (n : Nat) (h2 : 2 ≤ n) (h3 : n ≤ 2000) (w : World) (hr : Row w A (strs l)) :
    Calls Try.prog 49 #[.slice A l.length cap, .int .i64 n] w fun e w' => ∃ V, e = .returned V ∧ w'.ownsRow 0 9 1 V 8 (strs (elderL n l)) ∧ (∀ k, V.ownBlock = some k → w.heap.size ≤ k) ∧ Below w.heap.size w w' := by
  obtain ⟨i0, hi0, hz0, hz1, hz2⟩ := info_parts info_strs
  have HI0 := hid hi0; have HZ0 := hid hz0; have HZ1 := hid hz1; have HZ2 := hid hz2
  clear hi0 hz0 hz1 hz2
  obtain ⟨b0, hi0, hz0, hz1, hz2⟩ := info_parts info_byteD
  have BI0 := hid hi0; have BZ0 := hid hz0; have BZ1 := hid hz1; have BZ2 := hid hz2
  clear hi0 hz0 hz1 hz2
  have H0 := hid (show Below w.heap.size w (w.alloc (.cells #[] 9)) ∧ (w.alloc (.cells #[] 9)).ownsRowF 0 9 1 (.slice (some ⟨w.heap.size, 0, none⟩) 0 0) 0 [] from ⟨below_alloc _ _, ownsRowF_empty _ _ _⟩)
  have HR := hid hr
  obtain ⟨L, hL⟩ : ∃ L, L = l.length := ⟨_, rfl⟩
  obtain ⟨M, hM⟩ : ∃ M, M = min L 8 := ⟨_, rfl⟩
  have hm : n - 1 ≠ 0 := by omega
  obtain ⟨m, hm1⟩ : ∃ m, m = n - 1 := ⟨_, rfl⟩
  have em : IntKind.i64.wrap ((n : Int) - 1) = (m : Int) := by rw [IntKind.wrap_i64]; omega
  rw [← hL]
  have HK : Hid (∀ k : Nat, k < M → k < L ∧ k < 8 ∧ (k : Int) < (L : Int) ∧ (k : Int) < 8 ∧ k < l.length) := fun k h => by omega
  have HK2 : Hid (∀ k g : Nat, k + g = M → ¬ k < M → k = M ∧ ¬ ((k : Int) < (L : Int) ∧ (k : Int) < 8) ∧ k ≤ 8) := fun k g h h2 => by omega
  have HL := hid hL; have HM := hid hm1; have HMM := hid hM; have HEM := hid em
  have hm0 : ¬ (m : Int) = 0 := by omega
  have hm0' : ((m : Int) == 0) = false := by simpa using hm0
  clear hr hL hM hm hm1 h2 h3 em
  go_enter Try.func49, Try.ntmps49
  go_wp2_with fail
  go_loopg [6, 5] M (fun g x y wx => ∃ k : Nat, k + g = M ∧ x = .int .i64 (k : Nat) ∧ Hid (Below w.heap.size w wx ∧ wx.ownsRowF 0 9 1 y k (strs (elderR n l k)) ∧ ∀ b, y.ownBlock = some b → w.heap.size ≤ b))
  case atStart => exact ⟨0, by omega, rfl, H0.out.1, H0.out.2, fun b hb => by simp [Value.ownBlock] at hb; omega⟩
  case round =>
    obtain ⟨k, hk, rfl, HS⟩ := hrel
    by_cases hlt : k < M
    · obtain ⟨hkL, hk8, hkL', hk8', hltl⟩ := HK.out k hlt
      obtain ⟨b, off, rfl, hb, hc⟩ := row_cell HR.out (strs_ne hltl)
      have c0 := hc _ _ (strs_get l k hltl)
      rw [← HS.out.1.cell (p := ⟨b, off + k, none⟩) hb] at c0
      obtain ⟨x, hx⟩ : ∃ x, x = l[k] := ⟨_, rfl⟩
      have hxd : l.getD k ⟨#[]⟩ = x := by rw [hx, List.getD_eq_getElem?_getD, List.getElem?_eq_getElem hltl]; rfl
      rw [← hx] at c0
      obtain ⟨q, hq⟩ : ∃ q, q = k % m := ⟨_, rfl⟩
      have hqm : q ≤ k := by rw [hq]; exact Nat.mod_le _ _
      obtain ⟨e, he⟩ : ∃ e, e = 1 + q := ⟨_, rfl⟩
      have e1 : (k : Int).tmod (m : Int) = (q : Int) := by rw [hq]; exact (Int.ofNat_tmod _ _).symm
      have e2 : IntKind.i64.wrap (1 + (q : Int)) = (e : Int) := by rw [IntKind.wrap_i64]; omega
      obtain ⟨B, hB⟩ : ∃ B, B = (stampV (e : Int) (k : Nat) x).1 := ⟨_, rfl⟩
      obtain ⟨cc, hcc⟩ : ∃ c, c = (stampV (e : Int) (k : Nat) x).2 := ⟨_, rfl⟩
      have KS : Hid (∀ W, Calls Try.prog 73 #[.int .i64 e, .int .i64 k, .string x] W fun e w' => e = .returned (.tuple #[.string B, .int .i64 cc]) ∧ Below W.heap.size W w') := fun W => by
        rw [hB, hcc]; exact slab_Stamp (e : Int) (k : Nat) x W
      have HEB : Hid (elderB n l k = if cc = 0 then B else zerosB) := by
        show elderB n l k = _
        unfold elderB
        rw [hxd, ← HM.out, ← hq, ← he, ← hB, ← hcc]
      have x0 : ∀ (dd : Nat) (os : Array Obj), (grow (redrawn wr dd) os).cell? ⟨b, off + k, none⟩ = some (.string x) := fun dd os => cell_regrown c0 dd os
      clear hc hb hx hxd hltl hq hqm he hB hcc hkL hk8 c0
      have em := HEM.out
      go_upto_region 5 with fail
      refine wp_region_quiet_below (by kernel_rfl) (by kernel_rfl) ?_
      repeat (go_big_quiet_step (first
        | with_reducible exact Calls.regrown_of (KS.out _)))
      refine wpQuiet_nil ?_
      intro _ hw'
      obtain ⟨⟨dq, osq⟩, hw''⟩ := hw'
      subst hw''
      have HS2 := hid (And.intro (bt HS.out.1 (below_regrown wr dq osq)) (And.intro (ownsRowF_below HS.out.2.1 (below_regrown wr dq osq)) HS.out.2.2))
      obtain ⟨w1, hw1⟩ : ∃ w1, w1 = grow (redrawn wr dq) osq := ⟨_, rfl⟩
      rw [← hw1] at HS2 ⊢
      clear hw1 x0 KS HS
      obtain ⟨y, hy⟩ : ∃ y, y = elderB n l k := ⟨_, rfl⟩
      rw [← hy] at HEB
      have HY := hid hy
      clear hy
      by_cases hcz : cc = 0
      case' pos =>
        have hyB : y = B := by rw [HEB.out, if_pos hcz]
        subst hcz
        clear HEB
        have HYB := hid hyB
        clear hyB
        go_wp2_with (with_reducible refine at_op (.call { callee := .builtin .append, args := #[.tmp 38, .tmp 40], argTypes := #[82, 82] }) rfl ?_; refine Stopped.go ?_)
        rw [← HYB.out]
        obtain ⟨w2, hw2⟩ : ∃ w2, w2 = w1 := ⟨_, rfl⟩
        rw [← hw2] at HS2 ⊢
      case' neg =>
        have hyB : y = zerosB := by rw [HEB.out, if_neg hcz]
        have hcz' : (cc == 0) = false := by simpa using hcz
        have hcz2 : (cc != 0) = true := by simpa using hcz
        clear HEB
        go_wp2_with (with_reducible refine at_op (.makeSlice 63 (.const (.int .i64 256)) (.const (.int .i64 256))) rfl ?_; refine Stopped.go ?_)
        refine Stopped.mk (wpList_make_k rfl _ _ _ rfl 5 b0 (.int .u8 0) Try.underlying63 BI0.out BZ0.out BZ1.out rfl .i64 .i64 256 256 256 rfl rfl rfl rfl (by rw [BZ2.out]; decide) (by decide) ?_)
        intro w2 hB hb1 hs1
        have hB' : Blk w2 w1.heap.size 5 (u8s (List.replicate 256 0)) := by simpa [u8s] using hB
        refine wpList_string rfl _ _ 5 _ rfl ⟨w1.heap.size, 0, none⟩ 256 256 (List.replicate 256 0) rfl (by rw [List.length_replicate]) Try.underlying63 Try.underlying5 Try.underlying9 (fun j hj => hB'.bytes' j hj) ?_
        have hzz : (⟨(List.replicate 256 (0 : UInt8)).toArray⟩ : ByteArray) = zerosB := rfl
        rw [hzz, ← hyB]
        replace HS2 := hid (And.intro (bt HS2.out.1 hb1) (And.intro (ownsRowF_below HS2.out.2.1 hb1) HS2.out.2.2))
        clear hB hb1 hs1 hB' hzz hyB hcz hcz' hcz2
        go_wp2_with (with_reducible refine at_op (.call { callee := .builtin .append, args := #[.tmp 38, .tmp 40], argTypes := #[82, 82] }) rfl ?_; refine Stopped.go ?_)
      all_goals
        refine Stopped.mk ?_
        obtain ⟨s1, s2, s3⟩ := HS2.out
        have hk8 : k < 8 := (HK.out k hlt).2.1
        refine wpList_append_one rfl _ _ 82 9 rfl i0 _ 1 16 Try.underlying82 HI0.out HZ0.out HZ1.out HZ2.out rfl (by decide) _ k _ rfl w2 #[.string y] rfl s2 w2.heap.size rfl 1 rfl rfl (by simp [Value.oneCell']) (by simp only [maxLen]; omega) (by omega) ?_
        intro V w5 hown hkp hvb
        have H5 : Hid (Below w.heap.size w w5 ∧ w5.ownsRowF 0 9 1 V (k + 1) (strs (elderR n l (k + 1))) ∧ ∀ b, V.ownBlock = some b → w.heap.size ≤ b) := by
          refine ⟨Keeps.below s1 hkp (fun x hx => s3 x (Option.mem_toList.1 hx)), ?_, fun x hx => ?_⟩
          · rw [elderR_snoc, ← HY.out]
            simpa only [strs, List.map_append, List.map_cons, List.map_nil] using hown
          · rcases hvb x hx with h | h
            · exact s3 x h
            · have := s1.size; omega
        clear s1 s2 s3 hown hkp hvb HS2 HY
        go_wp2_with fail
        go_roundg (M - (k + 1))
        case measure => omega
        case rel => exact ⟨k + 1, by omega, by go_num, H5⟩
    · obtain ⟨hkM, hout, hkm8⟩ := HK2.out k _ hk hlt
      obtain ⟨s1, s2, s3⟩ := HS.out
      obtain ⟨A2, cap2, rfl, hrow⟩ := ownsRowF_row s2
      have HB := law23_blocks A2 cap2 (elderR n l k) wr hrow
      rw [elderR_len] at HB
      have HBH := hid HB
      have hel : blkL8 (elderR n l k) 8 = elderL n l := by unfold elderL; rw [hkM, HMM.out, HL.out]
      rw [hel] at HBH
      have H1 := hid s1
      clear s1 s2 s3 hrow HB hel HS hkM hk hlt hm0 hm0'
      by_cases hq : (k : Int) < (L : Int)
      case' pos => have hq8 : ¬ (k : Int) < 8 := fun h => hout ⟨hq, h⟩
      all_goals
        clear hout
        go_wp2_with fail
        refine HBH.out.mono ?_; rintro e w3 ⟨V, rfl, ho, hn, hb⟩
        have HO := hid (And.intro ho (And.intro hn hb))
        clear ho hn hb
        go_wp2_with fail
        go_ret
        exact ⟨V, rfl, HO.out.1, fun k hk => Nat.le_trans H1.out.size (HO.out.2.1 k hk), bt H1.out HO.out.2.2⟩
end Go.Proofs.Ytcklgaenedlbiaa

namespace Go.Proofs.Ytcklgaenedlbiaa
open Go.RowKit Go.Sort

theorem texts_pos {v : Wl} (hv : WlOk v) (h : v.pend ≠ []) : 1 ≤ v.texts.length := by
  rw [texts_length]
  exact (g2_bound v.pend [] (by simp) (fun x hx => isB_wt (hv.all x hx)) (by simpa using h)).2
theorem sync_used (v : Wl) : (syncV v).used = v.used + v.texts.length := by
  unfold syncV
  by_cases h : v.pend = []
  · rw [if_pos h, texts_nil h]; rfl
  · rw [if_neg h]
theorem sync_pend (v : Wl) : (syncV v).pend = [] := by
  unfold syncV
  by_cases h : v.pend = []
  · rw [if_pos h]; exact h
  · rw [if_neg h]
theorem sync_same (v : Wl) : (syncV v).size = v.size ∧ (syncV v).epoch = v.epoch ∧ (syncV v).from_ = v.from_ := by
  unfold syncV
  split
  · exact ⟨rfl, rfl, rfl⟩
  · exact ⟨rfl, rfl, rfl⟩
theorem WlOk.sync {v : Wl} (hv : WlOk v) : WlOk (syncV v) := by
  obtain ⟨h1, h2, h3⟩ := sync_same v
  have hf := hv.fit
  rw [← texts_length] at hf
  exact ⟨by rw [h1]; exact hv.size, by rw [h3]; exact hv.from_, by rw [h2]; exact hv.e1, by rw [h2]; exact hv.e2, by rw [sync_pend]; simp, by rw [sync_pend]; simp, by rw [sync_pend, sync_used]; exact hf⟩
theorem filter_all {l : List Msg3} (h : ∀ x ∈ l, isB x = true) : l.filter isB = l := List.filter_eq_self.2 h
theorem need_all {l : List Msg3} (h : ∀ x ∈ l, isB x = true) : needOf l = (g2 [] l).length := by unfold needOf; rw [filter_all h]
theorem WlOk.add {v : Wl} (hv : WlOk v) {m : Msg3} (hm : isB m = true) (hf : v.fits m = true) (hl : v.pend.length ≤ 240) : WlOk { v with pend := v.pend ++ [m] } := by
  have hall : ∀ x ∈ v.pend ++ [m], isB x = true := by
    intro x hx
    rcases List.mem_append.1 hx with h | h
    · exact hv.all x h
    · rw [List.mem_singleton.1 h]; exact hm
  unfold Wl.fits at hf
  rw [hm, Bool.true_and, decide_eq_true_eq, need_all hall, hv.size] at hf
  exact ⟨hv.size, hv.from_, hv.e1, hv.e2, hall, by simp only [List.length_append, List.length_singleton]; omega, hf⟩
/-- a device with a log over it, as a statement goes on -/
structure RoomI (w wx : World) (p r c : Nat) (d : Dv) (v : Wl) (F G : List Nat) : Prop where
  lw : LW w wx p r d v F G
  ok : WlOk v
  fuse : d.fuse < 0
  on : d.off = false
  count : d.loose.length + d.rd + d.wr + d.fl ≤ c + 2 * v.used
  cl : c ≤ 940
theorem RoomI.below {w wx wy : World} {p r c : Nat} {d : Dv} {v : Wl} {F G : List Nat} (h : RoomI w wx p r c d v F G) (hb : Below wx.heap.size wx wy) : RoomI w wy p r c d v F G := ⟨h.lw.below hb, h.ok, h.fuse, h.on, h.count, h.cl⟩
theorem syncD_same (v : Wl) (d : Dv) : (syncD v d).fuse = d.fuse ∧ (syncD v d).off = d.off ∧ (syncD v d).rd = d.rd := by
  unfold syncD
  split
  · exact ⟨rfl, rfl, rfl⟩
  · exact ⟨rfl, rfl, rfl⟩
theorem syncD_count {v : Wl} (hv : WlOk v) (d : Dv) : (syncD v d).loose.length + (syncD v d).wr + (syncD v d).fl ≤ d.loose.length + d.wr + d.fl + 2 * v.texts.length := by
  by_cases h : v.pend = []
  · unfold syncD; rw [if_pos h]; omega
  · have := texts_pos hv h
    unfold syncD; rw [if_neg h]
    simp only [List.length_nil]; omega
theorem RoomI.sync {w wx : World} {p r c : Nat} {d : Dv} {v : Wl} {F G : List Nat} (h : RoomI w wx p r c d v F G) :
    Calls Try.prog 43 #[.pointer (some ⟨r, 0, none⟩)] wx fun e w' => e = .returned (.int .i64 0) ∧ ∃ F' G', RoomI w w' p r c (syncD v d) (syncV v) F' G' := by
  have hu := h.ok.fit
  have hc := h.count
  have hcl := h.cl
  refine (wal_Sync h.lw h.ok h.fuse h.on (by omega)).mono ?_
  rintro e w' ⟨rfl, F', G', hl, _, _⟩
  obtain ⟨s1, s2, s3⟩ := syncD_same v d
  have s4 := syncD_count h.ok d
  exact ⟨rfl, F', G', hl, h.ok.sync, by rw [s1]; exact h.fuse, by rw [s2]; exact h.on, by rw [sync_used, s3]; omega, hcl⟩
theorem RoomI.used {w wx : World} {p r c : Nat} {d : Dv} {v : Wl} {F G : List Nat} (h : RoomI w wx p r c d v F G) :
    Calls Try.prog 45 #[.pointer (some ⟨r, 0, none⟩)] wx fun e w' => e = .returned (.int .i64 v.used) ∧ wx = w' := by
  obtain ⟨P, hi, _⟩ := h.lw.wal.inn
  exact wal_Used hi
theorem RoomI.pending {w wx : World} {p r c : Nat} {d : Dv} {v : Wl} {F G : List Nat} (h : RoomI w wx p r c d v F G) :
    Calls Try.prog 44 #[.pointer (some ⟨r, 0, none⟩)] wx fun e w' => ∃ A cap, e = .returned (.slice A v.pend.length cap) ∧ w'.ownsRowF 0 70 3 (.slice A v.pend.length cap) v.pend.length (v.pend.flatMap msgCells) ∧ Below wx.heap.size wx w' ∧ ∀ k, (Value.slice A v.pend.length cap).ownBlock = some k → wx.heap.size ≤ k := by
  obtain ⟨P, hi, _⟩ := h.lw.wal.inn
  have hl := h.ok.len
  refine (wal_Pending hi (by omega)).mono ?_
  rintro e w' ⟨V, rfl, ho, hb⟩
  have h1 := World.ownsRowF_of ho
  obtain ⟨A, cap, rfl, _⟩ := ownsRowF_row (ownsRowF_zero h1)
  exact ⟨A, cap, rfl, ownsRowF_zero h1, hb, fun k hk => (h1.lt k hk).1⟩
theorem RoomI.fits {w wx : World} {p r c : Nat} {d : Dv} {v : Wl} {F G : List Nat} (h : RoomI w wx p r c d v F G) (m : Msg3) :
    Calls Try.prog 41 #[.pointer (some ⟨r, 0, none⟩), .agg #[.int .i64 m.1, .string m.2.1, .string m.2.2]] wx fun e w' => e = .returned (.bool (v.fits m)) ∧ Below wx.heap.size wx w' := by
  obtain ⟨P, hi, _⟩ := h.lw.wal.inn
  have hl := h.ok.len
  have hs := h.ok.size
  have hu := h.ok.fit
  exact wal_Fits hi m (by omega) (by omega) (by omega)
theorem RoomI.add {w wx : World} {p r c : Nat} {d : Dv} {v : Wl} {F G : List Nat} (h : RoomI w wx p r c d v F G) (m : Msg3) (hl : v.pend.length ≤ 240) :
    Calls Try.prog 42 #[.pointer (some ⟨r, 0, none⟩), .agg #[.int .i64 m.1, .string m.2.1, .string m.2.2]] wx fun e w' => e = .returned (.int .i64 (v.add m).2) ∧ ∃ G', RoomI w w' p r c d (v.add m).1 F G' := by
  have hs := h.ok.size
  have hu := h.ok.fit
  refine (wal_Add h.lw.wal h.lw.dev.bel.size m (by omega) (by omega) (by omega)).mono ?_
  rintro e w' ⟨rfl, hp⟩
  obtain ⟨G', hl', _, _⟩ := h.lw.wal1 hp
  refine ⟨rfl, G', hl', ?_, h.fuse, h.on, ?_, h.cl⟩
  · unfold Wl.add
    split
    · rename_i h1
      split
      · rename_i h2
        exact h.ok.add h1 h2 hl
      · exact h.ok
    · exact h.ok
  · unfold Wl.add
    split
    · split
      · exact h.count
      · exact h.count
    · exact h.count
theorem RoomI.count_ {w wx : World} {p r c : Nat} {d : Dv} {v : Wl} {F G : List Nat} (h : RoomI w wx p r c d v F G) (A : Option Addr) (cap : Nat) (W : World) (hr : Row W A (v.pend.flatMap msgCells)) :
    Calls Try.prog 53 #[.slice A v.pend.length cap] W fun e w' => e = .returned (.int .i64 (v.texts.length : Nat)) ∧ Below W.heap.size W w' := by
  have hl := h.ok.len
  have := rec_Count_any A cap v.pend (by omega) W hr
  rw [filter_all h.ok.all, ← texts_length] at this
  exact this
/-- the same, and what is as it was -/
theorem RoomI.syncK {w wx : World} {p r c : Nat} {d : Dv} {v : Wl} {F G : List Nat} (h : RoomI w wx p r c d v F G) :
    Calls Try.prog 43 #[.pointer (some ⟨r, 0, none⟩)] wx fun e w' => e = .returned (.int .i64 0) ∧ ∃ F' G', RoomI w w' p r c (syncD v d) (syncV v) F' G' ∧ Keeps (F ++ G) wx w' ∧ (∀ k, k ∈ F' ++ G' → k ∈ F ++ G ∨ wx.heap.size ≤ k) := by
  have hu := h.ok.fit
  have hc := h.count
  have hcl := h.cl
  refine (wal_Sync h.lw h.ok h.fuse h.on (by omega)).mono ?_
  rintro e w' ⟨rfl, F', G', hl, hk, hn⟩
  obtain ⟨s1, s2, s3⟩ := syncD_same v d
  have s4 := syncD_count h.ok d
  exact ⟨rfl, F', G', ⟨hl, h.ok.sync, by rw [s1]; exact h.fuse, by rw [s2]; exact h.on, by rw [sync_used, s3]; omega, hcl⟩, hk, hn⟩
theorem RoomI.addK {w wx : World} {p r c : Nat} {d : Dv} {v : Wl} {F G : List Nat} (h : RoomI w wx p r c d v F G) (m : Msg3) (hl : v.pend.length ≤ 240) :
    Calls Try.prog 42 #[.pointer (some ⟨r, 0, none⟩), .agg #[.int .i64 m.1, .string m.2.1, .string m.2.2]] wx fun e w' => e = .returned (.int .i64 (v.add m).2) ∧ ∃ G', RoomI w w' p r c d (v.add m).1 F G' ∧ Keeps G wx w' ∧ (∀ k, k ∈ G' → k ∈ G ∨ wx.heap.size ≤ k) := by
  have hs := h.ok.size
  have hu := h.ok.fit
  refine (wal_Add h.lw.wal h.lw.dev.bel.size m (by omega) (by omega) (by omega)).mono ?_
  rintro e w' ⟨rfl, hp⟩
  obtain ⟨G', hl', hk, hn⟩ := h.lw.wal1 hp
  refine ⟨rfl, G', ⟨hl', ?_, h.fuse, h.on, ?_, h.cl⟩, hk, hn⟩
  · unfold Wl.add
    split
    · rename_i h1
      split
      · rename_i h2
        exact h.ok.add h1 h2 hl
      · exact h.ok
    · exact h.ok
  · unfold Wl.add
    split
    · split
      · exact h.count
      · exact h.count
    · exact h.count
theorem RoomI.scan {w wx : World} {p r c : Nat} {d : Dv} {v : Wl} {F G : List Nat} (h : RoomI w wx p r c d v F G) (e : Int) (f : Nat) (h1 : 1 ≤ e) (h2 : e ≤ 2147483647) (hf : f < 8) (hc : c + 8 ≤ 940) :
    Calls Try.prog 39 #[.pointer (some ⟨p, 0, none⟩), .int .i64 e, .int .i64 f] wx fun e' w' => ∃ A cap l n cc, (l, n, cc) = scanV (rdOf d (Wl.new e f)) ∧ e' = .returned (.tuple #[.slice A l.length cap, .int .i64 (n : Nat), .int .i64 cc]) ∧
      w'.ownsRowF 0 70 3 (.slice A l.length cap) l.length (l.flatMap msgCells) ∧ (∀ k, (Value.slice A l.length cap).ownBlock = some k → wx.heap.size ≤ k) ∧ RoomI w w' p r (c + 8) { d with rd := d.rd + 8 } v F G ∧ Keeps F wx w' := by
  have hcn := h.count
  have hu := h.ok.fit
  refine (wal_Scan h.lw.dev e f h1 h2 hf h.on (by omega)).mono ?_
  rintro e' w' ⟨A, cap, l, n, cc, hlc, rfl, ho, hn, hd, hk⟩
  exact ⟨A, cap, l, n, cc, hlc, rfl, ho, hn, ⟨h.lw.dev0 hd hk, h.ok, h.fuse, h.on, by simp only; omega, hc⟩, hk⟩
theorem RoomI.next {w wx : World} {p r c : Nat} {d : Dv} {v : Wl} {F G : List Nat} (h : RoomI w wx p r c d v F G) :
    Calls Try.prog 46 #[.pointer (some ⟨r, 0, none⟩)] wx fun e w' => e = .returned (.int .i64 ((v.from_ + v.used) % 8 : Nat)) ∧ Below wx.heap.size wx w' := by
  obtain ⟨P, hi, _⟩ := h.lw.wal.inn
  have hs := h.ok.size
  have hf := h.ok.from_
  have hu := h.ok.fit
  have := wal_Next hi (by omega) (by omega) (by omega) (by omega)
  rw [hs] at this
  exact this
/-- what is written lies beside both -/
theorem RoomI.other {w wx wy : World} {p r c : Nat} {d : Dv} {v : Wl} {F G X : List Nat} (h : RoomI w wx p r c d v F G) (hk : Keeps X wx wy) (h0 : ∀ k, k ∈ X → w.heap.size ≤ k) (hF : ∀ k, k ∈ F → k ∉ X) (hG : ∀ k, k ∈ G → k ∉ X) : RoomI w wy p r c d v F G :=
  ⟨h.lw.other hk h0 hF hG, h.ok, h.fuse, h.on, h.count, h.cl⟩
end Go.Proofs.Ytcklgaenedlbiaa
