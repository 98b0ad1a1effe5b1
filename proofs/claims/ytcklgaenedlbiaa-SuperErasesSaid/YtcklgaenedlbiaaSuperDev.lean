/-
  Superblocks on a device: walked.
-/
import Derived.Test.YtcklgaenedlbiaaSuperRead
import Derived.Test.YtcklgaenedlbiaaDevLaws
import Derived.Lib.QuietBelow
namespace Go.Proofs.Ytcklgaenedlbiaa
open Go.RowKit Go.Sort

def zeros256 : ByteArray := ⟨(List.replicate 256 (0 : UInt8)).toArray⟩
theorem zeros256_size : zeros256.size = 256 := (List.size_toArray ..).trans List.length_replicate
/-- what a deed leaves of a device -/
def DPost (w0 w w' : World) (p n : Nat) (d' : Dv) (F : List Nat) : Prop := ∃ F', Dev w0 w' p n d' F' ∧ Keeps F w w' ∧ ∀ k, k ∈ F' → k ∈ F ∨ w.heap.size ≤ k
theorem DPost.dev {w0 w w' : World} {p n : Nat} {d' : Dv} {F : List Nat} (h : DPost w0 w w' p n d' F) : ∃ F', Dev w0 w' p n d' F' := by obtain ⟨F', h, _⟩ := h; exact ⟨F', h⟩
/-- one deed behind another -/
theorem DPost.step {w0 w w' w'' : World} {p n : Nat} {d'' : Dv} {F F' : List Nat} (hk : Keeps F w w') (hF : ∀ k, k ∈ F' → k ∈ F ∨ w.heap.size ≤ k) (h : DPost w0 w' w'' p n d'' F') : DPost w0 w w'' p n d'' F := by
  obtain ⟨F2, h1, h2, h3⟩ := h
  refine ⟨F2, h1, hk.go h2 hF, fun k hk2 => ?_⟩
  rcases h3 k hk2 with h | h
  · exact hF k h
  · exact .inr (Nat.le_trans hk.size h)
theorem DPost.same {w0 w w' : World} {p n : Nat} {d' : Dv} {F : List Nat} (h : Dev w0 w' p n d' F) (hk : Keeps F w w') : DPost w0 w w' p n d' F := ⟨F, h, hk, fun _ h => .inl h⟩
theorem DPost.pre {w0 w w1 w' : World} {p n : Nat} {d' : Dv} {F : List Nat} (hb : Below w.heap.size w w1) (h : DPost w0 w1 w' p n d' F) : DPost w0 w w' p n d' F :=
  DPost.step (Keeps.of hb) (fun _ h => .inl h) h
theorem DPost.post {w0 w w' w2 : World} {p n : Nat} {d' : Dv} {F : List Nat} (h : DPost w0 w w' p n d' F) (hb : Below w'.heap.size w' w2) : DPost w0 w w2 p n d' F := by
  obtain ⟨F', h1, h2, h3⟩ := h
  exact ⟨F', h1.below hb, h2.trans (Keeps.of hb), h3⟩
theorem Dev.other {w0 w w' : World} {p n g : Nat} {d : Dv} {F : List Nat} (h : Dev w0 w p n d F) (hk : Keeps [g] w w') (hF : g ∉ F) (hg : w0.heap.size ≤ g) : Dev w0 w' p n d F :=
  ⟨h.at_.keeps hk (fun k hkF hk2 => by simp at hk2; exact hF (by rw [← hk2]; exact hkF)), Keeps.below1 h.bel hk hg, h.own, h.ok, h.kl, h.ll⟩
def Dv.room (d : Dv) : Nat := d.loose.length + d.rd + d.wr + d.fl
theorem Dv.write_room (d : Dv) (x : Nat × ByteArray) : (d.write x).room ≤ d.room + 2 := by
  have hs := d.burn_same
  unfold Dv.write Dv.room
  split
  · omega
  · simp only [List.length_append, List.length_cons, List.length_nil]; omega
theorem Dv.flush_room (d : Dv) : d.flush.room ≤ d.room + 1 := by
  have hs := d.burn_same
  unfold Dv.flush Dv.room
  split
  · omega
  · simp only [List.length_nil]; omega

theorem superRead_good {b : ByteArray} (h : (superReadV b).2 = 0) : goodB (superReadV b).1 = true := by
  unfold superReadV at h ⊢
  split at h
  · rename_i hc
    rw [if_pos hc]
    unfold superParse at h ⊢
    split at h
    · rename_i hp
      rw [if_pos hp]
      exact hp.2.2.2
    · cases h
  · rename_i hc
    exact absurd h hc
set_option maxHeartbeats 1000000 in
theorem super_at (s : Sup) (hs : 0 ≤ s.epoch) (w : World) :
    Calls Try.prog 65 #[.agg s.vals] w fun e w' => e = .returned (.int .i64 (s.epoch % 2)) ∧ Below w.heap.size w w' := by
  obtain ⟨B, E, R, F, N, I, W⟩ := s
  simp only [Sup.vals]
  simp only at hs
  have HA := hid (below_alloc w (.cells #[.int .i64 B, .int .i64 E, .int .i64 R, .int .i64 F, .int .i64 N, .int .i64 I, .int .i64 W] 60))
  obtain ⟨v, hv⟩ : ∃ v, v = E % 2 := ⟨_, rfl⟩
  have e0 : E.tmod 2 = v := by rw [Int.tmod_eq_emod_of_nonneg hs, hv]
  have e1 : IntKind.i64.wrap v = v := by rw [IntKind.wrap_i64]; omega
  rw [← hv]
  have HV := hid hv.symm
  clear hv
  go_enter Try.func65, Try.ntmps65
  go_wp2_with fail
  go_ret
  exact ⟨by first | rfl | (rw [← HV.out]; rfl), HA.out⟩

/-- a block, written and flushed: the error, the device -/
def safeV (d : Dv) (x : Nat × ByteArray) : Int × Dv := if d.burn.off then (4, d.write x) else (if (d.write x).burn.off then 4 else 0, (d.write x).flush)
theorem safeV_room (d : Dv) (x : Nat × ByteArray) : (safeV d x).2.room ≤ d.room + 3 := by
  have h1 := d.write_room x
  have h2 := (d.write x).flush_room
  unfold safeV
  split <;> simp only <;> omega
set_option maxHeartbeats 2000000 in
theorem dv_safe {w0 w : World} {p n : Nat} {d : Dv} {F : List Nat} (h : Dev w0 w p n d F) (i : Nat) (blk : ByteArray) (hi : i < n) (hb : blk.size = 256) (hroom : d.room ≤ 980) :
    Calls Try.prog 66 #[.pointer (some ⟨p, 0, none⟩), .int .i64 i, .string blk] w fun e w' => e = .returned (.int .i64 (safeV d (i, blk)).1) ∧ DPost w0 w w' p n (safeV d (i, blk)).2 F := by
  have hw := d.write_room (i, blk)
  have HC := hid (dv_Write h i blk hi hb (by unfold Dv.room at hroom; omega))
  obtain ⟨o, ho⟩ : ∃ o, o = d.burn.off := ⟨_, rfl⟩
  rw [← ho] at HC
  cases o with
  | true =>
    have hv : safeV d (i, blk) = (4, d.write (i, blk)) := by unfold safeV; rw [← ho]; rfl
    rw [hv]
    clear hv ho hw hroom h
    go_enter Try.func66, Try.ntmps66
    go_wp2_with fail
    refine HC.out.mono ?_; rintro e w1 ⟨rfl, F1, hD, hk, hF⟩
    have HP := hid (show DPost w0 w w1 p n (d.write (i, blk)) F from ⟨F1, hD, hk, hF⟩)
    clear hD hk hF HC
    go_wp2_with fail
    go_ret
    exact ⟨rfl, HP.out⟩
  | false =>
    obtain ⟨d1, hd1⟩ : ∃ d1, d1 = d.write (i, blk) := ⟨_, rfl⟩
    rw [← hd1] at HC hw
    have hv : safeV d (i, blk) = (if d1.burn.off then 4 else 0, d1.flush) := by unfold safeV; rw [← ho, hd1]; rfl
    rw [hv]
    obtain ⟨c, hc⟩ : ∃ c : Int, c = if d1.burn.off then 4 else 0 := ⟨_, rfl⟩
    rw [← hc]
    have HCC := hid hc
    have HRM := hid (show d1.room ≤ 990 by omega)
    clear hv ho hw hroom h hd1 hc
    go_enter Try.func66, Try.ntmps66
    go_wp2_with fail
    refine HC.out.mono ?_; rintro e w1 ⟨rfl, F1, hD, hk, hF⟩
    have HX := hid (And.intro hk hF)
    have HF := hid (dv_Flush hD (by have := HRM.out; unfold Dv.room at this; omega))
    rw [← HCC.out] at HF
    clear hD hk hF HC HCC
    go_wp2_with fail
    refine HF.out.mono ?_; rintro e w2 ⟨rfl, hD, hk⟩
    have HP := hid (DPost.step HX.out.1 HX.out.2 (DPost.same hD hk))
    clear hD hk HF
    go_wp2_with fail
    go_ret
    exact ⟨rfl, HP.out⟩
set_option maxHeartbeats 2000000 in
theorem dv_blank {w0 w : World} {p n : Nat} {d : Dv} {F : List Nat} (h : Dev w0 w p n d F) (i : Nat) (hi : i < n) (hroom : d.room ≤ 980) :
    Calls Try.prog 64 #[.pointer (some ⟨p, 0, none⟩), .int .i64 i] w fun e w' => e = .returned (.int .i64 (safeV d (i, zeros256)).1) ∧ DPost w0 w w' p n (safeV d (i, zeros256)).2 F := by
  obtain ⟨⟨c, d2⟩, hv⟩ : ∃ v, v = safeV d (i, zeros256) := ⟨_, rfl⟩
  rw [← hv]
  have HS := hid (fun w1 (hb : Below w.heap.size w w1) => dv_safe (h.below hb) i zeros256 hi zeros256_size hroom)
  rw [← hv] at HS
  clear hv h
  go_enter Try.func64, Try.ntmps64
  go_wp2_with fail
  refine (Repeat_zeros 256 w (by decide)).mono ?_; rintro e w1 ⟨rfl, hb1⟩
  rw [show (⟨(List.replicate 256 (0 : UInt8)).toArray⟩ : ByteArray) = zeros256 from rfl]
  have HB := hid hb1; clear hb1
  go_wp2_with fail
  refine (HS.out w1 HB.out).mono ?_; rintro e w2 ⟨rfl, hP⟩
  have HP := hid (hP.pre HB.out); clear hP HS
  go_wp2_with fail
  go_ret
  exact ⟨rfl, HP.out⟩

/-! the best one -/
def bestP (n : Nat) (acc : Sup) (a : Nat) (b : ByteArray) : Sup := if (superReadV b).2 = 0 ∧ (superReadV b).1.blocks = n ∧ (superReadV b).1.epoch % 2 = a ∧ acc.epoch < (superReadV b).1.epoch then (superReadV b).1 else acc
def bestN (d : Dv) (n : Nat) : Nat → Sup
  | 0 => zeroSup
  | k + 1 => bestP n (bestN d n k) k (d.read k)
def bestV (d : Dv) (n : Nat) : Sup × Int := if (bestN d n 2).epoch = 0 then (zeroSup, 7) else (bestN d n 2, 0)
def BestI (w0 w wx : World) (p n : Nat) (d : Dv) (F : List Nat) (k : Nat) : Prop :=
  Dev w0 wx p n { d with rd := d.rd + k } F ∧ Keeps F w wx ∧ R0 wx w.heap.size 60 #[.int .i64 0, .int .i64 0, .int .i64 0, .int .i64 0, .int .i64 0, .int .i64 0, .int .i64 0] ∧ R0 wx (w.heap.size + 1) 60 (bestN d n k).vals

set_option maxHeartbeats 16000000 in
set_option maxRecDepth 100000 in
theorem dv_Best {w0 w : World} {p n : Nat} {d : Dv} {F : List Nat} (h : Dev w0 w p n d F) (hn : 2 ≤ n) (hof : d.off = false) (hroom : d.room ≤ 980) :
    Calls Try.prog 35 #[.pointer (some ⟨p, 0, none⟩)] w fun e w' => e = .returned (.tuple #[.agg (bestV d n).1.vals, .int .i64 (bestV d n).2]) ∧ Dev w0 w' p n { d with rd := d.rd + 2 } F ∧ Keeps F w w' := by
  have hu := Try.underlying60
  obtain ⟨V, hV⟩ : ∃ V, V = bestV d n := ⟨_, rfl⟩
  rw [← hV]
  have HVV := hid hV
  clear hV
  have hsz := h.at_.sizes
  have hw0 := h.bel.size
  have hA := below_alloc w (.cells #[.int .i64 0, .int .i64 0, .int .i64 0, .int .i64 0, .int .i64 0, .int .i64 0, .int .i64 0] 60)
  have hA2 := below_alloc (w.alloc (.cells #[.int .i64 0, .int .i64 0, .int .i64 0, .int .i64 0, .int .i64 0, .int .i64 0, .int .i64 0] 60)) (.cells #[.int .i64 0, .int .i64 0, .int .i64 0, .int .i64 0, .int .i64 0, .int .i64 0, .int .i64 0] 60)
  have hN : R0 (w.alloc (.cells #[.int .i64 0, .int .i64 0, .int .i64 0, .int .i64 0, .int .i64 0, .int .i64 0, .int .i64 0] 60)) w.heap.size 60 #[.int .i64 0, .int .i64 0, .int .i64 0, .int .i64 0, .int .i64 0, .int .i64 0, .int .i64 0] := heap_alloc_new w _
  have hN2 : R0 ((w.alloc (.cells #[.int .i64 0, .int .i64 0, .int .i64 0, .int .i64 0, .int .i64 0, .int .i64 0, .int .i64 0] 60)).alloc (.cells #[.int .i64 0, .int .i64 0, .int .i64 0, .int .i64 0, .int .i64 0, .int .i64 0, .int .i64 0] 60)) (w.heap.size + 1) 60 #[.int .i64 0, .int .i64 0, .int .i64 0, .int .i64 0, .int .i64 0, .int .i64 0, .int .i64 0] := by
    have := heap_alloc_new (w.alloc (.cells #[.int .i64 0, .int .i64 0, .int .i64 0, .int .i64 0, .int .i64 0, .int .i64 0, .int .i64 0] 60)) (.cells #[.int .i64 0, .int .i64 0, .int .i64 0, .int .i64 0, .int .i64 0, .int .i64 0, .int .i64 0] 60)
    rwa [show (w.alloc (.cells #[.int .i64 0, .int .i64 0, .int .i64 0, .int .i64 0, .int .i64 0, .int .i64 0, .int .i64 0] 60)).heap.size = w.heap.size + 1 by simp] at this
  have HB0 := hid (show BestI w0 w ((w.alloc (.cells #[.int .i64 0, .int .i64 0, .int .i64 0, .int .i64 0, .int .i64 0, .int .i64 0, .int .i64 0] 60)).alloc (.cells #[.int .i64 0, .int .i64 0, .int .i64 0, .int .i64 0, .int .i64 0, .int .i64 0, .int .i64 0] 60)) p n d F 0 from
    ⟨(h.below hA).below hA2, (Keeps.of hA).trans (Keeps.of hA2), hN.belowS hA2, hN2⟩)
  have HF2 : Hid (w.heap.size ∉ F ∧ w.heap.size + 1 ∉ F ∧ w0.heap.size ≤ w.heap.size) := ⟨fun hh => by have := hsz _ hh; omega, fun hh => by have := hsz _ hh; omega, hw0⟩
  have HRM := hid hroom
  clear hA hA2 hN hN2 h hsz hw0 hroom
  go_enter Try.func35, Try.ntmps35
  go_wp2_with fail
  go_loopg [12] 2 (fun g x wx => ∃ k : Nat, k + g = 2 ∧ x = .int .i64 k ∧ Hid (BestI w0 w wx p n d F k))
  case atStart => exact ⟨0, rfl, rfl, HB0.out⟩
  case round =>
    clear HB0
    obtain ⟨k, hk, rfl, HS⟩ := hrel
    by_cases hlt : k < 2
    · have hlt' : (k : Int) < 2 := by omega
      have HC := hid (dv_Read HS.out.1 k (by have := HS.out.1.ok.n1; omega) hof (by have := HRM.out; unfold Dv.room at this; simp only; omega))
      obtain ⟨blk, hblk⟩ : ∃ b, b = d.read k := ⟨_, rfl⟩
      rw [show Dv.read { d with rd := d.rd + k } k = blk from hblk.symm] at HC
      have hb1 : bestN d n (k + 1) = bestP n (bestN d n k) k blk := by rw [hblk]; rfl
      obtain ⟨acc, hacc⟩ : ∃ a, a = bestN d n k := ⟨_, rfl⟩
      obtain ⟨⟨v, code⟩, hv⟩ : ∃ v, v = superReadV blk := ⟨_, rfl⟩
      have HR := hid (fun w' => super_Read blk w')
      rw [← hv] at HR
      have hgood := superRead_good (b := blk)
      rw [← hv] at hgood
      unfold bestP at hb1
      rw [← hv, ← hacc] at hb1
      simp only at hb1
      obtain ⟨B, E, R, Fr, N, I, W⟩ := v
      simp only [Sup.vals] at HR
      simp only at hb1
      have hS4 := HS.out.2.2.2
      rw [← hacc] at hS4
      obtain ⟨aB, aE, aR, aF, aN, aI, aW⟩ := acc
      simp only [Sup.vals] at hS4
      simp only at hb1
      have HS4 := hid hS4
      have hE1 : code = 0 → 1 ≤ E := fun hc => by
        have := good_facts (hgood hc)
        obtain ⟨_, _, _, _, h, _⟩ := this
        exact h
      clear hgood
      have HE1 := hid hE1; clear hE1
      have HB1 := hid hb1
      clear hblk hb1 hacc hv hS4
      go_wp2_with fail
      refine HC.out.mono ?_; rintro e w3 ⟨rfl, hD, hk3⟩
      have H3 := hid (show Dev w0 w3 p n { d with rd := d.rd + (k + 1) } F ∧ Keeps F w w3 ∧ R0 w3 w.heap.size 60 #[.int .i64 0, .int .i64 0, .int .i64 0, .int .i64 0, .int .i64 0, .int .i64 0, .int .i64 0] ∧ R0 w3 (w.heap.size + 1) 60 #[.int .i64 aB, .int .i64 aE, .int .i64 aR, .int .i64 aF, .int .i64 aN, .int .i64 aI, .int .i64 aW] from
        ⟨hD, HS.out.2.1.trans hk3, HS.out.2.2.1.keeps hk3 HF2.out.1, HS4.out.keeps hk3 HF2.out.2.1⟩)
      clear hD hk3 HC HS HS4
      go_wp2_with fail
      refine (HR.out w3).mono ?_; rintro e w4 ⟨rfl, hb4⟩
      have hA5 := below_alloc w4 (.cells #[.int .i64 B, .int .i64 E, .int .i64 R, .int .i64 Fr, .int .i64 N, .int .i64 I, .int .i64 W] 60)
      have hN5 : R0 (w4.alloc (.cells #[.int .i64 B, .int .i64 E, .int .i64 R, .int .i64 Fr, .int .i64 N, .int .i64 I, .int .i64 W] 60)) w4.heap.size 60 #[.int .i64 B, .int .i64 E, .int .i64 R, .int .i64 Fr, .int .i64 N, .int .i64 I, .int .i64 W] := heap_alloc_new w4 _
      obtain ⟨g8, hg8⟩ : ∃ g, g = w4.heap.size := ⟨_, rfl⟩
      have h48 : w.heap.size + 1 < g8 := by have := (H3.out.2.2.2.belowS hb4).lt; omega
      rw [← hg8] at hN5
      have H5 := hid (show Dev w0 (w4.alloc (.cells #[.int .i64 B, .int .i64 E, .int .i64 R, .int .i64 Fr, .int .i64 N, .int .i64 I, .int .i64 W] 60)) p n { d with rd := d.rd + (k + 1) } F ∧ Keeps F w (w4.alloc (.cells #[.int .i64 B, .int .i64 E, .int .i64 R, .int .i64 Fr, .int .i64 N, .int .i64 I, .int .i64 W] 60)) ∧ R0 (w4.alloc (.cells #[.int .i64 B, .int .i64 E, .int .i64 R, .int .i64 Fr, .int .i64 N, .int .i64 I, .int .i64 W] 60)) w.heap.size 60 #[.int .i64 0, .int .i64 0, .int .i64 0, .int .i64 0, .int .i64 0, .int .i64 0, .int .i64 0] ∧ R0 (w4.alloc (.cells #[.int .i64 B, .int .i64 E, .int .i64 R, .int .i64 Fr, .int .i64 N, .int .i64 I, .int .i64 W] 60)) (w.heap.size + 1) 60 #[.int .i64 aB, .int .i64 aE, .int .i64 aR, .int .i64 aF, .int .i64 aN, .int .i64 aI, .int .i64 aW] ∧ R0 (w4.alloc (.cells #[.int .i64 B, .int .i64 E, .int .i64 R, .int .i64 Fr, .int .i64 N, .int .i64 I, .int .i64 W] 60)) g8 60 #[.int .i64 B, .int .i64 E, .int .i64 R, .int .i64 Fr, .int .i64 N, .int .i64 I, .int .i64 W] from
        ⟨(H3.out.1.below hb4).below hA5, (H3.out.2.1.trans (Keeps.of hb4)).trans (Keeps.of hA5), (H3.out.2.2.1.belowS hb4).belowS hA5, (H3.out.2.2.2.belowS hb4).belowS hA5, hN5⟩)
      have HG8 := hid hg8
      clear hb4 hA5 hN5 hg8 H3 HR
      go_wp2_with fail
      rw [← HG8.out]
      clear HG8
      generalize w4.alloc (.cells #[.int .i64 B, .int .i64 E, .int .i64 R, .int .i64 Fr, .int .i64 N, .int .i64 I, .int .i64 W] 60) = w5 at H5 ⊢
      have I1 : Hid (∀ dd os, Calls Try.prog 30 #[.pointer (some ⟨p, 0, none⟩)] (grow (redrawn w5 dd) os) fun e w' => e = .returned (.int .i64 n) ∧ Below (grow (redrawn w5 dd) os).heap.size (grow (redrawn w5 dd) os) w') := fun dd os =>
        (dev_Len (grow (redrawn w5 dd) os) p _ F (H5.out.1.below (below_regrown w5 dd os)).at_ n H5.out.1.ok).mono fun e w' ⟨he, hw⟩ => ⟨he, hw ▸ Below.refl _ _⟩
      have M8 := fun dd os => cells7 (H5.out.2.2.2.2.blk.belowS (below_regrown w5 dd os))
      have m0 := fun dd os => (M8 dd os).1; have m1 := fun dd os => (M8 dd os).2.1; have m2 := fun dd os => (M8 dd os).2.2.1; have m3 := fun dd os => (M8 dd os).2.2.2.1
      have m4 := fun dd os => (M8 dd os).2.2.2.2.1; have m5 := fun dd os => (M8 dd os).2.2.2.2.2.1; have m6 := fun dd os => (M8 dd os).2.2.2.2.2.2
      have m7 := fun dd os => (cells7 (H5.out.2.2.2.1.blk.belowS (below_regrown w5 dd os))).2.1
      clear M8
      by_cases hc : code = 0
      case neg =>
        have q1 : (code == 0) = false := by rw [beq_eq_false_iff_ne]; exact hc
        have I2 : Hid True := trivial
        have HX := hid (show bestN d n (k + 1) = ⟨aB, aE, aR, aF, aN, aI, aW⟩ by rw [HB1.out, if_neg (fun h => hc h.1)])
        go_wp2_with fail
        refine wp_region_quiet_below (by kernel_rfl) (by kernel_rfl) ?_
        repeat (go_big_quiet_step (first
          | with_reducible exact Calls.regrown_of (I1.out _ _)
          | fail))
        refine wpQuiet_nil ?_
        intro _ hw'
        obtain ⟨⟨dq, osq⟩, hw''⟩ := hw'
        subst hw''
        clear m0 m1 m2 m3 m4 m5 m6 m7
        have hq := below_regrown w5 dq osq
        have H6 := hid (show Dev w0 (grow (redrawn w5 dq) osq) p n { d with rd := d.rd + (k + 1) } F ∧ Keeps F w (grow (redrawn w5 dq) osq) ∧ R0 (grow (redrawn w5 dq) osq) w.heap.size 60 #[.int .i64 0, .int .i64 0, .int .i64 0, .int .i64 0, .int .i64 0, .int .i64 0, .int .i64 0] ∧ R0 (grow (redrawn w5 dq) osq) (w.heap.size + 1) 60 #[.int .i64 aB, .int .i64 aE, .int .i64 aR, .int .i64 aF, .int .i64 aN, .int .i64 aI, .int .i64 aW] ∧ R0 (grow (redrawn w5 dq) osq) g8 60 #[.int .i64 B, .int .i64 E, .int .i64 R, .int .i64 Fr, .int .i64 N, .int .i64 I, .int .i64 W] from
          ⟨H5.out.1.below hq, H5.out.2.1.trans (Keeps.of hq), H5.out.2.2.1.belowS hq, H5.out.2.2.2.1.belowS hq, H5.out.2.2.2.2.belowS hq⟩)
        clear hq
        generalize grow (redrawn w5 dq) osq = w6 at H6 ⊢
        go_wp2_with fail
        go_roundg (2 - (k + 1))
        case measure => omega
        case rel => exact ⟨k + 1, by omega, by go_num, H6.out.1, H6.out.2.1, H6.out.2.2.1, by rw [HX.out]; exact H6.out.2.2.2.1⟩
      have I2 : Hid (∀ wx, Calls Try.prog 65 #[.agg #[.int .i64 B, .int .i64 E, .int .i64 R, .int .i64 Fr, .int .i64 N, .int .i64 I, .int .i64 W]] wx fun e w' => e = .returned (.int .i64 (E % 2)) ∧ Below wx.heap.size wx w') := fun wx => super_at ⟨B, E, R, Fr, N, I, W⟩ (by have := HE1.out hc; simp only; omega) wx
      subst hc
      by_cases hB : B = (n : Int)
      case neg =>
        have q2 : (B == (n : Int)) = false := by rw [beq_eq_false_iff_ne]; exact hB
        have HX := hid (show bestN d n (k + 1) = ⟨aB, aE, aR, aF, aN, aI, aW⟩ by rw [HB1.out, if_neg (fun h => hB h.2.1)])
        go_wp2_with fail
        refine wp_region_quiet_below (by kernel_rfl) (by kernel_rfl) ?_
        repeat (go_big_quiet_step (first
          | with_reducible exact Calls.regrown_of (I1.out _ _)
          | with_reducible exact Calls.regrown_of (I2.out _)))
        refine wpQuiet_nil ?_
        intro _ hw'
        obtain ⟨⟨dq, osq⟩, hw''⟩ := hw'
        subst hw''
        clear m0 m1 m2 m3 m4 m5 m6 m7
        have hq := below_regrown w5 dq osq
        have H6 := hid (show Dev w0 (grow (redrawn w5 dq) osq) p n { d with rd := d.rd + (k + 1) } F ∧ Keeps F w (grow (redrawn w5 dq) osq) ∧ R0 (grow (redrawn w5 dq) osq) w.heap.size 60 #[.int .i64 0, .int .i64 0, .int .i64 0, .int .i64 0, .int .i64 0, .int .i64 0, .int .i64 0] ∧ R0 (grow (redrawn w5 dq) osq) (w.heap.size + 1) 60 #[.int .i64 aB, .int .i64 aE, .int .i64 aR, .int .i64 aF, .int .i64 aN, .int .i64 aI, .int .i64 aW] ∧ R0 (grow (redrawn w5 dq) osq) g8 60 #[.int .i64 B, .int .i64 E, .int .i64 R, .int .i64 Fr, .int .i64 N, .int .i64 I, .int .i64 W] from
          ⟨H5.out.1.below hq, H5.out.2.1.trans (Keeps.of hq), H5.out.2.2.1.belowS hq, H5.out.2.2.2.1.belowS hq, H5.out.2.2.2.2.belowS hq⟩)
        clear hq
        generalize grow (redrawn w5 dq) osq = w6 at H6 ⊢
        go_wp2_with fail
        go_roundg (2 - (k + 1))
        case measure => omega
        case rel => exact ⟨k + 1, by omega, by go_num, H6.out.1, H6.out.2.1, H6.out.2.2.1, by rw [HX.out]; exact H6.out.2.2.2.1⟩
      subst hB
      obtain ⟨ep, hep⟩ : ∃ ep, ep = E % 2 := ⟨_, rfl⟩
      rw [← hep] at I2 HB1
      clear hep
      by_cases hp : ep = (k : Int)
      case neg =>
        have q3 : (ep == (k : Int)) = false := by rw [beq_eq_false_iff_ne]; exact hp
        have HX := hid (show bestN d n (k + 1) = ⟨aB, aE, aR, aF, aN, aI, aW⟩ by rw [HB1.out, if_neg (fun h => hp h.2.2.1)])
        go_wp2_with fail
        refine wp_region_quiet_below (by kernel_rfl) (by kernel_rfl) ?_
        repeat (go_big_quiet_step (first
          | with_reducible exact Calls.regrown_of (I1.out _ _)
          | with_reducible exact Calls.regrown_of (I2.out _)))
        refine wpQuiet_nil ?_
        intro _ hw'
        obtain ⟨⟨dq, osq⟩, hw''⟩ := hw'
        subst hw''
        clear m0 m1 m2 m3 m4 m5 m6 m7
        have hq := below_regrown w5 dq osq
        have H6 := hid (show Dev w0 (grow (redrawn w5 dq) osq) p n { d with rd := d.rd + (k + 1) } F ∧ Keeps F w (grow (redrawn w5 dq) osq) ∧ R0 (grow (redrawn w5 dq) osq) w.heap.size 60 #[.int .i64 0, .int .i64 0, .int .i64 0, .int .i64 0, .int .i64 0, .int .i64 0, .int .i64 0] ∧ R0 (grow (redrawn w5 dq) osq) (w.heap.size + 1) 60 #[.int .i64 aB, .int .i64 aE, .int .i64 aR, .int .i64 aF, .int .i64 aN, .int .i64 aI, .int .i64 aW] ∧ R0 (grow (redrawn w5 dq) osq) g8 60 #[.int .i64 (n : Int), .int .i64 E, .int .i64 R, .int .i64 Fr, .int .i64 N, .int .i64 I, .int .i64 W] from
          ⟨H5.out.1.below hq, H5.out.2.1.trans (Keeps.of hq), H5.out.2.2.1.belowS hq, H5.out.2.2.2.1.belowS hq, H5.out.2.2.2.2.belowS hq⟩)
        clear hq
        generalize grow (redrawn w5 dq) osq = w6 at H6 ⊢
        go_wp2_with fail
        go_roundg (2 - (k + 1))
        case measure => omega
        case rel => exact ⟨k + 1, by omega, by go_num, H6.out.1, H6.out.2.1, H6.out.2.2.1, by rw [HX.out]; exact H6.out.2.2.2.1⟩
      subst hp
      by_cases he : aE < E
      case neg =>
        have HX := hid (show bestN d n (k + 1) = ⟨aB, aE, aR, aF, aN, aI, aW⟩ by rw [HB1.out, if_neg (fun h => he h.2.2.2)])
        go_wp2_with fail
        refine wp_region_quiet_below (by kernel_rfl) (by kernel_rfl) ?_
        repeat (go_big_quiet_step (first
          | with_reducible exact Calls.regrown_of (I1.out _ _)
          | with_reducible exact Calls.regrown_of (I2.out _)))
        refine wpQuiet_nil ?_
        intro _ hw'
        obtain ⟨⟨dq, osq⟩, hw''⟩ := hw'
        subst hw''
        clear m0 m1 m2 m3 m4 m5 m6 m7
        have hq := below_regrown w5 dq osq
        have H6 := hid (show Dev w0 (grow (redrawn w5 dq) osq) p n { d with rd := d.rd + (k + 1) } F ∧ Keeps F w (grow (redrawn w5 dq) osq) ∧ R0 (grow (redrawn w5 dq) osq) w.heap.size 60 #[.int .i64 0, .int .i64 0, .int .i64 0, .int .i64 0, .int .i64 0, .int .i64 0, .int .i64 0] ∧ R0 (grow (redrawn w5 dq) osq) (w.heap.size + 1) 60 #[.int .i64 aB, .int .i64 aE, .int .i64 aR, .int .i64 aF, .int .i64 aN, .int .i64 aI, .int .i64 aW] ∧ R0 (grow (redrawn w5 dq) osq) g8 60 #[.int .i64 (n : Int), .int .i64 E, .int .i64 R, .int .i64 Fr, .int .i64 N, .int .i64 I, .int .i64 W] from
          ⟨H5.out.1.below hq, H5.out.2.1.trans (Keeps.of hq), H5.out.2.2.1.belowS hq, H5.out.2.2.2.1.belowS hq, H5.out.2.2.2.2.belowS hq⟩)
        clear hq
        generalize grow (redrawn w5 dq) osq = w6 at H6 ⊢
        go_wp2_with fail
        go_roundg (2 - (k + 1))
        case measure => omega
        case rel => exact ⟨k + 1, by omega, by go_num, H6.out.1, H6.out.2.1, H6.out.2.2.1, by rw [HX.out]; exact H6.out.2.2.2.1⟩
      have HX := hid (show bestN d n (k + 1) = ⟨(n : Int), E, R, Fr, N, I, W⟩ by rw [HB1.out, if_pos ⟨rfl, rfl, rfl, he⟩])
      go_wp2_with fail
      refine wp_region_quiet_below (by kernel_rfl) (by kernel_rfl) ?_
      repeat (go_big_quiet_step (first
        | with_reducible exact Calls.regrown_of (I1.out _ _)
        | with_reducible exact Calls.regrown_of (I2.out _)))
      refine wpQuiet_nil ?_
      intro _ hw'
      obtain ⟨⟨dq, osq⟩, hw''⟩ := hw'
      subst hw''
      clear m0 m1 m2 m3 m4 m5 m6 m7
      have hq := below_regrown w5 dq osq
      have H6 := hid (show Dev w0 (grow (redrawn w5 dq) osq) p n { d with rd := d.rd + (k + 1) } F ∧ Keeps F w (grow (redrawn w5 dq) osq) ∧ R0 (grow (redrawn w5 dq) osq) w.heap.size 60 #[.int .i64 0, .int .i64 0, .int .i64 0, .int .i64 0, .int .i64 0, .int .i64 0, .int .i64 0] ∧ R0 (grow (redrawn w5 dq) osq) (w.heap.size + 1) 60 #[.int .i64 aB, .int .i64 aE, .int .i64 aR, .int .i64 aF, .int .i64 aN, .int .i64 aI, .int .i64 aW] ∧ R0 (grow (redrawn w5 dq) osq) g8 60 #[.int .i64 (n : Int), .int .i64 E, .int .i64 R, .int .i64 Fr, .int .i64 N, .int .i64 I, .int .i64 W] from
        ⟨H5.out.1.below hq, H5.out.2.1.trans (Keeps.of hq), H5.out.2.2.1.belowS hq, H5.out.2.2.2.1.belowS hq, H5.out.2.2.2.2.belowS hq⟩)
      clear hq
      generalize grow (redrawn w5 dq) osq = w6 at H6 ⊢
      obtain ⟨y0, y1, y2, y3, y4, y5, y6⟩ := cells7 H6.out.2.2.2.2.blk
      go_wp2_with (with_reducible refine at_op (.store 60 (.tmp 4) (.tmp 52)) rfl ?_; refine Stopped.go ?_)
      refine Stopped.mk (wpList_store_row_ks rfl _ _ _ rfl (w.heap.size + 1) #[.int .i64 (n : Int), .int .i64 E, .int .i64 R, .int .i64 Fr, .int .i64 N, .int .i64 I, .int .i64 W] rfl rfl _ _ H6.out.2.2.2.1 (by kernel_rfl) rfl (by simp [Value.oneCell']) ?_)
      intro w7 hn7 hk7
      have H7 := hid (show Dev w0 w7 p n { d with rd := d.rd + (k + 1) } F ∧ Keeps F w w7 ∧ R0 w7 w.heap.size 60 #[.int .i64 0, .int .i64 0, .int .i64 0, .int .i64 0, .int .i64 0, .int .i64 0, .int .i64 0] ∧ R0 w7 (w.heap.size + 1) 60 #[.int .i64 (n : Int), .int .i64 E, .int .i64 R, .int .i64 Fr, .int .i64 N, .int .i64 I, .int .i64 W] from
        ⟨H6.out.1.other hk7 HF2.out.2.1 (Nat.le_succ_of_le HF2.out.2.2), H6.out.2.1.go hk7 (fun x hx => by simp at hx; rw [hx]; exact .inr (Nat.le_succ _)), H6.out.2.2.1.keeps hk7 (by simp), hn7⟩)
      clear hn7 hk7 y0 y1 y2 y3 y4 y5 y6 H6
      go_wp2_with fail
      go_roundg (2 - (k + 1))
      case measure => omega
      case rel => exact ⟨k + 1, by omega, by go_num, H7.out.1, H7.out.2.1, H7.out.2.2.1, by rw [HX.out]; exact H7.out.2.2.2⟩
    · have hk2 : k = 2 := by omega
      subst hk2
      have hlt' : ¬ ((2 : Nat) : Int) < 2 := by omega
      have hV := HVV.out
      clear HVV
      unfold bestV at hV
      obtain ⟨acc, hacc⟩ : ∃ a, a = bestN d n 2 := ⟨_, rfl⟩
      have hS4 := HS.out.2.2.2
      rw [← hacc] at hS4 hV
      obtain ⟨B, E, R, Fr, N, I, W⟩ := acc
      simp only [Sup.vals] at hS4
      simp only at hV
      have HS4 := hid hS4
      obtain ⟨y0, y1, y2, y3, y4, y5, y6⟩ := cells7 HS4.out.blk
      clear hacc hS4
      by_cases hE : E = 0
      · rw [if_pos hE] at hV
        have HV := hid hV
        have q1 : (E == 0) = true := by rw [hE]; rfl
        clear hV
        go_wp2_with (with_reducible refine at_op (.store 60 (.tmp 2) (.tmp 57)) rfl ?_; refine Stopped.go ?_)
        refine Stopped.mk (wpList_store_row_ks rfl _ _ _ rfl w.heap.size #[.int .i64 0, .int .i64 0, .int .i64 0, .int .i64 0, .int .i64 0, .int .i64 0, .int .i64 0] rfl rfl _ _ HS.out.2.2.1 (by kernel_rfl) rfl (by simp [Value.oneCell']) ?_)
        intro w7 hn7 hk7
        have H7 := hid (show Dev w0 w7 p n { d with rd := d.rd + 2 } F ∧ Keeps F w w7 ∧ R0 w7 w.heap.size 60 #[.int .i64 0, .int .i64 0, .int .i64 0, .int .i64 0, .int .i64 0, .int .i64 0, .int .i64 0] from
          ⟨HS.out.1.other hk7 HF2.out.1 HF2.out.2.2, HS.out.2.1.go hk7 (fun x hx => by simp at hx; rw [hx]; exact .inr (Nat.le_refl _)), hn7⟩)
        clear hn7 hk7 y0 y1 y2 y3 y4 y5 y6 HS HS4
        go_wp2_with fail
        (try simp only [Exit.inBlock, Exit.then])
        exact bodyPost_ret (results_cell_tmp rfl _ _ w.heap.size _ zeroSup.vals _ rfl H7.out.2.2.blk hu rfl (by kernel_rfl)) rfl ⟨by rw [HV.out]; first | done | rfl, H7.out.1, H7.out.2.1⟩
      · rw [if_neg hE] at hV
        have HV := hid hV
        have q1 : (E == 0) = false := by rw [beq_eq_false_iff_ne]; exact hE
        clear hV
        go_wp2_with (with_reducible refine at_op (.store 60 (.tmp 2) (.tmp 58)) rfl ?_; refine Stopped.go ?_)
        refine Stopped.mk (wpList_store_row_ks rfl _ _ _ rfl w.heap.size #[.int .i64 B, .int .i64 E, .int .i64 R, .int .i64 Fr, .int .i64 N, .int .i64 I, .int .i64 W] rfl rfl _ _ HS.out.2.2.1 (by kernel_rfl) rfl (by simp [Value.oneCell']) ?_)
        intro w7 hn7 hk7
        have H7 := hid (show Dev w0 w7 p n { d with rd := d.rd + 2 } F ∧ Keeps F w w7 ∧ R0 w7 w.heap.size 60 #[.int .i64 B, .int .i64 E, .int .i64 R, .int .i64 Fr, .int .i64 N, .int .i64 I, .int .i64 W] from
          ⟨HS.out.1.other hk7 HF2.out.1 HF2.out.2.2, HS.out.2.1.go hk7 (fun x hx => by simp at hx; rw [hx]; exact .inr (Nat.le_refl _)), hn7⟩)
        clear hn7 hk7 y0 y1 y2 y3 y4 y5 y6 HS HS4
        go_wp2_with fail
        (try simp only [Exit.inBlock, Exit.then])
        exact bodyPost_ret (results_cell_tmp rfl _ _ w.heap.size _ #[.int .i64 B, .int .i64 E, .int .i64 R, .int .i64 Fr, .int .i64 N, .int .i64 I, .int .i64 W] _ rfl H7.out.2.2.blk hu rfl (by kernel_rfl)) rfl ⟨by rw [HV.out]; first | done | rfl, H7.out.1, H7.out.2.1⟩
end Go.Proofs.Ytcklgaenedlbiaa
