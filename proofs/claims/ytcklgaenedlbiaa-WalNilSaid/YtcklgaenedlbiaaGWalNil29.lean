/-
  A log of layer 23: of nothing there is nothing; a small device; a device without power.
  WalNil: of nothing there is nothing; of a device without a plan no log; without power none is read: walked.
-/
import Derived.Test.YtcklgaenedlbiaaGWalNil26
import Derived.Test.YtcklgaenedlbiaaGWalNil28

namespace Go.Proofs.Ytcklgaenedlbiaa
open Go.RowKit Go.Sort

set_option maxHeartbeats 4000000 in
set_option maxRecDepth 100000 in
theorem wal_Fits_nil (w : World) (K : Int) (kk vv : ByteArray) : Calls Try.prog 41 #[.pointer none, .agg #[.int .i64 K, .string kk, .string vv]] w fun e w' => e = .returned (.bool false) ∧ Below w.heap.size w w' := by
  have hA := below_alloc w (.cells #[.int .i64 K, .string kk, .string vv] 70)
  obtain ⟨w1, hw1⟩ : ∃ w1, w1 = w.alloc (.cells #[.int .i64 K, .string kk, .string vv] 70) := ⟨_, rfl⟩
  rw [← hw1] at hA
  have HA := hid hA
  clear hA
  go_enter Try.func41, Try.ntmps41
  go_wp2_with fail
  rw [← hw1]
  clear hw1
  refine wp_region_quiet_below (by kernel_rfl) (by kernel_rfl) ?_
  repeat (go_big_quiet_step (fail))
  refine wpQuiet_nil ?_
  intro _ hw'
  obtain ⟨⟨dq, osq⟩, hw''⟩ := hw'
  subst hw''
  go_wp2_with fail
  go_ret
  exact ⟨rfl, bt HA.out (below_regrown w1 dq osq)⟩
set_option maxHeartbeats 1000000 in
set_option maxRecDepth 100000 in
theorem wal_Add_nil (w : World) (K : Int) (kk vv : ByteArray) : Calls Try.prog 42 #[.pointer none, .agg #[.int .i64 K, .string kk, .string vv]] w fun e w' => e = .returned (.int .i64 2) ∧ Below w.heap.size w w' := by
  go_enter Try.func42, Try.ntmps42
  go_wp2_with fail
  go_ret
  exact ⟨rfl, below_alloc _ _⟩
theorem wal_Sync_nil (w : World) : Calls Try.prog 43 #[.pointer none] w fun e w' => e = .returned (.int .i64 2) ∧ w = w' := by
  go_enter Try.func43, Try.ntmps43
  go_wp2_with fail
  go_ret
  exact ⟨rfl, rfl⟩
theorem wal_Scan_nil (w : World) (e f : Int) : Calls Try.prog 39 #[.pointer none, .int .i64 e, .int .i64 f] w fun e w' => e = .returned (.tuple #[.slice none 0 0, .int .i64 0, .int .i64 2]) ∧ w = w' := by
  go_enter Try.func39, Try.ntmps39
  go_wp2_with fail
  refine (wal_New_nil w e f).mono ?_; rintro e1 w1 ⟨rfl, rfl⟩
  go_wp2_with fail
  go_ret3
  exact ⟨rfl, rfl⟩
theorem wal_Wipe_nil (w : World) : Calls Try.prog 40 #[.pointer none] w fun e w' => e = .returned (.int .i64 2) ∧ w = w' := by
  go_enter Try.func40, Try.ntmps40
  go_wp2_with fail
  refine (wal_New_nil w 1 0).mono ?_; rintro e1 w1 ⟨rfl, rfl⟩
  go_wp2_with fail
  go_ret
  exact ⟨rfl, rfl⟩
set_option maxHeartbeats 1000000 in
set_option maxRecDepth 100000 in
theorem wal_Scan_small {w0 w : World} {p n : Nat} {d : Dv} {F : List Nat} (h : Dev w0 w p n d F) (hn : n < 64) (e f : Int) :
    Calls Try.prog 39 #[.pointer (some ⟨p, 0, none⟩), .int .i64 e, .int .i64 f] w fun e w' => e = .returned (.tuple #[.slice none 0 0, .int .i64 0, .int .i64 1]) ∧ Below w.heap.size w w' := by
  have HN := hid (wal_New_small h hn e f)
  clear h
  go_enter Try.func39, Try.ntmps39
  go_wp2_with fail
  refine HN.out.mono ?_; rintro e1 w1 ⟨rfl, hb⟩
  have HB := hid hb; clear hb
  go_wp2_with fail
  go_ret3
  exact ⟨rfl, HB.out⟩
set_option maxHeartbeats 1000000 in
set_option maxRecDepth 100000 in
theorem wal_Wipe_small {w0 w : World} {p n : Nat} {d : Dv} {F : List Nat} (h : Dev w0 w p n d F) (hn : n < 64) :
    Calls Try.prog 40 #[.pointer (some ⟨p, 0, none⟩)] w fun e w' => e = .returned (.int .i64 1) ∧ Below w.heap.size w w' := by
  have HN := hid (wal_New_small h hn 1 0)
  clear h
  go_enter Try.func40, Try.ntmps40
  go_wp2_with fail
  refine HN.out.mono ?_; rintro e1 w1 ⟨rfl, hb⟩
  have HB := hid hb; clear hb
  go_wp2_with fail
  go_ret
  exact ⟨rfl, HB.out⟩

set_option maxHeartbeats 4000000 in
set_option maxRecDepth 100000 in
/-- without power no block is read -/
theorem wal_read_off {w0 w : World} {p r : Nat} {d : Dv} {v : Wl} {F G : List Nat} (h : LW w0 w p r d v F G) (hv : WlOk v) (k : Nat) (hk : k ≤ 1000) (ho : d.off = true) :
    Calls Try.prog 69 #[.pointer (some ⟨r, 0, none⟩), .int .i64 k] w fun e w' => e = .returned (.tuple #[.slice none 0 0, .int .i64 4]) ∧ Below w.heap.size w w' := by
  have H := hid h; have HV := hid hv
  obtain ⟨aq, haq⟩ : ∃ aq, aq = v.at_ k := ⟨_, rfl⟩
  have haq64 : aq < 64 := by rw [haq]; exact Wl.at_lt hv k
  have q0 : w.cell? ⟨r, 0, none⟩ = some (.pointer (some ⟨p, 0, none⟩)) := h.c0
  have KA : Hid (∀ W, Below w.drew.heap.size w.drew W → Calls Try.prog 70 #[.pointer (some ⟨r, 0, none⟩), .int .i64 k] W fun e w' => e = .returned (.int .i64 aq) ∧ Below W.heap.size W w') := fun W hW => by
    obtain ⟨P, hi, _⟩ := (H.out.below (bd (Below.refl _ w) hW)).wal.inn
    rw [haq]
    exact wal_at hi k (by rw [HV.out.size]; decide) (by rw [HV.out.size]; decide) (by have := HV.out.from_; omega) (by omega)
  have KR : Hid (∀ W, Below w.drew.heap.size w.drew W → Calls Try.prog 22 #[.pointer (some ⟨p, 0, none⟩), .int .i64 aq] W fun e w' => e = .returned (.tuple #[.string ⟨#[]⟩, .int .i64 4]) ∧ Below w.heap.size w w' ∧ w'.cell? ⟨r, 0, none⟩ = some (.pointer (some ⟨p, 0, none⟩))) := fun W hW => by
    have hb2 := bd (Below.refl _ w) hW
    have h1 := H.out.below hb2
    refine (dev_Read_off W p d F h1.dev.at_ 64 h1.dev.ok aq haq64 ho).mono ?_
    rintro e w' ⟨rfl, rfl⟩
    exact ⟨rfl, hb2, h1.c0⟩
  have KQ : Hid (∀ W, Below w.drew.heap.size w.drew W → W.cell? ⟨r, 0, none⟩ = some (.pointer (some ⟨p, 0, none⟩))) := fun W hW => (H.out.below (bd (Below.refl _ w) hW)).c0
  have hb0 : Below w.drew.heap.size w.drew w.drew := Below.refl _ _
  clear h hv haq haq64 ho
  go_enter Try.func69, Try.ntmps69
  go_wp2_with fail
  go_region_held3 (fun wx => wx.cell? ⟨r, 0, none⟩ = some (.pointer (some ⟨p, 0, none⟩)))
    ((first | assumption | exact q0 | exact hq7 | exact hq8))
    (first
      | (go_at_call 70; with_reducible refine (KA.out _ hb0).mono ?_; rintro e w7 ⟨rfl, hb_⟩; have hq7 := KQ.out _ hb_; have hb7 := hb_; clear hb_)
      | (go_at_call 22; with_reducible refine (KR.out _ hb7).mono ?_; rintro e w8 ⟨rfl, hb8, hq8⟩; have H8 := hid hb8; clear hb8))
  clear hq7 hq8 hb7 hb0 q0 KQ KA KR
  go_wp2_with fail
  go_ret2
  exact ⟨rfl, H8.out⟩
set_option maxHeartbeats 4000000 in
set_option maxRecDepth 100000 in
theorem wal_Scan_off {w0 w : World} {p : Nat} {d : Dv} {F : List Nat} (h : Dev w0 w p 64 d F) (e : Int) (f : Nat) (h1 : 1 ≤ e) (h2 : e ≤ 2147483647) (hf : f < 8) (ho : d.off = true) :
    Calls Try.prog 39 #[.pointer (some ⟨p, 0, none⟩), .int .i64 e, .int .i64 f] w fun e' w' => e' = .returned (.tuple #[.slice none 0 0, .int .i64 0, .int .i64 4]) ∧ Below w.heap.size w w' := by
  have HN := hid (wal_New_yes h e f h1 h2 hf)
  have H := hid h; have HE := hid (And.intro h1 (And.intro h2 (And.intro hf ho)))
  clear h h1 h2 hf ho
  go_enter Try.func39, Try.ntmps39
  go_wp2_with fail
  refine HN.out.mono ?_; rintro e1 w1 ⟨r, G, rfl, hW, hb1, hG⟩
  have hl0 : LW w0 w1 p r d (Wl.new e f) F G := ⟨H.out.below hb1, hW, fun k hk hg => by have := H.out.at_.sizes k hk; have := hG k hg; omega⟩
  have q1 : w1.cell? ⟨r, 1, none⟩ = some (.int .i64 8) := by obtain ⟨P, hi, _⟩ := hW.inn; exact hi.box.at rfl
  have HL0 := hid hl0; have HB1 := hid hb1
  clear hW hb1 hG hl0 HN
  go_wp2_with fail
  clear q1
  go_loopg [30] 8 (fun g j wx => j = .int .i64 0 ∧ Hid (wx = w1))
  case atStart => exact ⟨rfl, rfl⟩
  case round =>
    obtain ⟨rfl, HW⟩ := hrel
    have hw := HW.out
    subst hw
    clear HW
    have HR := hid (wal_read_off HL0.out (⟨rfl, HE.out.2.2.1, HE.out.1, HE.out.2.1, by simp [Wl.new], by simp [Wl.new], by simp [Wl.new, g2]⟩ : WlOk (Wl.new e f)) 0 (by decide) HE.out.2.2.2)
    go_wp2_with fail
    refine HR.out.mono ?_; rintro e2 w2 ⟨rfl, hb2⟩
    have HB2 := hid hb2; clear hb2 HR
    go_wp2_with fail
    go_ret3
    exact ⟨rfl, bt HB1.out HB2.out⟩
end Go.Proofs.Ytcklgaenedlbiaa

namespace Go.Proofs.Ytcklgaenedlbiaa
open Go.RowKit Go.Sort

set_option maxHeartbeats 16000000 in
set_option maxRecDepth 100000 in
theorem walNil_walk (n e : Int) (K : Int) (kk vv : ByteArray) (w : World) :
    Calls Try.prog 6 #[.int .i64 n, .int .i64 e, .agg #[.int .i64 K, .string kk, .string vv]] w fun e w' => e = .returned (.bool true) ∧ Below w.heap.size w w' := by
  obtain ⟨w1, hw1⟩ : ∃ w1, w1 = w.alloc (.cells #[.int .i64 K, .string kk, .string vv] 70) := ⟨_, rfl⟩
  obtain ⟨g, hg⟩ : ∃ g, g = w.heap.size := ⟨_, rfl⟩
  have hbx : Blk w1 g 70 [.int .i64 K, .string kk, .string vv] := by rw [hw1, hg]; exact Blk.new _ _ _
  have hA : Below w.heap.size w w1 := by rw [hw1]; exact below_alloc _ _
  have HX := hid (And.intro hbx hA)
  clear hbx hA
  have hu := Try.underlying70
  obtain ⟨j, hj, hjl⟩ := umod n 63 (by decide)
  obtain ⟨k, hk⟩ : ∃ k, k = 1 + j := ⟨_, rfl⟩
  have HJ := hid (show (1 : Int) + (j : Int) = (k : Int) by omega)
  have hj0 : IntKind.i64.wrap (j : Int) = (j : Int) := by rw [IntKind.wrap_i64]; omega
  have HK := hid (show 1 ≤ k ∧ k < 64 by omega)
  have hjl' : j < 63 := by omega
  go_enter Try.func6, Try.ntmps6
  go_wp2_with fail
  rw [← hw1, ← hg]
  have HG := hid (And.intro hw1 hg)
  clear hw1 hg
  refine (awake23_any _).mono ?_; rintro e1 w2 ⟨rfl, hb⟩
  have HB2 := hid (bt HX.out.2 hb)
  have hbx2 := HX.out.1.belowS hb
  have HX2 := hid hbx2
  have x1 : w2.cell? ⟨g, 1, none⟩ = some (.string kk) := hbx2.at rfl
  have x2 : w2.cell? ⟨g, 2, none⟩ = some (.string vv) := hbx2.at rfl
  clear hbx2 hb HX HG
  by_cases h1 : (512 : Int) < (kk.size : Int)
  · go_wp2_with fail
    go_ret
    exact ⟨rfl, HB2.out⟩
  by_cases h2 : (512 : Int) < (vv.size : Int)
  · go_wp2_with fail
    go_ret
    exact ⟨rfl, HB2.out⟩
  go_wp2_with fail
  refine (wal_New_nil _ _ _).mono ?_; rintro e1 w3 ⟨rfl, rfl⟩
  go_wp2_with fail
  refine (wal_Scan_nil _ _ _).mono ?_; rintro e1 w3 ⟨rfl, rfl⟩
  clear x1 x2
  have x0 : w2.cell? ⟨g, 0, none⟩ = some (.int .i64 K) := HX2.out.at rfl
  have x1 : w2.cell? ⟨g, 0 + 1, none⟩ = some (.string kk) := HX2.out.at rfl
  have x2 : w2.cell? ⟨g, 0 + 2, none⟩ = some (.string vv) := HX2.out.at rfl
  go_wp2_with fail
  refine (wal_Wipe_nil _).mono ?_; rintro e1 w3 ⟨rfl, rfl⟩
  go_wp2_with fail
  refine (wal_Fits_nil _ K kk vv).mono ?_; rintro e1 w3 ⟨rfl, hb⟩
  have HB3 := hid (bt HB2.out hb)
  have HX3 := hid (HX2.out.belowS hb)
  clear x0 x1 x2 hb HB2 HX2
  have x0 : w3.cell? ⟨g, 0, none⟩ = some (.int .i64 K) := HX3.out.at rfl
  have x1 : w3.cell? ⟨g, 0 + 1, none⟩ = some (.string kk) := HX3.out.at rfl
  have x2 : w3.cell? ⟨g, 0 + 2, none⟩ = some (.string vv) := HX3.out.at rfl
  go_wp2_with fail
  refine (wal_Add_nil _ K kk vv).mono ?_; rintro e1 w4 ⟨rfl, hb⟩
  have HB4 := hid (bt HB3.out hb)
  clear x0 x1 x2 hb HB3 HX3
  go_wp2_with fail
  refine (wal_Sync_nil _).mono ?_; rintro e1 w5 ⟨rfl, rfl⟩
  go_wp2_with fail
  refine (wal_Pending_nil _).mono ?_; rintro e1 w5 ⟨rfl, rfl⟩
  go_wp2_with fail
  refine (wal_Used_nil _).mono ?_; rintro e1 w5 ⟨rfl, rfl⟩
  go_wp2_with fail
  refine (wal_Next_nil _).mono ?_; rintro e1 w5 ⟨rfl, rfl⟩
  go_wp2_with fail
  clear hj hj0 hjl hjl'
  rw [HJ.out]
  refine (dv_New (Below.refl _ _) k HK.out.1 (by have := HK.out.2; omega)).mono ?_; rintro e1 w5 ⟨p, F, rfl, hD, hb, _⟩
  have D5 := hid hD
  have HB5 := hid (bt HB4.out hb)
  clear hD hb HB4
  go_wp2_with fail
  refine (wal_New_small D5.out HK.out.2 1 0).mono ?_; rintro e1 w6 ⟨rfl, hb⟩
  have D6 := hid (D5.out.below hb)
  have HB6 := hid (bt HB5.out hb)
  clear hb D5 HB5
  go_wp2_with fail
  refine (wal_Scan_small D6.out HK.out.2 1 0).mono ?_; rintro e1 w7 ⟨rfl, hb⟩
  have D7 := hid (D6.out.below hb)
  have HB7 := hid (bt HB6.out hb)
  clear hb D6 HB6
  go_wp2_with fail
  refine (wal_Wipe_small D7.out HK.out.2).mono ?_; rintro e1 w8 ⟨rfl, hb⟩
  have HB8 := hid (bt HB7.out hb)
  clear hb D7 HB7
  go_wp2_with fail
  refine (dv_New (Below.refl _ w8) 64 (by decide) (by decide)).mono ?_; rintro e1 w9 ⟨q, F2, rfl, hD, _, _⟩
  have D9 := hid hD
  clear hD
  go_wp2_with fail
  refine (dv_Cut D9.out none 0 [] (.inl rfl) (by decide)).mono ?_; rintro e1 w10 ⟨rfl, hD, _⟩
  have D10 := hid (show Dev w8 w10 q 64 ((Dv.new 64).cut []) F2 from hD)
  clear hD D9
  have hof : ((Dv.new 64).cut []).off = true := rfl
  have hrm : ((Dv.new 64).cut []).loose.length + ((Dv.new 64).cut []).rd + ((Dv.new 64).cut []).wr + ((Dv.new 64).cut []).fl ≤ 960 := by decide
  have hfu : ((Dv.new 64).cut []).fuse < 0 := by decide
  have HOF := hid (And.intro hof (And.intro hrm hfu))
  clear hof hrm hfu
  go_wp2_with fail
  refine (wal_Scan_off D10.out 1 0 (by decide) (by decide) (by decide) HOF.out.1).mono ?_; rintro e1 w11 ⟨rfl, hb⟩
  have D11 := hid (D10.out.below hb)
  clear hb D10
  go_wp2_with fail
  refine (wal_Wipe_off D11.out HOF.out.2.2 HOF.out.1 (by have := HOF.out.2.1; omega)).mono ?_
  rintro e1 w12 ⟨rfl, F3, hD, _, _⟩
  have HB12 := hid (bt HB8.out hD.bel)
  clear hD D11 HB8
  go_wp2_with fail
  go_ret
  exact ⟨rfl, HB12.out⟩
theorem walNil_row {p0 p1 p2 p3 p4 : Prop} (n e K : Int) (kk vv : ByteArray) (w : World) (_ : p0) (_ : p1) (_ : p2) (_ : p3) (_ : p4) :
    Calls Try.prog 6 #[.int .i64 n, .int .i64 e, .agg #[.int .i64 K, .string kk, .string vv]] w fun e w' => e = .returned (.bool true) ∧ Below w.heap.size w w' := walNil_walk n e K kk vv w
end Go.Proofs.Ytcklgaenedlbiaa
