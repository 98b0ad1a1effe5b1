/-
  The awake of layer 23: its numbers.
  A log of layer 23: wiped.
-/
import Derived.Test.YtcklgaenedlbiaaGreatGWalExact26

namespace Go.Proofs.YtcklgaenedlbiaaGreat
open Go.RowKit Go.Sort

def awkM : Msg3 := (2, ⟨#[97]⟩, ⟨#[]⟩)
def awkV : Wl := ⟨8, 1, 7, 0, [awkM]⟩
theorem awk_is : isB awkM = true := by decide +kernel
theorem awk_fits : (Wl.new 1 7).fits awkM = true := by decide +kernel
theorem awk_add : (Wl.new 1 7).add awkM = (awkV, 0) := by
  unfold Wl.add
  rw [if_pos awk_is, if_pos awk_fits]
  rfl
theorem awk_texts : awkV.texts = [⟨#[1, 2, 1, 97, 0]⟩] := by decide +kernel
def awkD : Dv := syncD awkV (Dv.new 64)
theorem awk_scan7 : scanV (rdOf awkD (Wl.new 1 7)) = ([awkM], 1, 0) := by decide +kernel
theorem awk_scan0 : scanV (rdOf awkD (Wl.new 1 0)) = ([], 0, 0) := by decide +kernel
end Go.Proofs.YtcklgaenedlbiaaGreat

namespace Go.Proofs.YtcklgaenedlbiaaGreat
open Go.RowKit Go.Sort

def zerosB : ByteArray := ⟨(List.replicate 256 (0 : UInt8)).toArray⟩
theorem zerosB_size : zerosB.size = 256 := (List.size_toArray ..).trans List.length_replicate
def wipedD (d : Dv) (n : Nat) : Dv := { d with loose := d.loose ++ (List.range n).map (fun k => (2 + k, zerosB)), wr := d.wr + n }
theorem wipedD_succ (d : Dv) (n : Nat) (hf : d.fuse < 0) (ho : d.off = false) : (wipedD d n).write (2 + n, zerosB) = wipedD d (n + 1) := by
  rw [Dv.write_none (d := wipedD d n) hf ho]
  unfold wipedD
  simp only [List.range_succ, List.map_append, List.map_cons, List.map_nil, List.append_assoc]
  congr 1
def wipeD (d : Dv) : Dv := { d with safe := flushN d.safe (d.loose ++ (List.range 8).map (fun k => (2 + k, zerosB))), loose := [], wr := d.wr + 8, fl := d.fl + 1 }

set_option maxHeartbeats 8000000 in
set_option maxRecDepth 100000 in
theorem wal_Wipe {w0 w : World} {p : Nat} {d : Dv} {F : List Nat} (h : Dev w0 w p 64 d F) (hf : d.fuse < 0) (ho : d.off = false) (hroom : d.loose.length + d.rd + d.wr + d.fl ≤ 970) :
    Calls Tryz.prog 24 #[.pointer (some ⟨p, 0, none⟩)] w fun e w' => e = .returned (.int .i64 0) ∧ ∃ F', Dev w0 w' p 64 (wipeD d) F' ∧ Keeps F w w' ∧ ∀ k, k ∈ F' → k ∈ F ∨ w.heap.size ≤ k := by
  have HN := hid (wal_New_yes h 1 0 (by decide) (by decide) (by decide))
  have H := hid h; have HE := hid (And.intro hf (And.intro ho hroom))
  clear h hf ho hroom
  go_enter Tryz.func24, Tryz.ntmps24
  go_wp2_with fail
  refine HN.out.mono ?_; rintro e1 w1 ⟨r, G, rfl, hW, hb1, hG⟩
  have hl0 : LW w0 w1 p r (wipedD d 0) (Wl.new 1 0) F G := by
    have e : wipedD d 0 = d := by unfold wipedD; simp
    rw [e]
    exact ⟨H.out.below hb1, hW, fun k hk hg => by have := H.out.at_.sizes k hk; have := hG k hg; omega⟩
  have q1 : w1.cell? ⟨r, 1, none⟩ = some (.int .i64 8) := by obtain ⟨P, hi, _⟩ := hW.inn; exact hi.box.at rfl
  have HL0 := hid (And.intro hl0 (Keeps.of (F := F) hb1))
  clear hW hb1 hG hl0 HN
  go_wp2_with fail
  clear q1
  go_loopg [19] 8 (fun g j wx => ∃ (i : Nat) (Fi : List Nat), i + g = 8 ∧ j = .int .i64 i ∧ Hid (LW w0 wx p r (wipedD d i) (Wl.new 1 0) Fi G ∧ Keeps F w wx ∧ ∀ k, k ∈ Fi → k ∈ F ∨ w.heap.size ≤ k))
  case atStart => exact ⟨0, F, by omega, rfl, HL0.out.1, HL0.out.2, fun k hk => .inl hk⟩
  case round =>
    obtain ⟨i, Fi, hi, rfl, HI⟩ := hrel
    by_cases hlt : i < 8
    · have hlt' : (i : Int) < 8 := by omega
      obtain ⟨P, hp, _⟩ := HI.out.1.wal.inn
      have KA := hid (wal_at hp i (by decide) (by decide) (by decide) (by omega))
      have hat : (Wl.new 1 0).at_ i = 2 + i := by show 2 + (0 + i) % 8 = 2 + i; rw [Nat.zero_add, Nat.mod_eq_of_lt hlt]
      rw [hat] at KA
      clear hp hat
      go_wp2_with fail
      refine KA.out.mono ?_; rintro e2 w2 ⟨rfl, hb2⟩
      have H2 := hid (And.intro (HI.out.1.below hb2) (And.intro (HI.out.2.1.trans (Keeps.of hb2)) HI.out.2.2))
      clear hb2 HI KA
      go_wp2_with fail
      refine (Repeat_zeros 256 _ (by decide)).mono ?_; rintro e3 w3 ⟨rfl, hb3⟩
      rw [show (⟨(List.replicate 256 (0 : UInt8)).toArray⟩ : ByteArray) = zerosB from rfl]
      have H3 := hid (And.intro (H2.out.1.below hb3) (And.intro (H2.out.2.1.trans (Keeps.of hb3)) H2.out.2.2))
      clear hb3 H2
      have hll : (wipedD d i).loose.length + (wipedD d i).rd + (wipedD d i).wr + (wipedD d i).fl ≤ 990 := by
        have h1 := HE.out.2.2
        show (d.loose ++ (List.range i).map _).length + d.rd + (d.wr + i) + d.fl ≤ 990
        rw [List.length_append, List.length_map, List.length_range]; omega
      have KW := hid (dv_Write H3.out.1.dev (2 + i) zerosB (by omega) zerosB_size hll)
      rw [wipedD_succ d i HE.out.1 HE.out.2.1, show (wipedD d i).burn.off = false from by rw [Dv.burn_none (show (wipedD d i).fuse < 0 from HE.out.1)]; exact HE.out.2.1] at KW
      clear hll
      go_wp2_with fail
      refine KW.out.mono ?_; rintro e4 w4 ⟨rfl, F4, k1, k2, k3⟩
      have hk : Keeps F w w4 := H3.out.2.1.go k2 H3.out.2.2
      have H4 := hid (show LW w0 w4 p r (wipedD d (i + 1)) (Wl.new 1 0) F4 G ∧ Keeps F w w4 ∧ ∀ k, k ∈ F4 → k ∈ F ∨ w.heap.size ≤ k from ⟨H3.out.1.dev1 k1 k2 k3, hk, fun k hk' => by
        rcases k3 k hk' with h2 | h2
        · exact H3.out.2.2 k h2
        · exact .inr (Nat.le_trans H3.out.2.1.size h2)⟩)
      clear k1 k2 k3 hk H3 KW
      go_wp2_with fail
      go_roundg (8 - (i + 1))
      case measure => omega
      case rel => exact ⟨i + 1, F4, by omega, by go_num, H4.out⟩
    · have hin : i = 8 := by omega
      subst hin
      have hfd : (wipedD d 8).flush = wipeD d := by
        unfold Dv.flush
        rw [Dv.burn_none (show (wipedD d 8).fuse < 0 from HE.out.1), if_neg (by show ¬ d.off = true; rw [HE.out.2.1]; simp)]
        rfl
      have hbu : (wipedD d 8).burn.off = false := by rw [Dv.burn_none (show (wipedD d 8).fuse < 0 from HE.out.1)]; exact HE.out.2.1
      have hll : (wipedD d 8).loose.length + (wipedD d 8).rd + (wipedD d 8).wr + (wipedD d 8).fl ≤ 990 := by
        have h1 := HE.out.2.2
        show (d.loose ++ (List.range 8).map _).length + d.rd + (d.wr + 8) + d.fl ≤ 990
        rw [List.length_append, List.length_map, List.length_range]; omega
      have KF := hid (dv_Flush HI.out.1.dev hll)
      rw [hfd, hbu] at KF
      clear hfd hbu hll
      go_wp2_with fail
      refine KF.out.mono ?_; rintro e4 w4 ⟨rfl, k1, k2⟩
      have H4 := hid (show Dev w0 w4 p 64 (wipeD d) Fi ∧ Keeps F w w4 ∧ ∀ k, k ∈ Fi → k ∈ F ∨ w.heap.size ≤ k from ⟨k1, HI.out.2.1.go k2 HI.out.2.2, HI.out.2.2⟩)
      clear k1 k2 KF HI
      go_wp2_with fail
      go_ret
      exact ⟨rfl, Fi, H4.out⟩

set_option maxHeartbeats 4000000 in
set_option maxRecDepth 100000 in
/-- without power nothing is written -/
theorem wal_Wipe_off {w0 w : World} {p : Nat} {d : Dv} {F : List Nat} (h : Dev w0 w p 64 d F) (hf : d.fuse < 0) (ho : d.off = true) (hroom : d.loose.length + d.rd + d.wr + d.fl ≤ 970) :
    Calls Tryz.prog 24 #[.pointer (some ⟨p, 0, none⟩)] w fun e w' => e = .returned (.int .i64 4) ∧ ∃ F', Dev w0 w' p 64 d F' ∧ Keeps F w w' ∧ ∀ k, k ∈ F' → k ∈ F ∨ w.heap.size ≤ k := by
  have HN := hid (wal_New_yes h 1 0 (by decide) (by decide) (by decide))
  have H := hid h; have HE := hid (And.intro hf (And.intro ho hroom))
  clear h hf ho hroom
  go_enter Tryz.func24, Tryz.ntmps24
  go_wp2_with fail
  refine HN.out.mono ?_; rintro e1 w1 ⟨r, G, rfl, hW, hb1, hG⟩
  have hl0 : LW w0 w1 p r d (Wl.new 1 0) F G := ⟨H.out.below hb1, hW, fun k hk hg => by have := H.out.at_.sizes k hk; have := hG k hg; omega⟩
  have q1 : w1.cell? ⟨r, 1, none⟩ = some (.int .i64 8) := by obtain ⟨P, hi, _⟩ := hW.inn; exact hi.box.at rfl
  have HL0 := hid (And.intro hl0 (Keeps.of (F := F) hb1))
  clear hW hb1 hG hl0 HN
  go_wp2_with fail
  clear q1
  go_loopg [19] 8 (fun g j wx => j = .int .i64 0 ∧ Hid (wx = w1))
  case atStart => exact ⟨rfl, rfl⟩
  case round =>
    obtain ⟨rfl, HW⟩ := hrel
    have hw := HW.out
    subst hw
    clear HW
    obtain ⟨P, hp, _⟩ := HL0.out.1.wal.inn
    have KA := hid (wal_at hp 0 (by decide) (by decide) (by decide) (by omega))
    rw [show (Wl.new 1 0).at_ 0 = 2 from rfl] at KA
    clear hp
    go_wp2_with fail
    refine KA.out.mono ?_; rintro e2 w2 ⟨rfl, hb2⟩
    have H2 := hid (And.intro (HL0.out.1.dev.below hb2) (HL0.out.2.trans (Keeps.of hb2)))
    clear hb2 KA
    go_wp2_with fail
    refine (Repeat_zeros 256 _ (by decide)).mono ?_; rintro e3 w3 ⟨rfl, hb3⟩
    rw [show (⟨(List.replicate 256 (0 : UInt8)).toArray⟩ : ByteArray) = zerosB from rfl]
    have H3 := hid (And.intro (H2.out.1.below hb3) (H2.out.2.trans (Keeps.of hb3)))
    clear hb3 H2
    have KW := hid (dv_Write H3.out.1 2 zerosB (by decide) zerosB_size (by have := HE.out.2.2; omega))
    rw [show d.burn = d from Dv.burn_none HE.out.1, show d.write (2, zerosB) = d from by unfold Dv.write; rw [Dv.burn_none HE.out.1, if_pos HE.out.2.1], HE.out.2.1] at KW
    go_wp2_with fail
    refine KW.out.mono ?_; rintro e4 w4 ⟨rfl, F4, k1, k2, k3⟩
    have H4 := hid (show Dev w0 w4 p 64 d F4 ∧ Keeps F w w4 ∧ ∀ k, k ∈ F4 → k ∈ F ∨ w.heap.size ≤ k from ⟨k1, H3.out.2.trans k2, fun k hk => (k3 k hk).imp id (fun h => Nat.le_trans H3.out.2.size h)⟩)
    clear k1 k2 k3 KW
    go_wp2_with fail
    go_ret
    exact ⟨rfl, F4, H4.out⟩
end Go.Proofs.YtcklgaenedlbiaaGreat
