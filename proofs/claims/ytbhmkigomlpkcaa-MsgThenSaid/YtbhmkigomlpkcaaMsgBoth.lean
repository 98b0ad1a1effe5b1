/-
  MsgThen, walked.
-/
import Derived.Test.YtbhmkigomlpkcaaMsgLaws
namespace Go.Proofs.Ytbhmkigomlpkcaa
open Go.RowKit Go.Sort

set_option maxHeartbeats 16000000 in
set_option maxRecDepth 100000 in
theorem msgThen_walk (Ka : Int) (k va : ByteArray) (Kb : Int) (kb vb : ByteArray) (Kc : Int) (kc vc val : ByteArray) (has : Bool) (w : World) :
    Calls Try.prog 5 #[.agg #[.int .i64 Ka, .string k, .string va], .agg #[.int .i64 Kb, .string kb, .string vb], .agg #[.int .i64 Kc, .string kc, .string vc], .string val, .bool has] w fun e w' => e = .returned (.bool true) ∧ Below w.heap.size w w' := by
  obtain ⟨fa, hfa⟩ : ∃ f, f = msgIs Ka k va := ⟨_, rfl⟩
  obtain ⟨fb, hfb⟩ : ∃ f, f = msgIs Kb k vb := ⟨_, rfl⟩
  obtain ⟨fc, hfc⟩ : ∃ f, f = msgIs Kc k vc := ⟨_, rfl⟩
  have HA := hid hfa; have HB := hid hfb; have HC := hid hfc
  clear hfa hfb hfc
  cases fa with
  | false =>
    go_enter Try.func5, Try.ntmps5
    go_wp2_with (with_reducible refine at_op (.box 23 (.tmp 0)) rfl ?_; refine Stopped.go ?_)
    refine Stopped.mk (wpList_box rfl #[.int .i64 Ka, .string k, .string va] 23 (by go_simp) ?_)
    intro ga w1 hg_ Bga hb_ hz_
    have hb := hb_
    have Nga := hid (show w.heap.size ≤ ga by omega)
    clear hg_ hz_ hb_
    go_wp2_with (with_reducible refine at_op (.box 23 (.tmp 1)) rfl ?_; refine Stopped.go ?_)
    have Lga_ := Bga.lt
    refine Stopped.mk (wpList_box rfl #[.int .i64 Kb, .string kb, .string vb] 23 (by go_simp) ?_)
    intro gb w2 hg_ Bgb hb_ hz_
    replace Bga := Bga.belowS hb_
    have Ngb := hid (show w.heap.size ≤ gb by rw [hg_]; exact hb.size)
    have Dab := hid (show ga ≠ gb by have := Lga_; omega)
    clear Lga_
    replace hb := bt hb hb_
    clear hg_ hz_ hb_
    go_wp2_with (with_reducible refine at_op (.box 23 (.tmp 2)) rfl ?_; refine Stopped.go ?_)
    have Lga_ := Bga.lt; have Lgb_ := Bgb.lt
    refine Stopped.mk (wpList_box rfl #[.int .i64 Kc, .string kc, .string vc] 23 (by go_simp) ?_)
    intro gc w3 hg_ Bgc hb_ hz_
    replace Bga := Bga.belowS hb_
    replace Bgb := Bgb.belowS hb_
    have Ngc := hid (show w.heap.size ≤ gc by rw [hg_]; exact hb.size)
    have Dac := hid (show ga ≠ gc by have := Lga_; omega)
    have Dbc := hid (show gb ≠ gc by have := Lgb_; omega)
    clear Lga_ Lgb_
    replace hb := bt hb hb_
    clear hg_ hz_ hb_
    go_wp2_with fail
    refine (awake08_any _).mono ?_; rintro e w4 ⟨rfl, hb_⟩
    replace Bga := Bga.belowS hb_
    replace Bgb := Bgb.belowS hb_
    replace Bgc := Bgc.belowS hb_
    replace hb := bt hb hb_; clear hb_
    have c1 : w4.cell? ⟨ga, 1, none⟩ = some (.string k) := Bga.at rfl
    have c2 : w4.cell? ⟨gb, 1, none⟩ = some (.string kb) := Bgb.at rfl
    have c3 : w4.cell? ⟨gc, 1, none⟩ = some (.string kc) := Bgc.at rfl
    have f2 : w4.frozen? ⟨gb, 1, none⟩ = false := Bgb.free (by simp)
    have f3 : w4.frozen? ⟨gc, 1, none⟩ = false := Bgc.free (by simp)
    have d1 : ga ≠ gb := Dab.out; have d2 : ga ≠ gc := Dac.out; have d3 : gb ≠ gc := Dbc.out
    have BEa : Blk ((w4.setCell ⟨gb, 1, none⟩ (.string k)).setCell ⟨gc, 1, none⟩ (.string k)) ga 23 [.int .i64 Ka, .string k, .string va] := (Bga.other ⟨gb, 1, none⟩ _ d1).other ⟨gc, 1, none⟩ _ d2
    have BEb : Blk ((w4.setCell ⟨gb, 1, none⟩ (.string k)).setCell ⟨gc, 1, none⟩ (.string k)) gb 23 [.int .i64 Kb, .string k, .string vb] := (Bgb.set 1 (.string k)).other ⟨gc, 1, none⟩ _ d3
    have BEc : Blk ((w4.setCell ⟨gb, 1, none⟩ (.string k)).setCell ⟨gc, 1, none⟩ (.string k)) gc 23 [.int .i64 Kc, .string k, .string vc] := (Bgc.other ⟨gb, 1, none⟩ _ (Ne.symm d3)).set 1 (.string k)
    have HBE := hid (Keeps.below1 (Keeps.below1 hb ((Keeps.refl [gb] w4).setCell (p := ⟨gb, 1, none⟩) (by simp) (.string k)) Ngb.out) ((Keeps.refl [gc] (w4.setCell ⟨gb, 1, none⟩ (.string k))).setCell (p := ⟨gc, 1, none⟩) (by simp) (.string k)) Ngc.out)
    clear Bga Bgb Bgc hb
    have Bga := BEa; have Bgb := BEb; have Bgc := BEc; clear BEa BEb BEc
    have cga_0 : ((w4.setCell ⟨gb, 1, none⟩ (.string k)).setCell ⟨gc, 1, none⟩ (.string k)).cell? ⟨ga, 0, none⟩ = some (.int .i64 Ka) := Bga.at rfl
    have cga_1 : ((w4.setCell ⟨gb, 1, none⟩ (.string k)).setCell ⟨gc, 1, none⟩ (.string k)).cell? ⟨ga, 1, none⟩ = some (.string k) := Bga.at rfl
    have cga_2 : ((w4.setCell ⟨gb, 1, none⟩ (.string k)).setCell ⟨gc, 1, none⟩ (.string k)).cell? ⟨ga, 2, none⟩ = some (.string va) := Bga.at rfl
    have HBa := hid Bga; have HBb := hid Bgb; have HBc := hid Bgc; clear Bga Bgb Bgc
    go_wp2_with fail
    clear c1 c2 c3 f2 f3 d1 d2 d3
    have hb := HBE.out; have Bga := HBa.out; have Bgb := HBb.out; have Bgc := HBc.out; clear HBE HBa HBb HBc
    generalize ((w4.setCell ⟨gb, 1, none⟩ (.string k)).setCell ⟨gc, 1, none⟩ (.string k)) = w5 at *
    have cgb_0 : w5.cell? ⟨gb, 0, none⟩ = some (.int .i64 Kb) := Bgb.at rfl
    have cgb_1 : w5.cell? ⟨gb, 1, none⟩ = some (.string k) := Bgb.at rfl
    have cgb_2 : w5.cell? ⟨gb, 2, none⟩ = some (.string vb) := Bgb.at rfl
    have cgc_0 : w5.cell? ⟨gc, 0, none⟩ = some (.int .i64 Kc) := Bgc.at rfl
    have cgc_1 : w5.cell? ⟨gc, 1, none⟩ = some (.string k) := Bgc.at rfl
    have cgc_2 : w5.cell? ⟨gc, 2, none⟩ = some (.string vc) := Bgc.at rfl
    refine (msg_Is_any Ka k va _).mono ?_; rintro e w6 ⟨rfl, hb_⟩; rw [← HA.out]
    clear cga_0
    clear cga_1
    clear cga_2
    replace Bga := Bga.belowS hb_
    clear cgb_0
    clear cgb_1
    clear cgb_2
    replace Bgb := Bgb.belowS hb_
    clear cgc_0
    clear cgc_1
    clear cgc_2
    replace Bgc := Bgc.belowS hb_
    replace hb := bt hb hb_
    clear hb_
    have cga_0 : w6.cell? ⟨ga, 0, none⟩ = some (.int .i64 Ka) := Bga.at rfl
    have cga_1 : w6.cell? ⟨ga, 1, none⟩ = some (.string k) := Bga.at rfl
    have cga_2 : w6.cell? ⟨ga, 2, none⟩ = some (.string va) := Bga.at rfl
    have cgb_0 : w6.cell? ⟨gb, 0, none⟩ = some (.int .i64 Kb) := Bgb.at rfl
    have cgb_1 : w6.cell? ⟨gb, 1, none⟩ = some (.string k) := Bgb.at rfl
    have cgb_2 : w6.cell? ⟨gb, 2, none⟩ = some (.string vb) := Bgb.at rfl
    have cgc_0 : w6.cell? ⟨gc, 0, none⟩ = some (.int .i64 Kc) := Bgc.at rfl
    have cgc_1 : w6.cell? ⟨gc, 1, none⟩ = some (.string k) := Bgc.at rfl
    have cgc_2 : w6.cell? ⟨gc, 2, none⟩ = some (.string vc) := Bgc.at rfl
    go_wp2_with fail
    go_ret
    exact ⟨rfl, hb⟩
  | true =>
  cases fb with
  | false =>
    go_enter Try.func5, Try.ntmps5
    go_wp2_with (with_reducible refine at_op (.box 23 (.tmp 0)) rfl ?_; refine Stopped.go ?_)
    refine Stopped.mk (wpList_box rfl #[.int .i64 Ka, .string k, .string va] 23 (by go_simp) ?_)
    intro ga w1 hg_ Bga hb_ hz_
    have hb := hb_
    have Nga := hid (show w.heap.size ≤ ga by omega)
    clear hg_ hz_ hb_
    go_wp2_with (with_reducible refine at_op (.box 23 (.tmp 1)) rfl ?_; refine Stopped.go ?_)
    have Lga_ := Bga.lt
    refine Stopped.mk (wpList_box rfl #[.int .i64 Kb, .string kb, .string vb] 23 (by go_simp) ?_)
    intro gb w2 hg_ Bgb hb_ hz_
    replace Bga := Bga.belowS hb_
    have Ngb := hid (show w.heap.size ≤ gb by rw [hg_]; exact hb.size)
    have Dab := hid (show ga ≠ gb by have := Lga_; omega)
    clear Lga_
    replace hb := bt hb hb_
    clear hg_ hz_ hb_
    go_wp2_with (with_reducible refine at_op (.box 23 (.tmp 2)) rfl ?_; refine Stopped.go ?_)
    have Lga_ := Bga.lt; have Lgb_ := Bgb.lt
    refine Stopped.mk (wpList_box rfl #[.int .i64 Kc, .string kc, .string vc] 23 (by go_simp) ?_)
    intro gc w3 hg_ Bgc hb_ hz_
    replace Bga := Bga.belowS hb_
    replace Bgb := Bgb.belowS hb_
    have Ngc := hid (show w.heap.size ≤ gc by rw [hg_]; exact hb.size)
    have Dac := hid (show ga ≠ gc by have := Lga_; omega)
    have Dbc := hid (show gb ≠ gc by have := Lgb_; omega)
    clear Lga_ Lgb_
    replace hb := bt hb hb_
    clear hg_ hz_ hb_
    go_wp2_with fail
    refine (awake08_any _).mono ?_; rintro e w4 ⟨rfl, hb_⟩
    replace Bga := Bga.belowS hb_
    replace Bgb := Bgb.belowS hb_
    replace Bgc := Bgc.belowS hb_
    replace hb := bt hb hb_; clear hb_
    have c1 : w4.cell? ⟨ga, 1, none⟩ = some (.string k) := Bga.at rfl
    have c2 : w4.cell? ⟨gb, 1, none⟩ = some (.string kb) := Bgb.at rfl
    have c3 : w4.cell? ⟨gc, 1, none⟩ = some (.string kc) := Bgc.at rfl
    have f2 : w4.frozen? ⟨gb, 1, none⟩ = false := Bgb.free (by simp)
    have f3 : w4.frozen? ⟨gc, 1, none⟩ = false := Bgc.free (by simp)
    have d1 : ga ≠ gb := Dab.out; have d2 : ga ≠ gc := Dac.out; have d3 : gb ≠ gc := Dbc.out
    have BEa : Blk ((w4.setCell ⟨gb, 1, none⟩ (.string k)).setCell ⟨gc, 1, none⟩ (.string k)) ga 23 [.int .i64 Ka, .string k, .string va] := (Bga.other ⟨gb, 1, none⟩ _ d1).other ⟨gc, 1, none⟩ _ d2
    have BEb : Blk ((w4.setCell ⟨gb, 1, none⟩ (.string k)).setCell ⟨gc, 1, none⟩ (.string k)) gb 23 [.int .i64 Kb, .string k, .string vb] := (Bgb.set 1 (.string k)).other ⟨gc, 1, none⟩ _ d3
    have BEc : Blk ((w4.setCell ⟨gb, 1, none⟩ (.string k)).setCell ⟨gc, 1, none⟩ (.string k)) gc 23 [.int .i64 Kc, .string k, .string vc] := (Bgc.other ⟨gb, 1, none⟩ _ (Ne.symm d3)).set 1 (.string k)
    have HBE := hid (Keeps.below1 (Keeps.below1 hb ((Keeps.refl [gb] w4).setCell (p := ⟨gb, 1, none⟩) (by simp) (.string k)) Ngb.out) ((Keeps.refl [gc] (w4.setCell ⟨gb, 1, none⟩ (.string k))).setCell (p := ⟨gc, 1, none⟩) (by simp) (.string k)) Ngc.out)
    clear Bga Bgb Bgc hb
    have Bga := BEa; have Bgb := BEb; have Bgc := BEc; clear BEa BEb BEc
    have cga_0 : ((w4.setCell ⟨gb, 1, none⟩ (.string k)).setCell ⟨gc, 1, none⟩ (.string k)).cell? ⟨ga, 0, none⟩ = some (.int .i64 Ka) := Bga.at rfl
    have cga_1 : ((w4.setCell ⟨gb, 1, none⟩ (.string k)).setCell ⟨gc, 1, none⟩ (.string k)).cell? ⟨ga, 1, none⟩ = some (.string k) := Bga.at rfl
    have cga_2 : ((w4.setCell ⟨gb, 1, none⟩ (.string k)).setCell ⟨gc, 1, none⟩ (.string k)).cell? ⟨ga, 2, none⟩ = some (.string va) := Bga.at rfl
    have HBa := hid Bga; have HBb := hid Bgb; have HBc := hid Bgc; clear Bga Bgb Bgc
    go_wp2_with fail
    clear c1 c2 c3 f2 f3 d1 d2 d3
    have hb := HBE.out; have Bga := HBa.out; have Bgb := HBb.out; have Bgc := HBc.out; clear HBE HBa HBb HBc
    generalize ((w4.setCell ⟨gb, 1, none⟩ (.string k)).setCell ⟨gc, 1, none⟩ (.string k)) = w5 at *
    have cgb_0 : w5.cell? ⟨gb, 0, none⟩ = some (.int .i64 Kb) := Bgb.at rfl
    have cgb_1 : w5.cell? ⟨gb, 1, none⟩ = some (.string k) := Bgb.at rfl
    have cgb_2 : w5.cell? ⟨gb, 2, none⟩ = some (.string vb) := Bgb.at rfl
    have cgc_0 : w5.cell? ⟨gc, 0, none⟩ = some (.int .i64 Kc) := Bgc.at rfl
    have cgc_1 : w5.cell? ⟨gc, 1, none⟩ = some (.string k) := Bgc.at rfl
    have cgc_2 : w5.cell? ⟨gc, 2, none⟩ = some (.string vc) := Bgc.at rfl
    refine (msg_Is_any Ka k va _).mono ?_; rintro e w6 ⟨rfl, hb_⟩; rw [← HA.out]
    clear cga_0
    clear cga_1
    clear cga_2
    replace Bga := Bga.belowS hb_
    clear cgb_0
    clear cgb_1
    clear cgb_2
    replace Bgb := Bgb.belowS hb_
    clear cgc_0
    clear cgc_1
    clear cgc_2
    replace Bgc := Bgc.belowS hb_
    replace hb := bt hb hb_
    clear hb_
    have cga_0 : w6.cell? ⟨ga, 0, none⟩ = some (.int .i64 Ka) := Bga.at rfl
    have cga_1 : w6.cell? ⟨ga, 1, none⟩ = some (.string k) := Bga.at rfl
    have cga_2 : w6.cell? ⟨ga, 2, none⟩ = some (.string va) := Bga.at rfl
    have cgb_0 : w6.cell? ⟨gb, 0, none⟩ = some (.int .i64 Kb) := Bgb.at rfl
    have cgb_1 : w6.cell? ⟨gb, 1, none⟩ = some (.string k) := Bgb.at rfl
    have cgb_2 : w6.cell? ⟨gb, 2, none⟩ = some (.string vb) := Bgb.at rfl
    have cgc_0 : w6.cell? ⟨gc, 0, none⟩ = some (.int .i64 Kc) := Bgc.at rfl
    have cgc_1 : w6.cell? ⟨gc, 1, none⟩ = some (.string k) := Bgc.at rfl
    have cgc_2 : w6.cell? ⟨gc, 2, none⟩ = some (.string vc) := Bgc.at rfl
    go_wp2_with fail
    refine (msg_Is_any Kb k vb _).mono ?_; rintro e w7 ⟨rfl, hb_⟩; rw [← HB.out]
    clear cga_0
    clear cga_1
    clear cga_2
    replace Bga := Bga.belowS hb_
    clear cgb_0
    clear cgb_1
    clear cgb_2
    replace Bgb := Bgb.belowS hb_
    clear cgc_0
    clear cgc_1
    clear cgc_2
    replace Bgc := Bgc.belowS hb_
    replace hb := bt hb hb_
    clear hb_
    have cga_0 : w7.cell? ⟨ga, 0, none⟩ = some (.int .i64 Ka) := Bga.at rfl
    have cga_1 : w7.cell? ⟨ga, 1, none⟩ = some (.string k) := Bga.at rfl
    have cga_2 : w7.cell? ⟨ga, 2, none⟩ = some (.string va) := Bga.at rfl
    have cgb_0 : w7.cell? ⟨gb, 0, none⟩ = some (.int .i64 Kb) := Bgb.at rfl
    have cgb_1 : w7.cell? ⟨gb, 1, none⟩ = some (.string k) := Bgb.at rfl
    have cgb_2 : w7.cell? ⟨gb, 2, none⟩ = some (.string vb) := Bgb.at rfl
    have cgc_0 : w7.cell? ⟨gc, 0, none⟩ = some (.int .i64 Kc) := Bgc.at rfl
    have cgc_1 : w7.cell? ⟨gc, 1, none⟩ = some (.string k) := Bgc.at rfl
    have cgc_2 : w7.cell? ⟨gc, 2, none⟩ = some (.string vc) := Bgc.at rfl
    go_wp2_with fail
    go_ret
    exact ⟨rfl, hb⟩
  | true =>
  cases fc with
  | false =>
    go_enter Try.func5, Try.ntmps5
    go_wp2_with (with_reducible refine at_op (.box 23 (.tmp 0)) rfl ?_; refine Stopped.go ?_)
    refine Stopped.mk (wpList_box rfl #[.int .i64 Ka, .string k, .string va] 23 (by go_simp) ?_)
    intro ga w1 hg_ Bga hb_ hz_
    have hb := hb_
    have Nga := hid (show w.heap.size ≤ ga by omega)
    clear hg_ hz_ hb_
    go_wp2_with (with_reducible refine at_op (.box 23 (.tmp 1)) rfl ?_; refine Stopped.go ?_)
    have Lga_ := Bga.lt
    refine Stopped.mk (wpList_box rfl #[.int .i64 Kb, .string kb, .string vb] 23 (by go_simp) ?_)
    intro gb w2 hg_ Bgb hb_ hz_
    replace Bga := Bga.belowS hb_
    have Ngb := hid (show w.heap.size ≤ gb by rw [hg_]; exact hb.size)
    have Dab := hid (show ga ≠ gb by have := Lga_; omega)
    clear Lga_
    replace hb := bt hb hb_
    clear hg_ hz_ hb_
    go_wp2_with (with_reducible refine at_op (.box 23 (.tmp 2)) rfl ?_; refine Stopped.go ?_)
    have Lga_ := Bga.lt; have Lgb_ := Bgb.lt
    refine Stopped.mk (wpList_box rfl #[.int .i64 Kc, .string kc, .string vc] 23 (by go_simp) ?_)
    intro gc w3 hg_ Bgc hb_ hz_
    replace Bga := Bga.belowS hb_
    replace Bgb := Bgb.belowS hb_
    have Ngc := hid (show w.heap.size ≤ gc by rw [hg_]; exact hb.size)
    have Dac := hid (show ga ≠ gc by have := Lga_; omega)
    have Dbc := hid (show gb ≠ gc by have := Lgb_; omega)
    clear Lga_ Lgb_
    replace hb := bt hb hb_
    clear hg_ hz_ hb_
    go_wp2_with fail
    refine (awake08_any _).mono ?_; rintro e w4 ⟨rfl, hb_⟩
    replace Bga := Bga.belowS hb_
    replace Bgb := Bgb.belowS hb_
    replace Bgc := Bgc.belowS hb_
    replace hb := bt hb hb_; clear hb_
    have c1 : w4.cell? ⟨ga, 1, none⟩ = some (.string k) := Bga.at rfl
    have c2 : w4.cell? ⟨gb, 1, none⟩ = some (.string kb) := Bgb.at rfl
    have c3 : w4.cell? ⟨gc, 1, none⟩ = some (.string kc) := Bgc.at rfl
    have f2 : w4.frozen? ⟨gb, 1, none⟩ = false := Bgb.free (by simp)
    have f3 : w4.frozen? ⟨gc, 1, none⟩ = false := Bgc.free (by simp)
    have d1 : ga ≠ gb := Dab.out; have d2 : ga ≠ gc := Dac.out; have d3 : gb ≠ gc := Dbc.out
    have BEa : Blk ((w4.setCell ⟨gb, 1, none⟩ (.string k)).setCell ⟨gc, 1, none⟩ (.string k)) ga 23 [.int .i64 Ka, .string k, .string va] := (Bga.other ⟨gb, 1, none⟩ _ d1).other ⟨gc, 1, none⟩ _ d2
    have BEb : Blk ((w4.setCell ⟨gb, 1, none⟩ (.string k)).setCell ⟨gc, 1, none⟩ (.string k)) gb 23 [.int .i64 Kb, .string k, .string vb] := (Bgb.set 1 (.string k)).other ⟨gc, 1, none⟩ _ d3
    have BEc : Blk ((w4.setCell ⟨gb, 1, none⟩ (.string k)).setCell ⟨gc, 1, none⟩ (.string k)) gc 23 [.int .i64 Kc, .string k, .string vc] := (Bgc.other ⟨gb, 1, none⟩ _ (Ne.symm d3)).set 1 (.string k)
    have HBE := hid (Keeps.below1 (Keeps.below1 hb ((Keeps.refl [gb] w4).setCell (p := ⟨gb, 1, none⟩) (by simp) (.string k)) Ngb.out) ((Keeps.refl [gc] (w4.setCell ⟨gb, 1, none⟩ (.string k))).setCell (p := ⟨gc, 1, none⟩) (by simp) (.string k)) Ngc.out)
    clear Bga Bgb Bgc hb
    have Bga := BEa; have Bgb := BEb; have Bgc := BEc; clear BEa BEb BEc
    have cga_0 : ((w4.setCell ⟨gb, 1, none⟩ (.string k)).setCell ⟨gc, 1, none⟩ (.string k)).cell? ⟨ga, 0, none⟩ = some (.int .i64 Ka) := Bga.at rfl
    have cga_1 : ((w4.setCell ⟨gb, 1, none⟩ (.string k)).setCell ⟨gc, 1, none⟩ (.string k)).cell? ⟨ga, 1, none⟩ = some (.string k) := Bga.at rfl
    have cga_2 : ((w4.setCell ⟨gb, 1, none⟩ (.string k)).setCell ⟨gc, 1, none⟩ (.string k)).cell? ⟨ga, 2, none⟩ = some (.string va) := Bga.at rfl
    have HBa := hid Bga; have HBb := hid Bgb; have HBc := hid Bgc; clear Bga Bgb Bgc
    go_wp2_with fail
    clear c1 c2 c3 f2 f3 d1 d2 d3
    have hb := HBE.out; have Bga := HBa.out; have Bgb := HBb.out; have Bgc := HBc.out; clear HBE HBa HBb HBc
    generalize ((w4.setCell ⟨gb, 1, none⟩ (.string k)).setCell ⟨gc, 1, none⟩ (.string k)) = w5 at *
    have cgb_0 : w5.cell? ⟨gb, 0, none⟩ = some (.int .i64 Kb) := Bgb.at rfl
    have cgb_1 : w5.cell? ⟨gb, 1, none⟩ = some (.string k) := Bgb.at rfl
    have cgb_2 : w5.cell? ⟨gb, 2, none⟩ = some (.string vb) := Bgb.at rfl
    have cgc_0 : w5.cell? ⟨gc, 0, none⟩ = some (.int .i64 Kc) := Bgc.at rfl
    have cgc_1 : w5.cell? ⟨gc, 1, none⟩ = some (.string k) := Bgc.at rfl
    have cgc_2 : w5.cell? ⟨gc, 2, none⟩ = some (.string vc) := Bgc.at rfl
    refine (msg_Is_any Ka k va _).mono ?_; rintro e w6 ⟨rfl, hb_⟩; rw [← HA.out]
    clear cga_0
    clear cga_1
    clear cga_2
    replace Bga := Bga.belowS hb_
    clear cgb_0
    clear cgb_1
    clear cgb_2
    replace Bgb := Bgb.belowS hb_
    clear cgc_0
    clear cgc_1
    clear cgc_2
    replace Bgc := Bgc.belowS hb_
    replace hb := bt hb hb_
    clear hb_
    have cga_0 : w6.cell? ⟨ga, 0, none⟩ = some (.int .i64 Ka) := Bga.at rfl
    have cga_1 : w6.cell? ⟨ga, 1, none⟩ = some (.string k) := Bga.at rfl
    have cga_2 : w6.cell? ⟨ga, 2, none⟩ = some (.string va) := Bga.at rfl
    have cgb_0 : w6.cell? ⟨gb, 0, none⟩ = some (.int .i64 Kb) := Bgb.at rfl
    have cgb_1 : w6.cell? ⟨gb, 1, none⟩ = some (.string k) := Bgb.at rfl
    have cgb_2 : w6.cell? ⟨gb, 2, none⟩ = some (.string vb) := Bgb.at rfl
    have cgc_0 : w6.cell? ⟨gc, 0, none⟩ = some (.int .i64 Kc) := Bgc.at rfl
    have cgc_1 : w6.cell? ⟨gc, 1, none⟩ = some (.string k) := Bgc.at rfl
    have cgc_2 : w6.cell? ⟨gc, 2, none⟩ = some (.string vc) := Bgc.at rfl
    go_wp2_with fail
    refine (msg_Is_any Kb k vb _).mono ?_; rintro e w7 ⟨rfl, hb_⟩; rw [← HB.out]
    clear cga_0
    clear cga_1
    clear cga_2
    replace Bga := Bga.belowS hb_
    clear cgb_0
    clear cgb_1
    clear cgb_2
    replace Bgb := Bgb.belowS hb_
    clear cgc_0
    clear cgc_1
    clear cgc_2
    replace Bgc := Bgc.belowS hb_
    replace hb := bt hb hb_
    clear hb_
    have cga_0 : w7.cell? ⟨ga, 0, none⟩ = some (.int .i64 Ka) := Bga.at rfl
    have cga_1 : w7.cell? ⟨ga, 1, none⟩ = some (.string k) := Bga.at rfl
    have cga_2 : w7.cell? ⟨ga, 2, none⟩ = some (.string va) := Bga.at rfl
    have cgb_0 : w7.cell? ⟨gb, 0, none⟩ = some (.int .i64 Kb) := Bgb.at rfl
    have cgb_1 : w7.cell? ⟨gb, 1, none⟩ = some (.string k) := Bgb.at rfl
    have cgb_2 : w7.cell? ⟨gb, 2, none⟩ = some (.string vb) := Bgb.at rfl
    have cgc_0 : w7.cell? ⟨gc, 0, none⟩ = some (.int .i64 Kc) := Bgc.at rfl
    have cgc_1 : w7.cell? ⟨gc, 1, none⟩ = some (.string k) := Bgc.at rfl
    have cgc_2 : w7.cell? ⟨gc, 2, none⟩ = some (.string vc) := Bgc.at rfl
    go_wp2_with fail
    refine (msg_Is_any Kc k vc _).mono ?_; rintro e w8 ⟨rfl, hb_⟩; rw [← HC.out]
    clear cga_0
    clear cga_1
    clear cga_2
    replace Bga := Bga.belowS hb_
    clear cgb_0
    clear cgb_1
    clear cgb_2
    replace Bgb := Bgb.belowS hb_
    clear cgc_0
    clear cgc_1
    clear cgc_2
    replace Bgc := Bgc.belowS hb_
    replace hb := bt hb hb_
    clear hb_
    have cga_0 : w8.cell? ⟨ga, 0, none⟩ = some (.int .i64 Ka) := Bga.at rfl
    have cga_1 : w8.cell? ⟨ga, 1, none⟩ = some (.string k) := Bga.at rfl
    have cga_2 : w8.cell? ⟨ga, 2, none⟩ = some (.string va) := Bga.at rfl
    have cgb_0 : w8.cell? ⟨gb, 0, none⟩ = some (.int .i64 Kb) := Bgb.at rfl
    have cgb_1 : w8.cell? ⟨gb, 1, none⟩ = some (.string k) := Bgb.at rfl
    have cgb_2 : w8.cell? ⟨gb, 2, none⟩ = some (.string vb) := Bgb.at rfl
    have cgc_0 : w8.cell? ⟨gc, 0, none⟩ = some (.int .i64 Kc) := Bgc.at rfl
    have cgc_1 : w8.cell? ⟨gc, 1, none⟩ = some (.string k) := Bgc.at rfl
    have cgc_2 : w8.cell? ⟨gc, 2, none⟩ = some (.string vc) := Bgc.at rfl
    go_wp2_with fail
    go_ret
    exact ⟨rfl, hb⟩
  | true =>
  have TX := (then_eq HA.out.symm HB.out.symm).2
  have TY := (then_eq HB.out.symm HC.out.symm).2
  have IX := then_is HA.out.symm HB.out.symm
  have IY := then_is HB.out.symm HC.out.symm
  have DX := then_does HA.out.symm HB.out.symm val has
  have TT := then_then HA.out.symm HB.out.symm HC.out.symm
  have TP := (then_eq IX.2 HC.out.symm).2
  have TQ := (then_eq HA.out.symm IY.2).2
  obtain ⟨⟨x, xk, xv⟩, hx⟩ : ∃ q, q = thenM Ka k va Kb k vb := ⟨_, rfl⟩
  obtain ⟨⟨y, yk, yv⟩, hy⟩ : ∃ q, q = thenM Kb k vb Kc k vc := ⟨_, rfl⟩
  rw [← hx] at IX DX TT TP
  rw [← hy] at IY TT TQ
  simp only at IX IY DX TT TP TQ
  obtain ⟨e1, IX⟩ := IX
  have e1 := e1.symm
  subst e1
  obtain ⟨e2, IY⟩ := IY
  have e2 := e2.symm
  subst e2
  obtain ⟨⟨p, pk, pv⟩, hp⟩ : ∃ q, q = thenM x k xv Kc k vc := ⟨_, rfl⟩
  rw [← hp] at TT
  obtain ⟨V1, h1⟩ : ∃ q, q = applyV Ka k va val has := ⟨_, rfl⟩
  obtain ⟨B1, g1⟩ : ∃ q, q = applyB Ka k va has := ⟨_, rfl⟩
  rw [← h1, ← g1] at DX
  obtain ⟨V2, h2⟩ : ∃ q, q = applyV x k xv val has := ⟨_, rfl⟩
  obtain ⟨B2, g2⟩ : ∃ q, q = applyB x k xv has := ⟨_, rfl⟩
  rw [← h2, ← g2] at DX
  have GX := hid (And.intro hx TX); have GY := hid (And.intro hy TY); have GP := hid (And.intro hp TP); have GQ := hid (And.intro TT TQ)
  have G1 := hid (And.intro h1 g1); have G2 := hid DX; have G3 := hid (And.intro h2 g2); have GI := hid IX
  clear TX TY IX IY DX TT TP TQ hx hy hp h1 g1 h2 g2
  go_enter Try.func5, Try.ntmps5
  go_wp2_with (with_reducible refine at_op (.box 23 (.tmp 0)) rfl ?_; refine Stopped.go ?_)
  refine Stopped.mk (wpList_box rfl #[.int .i64 Ka, .string k, .string va] 23 (by go_simp) ?_)
  intro ga w1 hg_ Bga hb_ hz_
  have hb := hb_
  have Nga := hid (show w.heap.size ≤ ga by omega)
  clear hg_ hz_ hb_
  go_wp2_with (with_reducible refine at_op (.box 23 (.tmp 1)) rfl ?_; refine Stopped.go ?_)
  have Lga_ := Bga.lt
  refine Stopped.mk (wpList_box rfl #[.int .i64 Kb, .string kb, .string vb] 23 (by go_simp) ?_)
  intro gb w2 hg_ Bgb hb_ hz_
  replace Bga := Bga.belowS hb_
  have Ngb := hid (show w.heap.size ≤ gb by rw [hg_]; exact hb.size)
  have Dab := hid (show ga ≠ gb by have := Lga_; omega)
  clear Lga_
  replace hb := bt hb hb_
  clear hg_ hz_ hb_
  go_wp2_with (with_reducible refine at_op (.box 23 (.tmp 2)) rfl ?_; refine Stopped.go ?_)
  have Lga_ := Bga.lt; have Lgb_ := Bgb.lt
  refine Stopped.mk (wpList_box rfl #[.int .i64 Kc, .string kc, .string vc] 23 (by go_simp) ?_)
  intro gc w3 hg_ Bgc hb_ hz_
  replace Bga := Bga.belowS hb_
  replace Bgb := Bgb.belowS hb_
  have Ngc := hid (show w.heap.size ≤ gc by rw [hg_]; exact hb.size)
  have Dac := hid (show ga ≠ gc by have := Lga_; omega)
  have Dbc := hid (show gb ≠ gc by have := Lgb_; omega)
  clear Lga_ Lgb_
  replace hb := bt hb hb_
  clear hg_ hz_ hb_
  go_wp2_with fail
  refine (awake08_any _).mono ?_; rintro e w4 ⟨rfl, hb_⟩
  replace Bga := Bga.belowS hb_
  replace Bgb := Bgb.belowS hb_
  replace Bgc := Bgc.belowS hb_
  replace hb := bt hb hb_; clear hb_
  have c1 : w4.cell? ⟨ga, 1, none⟩ = some (.string k) := Bga.at rfl
  have c2 : w4.cell? ⟨gb, 1, none⟩ = some (.string kb) := Bgb.at rfl
  have c3 : w4.cell? ⟨gc, 1, none⟩ = some (.string kc) := Bgc.at rfl
  have f2 : w4.frozen? ⟨gb, 1, none⟩ = false := Bgb.free (by simp)
  have f3 : w4.frozen? ⟨gc, 1, none⟩ = false := Bgc.free (by simp)
  have d1 : ga ≠ gb := Dab.out; have d2 : ga ≠ gc := Dac.out; have d3 : gb ≠ gc := Dbc.out
  have BEa : Blk ((w4.setCell ⟨gb, 1, none⟩ (.string k)).setCell ⟨gc, 1, none⟩ (.string k)) ga 23 [.int .i64 Ka, .string k, .string va] := (Bga.other ⟨gb, 1, none⟩ _ d1).other ⟨gc, 1, none⟩ _ d2
  have BEb : Blk ((w4.setCell ⟨gb, 1, none⟩ (.string k)).setCell ⟨gc, 1, none⟩ (.string k)) gb 23 [.int .i64 Kb, .string k, .string vb] := (Bgb.set 1 (.string k)).other ⟨gc, 1, none⟩ _ d3
  have BEc : Blk ((w4.setCell ⟨gb, 1, none⟩ (.string k)).setCell ⟨gc, 1, none⟩ (.string k)) gc 23 [.int .i64 Kc, .string k, .string vc] := (Bgc.other ⟨gb, 1, none⟩ _ (Ne.symm d3)).set 1 (.string k)
  have HBE := hid (Keeps.below1 (Keeps.below1 hb ((Keeps.refl [gb] w4).setCell (p := ⟨gb, 1, none⟩) (by simp) (.string k)) Ngb.out) ((Keeps.refl [gc] (w4.setCell ⟨gb, 1, none⟩ (.string k))).setCell (p := ⟨gc, 1, none⟩) (by simp) (.string k)) Ngc.out)
  clear Bga Bgb Bgc hb
  have Bga := BEa; have Bgb := BEb; have Bgc := BEc; clear BEa BEb BEc
  have cga_0 : ((w4.setCell ⟨gb, 1, none⟩ (.string k)).setCell ⟨gc, 1, none⟩ (.string k)).cell? ⟨ga, 0, none⟩ = some (.int .i64 Ka) := Bga.at rfl
  have cga_1 : ((w4.setCell ⟨gb, 1, none⟩ (.string k)).setCell ⟨gc, 1, none⟩ (.string k)).cell? ⟨ga, 1, none⟩ = some (.string k) := Bga.at rfl
  have cga_2 : ((w4.setCell ⟨gb, 1, none⟩ (.string k)).setCell ⟨gc, 1, none⟩ (.string k)).cell? ⟨ga, 2, none⟩ = some (.string va) := Bga.at rfl
  have HBa := hid Bga; have HBb := hid Bgb; have HBc := hid Bgc; clear Bga Bgb Bgc
  go_wp2_with fail
  clear c1 c2 c3 f2 f3 d1 d2 d3
  have hb := HBE.out; have Bga := HBa.out; have Bgb := HBb.out; have Bgc := HBc.out; clear HBE HBa HBb HBc
  generalize ((w4.setCell ⟨gb, 1, none⟩ (.string k)).setCell ⟨gc, 1, none⟩ (.string k)) = w5 at *
  have cgb_0 : w5.cell? ⟨gb, 0, none⟩ = some (.int .i64 Kb) := Bgb.at rfl
  have cgb_1 : w5.cell? ⟨gb, 1, none⟩ = some (.string k) := Bgb.at rfl
  have cgb_2 : w5.cell? ⟨gb, 2, none⟩ = some (.string vb) := Bgb.at rfl
  have cgc_0 : w5.cell? ⟨gc, 0, none⟩ = some (.int .i64 Kc) := Bgc.at rfl
  have cgc_1 : w5.cell? ⟨gc, 1, none⟩ = some (.string k) := Bgc.at rfl
  have cgc_2 : w5.cell? ⟨gc, 2, none⟩ = some (.string vc) := Bgc.at rfl
  refine (msg_Is_any Ka k va _).mono ?_; rintro e w6 ⟨rfl, hb_⟩; rw [← HA.out]
  clear cga_0
  clear cga_1
  clear cga_2
  replace Bga := Bga.belowS hb_
  clear cgb_0
  clear cgb_1
  clear cgb_2
  replace Bgb := Bgb.belowS hb_
  clear cgc_0
  clear cgc_1
  clear cgc_2
  replace Bgc := Bgc.belowS hb_
  replace hb := bt hb hb_
  clear hb_
  have cga_0 : w6.cell? ⟨ga, 0, none⟩ = some (.int .i64 Ka) := Bga.at rfl
  have cga_1 : w6.cell? ⟨ga, 1, none⟩ = some (.string k) := Bga.at rfl
  have cga_2 : w6.cell? ⟨ga, 2, none⟩ = some (.string va) := Bga.at rfl
  have cgb_0 : w6.cell? ⟨gb, 0, none⟩ = some (.int .i64 Kb) := Bgb.at rfl
  have cgb_1 : w6.cell? ⟨gb, 1, none⟩ = some (.string k) := Bgb.at rfl
  have cgb_2 : w6.cell? ⟨gb, 2, none⟩ = some (.string vb) := Bgb.at rfl
  have cgc_0 : w6.cell? ⟨gc, 0, none⟩ = some (.int .i64 Kc) := Bgc.at rfl
  have cgc_1 : w6.cell? ⟨gc, 1, none⟩ = some (.string k) := Bgc.at rfl
  have cgc_2 : w6.cell? ⟨gc, 2, none⟩ = some (.string vc) := Bgc.at rfl
  go_wp2_with fail
  refine (msg_Is_any Kb k vb _).mono ?_; rintro e w7 ⟨rfl, hb_⟩; rw [← HB.out]
  clear cga_0
  clear cga_1
  clear cga_2
  replace Bga := Bga.belowS hb_
  clear cgb_0
  clear cgb_1
  clear cgb_2
  replace Bgb := Bgb.belowS hb_
  clear cgc_0
  clear cgc_1
  clear cgc_2
  replace Bgc := Bgc.belowS hb_
  replace hb := bt hb hb_
  clear hb_
  have cga_0 : w7.cell? ⟨ga, 0, none⟩ = some (.int .i64 Ka) := Bga.at rfl
  have cga_1 : w7.cell? ⟨ga, 1, none⟩ = some (.string k) := Bga.at rfl
  have cga_2 : w7.cell? ⟨ga, 2, none⟩ = some (.string va) := Bga.at rfl
  have cgb_0 : w7.cell? ⟨gb, 0, none⟩ = some (.int .i64 Kb) := Bgb.at rfl
  have cgb_1 : w7.cell? ⟨gb, 1, none⟩ = some (.string k) := Bgb.at rfl
  have cgb_2 : w7.cell? ⟨gb, 2, none⟩ = some (.string vb) := Bgb.at rfl
  have cgc_0 : w7.cell? ⟨gc, 0, none⟩ = some (.int .i64 Kc) := Bgc.at rfl
  have cgc_1 : w7.cell? ⟨gc, 1, none⟩ = some (.string k) := Bgc.at rfl
  have cgc_2 : w7.cell? ⟨gc, 2, none⟩ = some (.string vc) := Bgc.at rfl
  go_wp2_with fail
  refine (msg_Is_any Kc k vc _).mono ?_; rintro e w8 ⟨rfl, hb_⟩; rw [← HC.out]
  clear cga_0
  clear cga_1
  clear cga_2
  replace Bga := Bga.belowS hb_
  clear cgb_0
  clear cgb_1
  clear cgb_2
  replace Bgb := Bgb.belowS hb_
  clear cgc_0
  clear cgc_1
  clear cgc_2
  replace Bgc := Bgc.belowS hb_
  replace hb := bt hb hb_
  clear hb_
  have cga_0 : w8.cell? ⟨ga, 0, none⟩ = some (.int .i64 Ka) := Bga.at rfl
  have cga_1 : w8.cell? ⟨ga, 1, none⟩ = some (.string k) := Bga.at rfl
  have cga_2 : w8.cell? ⟨ga, 2, none⟩ = some (.string va) := Bga.at rfl
  have cgb_0 : w8.cell? ⟨gb, 0, none⟩ = some (.int .i64 Kb) := Bgb.at rfl
  have cgb_1 : w8.cell? ⟨gb, 1, none⟩ = some (.string k) := Bgb.at rfl
  have cgb_2 : w8.cell? ⟨gb, 2, none⟩ = some (.string vb) := Bgb.at rfl
  have cgc_0 : w8.cell? ⟨gc, 0, none⟩ = some (.int .i64 Kc) := Bgc.at rfl
  have cgc_1 : w8.cell? ⟨gc, 1, none⟩ = some (.string k) := Bgc.at rfl
  have cgc_2 : w8.cell? ⟨gc, 2, none⟩ = some (.string vc) := Bgc.at rfl
  go_wp2_with fail
  refine (msg_Then_any Ka k va Kb k vb _).mono ?_; rintro e w9 ⟨rfl, hb_⟩; rw [← GX.out.1, GX.out.2]
  clear cga_0 cga_1 cga_2
  replace Bga := Bga.belowS hb_
  clear cgb_0 cgb_1 cgb_2
  replace Bgb := Bgb.belowS hb_
  clear cgc_0 cgc_1 cgc_2
  replace Bgc := Bgc.belowS hb_
  replace hb := bt hb hb_; clear hb_
  have hA := below_alloc w9 (.cells #[.int .i64 x, .string k, .string xv] 23)
  have Bmx := Blk.new w9 #[.int .i64 x, .string k, .string xv] 23
  replace Bga := Bga.belowS hA
  replace Bgb := Bgb.belowS hA
  replace Bgc := Bgc.belowS hA
  replace hb := bt hb hA; clear hA
  obtain ⟨mx, hmx⟩ : ∃ m, m = w9.heap.size := ⟨_, rfl⟩
  rw [← hmx] at Bmx
  have Hmx := hid hmx; clear hmx
  have cga_0 : (w9.alloc (.cells #[.int .i64 x, .string k, .string xv] 23)).cell? ⟨ga, 0, none⟩ = some (.int .i64 Ka) := Bga.at rfl
  have cga_1 : (w9.alloc (.cells #[.int .i64 x, .string k, .string xv] 23)).cell? ⟨ga, 1, none⟩ = some (.string k) := Bga.at rfl
  have cga_2 : (w9.alloc (.cells #[.int .i64 x, .string k, .string xv] 23)).cell? ⟨ga, 2, none⟩ = some (.string va) := Bga.at rfl
  have cgb_0 : (w9.alloc (.cells #[.int .i64 x, .string k, .string xv] 23)).cell? ⟨gb, 0, none⟩ = some (.int .i64 Kb) := Bgb.at rfl
  have cgb_1 : (w9.alloc (.cells #[.int .i64 x, .string k, .string xv] 23)).cell? ⟨gb, 1, none⟩ = some (.string k) := Bgb.at rfl
  have cgb_2 : (w9.alloc (.cells #[.int .i64 x, .string k, .string xv] 23)).cell? ⟨gb, 2, none⟩ = some (.string vb) := Bgb.at rfl
  have cgc_0 : (w9.alloc (.cells #[.int .i64 x, .string k, .string xv] 23)).cell? ⟨gc, 0, none⟩ = some (.int .i64 Kc) := Bgc.at rfl
  have cgc_1 : (w9.alloc (.cells #[.int .i64 x, .string k, .string xv] 23)).cell? ⟨gc, 1, none⟩ = some (.string k) := Bgc.at rfl
  have cgc_2 : (w9.alloc (.cells #[.int .i64 x, .string k, .string xv] 23)).cell? ⟨gc, 2, none⟩ = some (.string vc) := Bgc.at rfl
  go_wp2_with fail
  rw [← Hmx.out]
  clear Hmx
  generalize (w9.alloc (.cells #[.int .i64 x, .string k, .string xv] 23)) = w10 at *
  have cmx_0 : w10.cell? ⟨mx, 0, none⟩ = some (.int .i64 x) := Bmx.at rfl
  have cmx_1 : w10.cell? ⟨mx, 1, none⟩ = some (.string k) := Bmx.at rfl
  have cmx_2 : w10.cell? ⟨mx, 2, none⟩ = some (.string xv) := Bmx.at rfl
  refine (msg_Then_any Kb k vb Kc k vc _).mono ?_; rintro e w11 ⟨rfl, hb_⟩; rw [← GY.out.1, GY.out.2]
  clear cga_0 cga_1 cga_2
  replace Bga := Bga.belowS hb_
  clear cgb_0 cgb_1 cgb_2
  replace Bgb := Bgb.belowS hb_
  clear cgc_0 cgc_1 cgc_2
  replace Bgc := Bgc.belowS hb_
  clear cmx_0 cmx_1 cmx_2
  replace Bmx := Bmx.belowS hb_
  replace hb := bt hb hb_; clear hb_
  have hA := below_alloc w11 (.cells #[.int .i64 y, .string k, .string yv] 23)
  have Bmy := Blk.new w11 #[.int .i64 y, .string k, .string yv] 23
  replace Bga := Bga.belowS hA
  replace Bgb := Bgb.belowS hA
  replace Bgc := Bgc.belowS hA
  replace Bmx := Bmx.belowS hA
  replace hb := bt hb hA; clear hA
  obtain ⟨my, hmy⟩ : ∃ m, m = w11.heap.size := ⟨_, rfl⟩
  rw [← hmy] at Bmy
  have Hmy := hid hmy; clear hmy
  have cga_0 : (w11.alloc (.cells #[.int .i64 y, .string k, .string yv] 23)).cell? ⟨ga, 0, none⟩ = some (.int .i64 Ka) := Bga.at rfl
  have cga_1 : (w11.alloc (.cells #[.int .i64 y, .string k, .string yv] 23)).cell? ⟨ga, 1, none⟩ = some (.string k) := Bga.at rfl
  have cga_2 : (w11.alloc (.cells #[.int .i64 y, .string k, .string yv] 23)).cell? ⟨ga, 2, none⟩ = some (.string va) := Bga.at rfl
  have cgb_0 : (w11.alloc (.cells #[.int .i64 y, .string k, .string yv] 23)).cell? ⟨gb, 0, none⟩ = some (.int .i64 Kb) := Bgb.at rfl
  have cgb_1 : (w11.alloc (.cells #[.int .i64 y, .string k, .string yv] 23)).cell? ⟨gb, 1, none⟩ = some (.string k) := Bgb.at rfl
  have cgb_2 : (w11.alloc (.cells #[.int .i64 y, .string k, .string yv] 23)).cell? ⟨gb, 2, none⟩ = some (.string vb) := Bgb.at rfl
  have cgc_0 : (w11.alloc (.cells #[.int .i64 y, .string k, .string yv] 23)).cell? ⟨gc, 0, none⟩ = some (.int .i64 Kc) := Bgc.at rfl
  have cgc_1 : (w11.alloc (.cells #[.int .i64 y, .string k, .string yv] 23)).cell? ⟨gc, 1, none⟩ = some (.string k) := Bgc.at rfl
  have cgc_2 : (w11.alloc (.cells #[.int .i64 y, .string k, .string yv] 23)).cell? ⟨gc, 2, none⟩ = some (.string vc) := Bgc.at rfl
  have cmx_0 : (w11.alloc (.cells #[.int .i64 y, .string k, .string yv] 23)).cell? ⟨mx, 0, none⟩ = some (.int .i64 x) := Bmx.at rfl
  have cmx_1 : (w11.alloc (.cells #[.int .i64 y, .string k, .string yv] 23)).cell? ⟨mx, 1, none⟩ = some (.string k) := Bmx.at rfl
  have cmx_2 : (w11.alloc (.cells #[.int .i64 y, .string k, .string yv] 23)).cell? ⟨mx, 2, none⟩ = some (.string xv) := Bmx.at rfl
  go_wp2_with fail
  rw [← Hmy.out]
  clear Hmy
  generalize (w11.alloc (.cells #[.int .i64 y, .string k, .string yv] 23)) = w12 at *
  have cmy_0 : w12.cell? ⟨my, 0, none⟩ = some (.int .i64 y) := Bmy.at rfl
  have cmy_1 : w12.cell? ⟨my, 1, none⟩ = some (.string k) := Bmy.at rfl
  have cmy_2 : w12.cell? ⟨my, 2, none⟩ = some (.string yv) := Bmy.at rfl
  refine (msg_Is_any x k xv _).mono ?_; rintro e w13 ⟨rfl, hb_⟩; rw [GI.out]
  clear cga_0
  clear cga_1
  clear cga_2
  replace Bga := Bga.belowS hb_
  clear cgb_0
  clear cgb_1
  clear cgb_2
  replace Bgb := Bgb.belowS hb_
  clear cgc_0
  clear cgc_1
  clear cgc_2
  replace Bgc := Bgc.belowS hb_
  clear cmx_0
  clear cmx_1
  clear cmx_2
  replace Bmx := Bmx.belowS hb_
  clear cmy_0
  clear cmy_1
  clear cmy_2
  replace Bmy := Bmy.belowS hb_
  replace hb := bt hb hb_
  clear hb_
  have cga_0 : w13.cell? ⟨ga, 0, none⟩ = some (.int .i64 Ka) := Bga.at rfl
  have cga_1 : w13.cell? ⟨ga, 1, none⟩ = some (.string k) := Bga.at rfl
  have cga_2 : w13.cell? ⟨ga, 2, none⟩ = some (.string va) := Bga.at rfl
  have cgb_0 : w13.cell? ⟨gb, 0, none⟩ = some (.int .i64 Kb) := Bgb.at rfl
  have cgb_1 : w13.cell? ⟨gb, 1, none⟩ = some (.string k) := Bgb.at rfl
  have cgb_2 : w13.cell? ⟨gb, 2, none⟩ = some (.string vb) := Bgb.at rfl
  have cgc_0 : w13.cell? ⟨gc, 0, none⟩ = some (.int .i64 Kc) := Bgc.at rfl
  have cgc_1 : w13.cell? ⟨gc, 1, none⟩ = some (.string k) := Bgc.at rfl
  have cgc_2 : w13.cell? ⟨gc, 2, none⟩ = some (.string vc) := Bgc.at rfl
  have cmx_0 : w13.cell? ⟨mx, 0, none⟩ = some (.int .i64 x) := Bmx.at rfl
  have cmx_1 : w13.cell? ⟨mx, 1, none⟩ = some (.string k) := Bmx.at rfl
  have cmx_2 : w13.cell? ⟨mx, 2, none⟩ = some (.string xv) := Bmx.at rfl
  have cmy_0 : w13.cell? ⟨my, 0, none⟩ = some (.int .i64 y) := Bmy.at rfl
  have cmy_1 : w13.cell? ⟨my, 1, none⟩ = some (.string k) := Bmy.at rfl
  have cmy_2 : w13.cell? ⟨my, 2, none⟩ = some (.string yv) := Bmy.at rfl
  go_wp2_with fail
  refine (msg_Apply_any Ka k va val has _).mono ?_; rintro e w14 ⟨rfl, hb_⟩; rw [← G1.out.1, ← G1.out.2]
  clear cga_0
  clear cga_1
  clear cga_2
  replace Bga := Bga.belowS hb_
  clear cgb_0
  clear cgb_1
  clear cgb_2
  replace Bgb := Bgb.belowS hb_
  clear cgc_0
  clear cgc_1
  clear cgc_2
  replace Bgc := Bgc.belowS hb_
  clear cmx_0
  clear cmx_1
  clear cmx_2
  replace Bmx := Bmx.belowS hb_
  clear cmy_0
  clear cmy_1
  clear cmy_2
  replace Bmy := Bmy.belowS hb_
  replace hb := bt hb hb_
  clear hb_
  have cga_0 : w14.cell? ⟨ga, 0, none⟩ = some (.int .i64 Ka) := Bga.at rfl
  have cga_1 : w14.cell? ⟨ga, 1, none⟩ = some (.string k) := Bga.at rfl
  have cga_2 : w14.cell? ⟨ga, 2, none⟩ = some (.string va) := Bga.at rfl
  have cgb_0 : w14.cell? ⟨gb, 0, none⟩ = some (.int .i64 Kb) := Bgb.at rfl
  have cgb_1 : w14.cell? ⟨gb, 1, none⟩ = some (.string k) := Bgb.at rfl
  have cgb_2 : w14.cell? ⟨gb, 2, none⟩ = some (.string vb) := Bgb.at rfl
  have cgc_0 : w14.cell? ⟨gc, 0, none⟩ = some (.int .i64 Kc) := Bgc.at rfl
  have cgc_1 : w14.cell? ⟨gc, 1, none⟩ = some (.string k) := Bgc.at rfl
  have cgc_2 : w14.cell? ⟨gc, 2, none⟩ = some (.string vc) := Bgc.at rfl
  have cmx_0 : w14.cell? ⟨mx, 0, none⟩ = some (.int .i64 x) := Bmx.at rfl
  have cmx_1 : w14.cell? ⟨mx, 1, none⟩ = some (.string k) := Bmx.at rfl
  have cmx_2 : w14.cell? ⟨mx, 2, none⟩ = some (.string xv) := Bmx.at rfl
  have cmy_0 : w14.cell? ⟨my, 0, none⟩ = some (.int .i64 y) := Bmy.at rfl
  have cmy_1 : w14.cell? ⟨my, 1, none⟩ = some (.string k) := Bmy.at rfl
  have cmy_2 : w14.cell? ⟨my, 2, none⟩ = some (.string yv) := Bmy.at rfl
  go_wp2_with fail
  refine (msg_Apply_any Kb k vb V1 B1 _).mono ?_; rintro e w15 ⟨rfl, hb_⟩; rw [G2.out.1, G2.out.2]
  clear cga_0
  clear cga_1
  clear cga_2
  replace Bga := Bga.belowS hb_
  clear cgb_0
  clear cgb_1
  clear cgb_2
  replace Bgb := Bgb.belowS hb_
  clear cgc_0
  clear cgc_1
  clear cgc_2
  replace Bgc := Bgc.belowS hb_
  clear cmx_0
  clear cmx_1
  clear cmx_2
  replace Bmx := Bmx.belowS hb_
  clear cmy_0
  clear cmy_1
  clear cmy_2
  replace Bmy := Bmy.belowS hb_
  replace hb := bt hb hb_
  clear hb_
  have cga_0 : w15.cell? ⟨ga, 0, none⟩ = some (.int .i64 Ka) := Bga.at rfl
  have cga_1 : w15.cell? ⟨ga, 1, none⟩ = some (.string k) := Bga.at rfl
  have cga_2 : w15.cell? ⟨ga, 2, none⟩ = some (.string va) := Bga.at rfl
  have cgb_0 : w15.cell? ⟨gb, 0, none⟩ = some (.int .i64 Kb) := Bgb.at rfl
  have cgb_1 : w15.cell? ⟨gb, 1, none⟩ = some (.string k) := Bgb.at rfl
  have cgb_2 : w15.cell? ⟨gb, 2, none⟩ = some (.string vb) := Bgb.at rfl
  have cgc_0 : w15.cell? ⟨gc, 0, none⟩ = some (.int .i64 Kc) := Bgc.at rfl
  have cgc_1 : w15.cell? ⟨gc, 1, none⟩ = some (.string k) := Bgc.at rfl
  have cgc_2 : w15.cell? ⟨gc, 2, none⟩ = some (.string vc) := Bgc.at rfl
  have cmx_0 : w15.cell? ⟨mx, 0, none⟩ = some (.int .i64 x) := Bmx.at rfl
  have cmx_1 : w15.cell? ⟨mx, 1, none⟩ = some (.string k) := Bmx.at rfl
  have cmx_2 : w15.cell? ⟨mx, 2, none⟩ = some (.string xv) := Bmx.at rfl
  have cmy_0 : w15.cell? ⟨my, 0, none⟩ = some (.int .i64 y) := Bmy.at rfl
  have cmy_1 : w15.cell? ⟨my, 1, none⟩ = some (.string k) := Bmy.at rfl
  have cmy_2 : w15.cell? ⟨my, 2, none⟩ = some (.string yv) := Bmy.at rfl
  go_wp2_with fail
  refine (msg_Apply_any x k xv val has _).mono ?_; rintro e w16 ⟨rfl, hb_⟩; rw [← G3.out.1, ← G3.out.2]
  clear cga_0
  clear cga_1
  clear cga_2
  replace Bga := Bga.belowS hb_
  clear cgb_0
  clear cgb_1
  clear cgb_2
  replace Bgb := Bgb.belowS hb_
  clear cgc_0
  clear cgc_1
  clear cgc_2
  replace Bgc := Bgc.belowS hb_
  clear cmx_0
  clear cmx_1
  clear cmx_2
  replace Bmx := Bmx.belowS hb_
  clear cmy_0
  clear cmy_1
  clear cmy_2
  replace Bmy := Bmy.belowS hb_
  replace hb := bt hb hb_
  clear hb_
  have cga_0 : w16.cell? ⟨ga, 0, none⟩ = some (.int .i64 Ka) := Bga.at rfl
  have cga_1 : w16.cell? ⟨ga, 1, none⟩ = some (.string k) := Bga.at rfl
  have cga_2 : w16.cell? ⟨ga, 2, none⟩ = some (.string va) := Bga.at rfl
  have cgb_0 : w16.cell? ⟨gb, 0, none⟩ = some (.int .i64 Kb) := Bgb.at rfl
  have cgb_1 : w16.cell? ⟨gb, 1, none⟩ = some (.string k) := Bgb.at rfl
  have cgb_2 : w16.cell? ⟨gb, 2, none⟩ = some (.string vb) := Bgb.at rfl
  have cgc_0 : w16.cell? ⟨gc, 0, none⟩ = some (.int .i64 Kc) := Bgc.at rfl
  have cgc_1 : w16.cell? ⟨gc, 1, none⟩ = some (.string k) := Bgc.at rfl
  have cgc_2 : w16.cell? ⟨gc, 2, none⟩ = some (.string vc) := Bgc.at rfl
  have cmx_0 : w16.cell? ⟨mx, 0, none⟩ = some (.int .i64 x) := Bmx.at rfl
  have cmx_1 : w16.cell? ⟨mx, 1, none⟩ = some (.string k) := Bmx.at rfl
  have cmx_2 : w16.cell? ⟨mx, 2, none⟩ = some (.string xv) := Bmx.at rfl
  have cmy_0 : w16.cell? ⟨my, 0, none⟩ = some (.int .i64 y) := Bmy.at rfl
  have cmy_1 : w16.cell? ⟨my, 1, none⟩ = some (.string k) := Bmy.at rfl
  have cmy_2 : w16.cell? ⟨my, 2, none⟩ = some (.string yv) := Bmy.at rfl
  go_wp2_with fail
  refine (msg_Then_any x k xv Kc k vc _).mono ?_; rintro e w17 ⟨rfl, hb_⟩; rw [← GP.out.1, GP.out.2]
  clear cga_0 cga_1 cga_2
  replace Bga := Bga.belowS hb_
  clear cgb_0 cgb_1 cgb_2
  replace Bgb := Bgb.belowS hb_
  clear cgc_0 cgc_1 cgc_2
  replace Bgc := Bgc.belowS hb_
  clear cmx_0 cmx_1 cmx_2
  replace Bmx := Bmx.belowS hb_
  clear cmy_0 cmy_1 cmy_2
  replace Bmy := Bmy.belowS hb_
  replace hb := bt hb hb_; clear hb_
  have hA := below_alloc w17 (.cells #[.int .i64 p, .string pk, .string pv] 23)
  have Bmp := Blk.new w17 #[.int .i64 p, .string pk, .string pv] 23
  replace Bga := Bga.belowS hA
  replace Bgb := Bgb.belowS hA
  replace Bgc := Bgc.belowS hA
  replace Bmx := Bmx.belowS hA
  replace Bmy := Bmy.belowS hA
  replace hb := bt hb hA; clear hA
  obtain ⟨mp, hmp⟩ : ∃ m, m = w17.heap.size := ⟨_, rfl⟩
  rw [← hmp] at Bmp
  have Hmp := hid hmp; clear hmp
  have cga_0 : (w17.alloc (.cells #[.int .i64 p, .string pk, .string pv] 23)).cell? ⟨ga, 0, none⟩ = some (.int .i64 Ka) := Bga.at rfl
  have cga_1 : (w17.alloc (.cells #[.int .i64 p, .string pk, .string pv] 23)).cell? ⟨ga, 1, none⟩ = some (.string k) := Bga.at rfl
  have cga_2 : (w17.alloc (.cells #[.int .i64 p, .string pk, .string pv] 23)).cell? ⟨ga, 2, none⟩ = some (.string va) := Bga.at rfl
  have cgb_0 : (w17.alloc (.cells #[.int .i64 p, .string pk, .string pv] 23)).cell? ⟨gb, 0, none⟩ = some (.int .i64 Kb) := Bgb.at rfl
  have cgb_1 : (w17.alloc (.cells #[.int .i64 p, .string pk, .string pv] 23)).cell? ⟨gb, 1, none⟩ = some (.string k) := Bgb.at rfl
  have cgb_2 : (w17.alloc (.cells #[.int .i64 p, .string pk, .string pv] 23)).cell? ⟨gb, 2, none⟩ = some (.string vb) := Bgb.at rfl
  have cgc_0 : (w17.alloc (.cells #[.int .i64 p, .string pk, .string pv] 23)).cell? ⟨gc, 0, none⟩ = some (.int .i64 Kc) := Bgc.at rfl
  have cgc_1 : (w17.alloc (.cells #[.int .i64 p, .string pk, .string pv] 23)).cell? ⟨gc, 1, none⟩ = some (.string k) := Bgc.at rfl
  have cgc_2 : (w17.alloc (.cells #[.int .i64 p, .string pk, .string pv] 23)).cell? ⟨gc, 2, none⟩ = some (.string vc) := Bgc.at rfl
  have cmx_0 : (w17.alloc (.cells #[.int .i64 p, .string pk, .string pv] 23)).cell? ⟨mx, 0, none⟩ = some (.int .i64 x) := Bmx.at rfl
  have cmx_1 : (w17.alloc (.cells #[.int .i64 p, .string pk, .string pv] 23)).cell? ⟨mx, 1, none⟩ = some (.string k) := Bmx.at rfl
  have cmx_2 : (w17.alloc (.cells #[.int .i64 p, .string pk, .string pv] 23)).cell? ⟨mx, 2, none⟩ = some (.string xv) := Bmx.at rfl
  have cmy_0 : (w17.alloc (.cells #[.int .i64 p, .string pk, .string pv] 23)).cell? ⟨my, 0, none⟩ = some (.int .i64 y) := Bmy.at rfl
  have cmy_1 : (w17.alloc (.cells #[.int .i64 p, .string pk, .string pv] 23)).cell? ⟨my, 1, none⟩ = some (.string k) := Bmy.at rfl
  have cmy_2 : (w17.alloc (.cells #[.int .i64 p, .string pk, .string pv] 23)).cell? ⟨my, 2, none⟩ = some (.string yv) := Bmy.at rfl
  go_wp2_with fail
  rw [← Hmp.out]
  clear Hmp
  generalize (w17.alloc (.cells #[.int .i64 p, .string pk, .string pv] 23)) = w18 at *
  have cmp_0 : w18.cell? ⟨mp, 0, none⟩ = some (.int .i64 p) := Bmp.at rfl
  have cmp_1 : w18.cell? ⟨mp, 1, none⟩ = some (.string pk) := Bmp.at rfl
  have cmp_2 : w18.cell? ⟨mp, 2, none⟩ = some (.string pv) := Bmp.at rfl
  refine (msg_Then_any Ka k va y k yv _).mono ?_; rintro e w19 ⟨rfl, hb_⟩; rw [← GQ.out.1, GQ.out.2]
  replace Bmp := Bmp.belowS hb_; replace hb := bt hb hb_
  clear hb_ cga_0 cga_1 cga_2 cgb_0 cgb_1 cgb_2 cgc_0 cgc_1 cgc_2 cmx_0 cmx_1 cmx_2 cmy_0 cmy_1 cmy_2 cmp_0 cmp_1 cmp_2 Bga Bgb Bgc Bmx Bmy
  have hA := below_alloc w19 (.cells #[.int .i64 p, .string pk, .string pv] 23)
  replace Bmp := Bmp.belowS hA; replace hb := bt hb hA
  have cmp_0 : (w19.alloc (.cells #[.int .i64 p, .string pk, .string pv] 23)).cell? ⟨mp, 0, none⟩ = some (.int .i64 p) := Bmp.at rfl
  have cmp_1 : (w19.alloc (.cells #[.int .i64 p, .string pk, .string pv] 23)).cell? ⟨mp, 1, none⟩ = some (.string pk) := Bmp.at rfl
  have cmp_2 : (w19.alloc (.cells #[.int .i64 p, .string pk, .string pv] 23)).cell? ⟨mp, 2, none⟩ = some (.string pv) := Bmp.at rfl
  clear hA Bmp
  go_wp2_with fail
  go_ret
  exact ⟨rfl, hb⟩

/-- in the row's words -/
theorem msgThen_law (Ka : Int) (k va : ByteArray) (Kb : Int) (kb vb : ByteArray) (Kc : Int) (kc vc val : ByteArray) (has : Bool) (w : World) (_ : (Lit.int .i64 Ka).wf = true) (_ : k.size ≤ 140737488351232) (_ : va.size ≤ 140737488351232) (_ : (Lit.int .i64 Kb).wf = true) (_ : kb.size ≤ 140737488351232) (_ : vb.size ≤ 140737488351232) (_ : (Lit.int .i64 Kc).wf = true) (_ : kc.size ≤ 140737488351232) (_ : vc.size ≤ 140737488351232) (_ : val.size ≤ 140737488351232) :
    Calls Try.prog 5 #[.agg #[.int .i64 Ka, .string k, .string va], .agg #[.int .i64 Kb, .string kb, .string vb], .agg #[.int .i64 Kc, .string kc, .string vc], .string val, .bool has] w fun e w' => e = .returned (.bool true) ∧ Below w.heap.size w w' :=
  msgThen_walk Ka k va Kb kb vb Kc kc vc val has w
end Go.Proofs.Ytbhmkigomlpkcaa
