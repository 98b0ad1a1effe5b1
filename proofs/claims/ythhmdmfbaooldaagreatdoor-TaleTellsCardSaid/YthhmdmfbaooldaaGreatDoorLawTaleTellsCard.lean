/-
  The row of the law TaleTells, out of its walk.
-/
import Derived.Test.YthhmdmfbaooldaaGreatDoorRows
import Derived.Test.YthhmdmfbaooldaaGreatDoorTaleTells
import Derived.Test.YthhmdmfbaooldaaGreatDoorOpen
import Derived.WalkKit
import Derived.ProofKit
import Derived.OpenShut
import Derived.ShutString
import Derived.ChangeOld
import Derived.Below
import Derived.SizedLaws
import Derived.Carry
import Derived.Test.YthhmdmfbaooldaaGreatDoorTaleCard
import Derived.Test.YthhmdmfbaooldaaGreatDoorTie
import Derived.Test.YthhmdmfbaooldaaGreatDoorCards
import Derived.Lay
import Derived.LaidMore
import Derived.MakeChecks
import Derived.SevenTiedAt
import Derived.Stop.Joined
namespace Go.Proofs.YthhmdmfbaooldaaGreatDoor.taleTells
open Go.ChangeShapes Go.WideShapes Go.ChangeAt Go.RowKit
open Go.ChangeMaps (open_string shut_string)
set_option linter.unusedVariables false
theorem own : ownKnob Tryz.prog.godebug = none := by kernel_rfl
theorem laidOut : laidOutB Tryz.prog = true := by kernel_rfl
theorem len13 : ∀ {l : List Value}, l.length = 13 → ∃ x0 x1 x2 x3 x4 x5 x6 x7 x8 x9 x10 x11 x12, l = [x0, x1, x2, x3, x4, x5, x6, x7, x8, x9, x10, x11, x12]
  | [x0, x1, x2, x3, x4, x5, x6, x7, x8, x9, x10, x11, x12], _ => ⟨x0, x1, x2, x3, x4, x5, x6, x7, x8, x9, x10, x11, x12, rfl⟩
theorem len2 : ∀ {l : List Value}, l.length = 2 → ∃ x0 x1, l = [x0, x1]
  | [x0, x1], _ => ⟨x0, x1, rfl⟩
set_option maxHeartbeats 1000000 in
set_option maxRecDepth 100000 in
theorem lifted (os : Os) (started : os.Started) (H : Type) (enc : TypeId × Value → H) :
    ReturnsInHanded {} Tryz.checked os 5 .any (fun w args => (Rows.taleTellsSpec.pre enc Tryz.prog Tryz.f5 Rows.taleTellsRow.domain false w args ∧ laidMetH Tryz.prog Rows.taleTellsRow.laid w) ∧ sizedMet enc Tryz.prog Tryz.f5 (OpenSpec.ofChange Rows.taleTellsSpec) false w args) (Rows.taleTellsSpec.post enc Tryz.prog Tryz.f5 false true false false) := by
  refine returnsInHanded_of_change_and_shaped (C := Tryz.checked) (X := fun w _ => laidMetH Tryz.prog Rows.taleTellsRow.laid w) (fun _ _ _ hh h => h.of_heap hh) own started (by kernel_rfl) Tryz.func5
    (ChangeSpec.witness_shaped (enc := enc) (C := Tryz.checked) (os := os) (X := fun w _ => laidMetH Tryz.prog Rows.taleTellsRow.laid w) false (World.laidAll Tryz.prog os Rows.taleTellsRow.laid) #[.agg #[.int .i64 0, .bool false, .string ByteArray.empty, .slice none 0 0, .int .i64 0, .int .i64 0, .int .i64 0, .int .i64 0, .int .i64 0, .int .i64 0, .int .i64 0, .int .i64 0, .int .i64 0]] 8 (World.laidAll_os _ _ _)
      (World.shaped_of_ZipB (by kernel_rfl) (by kernel_rfl)) (by kernel_rfl) (by kernel_rfl) (by kernel_rfl)
      (by rw [MakeChecks.laidMetH_plain _ _ _ (by kernel_rfl)]; exact laidMet_laidAll _ (by kernel_rfl) (by kernel_rfl))) ?_
  intro W base args ds gs before hval0 hW hcnd hsz0 hX0 hS0
  have hsz : (DataW.weightsEach Tryz.prog (Tryz.f5.params.toList ++ Rows.taleTellsSpec.plain.varTypes Tryz.prog) (ds ++ gs)).all (· ≤ reachBytes) = true := hsz0
  have hval : ∀ (j : Nat) t v, Tryz.f5.params[j]? = some t → args[j]? = some v → Value.okWide Tryz.prog W .any base t v := hval0
  have hW' := hW
  obtain ⟨p, q, hA0, hV, rfl, hfz, hnd⟩ := hW
  have hA : DataW.TrodAll enc Tryz.prog W 0 (fun _ => true) true Tryz.f5.params.toList args.toList ds p := hA0
  rw [Tryz.params5] at hA hval hsz
  obtain ⟨v0, vs0, d0, ds0, p0, q0, hargs, rfl, rfl, h0, r0⟩ := trodAll_cons hA
  obtain ⟨rfl, rfl, rfl⟩ := trodAll_nil r0
  obtain rfl : args = #[v0] := by cases args; simp_all
  obtain ⟨rfl, rfl⟩ := trodVars_none hV
  have k0 := h0
  have lt0 : ∀ x ∈ p0, x.block < W.heap.size := by obtain ⟨m, hm⟩ := k0; exact DataW.trod_lt m _ _ _ hm
  have F0 := fact_of (P := Tryz.prog) 5 h0 hsz (j := 0) rfl rfl
  obtain ⟨⟨l0⟩, rfl, _⟩ := okWide_struct Tryz.underlying52 (hval 0 52 v0 rfl rfl)
  obtain ⟨c0, F0⟩ := fact_struct Tryz.underlying52 F0
  replace c0 : l0.length = 13 := c0.trans (by kernel_rfl)
  obtain ⟨x0_0, x0_1, x0_2, x0_3, x0_4, x0_5, x0_6, x0_7, x0_8, x0_9, x0_10, x0_11, x0_12, rfl⟩ := len13 c0
  have G0_0 := fact_sub F0 (t := 24) (i := 0) (o := 0) (by kernel_rfl) (show Tryz.prog.cellsOf 24 = 1 by kernel_rfl) (l := [x0_0]) rfl
  obtain ⟨a0_0, e_, wa0_0⟩ := fact_int Tryz.underlying24 G0_0
  simp only [List.cons.injEq, and_true] at e_
  subst e_
  have G0_1 := fact_sub F0 (t := 4) (i := 1) (o := 1) (by kernel_rfl) (show Tryz.prog.cellsOf 4 = 1 by kernel_rfl) (l := [x0_1]) rfl
  obtain ⟨a0_1, e_⟩ := fact_bool Tryz.underlying4 G0_1
  simp only [List.cons.injEq, and_true] at e_
  subst e_
  have G0_2 := fact_sub F0 (t := 9) (i := 2) (o := 2) (by kernel_rfl) (show Tryz.prog.cellsOf 9 = 1 by kernel_rfl) (l := [x0_2]) rfl
  obtain ⟨a0_2, e_, wa0_2⟩ := fact_string Tryz.underlying9 G0_2
  simp only [List.cons.injEq, and_true] at e_
  subst e_
  have G0_3 := fact_sub F0 (t := 48) (i := 3) (o := 3) (by kernel_rfl) (show Tryz.prog.cellsOf 48 = 1 by kernel_rfl) (l := [x0_3]) rfl
  obtain ⟨A0_3, len0_3, cap0_3, e_⟩ := fact_slice_shape Tryz.underlying48 G0_3
  simp only [List.cons.injEq, and_true] at e_
  subst e_
  obtain ⟨u0_3, m0_3, b0_3, vv0_3, hl0_3, hvv0_3, g0_3⟩ := fact_slice Tryz.underlying48 (by rw [show Tryz.prog.cellsOf 54 = 2 by kernel_rfl]; decide) G0_3
  obtain ⟨z0_3, rfl, w0_3⟩ := list_told (f := fun x : ByteArray × ByteArray => [Value.string x.1, Value.string x.2]) (p := fun x : ByteArray × ByteArray => x.1.size ≤ 140737488351232 ∧ x.2.size ≤ 140737488351232) (vs := vv0_3) fun c hc => by
    obtain ⟨hcl, hcf⟩ := hvv0_3 c hc
    replace hcl : c.length = 2 := hcl.trans (by kernel_rfl)
    obtain ⟨_, hcf⟩ := fact_struct Tryz.underlying54 hcf
    obtain ⟨x0, x1, rfl⟩ := len2 hcl
    have G0 := fact_field hcf (t := 9) (i := 0) (by kernel_rfl) (show Tryz.prog.cellsOf 9 = 1 by kernel_rfl) (v := x0) rfl
    obtain ⟨y0, e_, wy0⟩ := fact_string Tryz.underlying9 G0
    simp only [List.cons.injEq, and_true] at e_
    subst e_
    have G1 := fact_field hcf (t := 9) (i := 1) (by kernel_rfl) (show Tryz.prog.cellsOf 9 = 1 by kernel_rfl) (v := x1) rfl
    obtain ⟨y1, e_, wy1⟩ := fact_string Tryz.underlying9 G1
    simp only [List.cons.injEq, and_true] at e_
    subst e_
    exact ⟨(y0, y1), rfl, wy0, wy1⟩
  rw [← List.flatMap_def] at g0_3
  rw [List.length_map] at hl0_3
  subst hl0_3
  have G0_4 := fact_sub F0 (t := 50) (i := 4) (o := 4) (by kernel_rfl) (show Tryz.prog.cellsOf 50 = 9 by kernel_rfl) (l := [x0_4, x0_5, x0_6, x0_7, x0_8, x0_9, x0_10, x0_11, x0_12]) rfl
  obtain ⟨_, H0_4⟩ := fact_struct Tryz.underlying50 G0_4
  have G0_4_0 := fact_sub H0_4 (t := 3) (i := 0) (o := 0) (by kernel_rfl) (show Tryz.prog.cellsOf 3 = 1 by kernel_rfl) (l := [x0_4]) rfl
  obtain ⟨a0_4_0, e_, wa0_4_0⟩ := fact_int Tryz.underlying3 G0_4_0
  simp only [List.cons.injEq, and_true] at e_
  subst e_
  have G0_4_1 := fact_sub H0_4 (t := 3) (i := 1) (o := 1) (by kernel_rfl) (show Tryz.prog.cellsOf 3 = 1 by kernel_rfl) (l := [x0_5]) rfl
  obtain ⟨a0_4_1, e_, wa0_4_1⟩ := fact_int Tryz.underlying3 G0_4_1
  simp only [List.cons.injEq, and_true] at e_
  subst e_
  have G0_4_2 := fact_sub H0_4 (t := 3) (i := 2) (o := 2) (by kernel_rfl) (show Tryz.prog.cellsOf 3 = 1 by kernel_rfl) (l := [x0_6]) rfl
  obtain ⟨a0_4_2, e_, wa0_4_2⟩ := fact_int Tryz.underlying3 G0_4_2
  simp only [List.cons.injEq, and_true] at e_
  subst e_
  have G0_4_3 := fact_sub H0_4 (t := 3) (i := 3) (o := 3) (by kernel_rfl) (show Tryz.prog.cellsOf 3 = 1 by kernel_rfl) (l := [x0_7]) rfl
  obtain ⟨a0_4_3, e_, wa0_4_3⟩ := fact_int Tryz.underlying3 G0_4_3
  simp only [List.cons.injEq, and_true] at e_
  subst e_
  have G0_4_4 := fact_sub H0_4 (t := 3) (i := 4) (o := 4) (by kernel_rfl) (show Tryz.prog.cellsOf 3 = 1 by kernel_rfl) (l := [x0_8]) rfl
  obtain ⟨a0_4_4, e_, wa0_4_4⟩ := fact_int Tryz.underlying3 G0_4_4
  simp only [List.cons.injEq, and_true] at e_
  subst e_
  have G0_4_5 := fact_sub H0_4 (t := 3) (i := 5) (o := 5) (by kernel_rfl) (show Tryz.prog.cellsOf 3 = 1 by kernel_rfl) (l := [x0_9]) rfl
  obtain ⟨a0_4_5, e_, wa0_4_5⟩ := fact_int Tryz.underlying3 G0_4_5
  simp only [List.cons.injEq, and_true] at e_
  subst e_
  have G0_4_6 := fact_sub H0_4 (t := 3) (i := 6) (o := 6) (by kernel_rfl) (show Tryz.prog.cellsOf 3 = 1 by kernel_rfl) (l := [x0_10]) rfl
  obtain ⟨a0_4_6, e_, wa0_4_6⟩ := fact_int Tryz.underlying3 G0_4_6
  simp only [List.cons.injEq, and_true] at e_
  subst e_
  have G0_4_7 := fact_sub H0_4 (t := 3) (i := 7) (o := 7) (by kernel_rfl) (show Tryz.prog.cellsOf 3 = 1 by kernel_rfl) (l := [x0_11]) rfl
  obtain ⟨a0_4_7, e_, wa0_4_7⟩ := fact_int Tryz.underlying3 G0_4_7
  simp only [List.cons.injEq, and_true] at e_
  subst e_
  have G0_4_8 := fact_sub H0_4 (t := 3) (i := 8) (o := 8) (by kernel_rfl) (show Tryz.prog.cellsOf 3 = 1 by kernel_rfl) (l := [x0_12]) rfl
  obtain ⟨a0_4_8, e_, wa0_4_8⟩ := fact_int Tryz.underlying3 G0_4_8
  simp only [List.cons.injEq, and_true] at e_
  subst e_
  clear hA0 hval0 hsz0 hsz
  refine (taleTells_row a0_0 a0_1 a0_2 A0_3 cap0_3 z0_3 a0_4_0 a0_4_1 a0_4_2 a0_4_3 a0_4_4 a0_4_5 a0_4_6 a0_4_7 a0_4_8 W (lib28_of hX0 hS0) wa0_0 wa0_2 g0_3 w0_3 u0_3 m0_3 wa0_4_0 wa0_4_1 wa0_4_2 wa0_4_3 wa0_4_4 wa0_4_5 wa0_4_6 wa0_4_7 wa0_4_8).mono fun e W' ⟨he, bel⟩ => ?_
  subst he
  exact ⟨_, rfl, _, _, _, [], _, [], hW', trodAll_mk1 (shut_bool Tryz.underlying4 _), (trodAll_cons_mk (Below.trod laidOut (by kernel_rfl) (of_decide_eq_true (by kernel_rfl)) k0 bel lt0) trodAll_mk0), rfl, bel.frame _, fun h => by cases h⟩
theorem over : Rows.taleTellsRow.holds Tryz.pinned (OpenSpec.ofChange Rows.taleTellsSpec) :=
  OpenClaim.holds_of_wide 5 Tryz.f5 rfl rfl rfl rfl rfl rfl rfl ⟨rfl, rfl, rfl, rfl, rfl⟩ rfl rfl rfl rfl rfl (by kernel_rfl) Tryz.func5 (by kernel_rfl)
    (of_decide_eq_true (by kernel_rfl)) (by unfold Func.isWrapper; first | (rw [if_pos (by decide +kernel)]; kernel_rfl) | (rw [if_neg (by decide +kernel)]; exact ⟨rfl, rfl⟩))
    (fun os started H enc _ => lifted os started H enc)
theorem carded : Rows.TaleTellsCardSaid :=
  Claim7.holds_tied_plain_at .later [] [.data, .data, .data, .data, .sentinel, .sentinel, .pinned] true (true, "27b09b6958f6348aa156708dbd5c204bf1d54d34ccfbbb5eb7235683b1d26102") true over (fun _ h => by cases h) (by kernel_rfl) (fun _ h => by cases h) taleTells_row_tie rfl ⟨rfl, rfl⟩ (by kernel_rfl) rfl
    (fun f fn hf hfn => by
      obtain rfl : f = 5 := Option.some.inj ((show Tryz.prog.funcNamed "granger/grangerlaw28.TaleTells" = some 5 by kernel_rfl).symm.trans hf) |>.symm
      obtain rfl : fn = Tryz.f5 := (Option.some.inj (Tryz.func5.symm.trans hfn)).symm
      exact ⟨by kernel_rfl, fun j t ht => by
        rw [Tryz.params5] at ht
        have hm : t ∈ [52] := by simpa using Array.mem_of_getElem? ht
        have hall : ([52].all fun u => !Tryz.prog.wantsStandIn u) = true := by kernel_rfl
        exact (show Tryz.prog.wantsStandIn t = false by simpa using List.all_eq_true.1 hall t hm)⟩)
    (by kernel_rfl)
theorem proved : Rows.TaleTellsCardSaid := carded
#print axioms proved
end Go.Proofs.YthhmdmfbaooldaaGreatDoor.taleTells
namespace Go.Proofs.YthhmdmfbaooldaaGreatDoor
/-- The row, under a short name, for the claim. -/
theorem taleTellsCard_holds : Rows.TaleTellsCardSaid := taleTells.proved
end Go.Proofs.YthhmdmfbaooldaaGreatDoor
