/-
  The row of the law TaleBack, out of its walk.
-/
import Derived.Test.YthhmdmfbaooldaaGreatDoorRows
import Derived.Test.YthhmdmfbaooldaaGreatDoorTaleBack
import Derived.Test.YthhmdmfbaooldaaGreatDoorOpen
import Derived.WalkKit
import Derived.ProofKit
import Derived.OpenShut
import Derived.ShutString
import Derived.ChangeOld
import Derived.Below
import Derived.SizedLaws
import Derived.Carry
import Derived.Test.YthhmdmfbaooldaaGreatDoorTaleCard
import Derived.Test.YthhmdmfbaooldaaGreatDoorTie
import Derived.Test.YthhmdmfbaooldaaGreatDoorCards
import Derived.Lay
import Derived.LaidMore
import Derived.MakeChecks
import Derived.SevenTiedAt
import Derived.Stop.Joined
namespace Go.Proofs.YthhmdmfbaooldaaGreatDoor.taleBack
open Go.ChangeShapes Go.WideShapes Go.ChangeAt Go.RowKit
open Go.ChangeMaps (open_string shut_string)
set_option linter.unusedVariables false
theorem own : ownKnob Tryz.prog.godebug = none := by kernel_rfl
theorem laidOut : laidOutB Tryz.prog = true := by kernel_rfl
theorem len6 : ∀ {l : List Value}, l.length = 6 → ∃ x0 x1 x2 x3 x4 x5, l = [x0, x1, x2, x3, x4, x5]
  | [x0, x1, x2, x3, x4, x5], _ => ⟨x0, x1, x2, x3, x4, x5, rfl⟩
set_option maxHeartbeats 1000000 in
set_option maxRecDepth 100000 in
theorem lifted (os : Os) (started : os.Started) (H : Type) (enc : TypeId × Value → H) :
    ReturnsInHanded {} Tryz.checked os 6 .any (fun w args => (Rows.taleBackSpec.pre enc Tryz.prog Tryz.f6 Rows.taleBackRow.domain false w args ∧ laidMetH Tryz.prog Rows.taleBackRow.laid w) ∧ sizedMet enc Tryz.prog Tryz.f6 (OpenSpec.ofChange Rows.taleBackSpec) false w args) (Rows.taleBackSpec.post enc Tryz.prog Tryz.f6 false true false false) := by
  refine returnsInHanded_of_change_and_shaped (C := Tryz.checked) (X := fun w _ => laidMetH Tryz.prog Rows.taleBackRow.laid w) (fun _ _ _ hh h => h.of_heap hh) own started (by kernel_rfl) Tryz.func6
    (ChangeSpec.witness_shaped (enc := enc) (C := Tryz.checked) (os := os) (X := fun w _ => laidMetH Tryz.prog Rows.taleBackRow.laid w) false (World.laidAll Tryz.prog os Rows.taleBackRow.laid) #[.agg #[.int .i64 0, .string ByteArray.empty, .string ByteArray.empty, .int .u64 0, .string ByteArray.empty, .string ByteArray.empty], .string ByteArray.empty, .int .i64 0] 8 (World.laidAll_os _ _ _)
      (World.shaped_of_ZipB (by kernel_rfl) (by kernel_rfl)) (by kernel_rfl) (by kernel_rfl) (by kernel_rfl)
      (by rw [MakeChecks.laidMetH_plain _ _ _ (by kernel_rfl)]; exact laidMet_laidAll _ (by kernel_rfl) (by kernel_rfl))) ?_
  intro W base args ds gs before hval0 hW hcnd hsz0 hX0 hS0
  have hsz : (DataW.weightsEach Tryz.prog (Tryz.f6.params.toList ++ Rows.taleBackSpec.plain.varTypes Tryz.prog) (ds ++ gs)).all (· ≤ reachBytes) = true := hsz0
  have hval : ∀ (j : Nat) t v, Tryz.f6.params[j]? = some t → args[j]? = some v → Value.okWide Tryz.prog W .any base t v := hval0
  have hW' := hW
  obtain ⟨p, q, hA0, hV, rfl, hfz, hnd⟩ := hW
  have hA : DataW.TrodAll enc Tryz.prog W 0 (fun _ => true) true Tryz.f6.params.toList args.toList ds p := hA0
  rw [Tryz.params6] at hA hval hsz
  obtain ⟨v0, vs0, d0, ds0, p0, q0, hargs, rfl, rfl, h0, r0⟩ := trodAll_cons hA
  obtain ⟨v1, vs1, d1, ds1, p1, q1, rfl, rfl, rfl, h1, r1⟩ := trodAll_cons r0
  obtain ⟨v2, vs2, d2, ds2, p2, q2, rfl, rfl, rfl, h2, r2⟩ := trodAll_cons r1
  obtain ⟨rfl, rfl, rfl⟩ := trodAll_nil r2
  obtain rfl : args = #[v0, v1, v2] := by cases args; simp_all
  obtain ⟨rfl, rfl⟩ := trodVars_none hV
  have k0 := h0
  have lt0 : ∀ x ∈ p0, x.block < W.heap.size := by obtain ⟨m, hm⟩ := k0; exact DataW.trod_lt m _ _ _ hm
  have F0 := fact_of (P := Tryz.prog) 5 h0 hsz (j := 0) rfl rfl
  obtain ⟨⟨l0⟩, rfl, _⟩ := okWide_struct Tryz.underlying37 (hval 0 37 v0 rfl rfl)
  obtain ⟨c0, F0⟩ := fact_struct Tryz.underlying37 F0
  replace c0 : l0.length = 6 := c0.trans (by kernel_rfl)
  obtain ⟨x0_0, x0_1, x0_2, x0_3, x0_4, x0_5, rfl⟩ := len6 c0
  have G0_0 := fact_field F0 (t := 3) (i := 0) (by kernel_rfl) (show Tryz.prog.cellsOf 3 = 1 by kernel_rfl) (v := x0_0) rfl
  obtain ⟨a0_0, e_, wa0_0⟩ := fact_int Tryz.underlying3 G0_0
  simp only [List.cons.injEq, and_true] at e_
  subst e_
  have G0_1 := fact_field F0 (t := 9) (i := 1) (by kernel_rfl) (show Tryz.prog.cellsOf 9 = 1 by kernel_rfl) (v := x0_1) rfl
  obtain ⟨a0_1, e_, wa0_1⟩ := fact_string Tryz.underlying9 G0_1
  simp only [List.cons.injEq, and_true] at e_
  subst e_
  have G0_2 := fact_field F0 (t := 9) (i := 2) (by kernel_rfl) (show Tryz.prog.cellsOf 9 = 1 by kernel_rfl) (v := x0_2) rfl
  obtain ⟨a0_2, e_, wa0_2⟩ := fact_string Tryz.underlying9 G0_2
  simp only [List.cons.injEq, and_true] at e_
  subst e_
  have G0_3 := fact_field F0 (t := 22) (i := 3) (by kernel_rfl) (show Tryz.prog.cellsOf 22 = 1 by kernel_rfl) (v := x0_3) rfl
  obtain ⟨a0_3, e_, wa0_3⟩ := fact_int Tryz.underlying22 G0_3
  simp only [List.cons.injEq, and_true] at e_
  subst e_
  have G0_4 := fact_field F0 (t := 9) (i := 4) (by kernel_rfl) (show Tryz.prog.cellsOf 9 = 1 by kernel_rfl) (v := x0_4) rfl
  obtain ⟨a0_4, e_, wa0_4⟩ := fact_string Tryz.underlying9 G0_4
  simp only [List.cons.injEq, and_true] at e_
  subst e_
  have G0_5 := fact_field F0 (t := 9) (i := 5) (by kernel_rfl) (show Tryz.prog.cellsOf 9 = 1 by kernel_rfl) (v := x0_5) rfl
  obtain ⟨a0_5, e_, wa0_5⟩ := fact_string Tryz.underlying9 G0_5
  simp only [List.cons.injEq, and_true] at e_
  subst e_
  obtain ⟨a1, rfl, rfl, rfl, y1⟩ := open_string Tryz.underlying9 (hval 1 9 v1 rfl rfl) h1
  have w1 : a1.size ≤ 140737488351232 := by
    have z := sized_string hsz (j := 1) (t := 9) rfl rfl
    rw [Array.length_toList] at z
    exact z
  obtain ⟨a2, rfl, rfl, rfl, w2⟩ := open_int Tryz.underlying3 (hval 2 3 v2 rfl rfl) h2
  clear hA0 hval0 hsz0 hsz
  refine (taleBack_row a0_0 a0_1 a0_2 a0_3 a0_4 a0_5 a1 a2 W (lib28_of hX0 hS0) wa0_0 wa0_1 wa0_2 wa0_3 wa0_4 wa0_5 w1 w2).mono fun e W' ⟨he, bel⟩ => ?_
  subst he
  exact ⟨_, rfl, _, _, _, [], _, [], hW', trodAll_mk1 (shut_bool Tryz.underlying4 _), (trodAll_cons_mk (Below.trod laidOut (by kernel_rfl) (of_decide_eq_true (by kernel_rfl)) k0 bel lt0) (trodAll_cons_mk (shut_string Tryz.underlying9 y1) (trodAll_cons_mk (shut_int Tryz.underlying3 w2) trodAll_mk0))), rfl, bel.frame _, fun h => by cases h⟩
theorem over : Rows.taleBackRow.holds Tryz.pinned (OpenSpec.ofChange Rows.taleBackSpec) :=
  OpenClaim.holds_of_wide 6 Tryz.f6 rfl rfl rfl rfl rfl rfl rfl ⟨rfl, rfl, rfl, rfl, rfl⟩ rfl rfl rfl rfl rfl (by kernel_rfl) Tryz.func6 (by kernel_rfl)
    (of_decide_eq_true (by kernel_rfl)) (by unfold Func.isWrapper; first | (rw [if_pos (by decide +kernel)]; kernel_rfl) | (rw [if_neg (by decide +kernel)]; exact ⟨rfl, rfl⟩))
    (fun os started H enc _ => lifted os started H enc)
theorem carded : Rows.TaleBackCardSaid :=
  Claim7.holds_tied_plain_at .later [] [.data, .data, .data, .data, .sentinel, .sentinel, .pinned] true (true, "27b09b6958f6348aa156708dbd5c204bf1d54d34ccfbbb5eb7235683b1d26102") true over (fun _ h => by cases h) (by kernel_rfl) (fun _ h => by cases h) taleBack_row_tie rfl ⟨rfl, rfl⟩ (by kernel_rfl) rfl
    (fun f fn hf hfn => by
      obtain rfl : f = 6 := Option.some.inj ((show Tryz.prog.funcNamed "granger/grangerlaw28.TaleBack" = some 6 by kernel_rfl).symm.trans hf) |>.symm
      obtain rfl : fn = Tryz.f6 := (Option.some.inj (Tryz.func6.symm.trans hfn)).symm
      exact ⟨by kernel_rfl, fun j t ht => by
        rw [Tryz.params6] at ht
        have hm : t ∈ [37, 9, 3] := by simpa using Array.mem_of_getElem? ht
        have hall : ([37, 9, 3].all fun u => !Tryz.prog.wantsStandIn u) = true := by kernel_rfl
        exact (show Tryz.prog.wantsStandIn t = false by simpa using List.all_eq_true.1 hall t hm)⟩)
    (by kernel_rfl)
theorem proved : Rows.TaleBackCardSaid := carded
#print axioms proved
end Go.Proofs.YthhmdmfbaooldaaGreatDoor.taleBack
namespace Go.Proofs.YthhmdmfbaooldaaGreatDoor
/-- The row, under a short name, for the claim. -/
theorem taleBackCard_holds : Rows.TaleBackCardSaid := taleBack.proved
end Go.Proofs.YthhmdmfbaooldaaGreatDoor
