/-
  The row of the law SuperErases, out of its walk.
-/
import Derived.Test.YtcklgaenedlbiaaRows
import Derived.Test.YtcklgaenedlbiaaSuperErases
import Derived.Test.YtcklgaenedlbiaaOpen
import Derived.WalkKit
import Derived.ProofKit
import Derived.OpenShut
import Derived.ShutString
import Derived.ChangeOld
import Derived.Below
import Derived.SizedLaws
import Derived.Carry
namespace Go.Proofs.Ytcklgaenedlbiaa.superErases
open Go.ChangeShapes Go.WideShapes Go.ChangeAt Go.RowKit
open Go.ChangeMaps (open_string shut_string)
set_option linter.unusedVariables false
theorem own : ownKnob Try.prog.godebug = none := by kernel_rfl
theorem laidOut : laidOutB Try.prog = true := by kernel_rfl
theorem len7 : ∀ {l : List Value}, l.length = 7 → ∃ x0 x1 x2 x3 x4 x5 x6, l = [x0, x1, x2, x3, x4, x5, x6]
  | [x0, x1, x2, x3, x4, x5, x6], _ => ⟨x0, x1, x2, x3, x4, x5, x6, rfl⟩
set_option maxHeartbeats 1000000 in
set_option maxRecDepth 100000 in
theorem lifted (os : Os) (started : os.Started) (H : Type) (enc : TypeId × Value → H) :
    ReturnsInHanded {} Try.checked os 5 .any (Rows.superErasesSpec.pre6 enc Try.prog Try.f5 Rows.superErasesRow.domain false) (Rows.superErasesSpec.post enc Try.prog Try.f5 false true false false) := by
  refine returnsInHanded_of_change_sized (C := Try.checked) own started (by kernel_rfl) Try.func5
    (ChangeSpec.witness6 (enc := enc) (C := Try.checked) false ⟨#[], #[.agg #[.int .i64 0, .int .i64 0, .int .i64 0, .int .i64 0, .int .i64 0, .int .i64 0, .int .i64 0], .agg #[.int .i64 0, .int .i64 0, .int .i64 0, .int .i64 0, .int .i64 0, .int .i64 0, .int .i64 0], .int .i64 0, .slice none 0 0], []⟩ 8 (by kernel_rfl) (by kernel_rfl) (by kernel_rfl) (by kernel_rfl)) ?_
  intro W base args ds gs before hval0 hW hcnd hsz0 _
  have hsz : (DataW.weightsEach Try.prog (Try.f5.params.toList ++ Rows.superErasesSpec.plain.varTypes Try.prog) (ds ++ gs)).all (· ≤ reachBytes) = true := hsz0
  have hval : ∀ (j : Nat) t v, Try.f5.params[j]? = some t → args[j]? = some v → Value.okWide Try.prog W .any base t v := hval0
  have hW' := hW
  obtain ⟨p, q, hA0, hV, rfl, hfz, hnd⟩ := hW
  have hA : DataW.TrodAll enc Try.prog W 0 (fun _ => true) true Try.f5.params.toList args.toList ds p := hA0
  rw [Try.params5] at hA hval hsz
  obtain ⟨v0, vs0, d0, ds0, p0, q0, hargs, rfl, rfl, h0, r0⟩ := trodAll_cons hA
  obtain ⟨v1, vs1, d1, ds1, p1, q1, rfl, rfl, rfl, h1, r1⟩ := trodAll_cons r0
  obtain ⟨v2, vs2, d2, ds2, p2, q2, rfl, rfl, rfl, h2, r2⟩ := trodAll_cons r1
  obtain ⟨v3, vs3, d3, ds3, p3, q3, rfl, rfl, rfl, h3, r3⟩ := trodAll_cons r2
  obtain ⟨rfl, rfl, rfl⟩ := trodAll_nil r3
  obtain rfl : args = #[v0, v1, v2, v3] := by cases args; simp_all
  obtain ⟨rfl, rfl⟩ := trodVars_none hV
  have k0 := h0
  have lt0 : ∀ x ∈ p0, x.block < W.heap.size := by obtain ⟨m, hm⟩ := k0; exact DataW.trod_lt m _ _ _ hm
  have F0 := fact_of (P := Try.prog) 5 h0 hsz (j := 0) rfl rfl
  obtain ⟨⟨l0⟩, rfl, _⟩ := okWide_struct Try.underlying60 (hval 0 60 v0 rfl rfl)
  obtain ⟨c0, F0⟩ := fact_struct Try.underlying60 F0
  replace c0 : l0.length = 7 := c0.trans (by kernel_rfl)
  obtain ⟨x0_0, x0_1, x0_2, x0_3, x0_4, x0_5, x0_6, rfl⟩ := len7 c0
  have G0_0 := fact_field F0 (t := 3) (i := 0) (by kernel_rfl) (show Try.prog.cellsOf 3 = 1 by kernel_rfl) (v := x0_0) rfl
  obtain ⟨a0_0, e_, wa0_0⟩ := fact_int Try.underlying3 G0_0
  simp only [List.cons.injEq, and_true] at e_
  subst e_
  have G0_1 := fact_field F0 (t := 3) (i := 1) (by kernel_rfl) (show Try.prog.cellsOf 3 = 1 by kernel_rfl) (v := x0_1) rfl
  obtain ⟨a0_1, e_, wa0_1⟩ := fact_int Try.underlying3 G0_1
  simp only [List.cons.injEq, and_true] at e_
  subst e_
  have G0_2 := fact_field F0 (t := 3) (i := 2) (by kernel_rfl) (show Try.prog.cellsOf 3 = 1 by kernel_rfl) (v := x0_2) rfl
  obtain ⟨a0_2, e_, wa0_2⟩ := fact_int Try.underlying3 G0_2
  simp only [List.cons.injEq, and_true] at e_
  subst e_
  have G0_3 := fact_field F0 (t := 3) (i := 3) (by kernel_rfl) (show Try.prog.cellsOf 3 = 1 by kernel_rfl) (v := x0_3) rfl
  obtain ⟨a0_3, e_, wa0_3⟩ := fact_int Try.underlying3 G0_3
  simp only [List.cons.injEq, and_true] at e_
  subst e_
  have G0_4 := fact_field F0 (t := 3) (i := 4) (by kernel_rfl) (show Try.prog.cellsOf 3 = 1 by kernel_rfl) (v := x0_4) rfl
  obtain ⟨a0_4, e_, wa0_4⟩ := fact_int Try.underlying3 G0_4
  simp only [List.cons.injEq, and_true] at e_
  subst e_
  have G0_5 := fact_field F0 (t := 3) (i := 5) (by kernel_rfl) (show Try.prog.cellsOf 3 = 1 by kernel_rfl) (v := x0_5) rfl
  obtain ⟨a0_5, e_, wa0_5⟩ := fact_int Try.underlying3 G0_5
  simp only [List.cons.injEq, and_true] at e_
  subst e_
  have G0_6 := fact_field F0 (t := 3) (i := 6) (by kernel_rfl) (show Try.prog.cellsOf 3 = 1 by kernel_rfl) (v := x0_6) rfl
  obtain ⟨a0_6, e_, wa0_6⟩ := fact_int Try.underlying3 G0_6
  simp only [List.cons.injEq, and_true] at e_
  subst e_
  have k1 := h1
  have lt1 : ∀ x ∈ p1, x.block < W.heap.size := by obtain ⟨m, hm⟩ := k1; exact DataW.trod_lt m _ _ _ hm
  have F1 := fact_of (P := Try.prog) 5 h1 hsz (j := 1) rfl rfl
  obtain ⟨⟨l1⟩, rfl, _⟩ := okWide_struct Try.underlying60 (hval 1 60 v1 rfl rfl)
  obtain ⟨c1, F1⟩ := fact_struct Try.underlying60 F1
  replace c1 : l1.length = 7 := c1.trans (by kernel_rfl)
  obtain ⟨x1_0, x1_1, x1_2, x1_3, x1_4, x1_5, x1_6, rfl⟩ := len7 c1
  have G1_0 := fact_field F1 (t := 3) (i := 0) (by kernel_rfl) (show Try.prog.cellsOf 3 = 1 by kernel_rfl) (v := x1_0) rfl
  obtain ⟨a1_0, e_, wa1_0⟩ := fact_int Try.underlying3 G1_0
  simp only [List.cons.injEq, and_true] at e_
  subst e_
  have G1_1 := fact_field F1 (t := 3) (i := 1) (by kernel_rfl) (show Try.prog.cellsOf 3 = 1 by kernel_rfl) (v := x1_1) rfl
  obtain ⟨a1_1, e_, wa1_1⟩ := fact_int Try.underlying3 G1_1
  simp only [List.cons.injEq, and_true] at e_
  subst e_
  have G1_2 := fact_field F1 (t := 3) (i := 2) (by kernel_rfl) (show Try.prog.cellsOf 3 = 1 by kernel_rfl) (v := x1_2) rfl
  obtain ⟨a1_2, e_, wa1_2⟩ := fact_int Try.underlying3 G1_2
  simp only [List.cons.injEq, and_true] at e_
  subst e_
  have G1_3 := fact_field F1 (t := 3) (i := 3) (by kernel_rfl) (show Try.prog.cellsOf 3 = 1 by kernel_rfl) (v := x1_3) rfl
  obtain ⟨a1_3, e_, wa1_3⟩ := fact_int Try.underlying3 G1_3
  simp only [List.cons.injEq, and_true] at e_
  subst e_
  have G1_4 := fact_field F1 (t := 3) (i := 4) (by kernel_rfl) (show Try.prog.cellsOf 3 = 1 by kernel_rfl) (v := x1_4) rfl
  obtain ⟨a1_4, e_, wa1_4⟩ := fact_int Try.underlying3 G1_4
  simp only [List.cons.injEq, and_true] at e_
  subst e_
  have G1_5 := fact_field F1 (t := 3) (i := 5) (by kernel_rfl) (show Try.prog.cellsOf 3 = 1 by kernel_rfl) (v := x1_5) rfl
  obtain ⟨a1_5, e_, wa1_5⟩ := fact_int Try.underlying3 G1_5
  simp only [List.cons.injEq, and_true] at e_
  subst e_
  have G1_6 := fact_field F1 (t := 3) (i := 6) (by kernel_rfl) (show Try.prog.cellsOf 3 = 1 by kernel_rfl) (v := x1_6) rfl
  obtain ⟨a1_6, e_, wa1_6⟩ := fact_int Try.underlying3 G1_6
  simp only [List.cons.injEq, and_true] at e_
  subst e_
  obtain ⟨a2, rfl, rfl, rfl, w2⟩ := open_int Try.underlying3 (hval 2 3 v2 rfl rfl) h2
  have k3 := h3
  have lt3 : ∀ x ∈ p3, x.block < W.heap.size := by obtain ⟨m, hm⟩ := k3; exact DataW.trod_lt m _ _ _ hm
  have F3 := fact_of (P := Try.prog) 5 h3 hsz (j := 3) rfl rfl
  obtain ⟨A3, len3, cap3, rfl⟩ := okWide_slice Try.underlying33 (hval 3 33 v3 rfl rfl)
  obtain ⟨u3, m3, b3, z3, rfl, g3⟩ := fact_bools Try.underlying33 Try.underlying4 (show Try.prog.cellsOf 4 = 1 by kernel_rfl) F3
  clear hA0 hval0 hsz0 hsz
  refine (superErases_row a0_0 a0_1 a0_2 a0_3 a0_4 a0_5 a0_6 a1_0 a1_1 a1_2 a1_3 a1_4 a1_5 a1_6 a2 A3 cap3 z3 W wa0_0 wa0_1 wa0_2 wa0_3 wa0_4 wa0_5 wa0_6 wa1_0 wa1_1 wa1_2 wa1_3 wa1_4 wa1_5 wa1_6 w2 g3 u3 m3).mono fun e W' ⟨he, bel⟩ => ?_
  subst he
  exact ⟨_, rfl, _, _, _, [], _, [], hW', trodAll_mk1 (shut_bool Try.underlying4 _), (trodAll_cons_mk (Below.trod laidOut (by kernel_rfl) (of_decide_eq_true (by kernel_rfl)) k0 bel lt0) (trodAll_cons_mk (Below.trod laidOut (by kernel_rfl) (of_decide_eq_true (by kernel_rfl)) k1 bel lt1) (trodAll_cons_mk (shut_int Try.underlying3 w2) (trodAll_cons_mk (Below.trod laidOut (by kernel_rfl) (of_decide_eq_true (by kernel_rfl)) k3 bel lt3) trodAll_mk0)))), rfl, bel.frame _, fun h => by cases h⟩
theorem over : Rows.superErasesRow.holds Try.pinned (OpenSpec.ofChange Rows.superErasesSpec) :=
  OpenClaim.holds_of_wide 5 Try.f5 rfl rfl rfl rfl rfl rfl rfl ⟨rfl, rfl, rfl, rfl, rfl⟩ rfl rfl rfl rfl rfl (by kernel_rfl) Try.func5 (by kernel_rfl)
    (of_decide_eq_true (by kernel_rfl)) (by unfold Func.isWrapper; first | (rw [if_pos (by decide +kernel)]; kernel_rfl) | (rw [if_neg (by decide +kernel)]; exact ⟨rfl, rfl⟩))
    (fun os started H enc _ => lifted os started H enc)
theorem proved : Rows.SuperErasesSaid := over
#print axioms proved
end Go.Proofs.Ytcklgaenedlbiaa.superErases
namespace Go.Proofs.Ytcklgaenedlbiaa
/-- The row, under a short name, for the claim. -/
theorem superErases_holds : Rows.SuperErasesSaid := superErases.proved
end Go.Proofs.Ytcklgaenedlbiaa
