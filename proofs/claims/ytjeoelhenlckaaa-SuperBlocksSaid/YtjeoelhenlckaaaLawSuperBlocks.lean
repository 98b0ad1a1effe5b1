/-
  The row of the law SuperBlocks, out of its walk.
-/
import Derived.Test.YtjeoelhenlckaaaRows
import Derived.Test.YtjeoelhenlckaaaSuperBlocks
import Derived.Test.YtjeoelhenlckaaaOpen
import Derived.WalkKit
import Derived.ProofKit
import Derived.OpenShut
import Derived.ShutString
import Derived.ChangeOld
import Derived.Below
import Derived.SizedLaws
import Derived.Carry
namespace Go.Proofs.Ytjeoelhenlckaaa.superBlocks
open Go.ChangeShapes Go.WideShapes Go.ChangeAt Go.RowKit
open Go.ChangeMaps (open_string shut_string)
set_option linter.unusedVariables false
theorem own : ownKnob Try.prog.godebug = none := by kernel_rfl
theorem laidOut : laidOutB Try.prog = true := by kernel_rfl
theorem len7 : ∀ {l : List Value}, l.length = 7 → ∃ x0 x1 x2 x3 x4 x5 x6, l = [x0, x1, x2, x3, x4, x5, x6]
  | [x0, x1, x2, x3, x4, x5, x6], _ => ⟨x0, x1, x2, x3, x4, x5, x6, rfl⟩
set_option maxHeartbeats 1000000 in
set_option maxRecDepth 100000 in
theorem lifted (os : Os) (started : os.Started) (H : Type) (enc : TypeId × Value → H) :
    ReturnsInHanded {} Try.checked os 7 .any (Rows.superBlocksSpec.pre6 enc Try.prog Try.f7 Rows.superBlocksRow.domain false) (Rows.superBlocksSpec.post enc Try.prog Try.f7 false true false false) := by
  refine returnsInHanded_of_change_sized (C := Try.checked) own started (by kernel_rfl) Try.func7
    (ChangeSpec.witness6 (enc := enc) (C := Try.checked) false ⟨#[], #[.agg #[.int .i64 0, .int .i64 0, .int .i64 0, .int .i64 0, .int .i64 0, .int .i64 0, .int .i64 0], .string ByteArray.empty], []⟩ 8 (by kernel_rfl) (by kernel_rfl) (by kernel_rfl) (by kernel_rfl)) ?_
  intro W base args ds gs before hval0 hW hcnd hsz0 _
  have hsz : (DataW.weightsEach Try.prog (Try.f7.params.toList ++ Rows.superBlocksSpec.plain.varTypes Try.prog) (ds ++ gs)).all (· ≤ reachBytes) = true := hsz0
  have hval : ∀ (j : Nat) t v, Try.f7.params[j]? = some t → args[j]? = some v → Value.okWide Try.prog W .any base t v := hval0
  have hW' := hW
  obtain ⟨p, q, hA0, hV, rfl, hfz, hnd⟩ := hW
  have hA : DataW.TrodAll enc Try.prog W 0 (fun _ => true) true Try.f7.params.toList args.toList ds p := hA0
  rw [Try.params7] at hA hval hsz
  obtain ⟨v0, vs0, d0, ds0, p0, q0, hargs, rfl, rfl, h0, r0⟩ := trodAll_cons hA
  obtain ⟨v1, vs1, d1, ds1, p1, q1, rfl, rfl, rfl, h1, r1⟩ := trodAll_cons r0
  obtain ⟨rfl, rfl, rfl⟩ := trodAll_nil r1
  obtain rfl : args = #[v0, v1] := by cases args; simp_all
  obtain ⟨rfl, rfl⟩ := trodVars_none hV
  have k0 := h0
  have lt0 : ∀ x ∈ p0, x.block < W.heap.size := by obtain ⟨m, hm⟩ := k0; exact DataW.trod_lt m _ _ _ hm
  have F0 := fact_of (P := Try.prog) 5 h0 hsz (j := 0) rfl rfl
  obtain ⟨⟨l0⟩, rfl, _⟩ := okWide_struct Try.underlying45 (hval 0 45 v0 rfl rfl)
  obtain ⟨c0, F0⟩ := fact_struct Try.underlying45 F0
  replace c0 : l0.length = 7 := c0.trans (by kernel_rfl)
  obtain ⟨x0_0, x0_1, x0_2, x0_3, x0_4, x0_5, x0_6, rfl⟩ := len7 c0
  have G0_0 := fact_field F0 (t := 3) (i := 0) (by kernel_rfl) (show Try.prog.cellsOf 3 = 1 by kernel_rfl) (v := x0_0) rfl
  obtain ⟨a0_0, e_, wa0_0⟩ := fact_int Try.underlying3 G0_0
  simp only [List.cons.injEq, and_true] at e_
  subst e_
  have G0_1 := fact_field F0 (t := 3) (i := 1) (by kernel_rfl) (show Try.prog.cellsOf 3 = 1 by kernel_rfl) (v := x0_1) rfl
  obtain ⟨a0_1, e_, wa0_1⟩ := fact_int Try.underlying3 G0_1
  simp only [List.cons.injEq, and_true] at e_
  subst e_
  have G0_2 := fact_field F0 (t := 3) (i := 2) (by kernel_rfl) (show Try.prog.cellsOf 3 = 1 by kernel_rfl) (v := x0_2) rfl
  obtain ⟨a0_2, e_, wa0_2⟩ := fact_int Try.underlying3 G0_2
  simp only [List.cons.injEq, and_true] at e_
  subst e_
  have G0_3 := fact_field F0 (t := 3) (i := 3) (by kernel_rfl) (show Try.prog.cellsOf 3 = 1 by kernel_rfl) (v := x0_3) rfl
  obtain ⟨a0_3, e_, wa0_3⟩ := fact_int Try.underlying3 G0_3
  simp only [List.cons.injEq, and_true] at e_
  subst e_
  have G0_4 := fact_field F0 (t := 3) (i := 4) (by kernel_rfl) (show Try.prog.cellsOf 3 = 1 by kernel_rfl) (v := x0_4) rfl
  obtain ⟨a0_4, e_, wa0_4⟩ := fact_int Try.underlying3 G0_4
  simp only [List.cons.injEq, and_true] at e_
  subst e_
  have G0_5 := fact_field F0 (t := 3) (i := 5) (by kernel_rfl) (show Try.prog.cellsOf 3 = 1 by kernel_rfl) (v := x0_5) rfl
  obtain ⟨a0_5, e_, wa0_5⟩ := fact_int Try.underlying3 G0_5
  simp only [List.cons.injEq, and_true] at e_
  subst e_
  have G0_6 := fact_field F0 (t := 3) (i := 6) (by kernel_rfl) (show Try.prog.cellsOf 3 = 1 by kernel_rfl) (v := x0_6) rfl
  obtain ⟨a0_6, e_, wa0_6⟩ := fact_int Try.underlying3 G0_6
  simp only [List.cons.injEq, and_true] at e_
  subst e_
  obtain ⟨a1, rfl, rfl, rfl, y1⟩ := open_string Try.underlying9 (hval 1 9 v1 rfl rfl) h1
  have w1 : a1.size ≤ 140737488351232 := by
    have z := sized_string hsz (j := 1) (t := 9) rfl rfl
    rw [Array.length_toList] at z
    exact z
  clear hA0 hval0 hsz0 hsz
  refine (superBlocks_row a0_0 a0_1 a0_2 a0_3 a0_4 a0_5 a0_6 a1 W wa0_0 wa0_1 wa0_2 wa0_3 wa0_4 wa0_5 wa0_6 w1).mono fun e W' ⟨he, bel⟩ => ?_
  subst he
  exact ⟨_, rfl, _, _, _, [], _, [], hW', trodAll_mk1 (shut_bool Try.underlying4 _), (trodAll_cons_mk (Below.trod laidOut (by kernel_rfl) (of_decide_eq_true (by kernel_rfl)) k0 bel lt0) (trodAll_cons_mk (shut_string Try.underlying9 y1) trodAll_mk0)), rfl, bel.frame _, fun h => by cases h⟩
theorem over : Rows.superBlocksRow.holds Try.pinned (OpenSpec.ofChange Rows.superBlocksSpec) :=
  OpenClaim.holds_of_wide 7 Try.f7 rfl rfl rfl rfl rfl rfl rfl ⟨rfl, rfl, rfl, rfl, rfl⟩ rfl rfl rfl rfl rfl (by kernel_rfl) Try.func7 (by kernel_rfl)
    (of_decide_eq_true (by kernel_rfl)) (by unfold Func.isWrapper; first | (rw [if_pos (by decide +kernel)]; kernel_rfl) | (rw [if_neg (by decide +kernel)]; exact ⟨rfl, rfl⟩))
    (fun os started H enc _ => lifted os started H enc)
theorem proved : Rows.SuperBlocksSaid := over
#print axioms proved
end Go.Proofs.Ytjeoelhenlckaaa.superBlocks
namespace Go.Proofs.Ytjeoelhenlckaaa
/-- The row, under a short name, for the claim. -/
theorem superBlocks_holds : Rows.SuperBlocksSaid := superBlocks.proved
end Go.Proofs.Ytjeoelhenlckaaa
