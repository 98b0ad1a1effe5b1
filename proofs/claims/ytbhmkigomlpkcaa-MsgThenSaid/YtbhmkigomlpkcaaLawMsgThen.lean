/-
  The row of the law MsgThen, out of its walk.
-/
import Derived.Test.YtbhmkigomlpkcaaRows
import Derived.Test.YtbhmkigomlpkcaaMsgBoth
import Derived.Test.YtbhmkigomlpkcaaOpen
import Derived.WalkKit
import Derived.ProofKit
import Derived.OpenShut
import Derived.ShutString
import Derived.ChangeOld
import Derived.Below
import Derived.SizedLaws
import Derived.Carry
namespace Go.Proofs.Ytbhmkigomlpkcaa.msgThen
open Go.ChangeShapes Go.WideShapes Go.ChangeAt Go.RowKit
open Go.ChangeMaps (open_string shut_string)
set_option linter.unusedVariables false
theorem own : ownKnob Try.prog.godebug = none := by kernel_rfl
theorem laidOut : laidOutB Try.prog = true := by kernel_rfl
theorem len3 : ∀ {l : List Value}, l.length = 3 → ∃ x0 x1 x2, l = [x0, x1, x2]
  | [x0, x1, x2], _ => ⟨x0, x1, x2, rfl⟩
set_option maxHeartbeats 1000000 in
set_option maxRecDepth 100000 in
theorem lifted (os : Os) (started : os.Started) (H : Type) (enc : TypeId × Value → H) :
    ReturnsInHanded {} Try.checked os 5 .any (Rows.msgThenSpec.pre6 enc Try.prog Try.f5 Rows.msgThenRow.domain false) (Rows.msgThenSpec.post enc Try.prog Try.f5 false true false false) := by
  refine returnsInHanded_of_change_sized (C := Try.checked) own started (by kernel_rfl) Try.func5
    (ChangeSpec.witness6 (enc := enc) (C := Try.checked) false ⟨#[], #[.agg #[.int .i64 0, .string ByteArray.empty, .string ByteArray.empty], .agg #[.int .i64 0, .string ByteArray.empty, .string ByteArray.empty], .agg #[.int .i64 0, .string ByteArray.empty, .string ByteArray.empty], .string ByteArray.empty, .bool false], []⟩ 8 (by kernel_rfl) (by kernel_rfl) (by kernel_rfl) (by kernel_rfl)) ?_
  intro W base args ds gs before hval0 hW hcnd hsz0 _
  have hsz : (DataW.weightsEach Try.prog (Try.f5.params.toList ++ Rows.msgThenSpec.plain.varTypes Try.prog) (ds ++ gs)).all (· ≤ reachBytes) = true := hsz0
  have hval : ∀ (j : Nat) t v, Try.f5.params[j]? = some t → args[j]? = some v → Value.okWide Try.prog W .any base t v := hval0
  have hW' := hW
  obtain ⟨p, q, hA0, hV, rfl, hfz, hnd⟩ := hW
  have hA : DataW.TrodAll enc Try.prog W 0 (fun _ => true) true Try.f5.params.toList args.toList ds p := hA0
  rw [Try.params5] at hA hval hsz
  obtain ⟨v0, vs0, d0, ds0, p0, q0, hargs, rfl, rfl, h0, r0⟩ := trodAll_cons hA
  obtain ⟨v1, vs1, d1, ds1, p1, q1, rfl, rfl, rfl, h1, r1⟩ := trodAll_cons r0
  obtain ⟨v2, vs2, d2, ds2, p2, q2, rfl, rfl, rfl, h2, r2⟩ := trodAll_cons r1
  obtain ⟨v3, vs3, d3, ds3, p3, q3, rfl, rfl, rfl, h3, r3⟩ := trodAll_cons r2
  obtain ⟨v4, vs4, d4, ds4, p4, q4, rfl, rfl, rfl, h4, r4⟩ := trodAll_cons r3
  obtain ⟨rfl, rfl, rfl⟩ := trodAll_nil r4
  obtain rfl : args = #[v0, v1, v2, v3, v4] := by cases args; simp_all
  obtain ⟨rfl, rfl⟩ := trodVars_none hV
  have k0 := h0
  have lt0 : ∀ x ∈ p0, x.block < W.heap.size := by obtain ⟨m, hm⟩ := k0; exact DataW.trod_lt m _ _ _ hm
  have F0 := fact_of (P := Try.prog) 5 h0 hsz (j := 0) rfl rfl
  obtain ⟨⟨l0⟩, rfl, _⟩ := okWide_struct Try.underlying23 (hval 0 23 v0 rfl rfl)
  obtain ⟨c0, F0⟩ := fact_struct Try.underlying23 F0
  replace c0 : l0.length = 3 := c0.trans (by kernel_rfl)
  obtain ⟨x0_0, x0_1, x0_2, rfl⟩ := len3 c0
  have G0_0 := fact_field F0 (t := 3) (i := 0) (by kernel_rfl) (show Try.prog.cellsOf 3 = 1 by kernel_rfl) (v := x0_0) rfl
  obtain ⟨a0_0, e_, wa0_0⟩ := fact_int Try.underlying3 G0_0
  simp only [List.cons.injEq, and_true] at e_
  subst e_
  have G0_1 := fact_field F0 (t := 9) (i := 1) (by kernel_rfl) (show Try.prog.cellsOf 9 = 1 by kernel_rfl) (v := x0_1) rfl
  obtain ⟨a0_1, e_, wa0_1⟩ := fact_string Try.underlying9 G0_1
  simp only [List.cons.injEq, and_true] at e_
  subst e_
  have G0_2 := fact_field F0 (t := 9) (i := 2) (by kernel_rfl) (show Try.prog.cellsOf 9 = 1 by kernel_rfl) (v := x0_2) rfl
  obtain ⟨a0_2, e_, wa0_2⟩ := fact_string Try.underlying9 G0_2
  simp only [List.cons.injEq, and_true] at e_
  subst e_
  have k1 := h1
  have lt1 : ∀ x ∈ p1, x.block < W.heap.size := by obtain ⟨m, hm⟩ := k1; exact DataW.trod_lt m _ _ _ hm
  have F1 := fact_of (P := Try.prog) 5 h1 hsz (j := 1) rfl rfl
  obtain ⟨⟨l1⟩, rfl, _⟩ := okWide_struct Try.underlying23 (hval 1 23 v1 rfl rfl)
  obtain ⟨c1, F1⟩ := fact_struct Try.underlying23 F1
  replace c1 : l1.length = 3 := c1.trans (by kernel_rfl)
  obtain ⟨x1_0, x1_1, x1_2, rfl⟩ := len3 c1
  have G1_0 := fact_field F1 (t := 3) (i := 0) (by kernel_rfl) (show Try.prog.cellsOf 3 = 1 by kernel_rfl) (v := x1_0) rfl
  obtain ⟨a1_0, e_, wa1_0⟩ := fact_int Try.underlying3 G1_0
  simp only [List.cons.injEq, and_true] at e_
  subst e_
  have G1_1 := fact_field F1 (t := 9) (i := 1) (by kernel_rfl) (show Try.prog.cellsOf 9 = 1 by kernel_rfl) (v := x1_1) rfl
  obtain ⟨a1_1, e_, wa1_1⟩ := fact_string Try.underlying9 G1_1
  simp only [List.cons.injEq, and_true] at e_
  subst e_
  have G1_2 := fact_field F1 (t := 9) (i := 2) (by kernel_rfl) (show Try.prog.cellsOf 9 = 1 by kernel_rfl) (v := x1_2) rfl
  obtain ⟨a1_2, e_, wa1_2⟩ := fact_string Try.underlying9 G1_2
  simp only [List.cons.injEq, and_true] at e_
  subst e_
  have k2 := h2
  have lt2 : ∀ x ∈ p2, x.block < W.heap.size := by obtain ⟨m, hm⟩ := k2; exact DataW.trod_lt m _ _ _ hm
  have F2 := fact_of (P := Try.prog) 5 h2 hsz (j := 2) rfl rfl
  obtain ⟨⟨l2⟩, rfl, _⟩ := okWide_struct Try.underlying23 (hval 2 23 v2 rfl rfl)
  obtain ⟨c2, F2⟩ := fact_struct Try.underlying23 F2
  replace c2 : l2.length = 3 := c2.trans (by kernel_rfl)
  obtain ⟨x2_0, x2_1, x2_2, rfl⟩ := len3 c2
  have G2_0 := fact_field F2 (t := 3) (i := 0) (by kernel_rfl) (show Try.prog.cellsOf 3 = 1 by kernel_rfl) (v := x2_0) rfl
  obtain ⟨a2_0, e_, wa2_0⟩ := fact_int Try.underlying3 G2_0
  simp only [List.cons.injEq, and_true] at e_
  subst e_
  have G2_1 := fact_field F2 (t := 9) (i := 1) (by kernel_rfl) (show Try.prog.cellsOf 9 = 1 by kernel_rfl) (v := x2_1) rfl
  obtain ⟨a2_1, e_, wa2_1⟩ := fact_string Try.underlying9 G2_1
  simp only [List.cons.injEq, and_true] at e_
  subst e_
  have G2_2 := fact_field F2 (t := 9) (i := 2) (by kernel_rfl) (show Try.prog.cellsOf 9 = 1 by kernel_rfl) (v := x2_2) rfl
  obtain ⟨a2_2, e_, wa2_2⟩ := fact_string Try.underlying9 G2_2
  simp only [List.cons.injEq, and_true] at e_
  subst e_
  obtain ⟨a3, rfl, rfl, rfl, y3⟩ := open_string Try.underlying9 (hval 3 9 v3 rfl rfl) h3
  have w3 : a3.size ≤ 140737488351232 := by
    have z := sized_string hsz (j := 3) (t := 9) rfl rfl
    rw [Array.length_toList] at z
    exact z
  obtain ⟨a4, rfl, rfl, rfl⟩ := open_bool Try.underlying4 (hval 4 4 v4 rfl rfl) h4
  clear hA0 hval0 hsz0 hsz
  refine (msgThen_law a0_0 a0_1 a0_2 a1_0 a1_1 a1_2 a2_0 a2_1 a2_2 a3 a4 W wa0_0 wa0_1 wa0_2 wa1_0 wa1_1 wa1_2 wa2_0 wa2_1 wa2_2 w3).mono fun e W' ⟨he, bel⟩ => ?_
  subst he
  exact ⟨_, rfl, _, _, _, [], _, [], hW', trodAll_mk1 (shut_bool Try.underlying4 _), (trodAll_cons_mk (Below.trod laidOut (by kernel_rfl) (of_decide_eq_true (by kernel_rfl)) k0 bel lt0) (trodAll_cons_mk (Below.trod laidOut (by kernel_rfl) (of_decide_eq_true (by kernel_rfl)) k1 bel lt1) (trodAll_cons_mk (Below.trod laidOut (by kernel_rfl) (of_decide_eq_true (by kernel_rfl)) k2 bel lt2) (trodAll_cons_mk (shut_string Try.underlying9 y3) (trodAll_cons_mk (shut_bool Try.underlying4 _) trodAll_mk0))))), rfl, bel.frame _, fun h => by cases h⟩
theorem over : Rows.msgThenRow.holds Try.pinned (OpenSpec.ofChange Rows.msgThenSpec) :=
  OpenClaim.holds_of_wide 5 Try.f5 rfl rfl rfl rfl rfl rfl rfl ⟨rfl, rfl, rfl, rfl, rfl⟩ rfl rfl rfl rfl rfl (by kernel_rfl) Try.func5 (by kernel_rfl)
    (of_decide_eq_true (by kernel_rfl)) (by unfold Func.isWrapper; first | (rw [if_pos (by decide +kernel)]; kernel_rfl) | (rw [if_neg (by decide +kernel)]; exact ⟨rfl, rfl⟩))
    (fun os started H enc _ => lifted os started H enc)
theorem proved : Rows.MsgThenSaid := over
#print axioms proved
end Go.Proofs.Ytbhmkigomlpkcaa.msgThen
namespace Go.Proofs.Ytbhmkigomlpkcaa
/-- The row, under a short name, for the claim. -/
theorem msgThen_holds : Rows.MsgThenSaid := msgThen.proved
end Go.Proofs.Ytbhmkigomlpkcaa
