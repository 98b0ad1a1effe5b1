/-
  The row of the law WalNil, out of its walk.
-/
import Derived.Test.YtcklgaenedlbiaaRows
import Derived.Test.YtcklgaenedlbiaaGWalNil29
import Derived.Test.YtcklgaenedlbiaaGWalNil30
import Derived.WalkKit
import Derived.ProofKit
import Derived.OpenShut
import Derived.ShutString
import Derived.ChangeOld
import Derived.Below
import Derived.SizedLaws
import Derived.Carry
namespace Go.Proofs.Ytcklgaenedlbiaa.walNil
open Go.ChangeShapes Go.WideShapes Go.ChangeAt Go.RowKit
open Go.ChangeMaps (open_string shut_string)
set_option linter.unusedVariables false
theorem own : ownKnob Try.prog.godebug = none := by kernel_rfl
theorem laidOut : laidOutB Try.prog = true := by kernel_rfl
theorem len3 : ∀ {l : List Value}, l.length = 3 → ∃ x0 x1 x2, l = [x0, x1, x2]
  | [x0, x1, x2], _ => ⟨x0, x1, x2, rfl⟩
set_option maxHeartbeats 1000000 in
set_option maxRecDepth 100000 in
theorem lifted (os : Os) (started : os.Started) (H : Type) (enc : TypeId × Value → H) :
    ReturnsInHanded {} Try.checked os 6 .any (Rows.walNilSpec.pre6 enc Try.prog Try.f6 Rows.walNilRow.domain false) (Rows.walNilSpec.post enc Try.prog Try.f6 false true false false) := by
  refine returnsInHanded_of_change_sized (C := Try.checked) own started (by kernel_rfl) Try.func6
    (ChangeSpec.witness6 (enc := enc) (C := Try.checked) false ⟨#[], #[.int .i64 0, .int .i64 0, .agg #[.int .i64 0, .string ByteArray.empty, .string ByteArray.empty]], []⟩ 8 (by kernel_rfl) (by kernel_rfl) (by kernel_rfl) (by kernel_rfl)) ?_
  intro W base args ds gs before hval0 hW hcnd hsz0 _
  have hsz : (DataW.weightsEach Try.prog (Try.f6.params.toList ++ Rows.walNilSpec.plain.varTypes Try.prog) (ds ++ gs)).all (· ≤ reachBytes) = true := hsz0
  have hval : ∀ (j : Nat) t v, Try.f6.params[j]? = some t → args[j]? = some v → Value.okWide Try.prog W .any base t v := hval0
  have hW' := hW
  obtain ⟨p, q, hA0, hV, rfl, hfz, hnd⟩ := hW
  have hA : DataW.TrodAll enc Try.prog W 0 (fun _ => true) true Try.f6.params.toList args.toList ds p := hA0
  rw [Try.params6] at hA hval hsz
  obtain ⟨v0, vs0, d0, ds0, p0, q0, hargs, rfl, rfl, h0, r0⟩ := trodAll_cons hA
  obtain ⟨v1, vs1, d1, ds1, p1, q1, rfl, rfl, rfl, h1, r1⟩ := trodAll_cons r0
  obtain ⟨v2, vs2, d2, ds2, p2, q2, rfl, rfl, rfl, h2, r2⟩ := trodAll_cons r1
  obtain ⟨rfl, rfl, rfl⟩ := trodAll_nil r2
  obtain rfl : args = #[v0, v1, v2] := by cases args; simp_all
  obtain ⟨rfl, rfl⟩ := trodVars_none hV
  obtain ⟨a0, rfl, rfl, rfl, w0⟩ := open_int Try.underlying3 (hval 0 3 v0 rfl rfl) h0
  obtain ⟨a1, rfl, rfl, rfl, w1⟩ := open_int Try.underlying3 (hval 1 3 v1 rfl rfl) h1
  have k2 := h2
  have lt2 : ∀ x ∈ p2, x.block < W.heap.size := by obtain ⟨m, hm⟩ := k2; exact DataW.trod_lt m _ _ _ hm
  have F2 := fact_of (P := Try.prog) 5 h2 hsz (j := 2) rfl rfl
  obtain ⟨⟨l2⟩, rfl, _⟩ := okWide_struct Try.underlying70 (hval 2 70 v2 rfl rfl)
  obtain ⟨c2, F2⟩ := fact_struct Try.underlying70 F2
  replace c2 : l2.length = 3 := c2.trans (by kernel_rfl)
  obtain ⟨x2_0, x2_1, x2_2, rfl⟩ := len3 c2
  have G2_0 := fact_field F2 (t := 3) (i := 0) (by kernel_rfl) (show Try.prog.cellsOf 3 = 1 by kernel_rfl) (v := x2_0) rfl
  obtain ⟨a2_0, e_, wa2_0⟩ := fact_int Try.underlying3 G2_0
  simp only [List.cons.injEq, and_true] at e_
  subst e_
  have G2_1 := fact_field F2 (t := 9) (i := 1) (by kernel_rfl) (show Try.prog.cellsOf 9 = 1 by kernel_rfl) (v := x2_1) rfl
  obtain ⟨a2_1, e_, wa2_1⟩ := fact_string Try.underlying9 G2_1
  simp only [List.cons.injEq, and_true] at e_
  subst e_
  have G2_2 := fact_field F2 (t := 9) (i := 2) (by kernel_rfl) (show Try.prog.cellsOf 9 = 1 by kernel_rfl) (v := x2_2) rfl
  obtain ⟨a2_2, e_, wa2_2⟩ := fact_string Try.underlying9 G2_2
  simp only [List.cons.injEq, and_true] at e_
  subst e_
  clear hA0 hval0 hsz0 hsz
  refine (walNil_row a0 a1 a2_0 a2_1 a2_2 W w0 w1 wa2_0 wa2_1 wa2_2).mono fun e W' ⟨he, bel⟩ => ?_
  subst he
  exact ⟨_, rfl, _, _, _, [], _, [], hW', trodAll_mk1 (shut_bool Try.underlying4 _), (trodAll_cons_mk (shut_int Try.underlying3 w0) (trodAll_cons_mk (shut_int Try.underlying3 w1) (trodAll_cons_mk (Below.trod laidOut (by kernel_rfl) (of_decide_eq_true (by kernel_rfl)) k2 bel lt2) trodAll_mk0))), rfl, bel.frame _, fun h => by cases h⟩
theorem over : Rows.walNilRow.holds Try.pinned (OpenSpec.ofChange Rows.walNilSpec) :=
  OpenClaim.holds_of_wide 6 Try.f6 rfl rfl rfl rfl rfl rfl rfl ⟨rfl, rfl, rfl, rfl, rfl⟩ rfl rfl rfl rfl rfl (by kernel_rfl) Try.func6 (by kernel_rfl)
    (of_decide_eq_true (by kernel_rfl)) (by unfold Func.isWrapper; first | (rw [if_pos (by decide +kernel)]; kernel_rfl) | (rw [if_neg (by decide +kernel)]; exact ⟨rfl, rfl⟩))
    (fun os started H enc _ => lifted os started H enc)
theorem proved : Rows.WalNilSaid := over
#print axioms proved
end Go.Proofs.Ytcklgaenedlbiaa.walNil
namespace Go.Proofs.Ytcklgaenedlbiaa
/-- The row, under a short name, for the claim. -/
theorem walNil_holds : Rows.WalNilSaid := walNil.proved
end Go.Proofs.Ytcklgaenedlbiaa
