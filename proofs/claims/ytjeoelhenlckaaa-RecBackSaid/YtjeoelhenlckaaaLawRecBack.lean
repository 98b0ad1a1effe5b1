/-
  The row of the law RecBack, out of its walk.
-/
import Derived.Test.YtjeoelhenlckaaaRows
import Derived.Test.YtjeoelhenlckaaaRecBack
import Derived.Test.YtjeoelhenlckaaaOpen
import Derived.WalkKit
import Derived.ProofKit
import Derived.OpenShut
import Derived.ShutString
import Derived.ChangeOld
import Derived.Below
import Derived.SizedLaws
import Derived.Carry
namespace Go.Proofs.Ytjeoelhenlckaaa.recBack
open Go.ChangeShapes Go.WideShapes Go.ChangeAt Go.RowKit
open Go.ChangeMaps (open_string shut_string)
set_option linter.unusedVariables false
theorem own : ownKnob Try.prog.godebug = none := by kernel_rfl
theorem laidOut : laidOutB Try.prog = true := by kernel_rfl
theorem len3 : ∀ {l : List Value}, l.length = 3 → ∃ x0 x1 x2, l = [x0, x1, x2]
  | [x0, x1, x2], _ => ⟨x0, x1, x2, rfl⟩
set_option maxHeartbeats 1000000 in
set_option maxRecDepth 100000 in
theorem lifted (os : Os) (started : os.Started) (H : Type) (enc : TypeId × Value → H) :
    ReturnsInHanded {} Try.checked os 5 .any (Rows.recBackSpec.pre6 enc Try.prog Try.f5 Rows.recBackRow.domain false) (Rows.recBackSpec.post enc Try.prog Try.f5 false true false false) := by
  refine returnsInHanded_of_change_sized (C := Try.checked) own started (by kernel_rfl) Try.func5
    (ChangeSpec.witness6 (enc := enc) (C := Try.checked) false ⟨#[], #[.slice none 0 0, .string ByteArray.empty], []⟩ 8 (by kernel_rfl) (by kernel_rfl) (by kernel_rfl) (by kernel_rfl)) ?_
  intro W base args ds gs before hval0 hW hcnd hsz0 _
  have hsz : (DataW.weightsEach Try.prog (Try.f5.params.toList ++ Rows.recBackSpec.plain.varTypes Try.prog) (ds ++ gs)).all (· ≤ reachBytes) = true := hsz0
  have hval : ∀ (j : Nat) t v, Try.f5.params[j]? = some t → args[j]? = some v → Value.okWide Try.prog W .any base t v := hval0
  have hW' := hW
  obtain ⟨p, q, hA0, hV, rfl, hfz, hnd⟩ := hW
  have hA : DataW.TrodAll enc Try.prog W 0 (fun _ => true) true Try.f5.params.toList args.toList ds p := hA0
  rw [Try.params5] at hA hval hsz
  obtain ⟨v0, vs0, d0, ds0, p0, q0, hargs, rfl, rfl, h0, r0⟩ := trodAll_cons hA
  obtain ⟨v1, vs1, d1, ds1, p1, q1, rfl, rfl, rfl, h1, r1⟩ := trodAll_cons r0
  obtain ⟨rfl, rfl, rfl⟩ := trodAll_nil r1
  obtain rfl : args = #[v0, v1] := by cases args; simp_all
  obtain ⟨rfl, rfl⟩ := trodVars_none hV
  have k0 := h0
  have lt0 : ∀ x ∈ p0, x.block < W.heap.size := by obtain ⟨m, hm⟩ := k0; exact DataW.trod_lt m _ _ _ hm
  have F0 := fact_of (P := Try.prog) 5 h0 hsz (j := 0) rfl rfl
  obtain ⟨A0, len0, cap0, rfl⟩ := okWide_slice Try.underlying22 (hval 0 22 v0 rfl rfl)
  obtain ⟨u0, m0, b0, vv0, hl0, hvv0, g0⟩ := fact_slice Try.underlying22 (by rw [show Try.prog.cellsOf 39 = 3 by kernel_rfl]; decide) F0
  obtain ⟨z0, rfl, w0⟩ := list_told (f := fun x : Int × ByteArray × ByteArray => [Value.int .i64 x.1, Value.string x.2.1, Value.string x.2.2]) (p := fun x : Int × ByteArray × ByteArray => (Lit.int .i64 x.1).wf = true ∧ x.2.1.size ≤ 140737488351232 ∧ x.2.2.size ≤ 140737488351232) (vs := vv0) fun c hc => by
    obtain ⟨hcl, hcf⟩ := hvv0 c hc
    replace hcl : c.length = 3 := hcl.trans (by kernel_rfl)
    obtain ⟨_, hcf⟩ := fact_struct Try.underlying39 hcf
    obtain ⟨x0, x1, x2, rfl⟩ := len3 hcl
    have G0 := fact_field hcf (t := 3) (i := 0) (by kernel_rfl) (show Try.prog.cellsOf 3 = 1 by kernel_rfl) (v := x0) rfl
    obtain ⟨y0, e_, wy0⟩ := fact_int Try.underlying3 G0
    simp only [List.cons.injEq, and_true] at e_
    subst e_
    have G1 := fact_field hcf (t := 9) (i := 1) (by kernel_rfl) (show Try.prog.cellsOf 9 = 1 by kernel_rfl) (v := x1) rfl
    obtain ⟨y1, e_, wy1⟩ := fact_string Try.underlying9 G1
    simp only [List.cons.injEq, and_true] at e_
    subst e_
    have G2 := fact_field hcf (t := 9) (i := 2) (by kernel_rfl) (show Try.prog.cellsOf 9 = 1 by kernel_rfl) (v := x2) rfl
    obtain ⟨y2, e_, wy2⟩ := fact_string Try.underlying9 G2
    simp only [List.cons.injEq, and_true] at e_
    subst e_
    exact ⟨(y0, y1, y2), rfl, wy0, wy1, wy2⟩
  rw [← List.flatMap_def] at g0
  rw [List.length_map] at hl0
  subst hl0
  obtain ⟨a1, rfl, rfl, rfl, y1⟩ := open_string Try.underlying9 (hval 1 9 v1 rfl rfl) h1
  have w1 : a1.size ≤ 140737488351232 := by
    have z := sized_string hsz (j := 1) (t := 9) rfl rfl
    rw [Array.length_toList] at z
    exact z
  clear hA0 hval0 hsz0 hsz
  refine (recBack_row A0 cap0 z0 a1 W g0 w0 u0 m0 w1).mono fun e W' ⟨he, bel⟩ => ?_
  subst he
  exact ⟨_, rfl, _, _, _, [], _, [], hW', trodAll_mk1 (shut_bool Try.underlying4 _), (trodAll_cons_mk (Below.trod laidOut (by kernel_rfl) (of_decide_eq_true (by kernel_rfl)) k0 bel lt0) (trodAll_cons_mk (shut_string Try.underlying9 y1) trodAll_mk0)), rfl, bel.frame _, fun h => by cases h⟩
theorem over : Rows.recBackRow.holds Try.pinned (OpenSpec.ofChange Rows.recBackSpec) :=
  OpenClaim.holds_of_wide 5 Try.f5 rfl rfl rfl rfl rfl rfl rfl ⟨rfl, rfl, rfl, rfl, rfl⟩ rfl rfl rfl rfl rfl (by kernel_rfl) Try.func5 (by kernel_rfl)
    (of_decide_eq_true (by kernel_rfl)) (by unfold Func.isWrapper; first | (rw [if_pos (by decide +kernel)]; kernel_rfl) | (rw [if_neg (by decide +kernel)]; exact ⟨rfl, rfl⟩))
    (fun os started H enc _ => lifted os started H enc)
theorem proved : Rows.RecBackSaid := over
#print axioms proved
end Go.Proofs.Ytjeoelhenlckaaa.recBack
namespace Go.Proofs.Ytjeoelhenlckaaa
/-- The row, under a short name, for the claim. -/
theorem recBack_holds : Rows.RecBackSaid := recBack.proved
end Go.Proofs.Ytjeoelhenlckaaa
