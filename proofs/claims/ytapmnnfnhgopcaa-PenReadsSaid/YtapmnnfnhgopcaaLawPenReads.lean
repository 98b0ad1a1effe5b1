/-
  The row of the law PenReads, out of its walk.
-/
import Derived.Test.YtapmnnfnhgopcaaRows
import Derived.Test.YtapmnnfnhgopcaaPenReads
import Derived.Test.YtapmnnfnhgopcaaOpen
import Derived.WalkKit
import Derived.ProofKit
import Derived.OpenShut
import Derived.ShutString
import Derived.ChangeOld
import Derived.Below
import Derived.SizedLaws
import Derived.Carry
namespace Go.Proofs.Ytapmnnfnhgopcaa.penReads
open Go.ChangeShapes Go.WideShapes Go.ChangeAt Go.RowKit
open Go.ChangeMaps (open_string shut_string)
set_option linter.unusedVariables false
theorem own : ownKnob Try.prog.godebug = none := by kernel_rfl
theorem laidOut : laidOutB Try.prog = true := by kernel_rfl
theorem len6 : ∀ {l : List Value}, l.length = 6 → ∃ x0 x1 x2 x3 x4 x5, l = [x0, x1, x2, x3, x4, x5]
  | [x0, x1, x2, x3, x4, x5], _ => ⟨x0, x1, x2, x3, x4, x5, rfl⟩
set_option maxHeartbeats 1000000 in
set_option maxRecDepth 100000 in
theorem lifted (os : Os) (started : os.Started) (H : Type) (enc : TypeId × Value → H) :
    ReturnsInHanded {} Try.checked os 14 .any (Rows.penReadsSpec.pre6 enc Try.prog Try.f14 Rows.penReadsRow.domain false) (Rows.penReadsSpec.post enc Try.prog Try.f14 false true false false) := by
  refine returnsInHanded_of_change_sized (C := Try.checked) own started (by kernel_rfl) Try.func14
    (ChangeSpec.witness6 (enc := enc) (C := Try.checked) false ⟨#[], #[.string ByteArray.empty, .slice none 0 0], []⟩ 8 (by kernel_rfl) (by kernel_rfl) (by kernel_rfl) (by kernel_rfl)) ?_
  intro W base args ds gs before hval0 hW hcnd hsz0 _
  have hsz : (DataW.weightsEach Try.prog (Try.f14.params.toList ++ Rows.penReadsSpec.plain.varTypes Try.prog) (ds ++ gs)).all (· ≤ reachBytes) = true := hsz0
  have hval : ∀ (j : Nat) t v, Try.f14.params[j]? = some t → args[j]? = some v → Value.okWide Try.prog W .any base t v := hval0
  have hW' := hW
  obtain ⟨p, q, hA0, hV, rfl, hfz, hnd⟩ := hW
  have hA : DataW.TrodAll enc Try.prog W 0 (fun _ => true) true Try.f14.params.toList args.toList ds p := hA0
  rw [Try.params14] at hA hval hsz
  obtain ⟨v0, vs0, d0, ds0, p0, q0, hargs, rfl, rfl, h0, r0⟩ := trodAll_cons hA
  obtain ⟨v1, vs1, d1, ds1, p1, q1, rfl, rfl, rfl, h1, r1⟩ := trodAll_cons r0
  obtain ⟨rfl, rfl, rfl⟩ := trodAll_nil r1
  obtain rfl : args = #[v0, v1] := by cases args; simp_all
  obtain ⟨rfl, rfl⟩ := trodVars_none hV
  obtain ⟨a0, rfl, rfl, rfl, y0⟩ := open_string Try.underlying9 (hval 0 9 v0 rfl rfl) h0
  have w0 : a0.size ≤ 140737488351232 := by
    have z := sized_string hsz (j := 0) (t := 9) rfl rfl
    rw [Array.length_toList] at z
    exact z
  have k1 := h1
  have lt1 : ∀ x ∈ p1, x.block < W.heap.size := by obtain ⟨m, hm⟩ := k1; exact DataW.trod_lt m _ _ _ hm
  have F1 := fact_of (P := Try.prog) 5 h1 hsz (j := 1) rfl rfl
  obtain ⟨A1, len1, cap1, rfl⟩ := okWide_slice Try.underlying69 (hval 1 69 v1 rfl rfl)
  obtain ⟨u1, m1, b1, vv1, hl1, hvv1, g1⟩ := fact_slice Try.underlying69 (by rw [show Try.prog.cellsOf 77 = 6 by kernel_rfl]; decide) F1
  obtain ⟨z1, rfl, w1⟩ := list_told (f := fun x : Int × Int × Int × Int × ByteArray × ByteArray => [Value.int .i64 x.1, Value.int .i64 x.2.1, Value.int .i64 x.2.2.1, Value.int .i64 x.2.2.2.1, Value.string x.2.2.2.2.1, Value.string x.2.2.2.2.2]) (p := fun x : Int × Int × Int × Int × ByteArray × ByteArray => (Lit.int .i64 x.1).wf = true ∧ (Lit.int .i64 x.2.1).wf = true ∧ (Lit.int .i64 x.2.2.1).wf = true ∧ (Lit.int .i64 x.2.2.2.1).wf = true ∧ x.2.2.2.2.1.size ≤ 140737488351232 ∧ x.2.2.2.2.2.size ≤ 140737488351232) (vs := vv1) fun c hc => by
    obtain ⟨hcl, hcf⟩ := hvv1 c hc
    replace hcl : c.length = 6 := hcl.trans (by kernel_rfl)
    obtain ⟨_, hcf⟩ := fact_struct Try.underlying77 hcf
    obtain ⟨x0, x1, x2, x3, x4, x5, rfl⟩ := len6 hcl
    have G0 := fact_field hcf (t := 3) (i := 0) (by kernel_rfl) (show Try.prog.cellsOf 3 = 1 by kernel_rfl) (v := x0) rfl
    obtain ⟨y0, e_, wy0⟩ := fact_int Try.underlying3 G0
    simp only [List.cons.injEq, and_true] at e_
    subst e_
    have G1 := fact_field hcf (t := 3) (i := 1) (by kernel_rfl) (show Try.prog.cellsOf 3 = 1 by kernel_rfl) (v := x1) rfl
    obtain ⟨y1, e_, wy1⟩ := fact_int Try.underlying3 G1
    simp only [List.cons.injEq, and_true] at e_
    subst e_
    have G2 := fact_field hcf (t := 3) (i := 2) (by kernel_rfl) (show Try.prog.cellsOf 3 = 1 by kernel_rfl) (v := x2) rfl
    obtain ⟨y2, e_, wy2⟩ := fact_int Try.underlying3 G2
    simp only [List.cons.injEq, and_true] at e_
    subst e_
    have G3 := fact_field hcf (t := 3) (i := 3) (by kernel_rfl) (show Try.prog.cellsOf 3 = 1 by kernel_rfl) (v := x3) rfl
    obtain ⟨y3, e_, wy3⟩ := fact_int Try.underlying3 G3
    simp only [List.cons.injEq, and_true] at e_
    subst e_
    have G4 := fact_field hcf (t := 9) (i := 4) (by kernel_rfl) (show Try.prog.cellsOf 9 = 1 by kernel_rfl) (v := x4) rfl
    obtain ⟨y4, e_, wy4⟩ := fact_string Try.underlying9 G4
    simp only [List.cons.injEq, and_true] at e_
    subst e_
    have G5 := fact_field hcf (t := 9) (i := 5) (by kernel_rfl) (show Try.prog.cellsOf 9 = 1 by kernel_rfl) (v := x5) rfl
    obtain ⟨y5, e_, wy5⟩ := fact_string Try.underlying9 G5
    simp only [List.cons.injEq, and_true] at e_
    subst e_
    exact ⟨(y0, y1, y2, y3, y4, y5), rfl, wy0, wy1, wy2, wy3, wy4, wy5⟩
  rw [← List.flatMap_def] at g1
  rw [List.length_map] at hl1
  subst hl1
  clear hA0 hval0 hsz0 hsz
  refine (penReads_law a0 A1 cap1 z1 W w0 g1 w1 u1 m1).mono fun e W' ⟨he, bel⟩ => ?_
  subst he
  exact ⟨_, rfl, _, _, _, [], _, [], hW', trodAll_mk1 (shut_bool Try.underlying4 _), (trodAll_cons_mk (shut_string Try.underlying9 y0) (trodAll_cons_mk (Below.trod laidOut (by kernel_rfl) (of_decide_eq_true (by kernel_rfl)) k1 bel lt1) trodAll_mk0)), rfl, bel.frame _, fun h => by cases h⟩
theorem over : Rows.penReadsRow.holds Try.pinned (OpenSpec.ofChange Rows.penReadsSpec) :=
  OpenClaim.holds_of_wide 14 Try.f14 rfl rfl rfl rfl rfl rfl rfl ⟨rfl, rfl, rfl, rfl, rfl⟩ rfl rfl rfl rfl rfl (by kernel_rfl) Try.func14 (by kernel_rfl)
    (of_decide_eq_true (by kernel_rfl)) (by unfold Func.isWrapper; first | (rw [if_pos (by decide +kernel)]; kernel_rfl) | (rw [if_neg (by decide +kernel)]; exact ⟨rfl, rfl⟩))
    (fun os started H enc _ => lifted os started H enc)
theorem proved : Rows.PenReadsSaid := over
#print axioms proved
end Go.Proofs.Ytapmnnfnhgopcaa.penReads
namespace Go.Proofs.Ytapmnnfnhgopcaa
/-- The row, under a short name, for the claim. -/
theorem penReads_holds : Rows.PenReadsSaid := penReads.proved
end Go.Proofs.Ytapmnnfnhgopcaa
