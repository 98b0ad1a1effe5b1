/-
  The row of the law SuperSaves, out of its walk.
-/
import Derived.Test.YtjeoelhenlckaaaRows
import Derived.Test.YtjeoelhenlckaaaSuperSaves
import Derived.Test.YtjeoelhenlckaaaOpen
import Derived.WalkKit
import Derived.ProofKit
import Derived.OpenShut
import Derived.ShutString
import Derived.ChangeOld
import Derived.Below
import Derived.SizedLaws
import Derived.Carry
namespace Go.Proofs.Ytjeoelhenlckaaa.superSaves
open Go.ChangeShapes Go.WideShapes Go.ChangeAt Go.RowKit
open Go.ChangeMaps (open_string shut_string)
set_option linter.unusedVariables false
theorem own : ownKnob Try.prog.godebug = none := by kernel_rfl
theorem laidOut : laidOutB Try.prog = true := by kernel_rfl
theorem len7 : ∀ {l : List Value}, l.length = 7 → ∃ x0 x1 x2 x3 x4 x5 x6, l = [x0, x1, x2, x3, x4, x5, x6]
  | [x0, x1, x2, x3, x4, x5, x6], _ => ⟨x0, x1, x2, x3, x4, x5, x6, rfl⟩
set_option maxHeartbeats 1000000 in
set_option maxRecDepth 100000 in
theorem lifted (os : Os) (started : os.Started) (H : Type) (enc : TypeId × Value → H) :
    ReturnsInHanded {} Try.checked os 10 .any (Rows.superSavesSpec.pre6 enc Try.prog Try.f10 Rows.superSavesRow.domain false) (Rows.superSavesSpec.post enc Try.prog Try.f10 false true false false) := by
  refine returnsInHanded_of_change_sized (C := Try.checked) own started (by kernel_rfl) Try.func10
    (ChangeSpec.witness6 (enc := enc) (C := Try.checked) false ⟨#[], #[.string ByteArray.empty, .string ByteArray.empty, .slice none 0 0, .slice none 0 0, .slice none 0 0], []⟩ 8 (by kernel_rfl) (by kernel_rfl) (by kernel_rfl) (by kernel_rfl)) ?_
  intro W base args ds gs before hval0 hW hcnd hsz0 _
  have hsz : (DataW.weightsEach Try.prog (Try.f10.params.toList ++ Rows.superSavesSpec.plain.varTypes Try.prog) (ds ++ gs)).all (· ≤ reachBytes) = true := hsz0
  have hval : ∀ (j : Nat) t v, Try.f10.params[j]? = some t → args[j]? = some v → Value.okWide Try.prog W .any base t v := hval0
  have hW' := hW
  obtain ⟨p, q, hA0, hV, rfl, hfz, hnd⟩ := hW
  have hA : DataW.TrodAll enc Try.prog W 0 (fun _ => true) true Try.f10.params.toList args.toList ds p := hA0
  rw [Try.params10] at hA hval hsz
  obtain ⟨v0, vs0, d0, ds0, p0, q0, hargs, rfl, rfl, h0, r0⟩ := trodAll_cons hA
  obtain ⟨v1, vs1, d1, ds1, p1, q1, rfl, rfl, rfl, h1, r1⟩ := trodAll_cons r0
  obtain ⟨v2, vs2, d2, ds2, p2, q2, rfl, rfl, rfl, h2, r2⟩ := trodAll_cons r1
  obtain ⟨v3, vs3, d3, ds3, p3, q3, rfl, rfl, rfl, h3, r3⟩ := trodAll_cons r2
  obtain ⟨v4, vs4, d4, ds4, p4, q4, rfl, rfl, rfl, h4, r4⟩ := trodAll_cons r3
  obtain ⟨rfl, rfl, rfl⟩ := trodAll_nil r4
  obtain rfl : args = #[v0, v1, v2, v3, v4] := by cases args; simp_all
  obtain ⟨rfl, rfl⟩ := trodVars_none hV
  obtain ⟨a0, rfl, rfl, rfl, y0⟩ := open_string Try.underlying9 (hval 0 9 v0 rfl rfl) h0
  have w0 : a0.size ≤ 140737488351232 := by
    have z := sized_string hsz (j := 0) (t := 9) rfl rfl
    rw [Array.length_toList] at z
    exact z
  obtain ⟨a1, rfl, rfl, rfl, y1⟩ := open_string Try.underlying9 (hval 1 9 v1 rfl rfl) h1
  have w1 : a1.size ≤ 140737488351232 := by
    have z := sized_string hsz (j := 1) (t := 9) rfl rfl
    rw [Array.length_toList] at z
    exact z
  have k2 := h2
  have lt2 : ∀ x ∈ p2, x.block < W.heap.size := by obtain ⟨m, hm⟩ := k2; exact DataW.trod_lt m _ _ _ hm
  have F2 := fact_of (P := Try.prog) 5 h2 hsz (j := 2) rfl rfl
  obtain ⟨A2, len2, cap2, rfl⟩ := okWide_slice Try.underlying72 (hval 2 72 v2 rfl rfl)
  obtain ⟨u2, m2, b2, vv2, hl2, hvv2, g2⟩ := fact_slice Try.underlying72 (by rw [show Try.prog.cellsOf 45 = 7 by kernel_rfl]; decide) F2
  obtain ⟨z2, rfl, w2⟩ := list_told (f := fun x : Int × Int × Int × Int × Int × Int × Int => [Value.int .i64 x.1, Value.int .i64 x.2.1, Value.int .i64 x.2.2.1, Value.int .i64 x.2.2.2.1, Value.int .i64 x.2.2.2.2.1, Value.int .i64 x.2.2.2.2.2.1, Value.int .i64 x.2.2.2.2.2.2]) (p := fun x : Int × Int × Int × Int × Int × Int × Int => (Lit.int .i64 x.1).wf = true ∧ (Lit.int .i64 x.2.1).wf = true ∧ (Lit.int .i64 x.2.2.1).wf = true ∧ (Lit.int .i64 x.2.2.2.1).wf = true ∧ (Lit.int .i64 x.2.2.2.2.1).wf = true ∧ (Lit.int .i64 x.2.2.2.2.2.1).wf = true ∧ (Lit.int .i64 x.2.2.2.2.2.2).wf = true) (vs := vv2) fun c hc => by
    obtain ⟨hcl, hcf⟩ := hvv2 c hc
    replace hcl : c.length = 7 := hcl.trans (by kernel_rfl)
    obtain ⟨_, hcf⟩ := fact_struct Try.underlying45 hcf
    obtain ⟨x0, x1, x2, x3, x4, x5, x6, rfl⟩ := len7 hcl
    have G0 := fact_field hcf (t := 3) (i := 0) (by kernel_rfl) (show Try.prog.cellsOf 3 = 1 by kernel_rfl) (v := x0) rfl
    obtain ⟨y0, e_, wy0⟩ := fact_int Try.underlying3 G0
    simp only [List.cons.injEq, and_true] at e_
    subst e_
    have G1 := fact_field hcf (t := 3) (i := 1) (by kernel_rfl) (show Try.prog.cellsOf 3 = 1 by kernel_rfl) (v := x1) rfl
    obtain ⟨y1, e_, wy1⟩ := fact_int Try.underlying3 G1
    simp only [List.cons.injEq, and_true] at e_
    subst e_
    have G2 := fact_field hcf (t := 3) (i := 2) (by kernel_rfl) (show Try.prog.cellsOf 3 = 1 by kernel_rfl) (v := x2) rfl
    obtain ⟨y2, e_, wy2⟩ := fact_int Try.underlying3 G2
    simp only [List.cons.injEq, and_true] at e_
    subst e_
    have G3 := fact_field hcf (t := 3) (i := 3) (by kernel_rfl) (show Try.prog.cellsOf 3 = 1 by kernel_rfl) (v := x3) rfl
    obtain ⟨y3, e_, wy3⟩ := fact_int Try.underlying3 G3
    simp only [List.cons.injEq, and_true] at e_
    subst e_
    have G4 := fact_field hcf (t := 3) (i := 4) (by kernel_rfl) (show Try.prog.cellsOf 3 = 1 by kernel_rfl) (v := x4) rfl
    obtain ⟨y4, e_, wy4⟩ := fact_int Try.underlying3 G4
    simp only [List.cons.injEq, and_true] at e_
    subst e_
    have G5 := fact_field hcf (t := 3) (i := 5) (by kernel_rfl) (show Try.prog.cellsOf 3 = 1 by kernel_rfl) (v := x5) rfl
    obtain ⟨y5, e_, wy5⟩ := fact_int Try.underlying3 G5
    simp only [List.cons.injEq, and_true] at e_
    subst e_
    have G6 := fact_field hcf (t := 3) (i := 6) (by kernel_rfl) (show Try.prog.cellsOf 3 = 1 by kernel_rfl) (v := x6) rfl
    obtain ⟨y6, e_, wy6⟩ := fact_int Try.underlying3 G6
    simp only [List.cons.injEq, and_true] at e_
    subst e_
    exact ⟨(y0, y1, y2, y3, y4, y5, y6), rfl, wy0, wy1, wy2, wy3, wy4, wy5, wy6⟩
  rw [← List.flatMap_def] at g2
  rw [List.length_map] at hl2
  subst hl2
  have k3 := h3
  have lt3 : ∀ x ∈ p3, x.block < W.heap.size := by obtain ⟨m, hm⟩ := k3; exact DataW.trod_lt m _ _ _ hm
  have F3 := fact_of (P := Try.prog) 5 h3 hsz (j := 3) rfl rfl
  obtain ⟨A3, len3, cap3, rfl⟩ := okWide_slice Try.underlying73 (hval 3 73 v3 rfl rfl)
  obtain ⟨u3, m3, b3, z3, rfl, w3, g3⟩ := fact_ints Try.underlying73 Try.underlying3 (show Try.prog.cellsOf 3 = 1 by kernel_rfl) F3
  have k4 := h4
  have lt4 : ∀ x ∈ p4, x.block < W.heap.size := by obtain ⟨m, hm⟩ := k4; exact DataW.trod_lt m _ _ _ hm
  have F4 := fact_of (P := Try.prog) 5 h4 hsz (j := 4) rfl rfl
  obtain ⟨A4, len4, cap4, rfl⟩ := okWide_slice Try.underlying60 (hval 4 60 v4 rfl rfl)
  obtain ⟨u4, m4, b4, z4, rfl, g4⟩ := fact_bools Try.underlying60 Try.underlying4 (show Try.prog.cellsOf 4 = 1 by kernel_rfl) F4
  clear hA0 hval0 hsz0 hsz
  refine (superSaves_row a0 a1 A2 cap2 z2 A3 cap3 z3 A4 cap4 z4 W w0 w1 g2 w2 u2 m2 g3 w3 u3 m3 g4 u4 m4).mono fun e W' ⟨he, bel⟩ => ?_
  subst he
  exact ⟨_, rfl, _, _, _, [], _, [], hW', trodAll_mk1 (shut_bool Try.underlying4 _), (trodAll_cons_mk (shut_string Try.underlying9 y0) (trodAll_cons_mk (shut_string Try.underlying9 y1) (trodAll_cons_mk (Below.trod laidOut (by kernel_rfl) (of_decide_eq_true (by kernel_rfl)) k2 bel lt2) (trodAll_cons_mk (Below.trod laidOut (by kernel_rfl) (of_decide_eq_true (by kernel_rfl)) k3 bel lt3) (trodAll_cons_mk (Below.trod laidOut (by kernel_rfl) (of_decide_eq_true (by kernel_rfl)) k4 bel lt4) trodAll_mk0))))), rfl, bel.frame _, fun h => by cases h⟩
theorem over : Rows.superSavesRow.holds Try.pinned (OpenSpec.ofChange Rows.superSavesSpec) :=
  OpenClaim.holds_of_wide 10 Try.f10 rfl rfl rfl rfl rfl rfl rfl ⟨rfl, rfl, rfl, rfl, rfl⟩ rfl rfl rfl rfl rfl (by kernel_rfl) Try.func10 (by kernel_rfl)
    (of_decide_eq_true (by kernel_rfl)) (by unfold Func.isWrapper; first | (rw [if_pos (by decide +kernel)]; kernel_rfl) | (rw [if_neg (by decide +kernel)]; exact ⟨rfl, rfl⟩))
    (fun os started H enc _ => lifted os started H enc)
theorem proved : Rows.SuperSavesSaid := over
#print axioms proved
end Go.Proofs.Ytjeoelhenlckaaa.superSaves
namespace Go.Proofs.Ytjeoelhenlckaaa
/-- The row, under a short name, for the claim. -/
theorem superSaves_holds : Rows.SuperSavesSaid := superSaves.proved
end Go.Proofs.Ytjeoelhenlckaaa
