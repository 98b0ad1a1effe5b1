/-
  The row of the law WalRoom, out of its walk.
-/
import Derived.Test.YtcklgaenedlbiaaRows
import Derived.Test.YtcklgaenedlbiaaGWalRoom32
import Derived.WalkKit
import Derived.ProofKit
import Derived.OpenShut
import Derived.ShutString
import Derived.ChangeOld
import Derived.Below
import Derived.SizedLaws
import Derived.Carry
namespace Go.Proofs.Ytcklgaenedlbiaa.walRoom
open Go.ChangeShapes Go.WideShapes Go.ChangeAt Go.RowKit
open Go.ChangeMaps (open_string shut_string)
set_option linter.unusedVariables false
theorem own : ownKnob Try.prog.godebug = none := by kernel_rfl
theorem laidOut : laidOutB Try.prog = true := by kernel_rfl
theorem len3 : ∀ {l : List Value}, l.length = 3 → ∃ x0 x1 x2, l = [x0, x1, x2]
  | [x0, x1, x2], _ => ⟨x0, x1, x2, rfl⟩
set_option maxHeartbeats 1000000 in
set_option maxRecDepth 100000 in
theorem lifted (os : Os) (started : os.Started) (H : Type) (enc : TypeId × Value → H) :
    ReturnsInHanded {} Try.checked os 8 .any (Rows.walRoomSpec.pre6 enc Try.prog Try.f8 Rows.walRoomRow.domain false) (Rows.walRoomSpec.post enc Try.prog Try.f8 false true false false) := by
  refine returnsInHanded_of_change_sized (C := Try.checked) own started (by kernel_rfl) Try.func8
    (ChangeSpec.witness6 (enc := enc) (C := Try.checked) false ⟨#[], #[.int .i64 0, .slice none 0 0, .slice none 0 0], []⟩ 8 (by kernel_rfl) (by kernel_rfl) (by kernel_rfl) (by kernel_rfl)) ?_
  intro W base args ds gs before hval0 hW hcnd hsz0 _
  have hsz : (DataW.weightsEach Try.prog (Try.f8.params.toList ++ Rows.walRoomSpec.plain.varTypes Try.prog) (ds ++ gs)).all (· ≤ reachBytes) = true := hsz0
  have hval : ∀ (j : Nat) t v, Try.f8.params[j]? = some t → args[j]? = some v → Value.okWide Try.prog W .any base t v := hval0
  have hW' := hW
  obtain ⟨p, q, hA0, hV, rfl, hfz, hnd⟩ := hW
  have hA : DataW.TrodAll enc Try.prog W 0 (fun _ => true) true Try.f8.params.toList args.toList ds p := hA0
  rw [Try.params8] at hA hval hsz
  obtain ⟨v0, vs0, d0, ds0, p0, q0, hargs, rfl, rfl, h0, r0⟩ := trodAll_cons hA
  obtain ⟨v1, vs1, d1, ds1, p1, q1, rfl, rfl, rfl, h1, r1⟩ := trodAll_cons r0
  obtain ⟨v2, vs2, d2, ds2, p2, q2, rfl, rfl, rfl, h2, r2⟩ := trodAll_cons r1
  obtain ⟨rfl, rfl, rfl⟩ := trodAll_nil r2
  obtain rfl : args = #[v0, v1, v2] := by cases args; simp_all
  obtain ⟨rfl, rfl⟩ := trodVars_none hV
  obtain ⟨a0, rfl, rfl, rfl, w0⟩ := open_int Try.underlying3 (hval 0 3 v0 rfl rfl) h0
  have k1 := h1
  have lt1 : ∀ x ∈ p1, x.block < W.heap.size := by obtain ⟨m, hm⟩ := k1; exact DataW.trod_lt m _ _ _ hm
  have F1 := fact_of (P := Try.prog) 5 h1 hsz (j := 1) rfl rfl
  obtain ⟨A1, len1, cap1, rfl⟩ := okWide_slice Try.underlying74 (hval 1 74 v1 rfl rfl)
  obtain ⟨u1, m1, b1, vv1, hl1, hvv1, g1⟩ := fact_slice Try.underlying74 (by rw [show Try.prog.cellsOf 70 = 3 by kernel_rfl]; decide) F1
  obtain ⟨z1, rfl, w1⟩ := list_told (f := fun x : Int × ByteArray × ByteArray => [Value.int .i64 x.1, Value.string x.2.1, Value.string x.2.2]) (p := fun x : Int × ByteArray × ByteArray => (Lit.int .i64 x.1).wf = true ∧ x.2.1.size ≤ 140737488351232 ∧ x.2.2.size ≤ 140737488351232) (vs := vv1) fun c hc => by
    obtain ⟨hcl, hcf⟩ := hvv1 c hc
    replace hcl : c.length = 3 := hcl.trans (by kernel_rfl)
    obtain ⟨_, hcf⟩ := fact_struct Try.underlying70 hcf
    obtain ⟨x0, x1, x2, rfl⟩ := len3 hcl
    have G0 := fact_field hcf (t := 3) (i := 0) (by kernel_rfl) (show Try.prog.cellsOf 3 = 1 by kernel_rfl) (v := x0) rfl
    obtain ⟨y0, e_, wy0⟩ := fact_int Try.underlying3 G0
    simp only [List.cons.injEq, and_true] at e_
    subst e_
    have G1 := fact_field hcf (t := 9) (i := 1) (by kernel_rfl) (show Try.prog.cellsOf 9 = 1 by kernel_rfl) (v := x1) rfl
    obtain ⟨y1, e_, wy1⟩ := fact_string Try.underlying9 G1
    simp only [List.cons.injEq, and_true] at e_
    subst e_
    have G2 := fact_field hcf (t := 9) (i := 2) (by kernel_rfl) (show Try.prog.cellsOf 9 = 1 by kernel_rfl) (v := x2) rfl
    obtain ⟨y2, e_, wy2⟩ := fact_string Try.underlying9 G2
    simp only [List.cons.injEq, and_true] at e_
    subst e_
    exact ⟨(y0, y1, y2), rfl, wy0, wy1, wy2⟩
  rw [← List.flatMap_def] at g1
  rw [List.length_map] at hl1
  subst hl1
  have k2 := h2
  have lt2 : ∀ x ∈ p2, x.block < W.heap.size := by obtain ⟨m, hm⟩ := k2; exact DataW.trod_lt m _ _ _ hm
  have F2 := fact_of (P := Try.prog) 5 h2 hsz (j := 2) rfl rfl
  obtain ⟨A2, len2, cap2, rfl⟩ := okWide_slice Try.underlying33 (hval 2 33 v2 rfl rfl)
  obtain ⟨u2, m2, b2, z2, rfl, g2⟩ := fact_bools Try.underlying33 Try.underlying4 (show Try.prog.cellsOf 4 = 1 by kernel_rfl) F2
  clear hA0 hval0 hsz0 hsz
  refine (walRoom_row a0 A1 cap1 z1 A2 cap2 z2 W w0 g1 w1 u1 m1 g2 u2 m2).mono fun e W' ⟨he, bel⟩ => ?_
  subst he
  exact ⟨_, rfl, _, _, _, [], _, [], hW', trodAll_mk1 (shut_bool Try.underlying4 _), (trodAll_cons_mk (shut_int Try.underlying3 w0) (trodAll_cons_mk (Below.trod laidOut (by kernel_rfl) (of_decide_eq_true (by kernel_rfl)) k1 bel lt1) (trodAll_cons_mk (Below.trod laidOut (by kernel_rfl) (of_decide_eq_true (by kernel_rfl)) k2 bel lt2) trodAll_mk0))), rfl, bel.frame _, fun h => by cases h⟩
theorem over : Rows.walRoomRow.holds Try.pinned (OpenSpec.ofChange Rows.walRoomSpec) :=
  OpenClaim.holds_of_wide 8 Try.f8 rfl rfl rfl rfl rfl rfl rfl ⟨rfl, rfl, rfl, rfl, rfl⟩ rfl rfl rfl rfl rfl (by kernel_rfl) Try.func8 (by kernel_rfl)
    (of_decide_eq_true (by kernel_rfl)) (by unfold Func.isWrapper; first | (rw [if_pos (by decide +kernel)]; kernel_rfl) | (rw [if_neg (by decide +kernel)]; exact ⟨rfl, rfl⟩))
    (fun os started H enc _ => lifted os started H enc)
theorem proved : Rows.WalRoomSaid := over
#print axioms proved
end Go.Proofs.Ytcklgaenedlbiaa.walRoom
namespace Go.Proofs.Ytcklgaenedlbiaa
/-- The row, under a short name, for the claim. -/
theorem walRoom_holds : Rows.WalRoomSaid := walRoom.proved
end Go.Proofs.Ytcklgaenedlbiaa
