/-
  MsgExact, walked.
-/
import Derived.Test.YtbhmkigomlpkcaaMsgAwake
namespace Go.Proofs.Ytbhmkigomlpkcaa
open Go.RowKit Go.Sort

set_option maxHeartbeats 8000000 in
set_option maxRecDepth 100000 in
theorem msgExact_walk (K : Int) (k v : ByteArray) (n : Nat) (hn : n < 18446744073709551616) (val : ByteArray) (has : Bool) (w : World) :
    Calls Try.prog 3 #[.agg #[.int .i64 K, .string k, .string v], .int .u64 (n : Int), .string val, .bool has] w fun e w' => e = .returned (.bool true) ∧ Below w.heap.size w w' := by
  obtain ⟨l, hl⟩ : ∃ l, l = longB k v := ⟨_, rfl⟩
  have HL := hid hl
  cases l with
  | true =>
    clear hl
    go_enter Try.func3, Try.ntmps3
    go_wp2_with (with_reducible refine at_op (.box 23 (.tmp 0)) rfl ?_; refine Stopped.go ?_)
    refine Stopped.mk (wpList_box rfl #[.int .i64 K, .string k, .string v] 23 (by go_simp) ?_)
    intro g w1 hg_ Bg hb_ hz_
    have hb := hb_
    clear hg_ hz_ hb_
    go_wp2_with fail
    refine (awake08_any _).mono ?_; rintro e w2 ⟨rfl, hb_⟩
    replace Bg := Bg.belowS hb_
    replace hb := bt hb hb_; clear hb_
    have cg_0 : w2.cell? ⟨g, 0, none⟩ = some (.int .i64 K) := Bg.at rfl
    have cg_1 : w2.cell? ⟨g, 1, none⟩ = some (.string k) := Bg.at rfl
    have cg_2 : w2.cell? ⟨g, 2, none⟩ = some (.string v) := Bg.at rfl
    go_wp2_with fail
    refine (msg_long_any K k v _).mono ?_; rintro e w3 ⟨rfl, hb_⟩; rw [← HL.out]
    clear cg_0
    clear cg_1
    clear cg_2
    replace Bg := Bg.belowS hb_
    replace hb := bt hb hb_
    clear hb_
    have cg_0 : w3.cell? ⟨g, 0, none⟩ = some (.int .i64 K) := Bg.at rfl
    have cg_1 : w3.cell? ⟨g, 1, none⟩ = some (.string k) := Bg.at rfl
    have cg_2 : w3.cell? ⟨g, 2, none⟩ = some (.string v) := Bg.at rfl
    go_wp2_with fail
    go_ret
    exact ⟨rfl, hb⟩
  | false =>
    have hkv : (k.size : Int) ≤ 1024 ∧ (v.size : Int) ≤ 1024 := by
      unfold longB at hl
      have := hl.symm
      simp only [Bool.or_eq_false_iff, decide_eq_false_iff_not] at this
      omega
    clear hl
    by_cases hva : (1024 : Int) < val.size
    · clear hkv
      go_enter Try.func3, Try.ntmps3
      go_wp2_with (with_reducible refine at_op (.box 23 (.tmp 0)) rfl ?_; refine Stopped.go ?_)
      refine Stopped.mk (wpList_box rfl #[.int .i64 K, .string k, .string v] 23 (by go_simp) ?_)
      intro g w1 hg_ Bg hb_ hz_
      have hb := hb_
      clear hg_ hz_ hb_
      go_wp2_with fail
      refine (awake08_any _).mono ?_; rintro e w2 ⟨rfl, hb_⟩
      replace Bg := Bg.belowS hb_
      replace hb := bt hb hb_; clear hb_
      have cg_0 : w2.cell? ⟨g, 0, none⟩ = some (.int .i64 K) := Bg.at rfl
      have cg_1 : w2.cell? ⟨g, 1, none⟩ = some (.string k) := Bg.at rfl
      have cg_2 : w2.cell? ⟨g, 2, none⟩ = some (.string v) := Bg.at rfl
      go_wp2_with fail
      refine (msg_long_any K k v _).mono ?_; rintro e w3 ⟨rfl, hb_⟩; rw [← HL.out]
      clear cg_0
      clear cg_1
      clear cg_2
      replace Bg := Bg.belowS hb_
      replace hb := bt hb hb_
      clear hb_
      have cg_0 : w3.cell? ⟨g, 0, none⟩ = some (.int .i64 K) := Bg.at rfl
      have cg_1 : w3.cell? ⟨g, 1, none⟩ = some (.string k) := Bg.at rfl
      have cg_2 : w3.cell? ⟨g, 2, none⟩ = some (.string v) := Bg.at rfl
      go_wp2_with fail
      go_ret
      exact ⟨rfl, hb⟩
    obtain ⟨x, hx⟩ : ∃ x, x = applyV K k v val has := ⟨_, rfl⟩
    obtain ⟨y, hy⟩ : ∃ y, y = applyB K k v has := ⟨_, rfl⟩
    obtain ⟨b, hbb⟩ : ∃ b, b = msgIs K k v := ⟨_, rfl⟩
    obtain ⟨z, hz⟩ : ∃ z, z = val8 n := ⟨_, rfl⟩
    have HX := hid hx; have HY := hid hy; have HKV := hid hkv
    have KI : Hid (∀ W', Calls Try.prog 17 #[.agg #[.int .i64 K, .string k, .string v]] W' fun e w' => e = .returned (.bool b) ∧ Below W'.heap.size W' w') := fun W' => by rw [hbb]; exact msg_Is_any K k v W'
    have KR : Hid (∀ W', Calls Try.prog 18 #[.agg #[.int .i64 K, .string k, .string v]] W' fun e w' => e = .returned (.bool b) ∧ Below W'.heap.size W' w') := fun W' => by rw [hbb]; exact ref_Is_any K k v W'
    have KW : Hid (∀ W', Calls Try.prog 19 #[.agg #[.int .i64 K, .string k, .string v]] W' fun e w' => e = .returned (.int .i64 (3 + (k.size : Int) + (v.size : Int))) ∧ Below W'.heap.size W' w') := fun W' => msg_Weight_any K k v (by omega) (by omega) W'
    have KP : Hid (∀ W', Calls Try.prog 20 #[.string k, .string v] W' fun e w' => e = .returned (.agg #[.int .i64 1, .string k, .string v]) ∧ Below W'.heap.size W' w') := fun W' => msg_OfPut_any k v W'
    have KD : Hid (∀ W', Calls Try.prog 21 #[.string k] W' fun e w' => e = .returned (.agg #[.int .i64 2, .string k, .string ⟨#[]⟩]) ∧ Below W'.heap.size W' w') := fun W' => msg_OfDel_any k W'
    have KA : Hid (∀ W', Calls Try.prog 22 #[.string k, .int .u64 (n : Int)] W' fun e w' => e = .returned (.agg #[.int .i64 3, .string k, .string z]) ∧ Below W'.heap.size W' w') := fun W' => by rw [hz]; exact msg_OfAdd_any k n hn W'
    have KV : Hid (∀ W', Calls Try.prog 23 #[.int .u64 (n : Int)] W' fun e w' => e = .returned (.string z) ∧ Below W'.heap.size W' w') := fun W' => by rw [hz]; exact ref_Value_any n hn W'
    clear hx hy hbb hz hkv
    go_enter Try.func3, Try.ntmps3
    go_wp2_with (with_reducible refine at_op (.box 23 (.tmp 0)) rfl ?_; refine Stopped.go ?_)
    refine Stopped.mk (wpList_box rfl #[.int .i64 K, .string k, .string v] 23 (by go_simp) ?_)
    intro g w1 hg_ Bg hb_ hz_
    have hb := hb_
    clear hg_ hz_ hb_
    go_wp2_with fail
    refine (awake08_any _).mono ?_; rintro e w2 ⟨rfl, hb_⟩
    replace Bg := Bg.belowS hb_
    replace hb := bt hb hb_; clear hb_
    have cg_0 : w2.cell? ⟨g, 0, none⟩ = some (.int .i64 K) := Bg.at rfl
    have cg_1 : w2.cell? ⟨g, 1, none⟩ = some (.string k) := Bg.at rfl
    have cg_2 : w2.cell? ⟨g, 2, none⟩ = some (.string v) := Bg.at rfl
    go_wp2_with fail
    refine (msg_long_any K k v _).mono ?_; rintro e w3 ⟨rfl, hb_⟩; rw [← HL.out]
    clear cg_0
    clear cg_1
    clear cg_2
    replace Bg := Bg.belowS hb_
    replace hb := bt hb hb_
    clear hb_
    have cg_0 : w3.cell? ⟨g, 0, none⟩ = some (.int .i64 K) := Bg.at rfl
    have cg_1 : w3.cell? ⟨g, 1, none⟩ = some (.string k) := Bg.at rfl
    have cg_2 : w3.cell? ⟨g, 2, none⟩ = some (.string v) := Bg.at rfl
    go_wp2_with fail
    refine (msg_Apply_any K k v val has _).mono ?_; rintro e w4 ⟨rfl, hb_⟩; rw [← HX.out, ← HY.out]
    clear cg_0
    clear cg_1
    clear cg_2
    replace Bg := Bg.belowS hb_
    replace hb := bt hb hb_
    clear hb_
    have cg_0 : w4.cell? ⟨g, 0, none⟩ = some (.int .i64 K) := Bg.at rfl
    have cg_1 : w4.cell? ⟨g, 1, none⟩ = some (.string k) := Bg.at rfl
    have cg_2 : w4.cell? ⟨g, 2, none⟩ = some (.string v) := Bg.at rfl
    go_wp2_with fail
    refine (ref_Apply_any K k v val has _).mono ?_; rintro e W ⟨rfl, hb_⟩; rw [← HX.out, ← HY.out]
    replace Bg := Bg.belowS hb_; replace hb := bt hb hb_; clear hb_ cg_0 cg_1 cg_2
    have BG := hid Bg; clear Bg
    go_wp2_with fail
    have e1 : IntKind.i64.wrap (3 + (k.size : Int)) = 3 + (k.size : Int) := by have := HKV.out; rw [IntKind.wrap_i64]; omega
    have e2 : IntKind.i64.wrap (3 + (k.size : Int) + (v.size : Int)) = 3 + (k.size : Int) + (v.size : Int) := by have := HKV.out; rw [IntKind.wrap_i64]; omega
    have m0 : ∀ d os, (grow (redrawn W d) os).cell? ⟨g, 0, none⟩ = some (.int .i64 K) := fun d os => cell_regrown (BG.out.at rfl) d os
    have m1 : ∀ d os, (grow (redrawn W d) os).cell? ⟨g, 1, none⟩ = some (.string k) := fun d os => cell_regrown (BG.out.at rfl) d os
    have m2 : ∀ d os, (grow (redrawn W d) os).cell? ⟨g, 2, none⟩ = some (.string v) := fun d os => cell_regrown (BG.out.at rfl) d os
    refine wp_region_quiet_below (by kernel_rfl) (by kernel_rfl) ?_
    repeat (go_big_quiet_step (first
      | with_reducible exact Calls.regrown_of (KI.out _)
      | with_reducible exact Calls.regrown_of (KR.out _)
      | with_reducible exact Calls.regrown_of (KW.out _)))
    refine wpQuiet_nil ?_
    intro _ hw'
    obtain ⟨⟨dq, osq⟩, hw''⟩ := hw'
    subst hw''
    clear m0 m1 m2 e1 e2
    have hb_ := below_regrown W dq osq
    replace hb := bt hb hb_
    have BG2 := hid (BG.out.belowS hb_)
    clear hb_ BG
    generalize grow (redrawn W dq) osq = W2 at hb BG2 ⊢
    go_wp2_with fail
    have m0 : ∀ d os, (grow (redrawn W2 d) os).cell? ⟨g, 0, none⟩ = some (.int .i64 K) := fun d os => cell_regrown (BG2.out.at rfl) d os
    have m1 : ∀ d os, (grow (redrawn W2 d) os).cell? ⟨g, 1, none⟩ = some (.string k) := fun d os => cell_regrown (BG2.out.at rfl) d os
    have m2 : ∀ d os, (grow (redrawn W2 d) os).cell? ⟨g, 2, none⟩ = some (.string v) := fun d os => cell_regrown (BG2.out.at rfl) d os
    refine wp_region_quiet_below (by kernel_rfl) (by kernel_rfl) ?_
    repeat (go_big_quiet_step (first
      | with_reducible exact Calls.regrown_of (KP.out _)
      | with_reducible exact Calls.regrown_of (KD.out _)
      | with_reducible exact Calls.regrown_of (KA.out _)
      | with_reducible exact Calls.regrown_of (KV.out _)))
    refine wpQuiet_nil ?_
    intro _ hw'
    obtain ⟨⟨dq, osq⟩, hw''⟩ := hw'
    subst hw''
    clear m0 m1 m2
    go_wp2_with fail
    go_ret
    exact ⟨rfl, bt hb (below_regrown W2 dq osq)⟩

/-- in the row's words -/
theorem msgExact_law (K : Int) (k v : ByteArray) (n : Int) (val : ByteArray) (has : Bool) (w : World) (_ : (Lit.int .i64 K).wf = true) (_ : k.size ≤ 140737488351232) (_ : v.size ≤ 140737488351232) (hn : (Lit.int .u64 n).wf = true) (_ : val.size ≤ 140737488351232) :
    Calls Try.prog 3 #[.agg #[.int .i64 K, .string k, .string v], .int .u64 n, .string val, .bool has] w fun e w' => e = .returned (.bool true) ∧ Below w.heap.size w w' := by
  obtain ⟨h0, h1⟩ := wf_u64 hn
  obtain ⟨m, rfl⟩ : ∃ m : Nat, n = (m : Int) := ⟨n.toNat, by omega⟩
  exact msgExact_walk K k v m (by omega) val has w
end Go.Proofs.Ytbhmkigomlpkcaa
