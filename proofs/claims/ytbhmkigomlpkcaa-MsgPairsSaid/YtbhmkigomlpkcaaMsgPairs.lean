/-
  MsgPairs, walked.
-/
import Derived.Test.YtbhmkigomlpkcaaMsgAwake
namespace Go.Proofs.Ytbhmkigomlpkcaa
open Go.RowKit Go.Sort

set_option maxHeartbeats 8000000 in
set_option maxRecDepth 100000 in
theorem msgPairs_walk (K : Int) (k v : ByteArray) (K' : Int) (k' v' : ByteArray) (w : World) :
    Calls Try.prog 4 #[.agg #[.int .i64 K, .string k, .string v], .agg #[.int .i64 K', .string k', .string v']] w fun e w' => e = .returned (.bool true) ∧ Below w.heap.size w w' := by
  obtain ⟨l, hl⟩ : ∃ l, l = longB k v := ⟨_, rfl⟩
  obtain ⟨l', hl'⟩ : ∃ l, l = longB k' v' := ⟨_, rfl⟩
  have HL := hid hl; have HL' := hid hl'; clear hl hl'
  cases l with
  | true =>
    go_enter Try.func4, Try.ntmps4
    go_wp2_with (with_reducible refine at_op (.box 23 (.tmp 0)) rfl ?_; refine Stopped.go ?_)
    refine Stopped.mk (wpList_box rfl #[.int .i64 K, .string k, .string v] 23 (by go_simp) ?_)
    intro g w1 hg_ Bg hb_ hz_
    have hb := hb_
    clear hg_ hz_ hb_
    go_wp2_with (with_reducible refine at_op (.box 23 (.tmp 1)) rfl ?_; refine Stopped.go ?_)
    refine Stopped.mk (wpList_box rfl #[.int .i64 K', .string k', .string v'] 23 (by go_simp) ?_)
    intro g' w2 hg_ Bg' hb_ hz_
    replace Bg := Bg.belowS hb_
    replace hb := bt hb hb_
    clear hg_ hz_ hb_
    go_wp2_with fail
    refine (awake08_any _).mono ?_; rintro e w3 ⟨rfl, hb_⟩
    replace Bg := Bg.belowS hb_
    replace Bg' := Bg'.belowS hb_
    replace hb := bt hb hb_; clear hb_
    have cg_0 : w3.cell? ⟨g, 0, none⟩ = some (.int .i64 K) := Bg.at rfl
    have cg_1 : w3.cell? ⟨g, 1, none⟩ = some (.string k) := Bg.at rfl
    have cg_2 : w3.cell? ⟨g, 2, none⟩ = some (.string v) := Bg.at rfl
    have cg'_0 : w3.cell? ⟨g', 0, none⟩ = some (.int .i64 K') := Bg'.at rfl
    have cg'_1 : w3.cell? ⟨g', 1, none⟩ = some (.string k') := Bg'.at rfl
    have cg'_2 : w3.cell? ⟨g', 2, none⟩ = some (.string v') := Bg'.at rfl
    go_wp2_with fail
    refine (msg_long_any K k v _).mono ?_; rintro e w4 ⟨rfl, hb_⟩; rw [← HL.out]
    clear cg_0
    clear cg_1
    clear cg_2
    replace Bg := Bg.belowS hb_
    clear cg'_0
    clear cg'_1
    clear cg'_2
    replace Bg' := Bg'.belowS hb_
    replace hb := bt hb hb_
    clear hb_
    have cg_0 : w4.cell? ⟨g, 0, none⟩ = some (.int .i64 K) := Bg.at rfl
    have cg_1 : w4.cell? ⟨g, 1, none⟩ = some (.string k) := Bg.at rfl
    have cg_2 : w4.cell? ⟨g, 2, none⟩ = some (.string v) := Bg.at rfl
    have cg'_0 : w4.cell? ⟨g', 0, none⟩ = some (.int .i64 K') := Bg'.at rfl
    have cg'_1 : w4.cell? ⟨g', 1, none⟩ = some (.string k') := Bg'.at rfl
    have cg'_2 : w4.cell? ⟨g', 2, none⟩ = some (.string v') := Bg'.at rfl
    go_wp2_with fail
    go_ret
    exact ⟨rfl, hb⟩
  | false =>
  cases l' with
  | true =>
    go_enter Try.func4, Try.ntmps4
    go_wp2_with (with_reducible refine at_op (.box 23 (.tmp 0)) rfl ?_; refine Stopped.go ?_)
    refine Stopped.mk (wpList_box rfl #[.int .i64 K, .string k, .string v] 23 (by go_simp) ?_)
    intro g w1 hg_ Bg hb_ hz_
    have hb := hb_
    clear hg_ hz_ hb_
    go_wp2_with (with_reducible refine at_op (.box 23 (.tmp 1)) rfl ?_; refine Stopped.go ?_)
    refine Stopped.mk (wpList_box rfl #[.int .i64 K', .string k', .string v'] 23 (by go_simp) ?_)
    intro g' w2 hg_ Bg' hb_ hz_
    replace Bg := Bg.belowS hb_
    replace hb := bt hb hb_
    clear hg_ hz_ hb_
    go_wp2_with fail
    refine (awake08_any _).mono ?_; rintro e w3 ⟨rfl, hb_⟩
    replace Bg := Bg.belowS hb_
    replace Bg' := Bg'.belowS hb_
    replace hb := bt hb hb_; clear hb_
    have cg_0 : w3.cell? ⟨g, 0, none⟩ = some (.int .i64 K) := Bg.at rfl
    have cg_1 : w3.cell? ⟨g, 1, none⟩ = some (.string k) := Bg.at rfl
    have cg_2 : w3.cell? ⟨g, 2, none⟩ = some (.string v) := Bg.at rfl
    have cg'_0 : w3.cell? ⟨g', 0, none⟩ = some (.int .i64 K') := Bg'.at rfl
    have cg'_1 : w3.cell? ⟨g', 1, none⟩ = some (.string k') := Bg'.at rfl
    have cg'_2 : w3.cell? ⟨g', 2, none⟩ = some (.string v') := Bg'.at rfl
    go_wp2_with fail
    refine (msg_long_any K k v _).mono ?_; rintro e w4 ⟨rfl, hb_⟩; rw [← HL.out]
    clear cg_0
    clear cg_1
    clear cg_2
    replace Bg := Bg.belowS hb_
    clear cg'_0
    clear cg'_1
    clear cg'_2
    replace Bg' := Bg'.belowS hb_
    replace hb := bt hb hb_
    clear hb_
    have cg_0 : w4.cell? ⟨g, 0, none⟩ = some (.int .i64 K) := Bg.at rfl
    have cg_1 : w4.cell? ⟨g, 1, none⟩ = some (.string k) := Bg.at rfl
    have cg_2 : w4.cell? ⟨g, 2, none⟩ = some (.string v) := Bg.at rfl
    have cg'_0 : w4.cell? ⟨g', 0, none⟩ = some (.int .i64 K') := Bg'.at rfl
    have cg'_1 : w4.cell? ⟨g', 1, none⟩ = some (.string k') := Bg'.at rfl
    have cg'_2 : w4.cell? ⟨g', 2, none⟩ = some (.string v') := Bg'.at rfl
    go_wp2_with fail
    refine (msg_long_any K' k' v' _).mono ?_; rintro e w5 ⟨rfl, hb_⟩; rw [← HL'.out]
    clear cg_0
    clear cg_1
    clear cg_2
    replace Bg := Bg.belowS hb_
    clear cg'_0
    clear cg'_1
    clear cg'_2
    replace Bg' := Bg'.belowS hb_
    replace hb := bt hb hb_
    clear hb_
    have cg_0 : w5.cell? ⟨g, 0, none⟩ = some (.int .i64 K) := Bg.at rfl
    have cg_1 : w5.cell? ⟨g, 1, none⟩ = some (.string k) := Bg.at rfl
    have cg_2 : w5.cell? ⟨g, 2, none⟩ = some (.string v) := Bg.at rfl
    have cg'_0 : w5.cell? ⟨g', 0, none⟩ = some (.int .i64 K') := Bg'.at rfl
    have cg'_1 : w5.cell? ⟨g', 1, none⟩ = some (.string k') := Bg'.at rfl
    have cg'_2 : w5.cell? ⟨g', 2, none⟩ = some (.string v') := Bg'.at rfl
    go_wp2_with fail
    go_ret
    exact ⟨rfl, hb⟩
  | false =>
  obtain ⟨⟨x, y, z⟩, hq⟩ : ∃ q, q = thenM K k v K' k' v' := ⟨_, rfl⟩
  obtain ⟨f, hf⟩ : ∃ f, f = thenIs K k v K' k' v' := ⟨_, rfl⟩
  have HQ := hid hq; have HF := hid hf; clear hq hf
  cases f
  all_goals
    go_enter Try.func4, Try.ntmps4
    go_wp2_with (with_reducible refine at_op (.box 23 (.tmp 0)) rfl ?_; refine Stopped.go ?_)
    refine Stopped.mk (wpList_box rfl #[.int .i64 K, .string k, .string v] 23 (by go_simp) ?_)
    intro g w1 hg_ Bg hb_ hz_
    have hb := hb_
    clear hg_ hz_ hb_
    go_wp2_with (with_reducible refine at_op (.box 23 (.tmp 1)) rfl ?_; refine Stopped.go ?_)
    refine Stopped.mk (wpList_box rfl #[.int .i64 K', .string k', .string v'] 23 (by go_simp) ?_)
    intro g' w2 hg_ Bg' hb_ hz_
    replace Bg := Bg.belowS hb_
    replace hb := bt hb hb_
    clear hg_ hz_ hb_
    go_wp2_with fail
    refine (awake08_any _).mono ?_; rintro e w3 ⟨rfl, hb_⟩
    replace Bg := Bg.belowS hb_
    replace Bg' := Bg'.belowS hb_
    replace hb := bt hb hb_; clear hb_
    have cg_0 : w3.cell? ⟨g, 0, none⟩ = some (.int .i64 K) := Bg.at rfl
    have cg_1 : w3.cell? ⟨g, 1, none⟩ = some (.string k) := Bg.at rfl
    have cg_2 : w3.cell? ⟨g, 2, none⟩ = some (.string v) := Bg.at rfl
    have cg'_0 : w3.cell? ⟨g', 0, none⟩ = some (.int .i64 K') := Bg'.at rfl
    have cg'_1 : w3.cell? ⟨g', 1, none⟩ = some (.string k') := Bg'.at rfl
    have cg'_2 : w3.cell? ⟨g', 2, none⟩ = some (.string v') := Bg'.at rfl
    go_wp2_with fail
    refine (msg_long_any K k v _).mono ?_; rintro e w4 ⟨rfl, hb_⟩; rw [← HL.out]
    clear cg_0
    clear cg_1
    clear cg_2
    replace Bg := Bg.belowS hb_
    clear cg'_0
    clear cg'_1
    clear cg'_2
    replace Bg' := Bg'.belowS hb_
    replace hb := bt hb hb_
    clear hb_
    have cg_0 : w4.cell? ⟨g, 0, none⟩ = some (.int .i64 K) := Bg.at rfl
    have cg_1 : w4.cell? ⟨g, 1, none⟩ = some (.string k) := Bg.at rfl
    have cg_2 : w4.cell? ⟨g, 2, none⟩ = some (.string v) := Bg.at rfl
    have cg'_0 : w4.cell? ⟨g', 0, none⟩ = some (.int .i64 K') := Bg'.at rfl
    have cg'_1 : w4.cell? ⟨g', 1, none⟩ = some (.string k') := Bg'.at rfl
    have cg'_2 : w4.cell? ⟨g', 2, none⟩ = some (.string v') := Bg'.at rfl
    go_wp2_with fail
    refine (msg_long_any K' k' v' _).mono ?_; rintro e w5 ⟨rfl, hb_⟩; rw [← HL'.out]
    clear cg_0
    clear cg_1
    clear cg_2
    replace Bg := Bg.belowS hb_
    clear cg'_0
    clear cg'_1
    clear cg'_2
    replace Bg' := Bg'.belowS hb_
    replace hb := bt hb hb_
    clear hb_
    have cg_0 : w5.cell? ⟨g, 0, none⟩ = some (.int .i64 K) := Bg.at rfl
    have cg_1 : w5.cell? ⟨g, 1, none⟩ = some (.string k) := Bg.at rfl
    have cg_2 : w5.cell? ⟨g, 2, none⟩ = some (.string v) := Bg.at rfl
    have cg'_0 : w5.cell? ⟨g', 0, none⟩ = some (.int .i64 K') := Bg'.at rfl
    have cg'_1 : w5.cell? ⟨g', 1, none⟩ = some (.string k') := Bg'.at rfl
    have cg'_2 : w5.cell? ⟨g', 2, none⟩ = some (.string v') := Bg'.at rfl
    go_wp2_with fail
    refine (msg_Then_any K k v K' k' v' _).mono ?_; rintro e w6 ⟨rfl, hb_⟩; rw [← HQ.out, ← HF.out]
    clear cg_0
    clear cg_1
    clear cg_2
    replace Bg := Bg.belowS hb_
    clear cg'_0
    clear cg'_1
    clear cg'_2
    replace Bg' := Bg'.belowS hb_
    replace hb := bt hb hb_
    clear hb_
    have cg_0 : w6.cell? ⟨g, 0, none⟩ = some (.int .i64 K) := Bg.at rfl
    have cg_1 : w6.cell? ⟨g, 1, none⟩ = some (.string k) := Bg.at rfl
    have cg_2 : w6.cell? ⟨g, 2, none⟩ = some (.string v) := Bg.at rfl
    have cg'_0 : w6.cell? ⟨g', 0, none⟩ = some (.int .i64 K') := Bg'.at rfl
    have cg'_1 : w6.cell? ⟨g', 1, none⟩ = some (.string k') := Bg'.at rfl
    have cg'_2 : w6.cell? ⟨g', 2, none⟩ = some (.string v') := Bg'.at rfl
    simp only [if_true, if_false, Bool.false_eq_true]
    have hA := below_alloc w6 (.cells #[.int .i64 x, .string y, .string z] 23)
    have BM := Blk.new w6 #[.int .i64 x, .string y, .string z] 23
    obtain ⟨m, hm⟩ : ∃ m, m = w6.heap.size := ⟨_, rfl⟩
    replace Bg := Bg.belowS hA; replace Bg' := Bg'.belowS hA; replace hb := bt hb hA
    clear cg_0 cg_1 cg_2 cg'_0 cg'_1 cg'_2 hA
    have cg_0 : (w6.alloc (.cells #[.int .i64 x, .string y, .string z] 23)).cell? ⟨g, 0, none⟩ = some (.int .i64 K) := Bg.at rfl
    have cg_1 : (w6.alloc (.cells #[.int .i64 x, .string y, .string z] 23)).cell? ⟨g, 1, none⟩ = some (.string k) := Bg.at rfl
    have cg_2 : (w6.alloc (.cells #[.int .i64 x, .string y, .string z] 23)).cell? ⟨g, 2, none⟩ = some (.string v) := Bg.at rfl
    have cg'_0 : (w6.alloc (.cells #[.int .i64 x, .string y, .string z] 23)).cell? ⟨g', 0, none⟩ = some (.int .i64 K') := Bg'.at rfl
    have cg'_1 : (w6.alloc (.cells #[.int .i64 x, .string y, .string z] 23)).cell? ⟨g', 1, none⟩ = some (.string k') := Bg'.at rfl
    have cg'_2 : (w6.alloc (.cells #[.int .i64 x, .string y, .string z] 23)).cell? ⟨g', 2, none⟩ = some (.string v') := Bg'.at rfl
    have HM := hid hm; clear hm
    go_wp2_with fail
    rw [← HM.out] at BM ⊢
    clear HM
    generalize w6.alloc (.cells #[.int .i64 x, .string y, .string z] 23) = w7 at *
    refine (ref_Then_any K k v K' k' v' _).mono ?_; rintro e w8 ⟨rfl, hb_⟩; rw [← HQ.out, ← HF.out]
    replace BM := BM.belowS hb_; replace hb := bt hb hb_
    clear hb_ Bg Bg' cg_0 cg_1 cg_2 cg'_0 cg'_1 cg'_2
    have hA := below_alloc w8 (.cells #[.int .i64 x, .string y, .string z] 23)
    have BN := Blk.new w8 #[.int .i64 x, .string y, .string z] 23
    obtain ⟨m', hm⟩ : ∃ m, m = w8.heap.size := ⟨_, rfl⟩
    replace BM := BM.belowS hA; replace hb := bt hb hA
    rw [← hm] at BN
    have d0 : (w8.alloc (.cells #[.int .i64 x, .string y, .string z] 23)).cell? ⟨m, 0, none⟩ = some (.int .i64 x) := BM.at rfl
    have d1 : (w8.alloc (.cells #[.int .i64 x, .string y, .string z] 23)).cell? ⟨m, 1, none⟩ = some (.string y) := BM.at rfl
    have d2 : (w8.alloc (.cells #[.int .i64 x, .string y, .string z] 23)).cell? ⟨m, 2, none⟩ = some (.string z) := BM.at rfl
    clear hA BM BN hm
    go_wp2_with fail
    go_ret
    exact ⟨rfl, hb⟩

/-- in the row's words -/
theorem msgPairs_law (K : Int) (k v : ByteArray) (K' : Int) (k' v' : ByteArray) (w : World) (_ : (Lit.int .i64 K).wf = true) (_ : k.size ≤ 140737488351232) (_ : v.size ≤ 140737488351232) (_ : (Lit.int .i64 K').wf = true) (_ : k'.size ≤ 140737488351232) (_ : v'.size ≤ 140737488351232) :
    Calls Try.prog 4 #[.agg #[.int .i64 K, .string k, .string v], .agg #[.int .i64 K', .string k', .string v']] w fun e w' => e = .returned (.bool true) ∧ Below w.heap.size w w' :=
  msgPairs_walk K k v K' k' v' w
end Go.Proofs.Ytbhmkigomlpkcaa
