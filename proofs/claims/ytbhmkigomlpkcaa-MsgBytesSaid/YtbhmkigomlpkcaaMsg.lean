/-
  Messages (layer 8), walked.
-/
import Derived.Test.YtbhmkigomlpkcaaKeyAll
import Derived.Test.YtbhmkigomlpkcaaKeyIs
namespace Go.Proofs.Ytbhmkigomlpkcaa
open Go.RowKit

def msgIs (K : Int) (k v : ByteArray) : Bool := keyIs k && (if K = 1 then decide ((v.size : Int) ≤ 16) else if K = 2 then v.toList == [] else if K = 3 then ((v.size : Int) == 8) else false)

set_option maxHeartbeats 4000000 in
set_option maxRecDepth 100000 in
theorem msg_Is_any (K : Int) (k v : ByteArray) (w : World) :
    Calls Try.prog 17 #[.agg #[.int .i64 K, .string k, .string v]] w fun e w' => e = .returned (.bool (msgIs K k v)) ∧ Below w.heap.size w w' := by
  obtain ⟨f, hf⟩ : ∃ f, f = keyIs k := ⟨_, rfl⟩
  obtain ⟨r, hr⟩ : ∃ r, r = msgIs K k v := ⟨_, rfl⟩
  rw [← hr]
  unfold msgIs at hr
  rw [← hf] at hr
  have HF := hid hf; clear hf
  cases f with
  | false =>
    rw [Bool.false_and] at hr
    subst hr
    go_enter Try.func17, Try.ntmps17
    go_wp2_with (with_reducible refine at_op (.box 23 (.tmp 0)) rfl ?_; refine Stopped.go ?_)
    refine Stopped.mk (wpList_box rfl #[.int .i64 K, .string k, .string v] 23 (by go_simp) ?_)
    intro g w1 hg_ Bg hb_ hz_
    have hb := hb_
    clear hg_ hz_ hb_
    have cg_0 : w1.cell? ⟨g, 0, none⟩ = some (.int .i64 K) := Bg.at rfl
    have cg_1 : w1.cell? ⟨g, 1, none⟩ = some (.string k) := Bg.at rfl
    have cg_2 : w1.cell? ⟨g, 2, none⟩ = some (.string v) := Bg.at rfl
    clear Bg
    go_wp2_with fail
    refine (key_Is_any _ _).mono ?_; rintro e w2 ⟨rfl, rfl⟩; rw [← HF.out]
    go_wp2_with fail
    go_ret
    exact ⟨rfl, hb⟩
  | true =>
    rw [Bool.true_and] at hr
    by_cases h1 : K = 1
    · subst h1
      rw [if_pos rfl] at hr
      have HR := hid hr; clear hr
      go_enter Try.func17, Try.ntmps17
      go_wp2_with (with_reducible refine at_op (.box 23 (.tmp 0)) rfl ?_; refine Stopped.go ?_)
      refine Stopped.mk (wpList_box rfl #[.int .i64 1, .string k, .string v] 23 (by go_simp) ?_)
      intro g w1 hg_ Bg hb_ hz_
      have hb := hb_
      clear hg_ hz_ hb_
      have cg_0 : w1.cell? ⟨g, 0, none⟩ = some (.int .i64 1) := Bg.at rfl
      have cg_1 : w1.cell? ⟨g, 1, none⟩ = some (.string k) := Bg.at rfl
      have cg_2 : w1.cell? ⟨g, 2, none⟩ = some (.string v) := Bg.at rfl
      clear Bg
      go_wp2_with fail
      refine (key_Is_any _ _).mono ?_; rintro e w2 ⟨rfl, rfl⟩; rw [← HF.out]
      go_wp2_with fail
      refine (key_IsVal_any _ _).mono ?_; rintro e w3 ⟨rfl, rfl⟩; rw [← HR.out]
      go_wp2_with fail
      go_ret
      exact ⟨rfl, hb⟩
    rw [if_neg h1] at hr
    by_cases h2 : K = 2
    · subst h2
      rw [if_pos rfl] at hr
      cases h0 : (v.toList == [])
      all_goals
        rw [h0] at hr
        subst hr
        go_enter Try.func17, Try.ntmps17
        go_wp2_with (with_reducible refine at_op (.box 23 (.tmp 0)) rfl ?_; refine Stopped.go ?_)
        refine Stopped.mk (wpList_box rfl #[.int .i64 2, .string k, .string v] 23 (by go_simp) ?_)
        intro g w1 hg_ Bg hb_ hz_
        have hb := hb_
        clear hg_ hz_ hb_
        have cg_0 : w1.cell? ⟨g, 0, none⟩ = some (.int .i64 2) := Bg.at rfl
        have cg_1 : w1.cell? ⟨g, 1, none⟩ = some (.string k) := Bg.at rfl
        have cg_2 : w1.cell? ⟨g, 2, none⟩ = some (.string v) := Bg.at rfl
        clear Bg
        go_wp2_with fail
        refine (key_Is_any _ _).mono ?_; rintro e w2 ⟨rfl, rfl⟩; rw [← HF.out]
        go_wp2_with fail
        go_ret
        exact ⟨rfl, hb⟩
    rw [if_neg h2] at hr
    by_cases h3 : K = 3
    · subst h3
      rw [if_pos rfl] at hr
      cases h0 : ((v.size : Int) == 8)
      all_goals
        rw [h0] at hr
        subst hr
        go_enter Try.func17, Try.ntmps17
        go_wp2_with (with_reducible refine at_op (.box 23 (.tmp 0)) rfl ?_; refine Stopped.go ?_)
        refine Stopped.mk (wpList_box rfl #[.int .i64 3, .string k, .string v] 23 (by go_simp) ?_)
        intro g w1 hg_ Bg hb_ hz_
        have hb := hb_
        clear hg_ hz_ hb_
        have cg_0 : w1.cell? ⟨g, 0, none⟩ = some (.int .i64 3) := Bg.at rfl
        have cg_1 : w1.cell? ⟨g, 1, none⟩ = some (.string k) := Bg.at rfl
        have cg_2 : w1.cell? ⟨g, 2, none⟩ = some (.string v) := Bg.at rfl
        clear Bg
        go_wp2_with fail
        refine (key_Is_any _ _).mono ?_; rintro e w2 ⟨rfl, rfl⟩; rw [← HF.out]
        go_wp2_with fail
        go_ret
        exact ⟨rfl, hb⟩
    rw [if_neg h3] at hr
    subst hr
    have e1 : (K == 1) = false := by simpa using h1
    have e2 : (K == 2) = false := by simpa using h2
    have e3 : (K == 3) = false := by simpa using h3
    go_enter Try.func17, Try.ntmps17
    go_wp2_with (with_reducible refine at_op (.box 23 (.tmp 0)) rfl ?_; refine Stopped.go ?_)
    refine Stopped.mk (wpList_box rfl #[.int .i64 K, .string k, .string v] 23 (by go_simp) ?_)
    intro g w1 hg_ Bg hb_ hz_
    have hb := hb_
    clear hg_ hz_ hb_
    have cg_0 : w1.cell? ⟨g, 0, none⟩ = some (.int .i64 K) := Bg.at rfl
    have cg_1 : w1.cell? ⟨g, 1, none⟩ = some (.string k) := Bg.at rfl
    have cg_2 : w1.cell? ⟨g, 2, none⟩ = some (.string v) := Bg.at rfl
    clear Bg
    go_wp2_with fail
    refine (key_Is_any _ _).mono ?_; rintro e w2 ⟨rfl, rfl⟩; rw [← HF.out]
    go_wp2_with fail
    go_ret
    exact ⟨rfl, hb⟩

set_option maxHeartbeats 4000000 in
set_option maxRecDepth 100000 in
theorem msg_isNot_any (K : Int) (k v : ByteArray) (w : World) :
    Calls Try.prog 46 #[.agg #[.int .i64 K, .string k, .string v]] w fun e w' => e = .returned (.bool (!msgIs K k v)) ∧ Below w.heap.size w w' := by
  obtain ⟨f, hf⟩ : ∃ f, f = msgIs K k v := ⟨_, rfl⟩
  rw [← hf]
  have HF := hid hf; clear hf
  go_enter Try.func46, Try.ntmps46
  go_wp2_with (with_reducible refine at_op (.box 23 (.tmp 0)) rfl ?_; refine Stopped.go ?_)
  refine Stopped.mk (wpList_box rfl #[.int .i64 K, .string k, .string v] 23 (by go_simp) ?_)
  intro g w1 hg_ Bg hb_ hz_
  have hb := hb_
  clear hg_ hz_ hb_
  have cg_0 : w1.cell? ⟨g, 0, none⟩ = some (.int .i64 K) := Bg.at rfl
  have cg_1 : w1.cell? ⟨g, 1, none⟩ = some (.string k) := Bg.at rfl
  have cg_2 : w1.cell? ⟨g, 2, none⟩ = some (.string v) := Bg.at rfl
  clear Bg
  go_wp2_with fail
  refine (msg_Is_any K k v _).mono ?_; rintro e w2 ⟨rfl, hb_⟩; rw [← HF.out]
  replace hb := bt hb hb_; clear hb_ cg_0 cg_1 cg_2
  cases f
  all_goals
    go_wp2_with fail
    go_ret
    exact ⟨rfl, hb⟩

set_option maxHeartbeats 4000000 in
set_option maxRecDepth 100000 in
theorem msg_Weight_any (K : Int) (k v : ByteArray) (hk : k.size ≤ 140737488351232) (hv : v.size ≤ 140737488351232) (w : World) :
    Calls Try.prog 19 #[.agg #[.int .i64 K, .string k, .string v]] w fun e w' => e = .returned (.int .i64 (3 + (k.size : Int) + (v.size : Int))) ∧ Below w.heap.size w w' := by
  have e1 : IntKind.i64.wrap (3 + (k.size : Int)) = 3 + (k.size : Int) := by rw [IntKind.wrap_i64]; omega
  have e2 : IntKind.i64.wrap (3 + (k.size : Int) + (v.size : Int)) = 3 + (k.size : Int) + (v.size : Int) := by rw [IntKind.wrap_i64]; omega
  go_enter Try.func19, Try.ntmps19
  go_wp2_with (with_reducible refine at_op (.box 23 (.tmp 0)) rfl ?_; refine Stopped.go ?_)
  refine Stopped.mk (wpList_box rfl #[.int .i64 K, .string k, .string v] 23 (by go_simp) ?_)
  intro g w1 hg_ Bg hb_ hz_
  have hb := hb_
  clear hg_ hz_ hb_
  have cg_0 : w1.cell? ⟨g, 0, none⟩ = some (.int .i64 K) := Bg.at rfl
  have cg_1 : w1.cell? ⟨g, 1, none⟩ = some (.string k) := Bg.at rfl
  have cg_2 : w1.cell? ⟨g, 2, none⟩ = some (.string v) := Bg.at rfl
  clear Bg
  go_wp2_with fail
  go_ret
  exact ⟨rfl, hb⟩

set_option maxHeartbeats 4000000 in
set_option maxRecDepth 100000 in
theorem msg_OfPut_any (k v : ByteArray) (w : World) :
    Calls Try.prog 20 #[.string k, .string v] w fun e w' => e = .returned (.agg #[.int .i64 1, .string k, .string v]) ∧ Below w.heap.size w w' := by
  have hu := Try.underlying23
  have hA := below_alloc w (.cells #[.int .i64 1, .string k, .string v] 23)
  have hN : (w.alloc (.cells #[.int .i64 1, .string k, .string v] 23)).heap[w.heap.size]? = some (.cells #[.int .i64 1, .string k, .string v] 23 (0, 0)) := heap_alloc_new w _
  have HA := hid hA; have HN := hid hN; clear hA hN
  go_enter Try.func20, Try.ntmps20
  go_wp2_with fail
  (try simp only [Exit.inBlock, Exit.then])
  exact bodyPost_ret (results_cell_row rfl _ _ _ _ _ (0, 0) _ rfl HN.out hu rfl (by kernel_rfl)) rfl ⟨rfl, HA.out⟩

set_option maxHeartbeats 4000000 in
set_option maxRecDepth 100000 in
theorem msg_OfDel_any (k : ByteArray) (w : World) :
    Calls Try.prog 21 #[.string k] w fun e w' => e = .returned (.agg #[.int .i64 2, .string k, .string ⟨#[]⟩]) ∧ Below w.heap.size w w' := by
  have hu := Try.underlying23
  have hA := below_alloc w (.cells #[.int .i64 2, .string k, .string ⟨#[]⟩] 23)
  have hN : (w.alloc (.cells #[.int .i64 2, .string k, .string ⟨#[]⟩] 23)).heap[w.heap.size]? = some (.cells #[.int .i64 2, .string k, .string ⟨#[]⟩] 23 (0, 0)) := heap_alloc_new w _
  have HA := hid hA; have HN := hid hN; clear hA hN
  go_enter Try.func21, Try.ntmps21
  go_wp2_with fail
  (try simp only [Exit.inBlock, Exit.then])
  exact bodyPost_ret (results_cell_row rfl _ _ _ _ _ (0, 0) _ rfl HN.out hu rfl (by kernel_rfl)) rfl ⟨rfl, HA.out⟩

set_option maxHeartbeats 4000000 in
set_option maxRecDepth 100000 in
theorem msg_OfAdd_any (k : ByteArray) (n : Nat) (hn : n < 18446744073709551616) (w : World) :
    Calls Try.prog 22 #[.string k, .int .u64 (n : Int)] w fun e w' => e = .returned (.agg #[.int .i64 3, .string k, .string (val8 n)]) ∧ Below w.heap.size w w' := by
  have hu := Try.underlying23
  have hb := below_alloc w (.cells #[.int .i64 0, .string ⟨#[]⟩, .string ⟨#[]⟩] 23)
  have hN : (w.alloc (.cells #[.int .i64 0, .string ⟨#[]⟩, .string ⟨#[]⟩] 23)).heap[w.heap.size]? = some (.cells #[.int .i64 0, .string ⟨#[]⟩, .string ⟨#[]⟩] 23 (0, 0)) := heap_alloc_new w _
  obtain ⟨g, hg⟩ : ∃ g, g = w.heap.size := ⟨_, rfl⟩
  go_enter Try.func22, Try.ntmps22
  go_wp2_with fail
  refine (key_Value_any n hn _).mono ?_; rintro e w2 ⟨rfl, hb_⟩
  rw [← hb_.block w.heap.size (Array.getElem?_eq_some_iff.1 hN).1, ← hg] at hN
  rw [← hg]
  replace hb := bt hb hb_
  have hge : w.heap.size ≤ g := by omega
  obtain ⟨v, hv⟩ : ∃ v, v = val8 n := ⟨_, rfl⟩
  rw [← hv]
  have HV := hid hv
  clear hb_ hg hv
  go_wp2_with (with_reducible refine at_op (.store 23 (.tmp 4) (.tmp 8)) rfl ?_; refine Stopped.go ?_)
  refine Stopped.mk (wpList_store_row_k rfl _ _ _ rfl g #[.int .i64 3, .string k, .string v] rfl rfl _ _ hN (by kernel_rfl) rfl (by simp [Value.oneCell']) ?_)
  intro w3 h3 hb3 _
  have HB := hid (hb.trans (hb3 _ hge)); have H3 := hid h3
  clear h3 hb3 hb hN
  go_wp2_with fail
  (try simp only [Exit.inBlock, Exit.then])
  exact bodyPost_ret (results_cell_row rfl _ _ g _ _ (0, 0) _ rfl H3.out hu rfl (by kernel_rfl)) rfl ⟨by rw [HV.out], HB.out⟩

end Go.Proofs.Ytbhmkigomlpkcaa
