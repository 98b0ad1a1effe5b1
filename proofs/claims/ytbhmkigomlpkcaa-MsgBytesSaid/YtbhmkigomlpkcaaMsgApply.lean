/-
  Messages (layer 8), walked: sum, Apply; and the document's.
-/
import Derived.Test.YtbhmkigomlpkcaaMsg
namespace Go.Proofs.Ytbhmkigomlpkcaa
open Go.RowKit

theorem ba_inj {a b : ByteArray} (h : a.toList = b.toList) : a = b := by
  rw [ByteArray.toList_eq, ByteArray.toList_eq] at h
  cases a; cases b
  simp only [Array.toList_inj] at h
  rw [h]
theorem ba_size' (a : ByteArray) : a.size = a.toList.length := by rw [ByteArray.toList_eq]; rfl
def sum8 (a b : ByteArray) : ByteArray := val8 ((numR a + numR b) % 18446744073709551616)
def sumK (a b : ByteArray) : ByteArray := if numB a && numB b then sum8 a b else a
theorem numR_lt (a : ByteArray) : numR a < 18446744073709551616 := by
  unfold numR
  split
  · rename_i h
    have := be_lt a.data.toList
    rw [show a.data.toList.length = 8 by simpa using h] at this
    exact this
  · decide
theorem wrap_add64 (x y : Nat) : IntKind.u64.wrap ((x : Int) + (y : Int)) = (((x + y) % 18446744073709551616 : Nat) : Int) := by rw [IntKind.wrap_u64]; omega

set_option maxHeartbeats 4000000 in
set_option maxRecDepth 100000 in
theorem msg_sum_any (a b : ByteArray) (w : World) :
    Calls Try.prog 47 #[.string a, .string b] w fun e w' => e = .returned (.string (sumK a b)) ∧ Below w.heap.size w w' := by
  obtain ⟨f, hf⟩ : ∃ f, f = numB a := ⟨_, rfl⟩
  obtain ⟨f', hf'⟩ : ∃ f, f = numB b := ⟨_, rfl⟩
  obtain ⟨x, hx⟩ : ∃ x, x = numR a := ⟨_, rfl⟩
  obtain ⟨y, hy⟩ : ∃ y, y = numR b := ⟨_, rfl⟩
  obtain ⟨r, hr⟩ : ∃ r, r = sumK a b := ⟨_, rfl⟩
  rw [← hr]
  unfold sumK sum8 at hr
  rw [← hf, ← hf', ← hx, ← hy] at hr
  have e1 := wrap_add64 x y
  obtain ⟨z, hz⟩ : ∃ z, z = (x + y) % 18446744073709551616 := ⟨_, rfl⟩
  have hzl : z < 18446744073709551616 := by omega
  rw [← hz] at e1 hr
  have HF := hid hf; have HF' := hid hf'; have HX := hid hx; have HY := hid hy
  clear hf hf' hx hy hz
  cases f <;> cases f'
  all_goals
    simp only [Bool.and_true, Bool.and_false, Bool.and_self, if_true, if_false, Bool.false_eq_true] at hr
    subst hr
    go_enter Try.func47, Try.ntmps47
    go_wp2_with fail
    refine (key_Number_all _ _).mono ?_; rintro e w1 ⟨rfl, hb⟩; rw [← HF.out, ← HX.out]
    go_wp2_with fail
    refine (key_Number_all _ _).mono ?_; rintro e w2 ⟨rfl, hb_⟩; rw [← HF'.out, ← HY.out]
    replace hb := bt hb hb_; clear hb_
    go_wp2_with fail
    first
    | (go_ret
       exact ⟨rfl, hb⟩)
    | (refine (key_Value_any z hzl _).mono ?_; rintro e w3 ⟨rfl, hb_⟩
       replace hb := bt hb hb_; clear hb_
       go_wp2_with fail
       go_ret
       exact ⟨rfl, hb⟩)

def applyV (K : Int) (k v val : ByteArray) (has : Bool) : ByteArray :=
  if msgIs K k v = false then (if has then val else ⟨#[]⟩) else if K = 2 then ⟨#[]⟩ else if K = 1 ∨ has = false then v else sumK val v
def applyB (K : Int) (k v : ByteArray) (has : Bool) : Bool := if msgIs K k v = false then has else if K = 2 then false else true

set_option maxHeartbeats 4000000 in
set_option maxRecDepth 100000 in
theorem msg_Apply_any (K : Int) (k v val : ByteArray) (has : Bool) (w : World) :
    Calls Try.prog 15 #[.agg #[.int .i64 K, .string k, .string v], .string val, .bool has] w fun e w' => e = .returned (.tuple #[.string (applyV K k v val has), .bool (applyB K k v has)]) ∧ Below w.heap.size w w' := by
  obtain ⟨f, hf⟩ : ∃ f, f = msgIs K k v := ⟨_, rfl⟩
  obtain ⟨r, hr⟩ : ∃ r, r = applyV K k v val has := ⟨_, rfl⟩
  obtain ⟨s, hs⟩ : ∃ s, s = applyB K k v has := ⟨_, rfl⟩
  rw [← hr, ← hs]
  unfold applyV at hr
  unfold applyB at hs
  rw [← hf] at hr hs
  cases f with
  | false =>
    have HF := hid hf; clear hf
    simp only [if_true] at hr hs
    cases has
    all_goals
      simp only [if_true, if_false, Bool.false_eq_true] at hr
      subst hr hs
      go_enter Try.func15, Try.ntmps15
      go_wp2_with (with_reducible refine at_op (.box 23 (.tmp 0)) rfl ?_; refine Stopped.go ?_)
      refine Stopped.mk (wpList_box rfl #[.int .i64 K, .string k, .string v] 23 (by go_simp) ?_)
      intro g w1 hg_ Bg hb_ hz_
      have hb := hb_
      clear hg_ hz_ hb_
      have cg_0 : w1.cell? ⟨g, 0, none⟩ = some (.int .i64 K) := Bg.at rfl
      have cg_1 : w1.cell? ⟨g, 1, none⟩ = some (.string k) := Bg.at rfl
      have cg_2 : w1.cell? ⟨g, 2, none⟩ = some (.string v) := Bg.at rfl
      go_wp2_with fail
      refine (msg_isNot_any K k v _).mono ?_; rintro e w2 ⟨rfl, hb_⟩; rw [← HF.out]
      clear cg_0
      clear cg_1
      clear cg_2
      replace Bg := Bg.belowS hb_
      replace hb := bt hb hb_
      clear hb_
      have cg_0 : w2.cell? ⟨g, 0, none⟩ = some (.int .i64 K) := Bg.at rfl
      have cg_1 : w2.cell? ⟨g, 1, none⟩ = some (.string k) := Bg.at rfl
      have cg_2 : w2.cell? ⟨g, 2, none⟩ = some (.string v) := Bg.at rfl
      go_wp2_with fail
      go_ret2
      exact ⟨rfl, hb⟩
  | true =>
    simp only [Bool.true_eq_false, if_false] at hr hs
    by_cases h2 : K = 2
    · subst h2
      have HF := hid hf; clear hf
      rw [if_pos rfl] at hr hs
      subst hr hs
      cases has
      all_goals
        go_enter Try.func15, Try.ntmps15
        go_wp2_with (with_reducible refine at_op (.box 23 (.tmp 0)) rfl ?_; refine Stopped.go ?_)
        refine Stopped.mk (wpList_box rfl #[.int .i64 2, .string k, .string v] 23 (by go_simp) ?_)
        intro g w1 hg_ Bg hb_ hz_
        have hb := hb_
        clear hg_ hz_ hb_
        have cg_0 : w1.cell? ⟨g, 0, none⟩ = some (.int .i64 2) := Bg.at rfl
        have cg_1 : w1.cell? ⟨g, 1, none⟩ = some (.string k) := Bg.at rfl
        have cg_2 : w1.cell? ⟨g, 2, none⟩ = some (.string v) := Bg.at rfl
        go_wp2_with fail
        refine (msg_isNot_any 2 k v _).mono ?_; rintro e w2 ⟨rfl, hb_⟩; rw [← HF.out]
        clear cg_0
        clear cg_1
        clear cg_2
        replace Bg := Bg.belowS hb_
        replace hb := bt hb hb_
        clear hb_
        have cg_0 : w2.cell? ⟨g, 0, none⟩ = some (.int .i64 2) := Bg.at rfl
        have cg_1 : w2.cell? ⟨g, 1, none⟩ = some (.string k) := Bg.at rfl
        have cg_2 : w2.cell? ⟨g, 2, none⟩ = some (.string v) := Bg.at rfl
        go_wp2_with fail
        go_ret2
        exact ⟨rfl, hb⟩
    rw [if_neg h2] at hr hs
    subst hs
    by_cases h1 : K = 1
    · subst h1
      have HF := hid hf; clear hf
      rw [if_pos (Or.inl rfl)] at hr
      rw [hr]; clear hr
      cases has
      all_goals
        go_enter Try.func15, Try.ntmps15
        go_wp2_with (with_reducible refine at_op (.box 23 (.tmp 0)) rfl ?_; refine Stopped.go ?_)
        refine Stopped.mk (wpList_box rfl #[.int .i64 1, .string k, .string v] 23 (by go_simp) ?_)
        intro g w1 hg_ Bg hb_ hz_
        have hb := hb_
        clear hg_ hz_ hb_
        have cg_0 : w1.cell? ⟨g, 0, none⟩ = some (.int .i64 1) := Bg.at rfl
        have cg_1 : w1.cell? ⟨g, 1, none⟩ = some (.string k) := Bg.at rfl
        have cg_2 : w1.cell? ⟨g, 2, none⟩ = some (.string v) := Bg.at rfl
        go_wp2_with fail
        refine (msg_isNot_any 1 k v _).mono ?_; rintro e w2 ⟨rfl, hb_⟩; rw [← HF.out]
        clear cg_0
        clear cg_1
        clear cg_2
        replace Bg := Bg.belowS hb_
        replace hb := bt hb hb_
        clear hb_
        have cg_0 : w2.cell? ⟨g, 0, none⟩ = some (.int .i64 1) := Bg.at rfl
        have cg_1 : w2.cell? ⟨g, 1, none⟩ = some (.string k) := Bg.at rfl
        have cg_2 : w2.cell? ⟨g, 2, none⟩ = some (.string v) := Bg.at rfl
        go_wp2_with fail
        go_ret2
        exact ⟨rfl, hb⟩
    have h3 : K = 3 := by
      unfold msgIs at hf
      rw [if_neg h1, if_neg h2] at hf
      by_cases h3 : K = 3
      · exact h3
      · rw [if_neg h3, Bool.and_false] at hf; cases hf
    subst h3
    have HF := hid hf
    cases has with
    | false =>
      rw [if_pos (Or.inr rfl)] at hr
      rw [hr]; clear hr
      clear hf
      go_enter Try.func15, Try.ntmps15
      go_wp2_with (with_reducible refine at_op (.box 23 (.tmp 0)) rfl ?_; refine Stopped.go ?_)
      refine Stopped.mk (wpList_box rfl #[.int .i64 3, .string k, .string v] 23 (by go_simp) ?_)
      intro g w1 hg_ Bg hb_ hz_
      have hb := hb_
      clear hg_ hz_ hb_
      have cg_0 : w1.cell? ⟨g, 0, none⟩ = some (.int .i64 3) := Bg.at rfl
      have cg_1 : w1.cell? ⟨g, 1, none⟩ = some (.string k) := Bg.at rfl
      have cg_2 : w1.cell? ⟨g, 2, none⟩ = some (.string v) := Bg.at rfl
      go_wp2_with fail
      refine (msg_isNot_any 3 k v _).mono ?_; rintro e w2 ⟨rfl, hb_⟩; rw [← HF.out]
      clear cg_0
      clear cg_1
      clear cg_2
      replace Bg := Bg.belowS hb_
      replace hb := bt hb hb_
      clear hb_
      have cg_0 : w2.cell? ⟨g, 0, none⟩ = some (.int .i64 3) := Bg.at rfl
      have cg_1 : w2.cell? ⟨g, 1, none⟩ = some (.string k) := Bg.at rfl
      have cg_2 : w2.cell? ⟨g, 2, none⟩ = some (.string v) := Bg.at rfl
      go_wp2_with fail
      go_ret2
      exact ⟨rfl, hb⟩
    | true =>
      rw [if_neg (by decide)] at hr
      have HR := hid hr; clear hr hf
      go_enter Try.func15, Try.ntmps15
      go_wp2_with (with_reducible refine at_op (.box 23 (.tmp 0)) rfl ?_; refine Stopped.go ?_)
      refine Stopped.mk (wpList_box rfl #[.int .i64 3, .string k, .string v] 23 (by go_simp) ?_)
      intro g w1 hg_ Bg hb_ hz_
      have hb := hb_
      clear hg_ hz_ hb_
      have cg_0 : w1.cell? ⟨g, 0, none⟩ = some (.int .i64 3) := Bg.at rfl
      have cg_1 : w1.cell? ⟨g, 1, none⟩ = some (.string k) := Bg.at rfl
      have cg_2 : w1.cell? ⟨g, 2, none⟩ = some (.string v) := Bg.at rfl
      go_wp2_with fail
      refine (msg_isNot_any 3 k v _).mono ?_; rintro e w2 ⟨rfl, hb_⟩; rw [← HF.out]
      clear cg_0
      clear cg_1
      clear cg_2
      replace Bg := Bg.belowS hb_
      replace hb := bt hb hb_
      clear hb_
      have cg_0 : w2.cell? ⟨g, 0, none⟩ = some (.int .i64 3) := Bg.at rfl
      have cg_1 : w2.cell? ⟨g, 1, none⟩ = some (.string k) := Bg.at rfl
      have cg_2 : w2.cell? ⟨g, 2, none⟩ = some (.string v) := Bg.at rfl
      go_wp2_with fail
      refine (msg_sum_any _ _ _).mono ?_; rintro e w3 ⟨rfl, hb_⟩; rw [← HR.out]
      replace hb := bt hb hb_; clear hb_
      go_wp2_with fail
      go_ret2
      exact ⟨rfl, hb⟩

set_option maxHeartbeats 4000000 in
set_option maxRecDepth 100000 in
theorem ref_Is_any (K : Int) (k v : ByteArray) (w : World) :
    Calls Try.prog 18 #[.agg #[.int .i64 K, .string k, .string v]] w fun e w' => e = .returned (.bool (msgIs K k v)) ∧ Below w.heap.size w w' := by
  obtain ⟨r, hr⟩ : ∃ r, r = msgIs K k v := ⟨_, rfl⟩
  rw [← hr]
  unfold msgIs keyIs at hr
  cases h0 : ((k.size : Int) == 0) with
  | true =>
    have e0 : k.size = 0 := by rw [beq_iff_eq] at h0; omega
    rw [decide_eq_false (show ¬ 1 ≤ k.size by omega), Bool.false_and, Bool.false_and] at hr
    subst hr
    clear e0
    go_enter Try.func18, Try.ntmps18
    go_wp2_with (with_reducible refine at_op (.box 23 (.tmp 0)) rfl ?_; refine Stopped.go ?_)
    refine Stopped.mk (wpList_box rfl #[.int .i64 K, .string k, .string v] 23 (by go_simp) ?_)
    intro g w1 hg_ Bg hb_ hz_
    have hb := hb_
    clear hg_ hz_ hb_
    have cg_0 : w1.cell? ⟨g, 0, none⟩ = some (.int .i64 K) := Bg.at rfl
    have cg_1 : w1.cell? ⟨g, 1, none⟩ = some (.string k) := Bg.at rfl
    have cg_2 : w1.cell? ⟨g, 2, none⟩ = some (.string v) := Bg.at rfl
    go_wp2_with fail
    go_ret
    exact ⟨rfl, hb⟩
  | false =>
    have e0 : 1 ≤ k.size := by
      rw [beq_eq_false_iff_ne] at h0; omega
    rw [decide_eq_true e0, Bool.true_and] at hr
    by_cases h8 : (8 : Int) < k.size
    · rw [decide_eq_false (show ¬ k.size ≤ 8 by omega), Bool.false_and] at hr
      subst hr
      clear e0
      go_enter Try.func18, Try.ntmps18
      go_wp2_with (with_reducible refine at_op (.box 23 (.tmp 0)) rfl ?_; refine Stopped.go ?_)
      refine Stopped.mk (wpList_box rfl #[.int .i64 K, .string k, .string v] 23 (by go_simp) ?_)
      intro g w1 hg_ Bg hb_ hz_
      have hb := hb_
      clear hg_ hz_ hb_
      have cg_0 : w1.cell? ⟨g, 0, none⟩ = some (.int .i64 K) := Bg.at rfl
      have cg_1 : w1.cell? ⟨g, 1, none⟩ = some (.string k) := Bg.at rfl
      have cg_2 : w1.cell? ⟨g, 2, none⟩ = some (.string v) := Bg.at rfl
      go_wp2_with fail
      go_ret
      exact ⟨rfl, hb⟩
    rw [decide_eq_true (show k.size ≤ 8 by omega), Bool.true_and] at hr
    clear e0
    by_cases h1 : K = 1
    · subst h1
      rw [if_pos rfl] at hr
      by_cases h16 : (v.size : Int) ≤ 16
      all_goals
        first | rw [decide_eq_true h16] at hr | rw [decide_eq_false h16] at hr
        subst hr
        go_enter Try.func18, Try.ntmps18
        go_wp2_with (with_reducible refine at_op (.box 23 (.tmp 0)) rfl ?_; refine Stopped.go ?_)
        refine Stopped.mk (wpList_box rfl #[.int .i64 1, .string k, .string v] 23 (by go_simp) ?_)
        intro g w1 hg_ Bg hb_ hz_
        have hb := hb_
        clear hg_ hz_ hb_
        have cg_0 : w1.cell? ⟨g, 0, none⟩ = some (.int .i64 1) := Bg.at rfl
        have cg_1 : w1.cell? ⟨g, 1, none⟩ = some (.string k) := Bg.at rfl
        have cg_2 : w1.cell? ⟨g, 2, none⟩ = some (.string v) := Bg.at rfl
        go_wp2_with fail
        go_ret
        first | exact ⟨rfl, hb⟩ | exact ⟨ret_bool (decide_eq_true (by omega)), hb⟩ | exact ⟨ret_bool (decide_eq_false (by omega)), hb⟩
    have e1 : (K == 1) = false := by simpa using h1
    rw [if_neg h1] at hr
    by_cases h2 : K = 2
    · subst h2
      rw [if_pos rfl] at hr
      have hv : (v.toList == []) = ((v.size : Int) == 0) := by
        rw [ba_size', Bool.eq_iff_iff, beq_iff_eq, beq_iff_eq, ← List.length_eq_zero_iff]; omega
      rw [hv] at hr
      cases h4 : ((v.size : Int) == 0)
      all_goals
        rw [h4] at hr
        subst hr
        clear hv e1
        go_enter Try.func18, Try.ntmps18
        go_wp2_with (with_reducible refine at_op (.box 23 (.tmp 0)) rfl ?_; refine Stopped.go ?_)
        refine Stopped.mk (wpList_box rfl #[.int .i64 2, .string k, .string v] 23 (by go_simp) ?_)
        intro g w1 hg_ Bg hb_ hz_
        have hb := hb_
        clear hg_ hz_ hb_
        have cg_0 : w1.cell? ⟨g, 0, none⟩ = some (.int .i64 2) := Bg.at rfl
        have cg_1 : w1.cell? ⟨g, 1, none⟩ = some (.string k) := Bg.at rfl
        have cg_2 : w1.cell? ⟨g, 2, none⟩ = some (.string v) := Bg.at rfl
        go_wp2_with fail
        go_ret
        exact ⟨rfl, hb⟩
    have e2 : (K == 2) = false := by simpa using h2
    rw [if_neg h2] at hr
    by_cases h3 : K = 3
    · subst h3
      rw [if_pos rfl] at hr
      cases h4 : ((v.size : Int) == 8)
      all_goals
        rw [h4] at hr
        subst hr
        clear e1 e2
        go_enter Try.func18, Try.ntmps18
        go_wp2_with (with_reducible refine at_op (.box 23 (.tmp 0)) rfl ?_; refine Stopped.go ?_)
        refine Stopped.mk (wpList_box rfl #[.int .i64 3, .string k, .string v] 23 (by go_simp) ?_)
        intro g w1 hg_ Bg hb_ hz_
        have hb := hb_
        clear hg_ hz_ hb_
        have cg_0 : w1.cell? ⟨g, 0, none⟩ = some (.int .i64 3) := Bg.at rfl
        have cg_1 : w1.cell? ⟨g, 1, none⟩ = some (.string k) := Bg.at rfl
        have cg_2 : w1.cell? ⟨g, 2, none⟩ = some (.string v) := Bg.at rfl
        go_wp2_with fail
        go_ret
        exact ⟨rfl, hb⟩
    have e3 : (K == 3) = false := by simpa using h3
    rw [if_neg h3] at hr
    subst hr
    go_enter Try.func18, Try.ntmps18
    go_wp2_with (with_reducible refine at_op (.box 23 (.tmp 0)) rfl ?_; refine Stopped.go ?_)
    refine Stopped.mk (wpList_box rfl #[.int .i64 K, .string k, .string v] 23 (by go_simp) ?_)
    intro g w1 hg_ Bg hb_ hz_
    have hb := hb_
    clear hg_ hz_ hb_
    have cg_0 : w1.cell? ⟨g, 0, none⟩ = some (.int .i64 K) := Bg.at rfl
    have cg_1 : w1.cell? ⟨g, 1, none⟩ = some (.string k) := Bg.at rfl
    have cg_2 : w1.cell? ⟨g, 2, none⟩ = some (.string v) := Bg.at rfl
    go_wp2_with fail
    go_ret
    exact ⟨rfl, hb⟩

set_option maxHeartbeats 4000000 in
set_option maxRecDepth 100000 in
theorem ref_Sum_any (a b : ByteArray) (w : World) :
    Calls Try.prog 48 #[.string a, .string b] w fun e w' => e = .returned (.string (sum8 a b)) ∧ Below w.heap.size w w' := by
  obtain ⟨x, hx⟩ : ∃ x, x = numR a := ⟨_, rfl⟩
  obtain ⟨y, hy⟩ : ∃ y, y = numR b := ⟨_, rfl⟩
  unfold sum8
  rw [← hx, ← hy]
  have e1 := wrap_add64 x y
  obtain ⟨z, hz⟩ : ∃ z, z = (x + y) % 18446744073709551616 := ⟨_, rfl⟩
  have hzl : z < 18446744073709551616 := by omega
  rw [← hz] at e1 ⊢
  have HX := hid hx; have HY := hid hy
  clear hx hy hz
  go_enter Try.func48, Try.ntmps48
  go_wp2_with fail
  refine (ref_Number_all _ _).mono ?_; rintro e w1 ⟨rfl, rfl⟩; rw [← HX.out]
  go_wp2_with fail
  refine (ref_Number_all _ _).mono ?_; rintro e w2 ⟨rfl, rfl⟩; rw [← HY.out]
  go_wp2_with fail
  refine (ref_Value_any z hzl _).mono ?_; rintro e w3 ⟨rfl, hb⟩
  go_wp2_with fail
  go_ret
  exact ⟨rfl, hb⟩

set_option maxHeartbeats 4000000 in
set_option maxRecDepth 100000 in
theorem ref_Apply_any (K : Int) (k v val : ByteArray) (has : Bool) (w : World) :
    Calls Try.prog 16 #[.agg #[.int .i64 K, .string k, .string v], .string val, .bool has] w fun e w' => e = .returned (.tuple #[.string (applyV K k v val has), .bool (applyB K k v has)]) ∧ Below w.heap.size w w' := by
  obtain ⟨f, hf⟩ : ∃ f, f = msgIs K k v := ⟨_, rfl⟩
  obtain ⟨r, hr⟩ : ∃ r, r = applyV K k v val has := ⟨_, rfl⟩
  obtain ⟨s, hs⟩ : ∃ s, s = applyB K k v has := ⟨_, rfl⟩
  rw [← hr, ← hs]
  unfold applyV at hr
  unfold applyB at hs
  rw [← hf] at hr hs
  cases f with
  | false =>
    have HF := hid hf; clear hf
    simp only [if_true] at hr hs
    cases has
    all_goals
      simp only [if_true, if_false, Bool.false_eq_true] at hr
      subst hr hs
      go_enter Try.func16, Try.ntmps16
      go_wp2_with (with_reducible refine at_op (.box 23 (.tmp 0)) rfl ?_; refine Stopped.go ?_)
      refine Stopped.mk (wpList_box rfl #[.int .i64 K, .string k, .string v] 23 (by go_simp) ?_)
      intro g w1 hg_ Bg hb_ hz_
      have hb := hb_
      clear hg_ hz_ hb_
      have cg_0 : w1.cell? ⟨g, 0, none⟩ = some (.int .i64 K) := Bg.at rfl
      have cg_1 : w1.cell? ⟨g, 1, none⟩ = some (.string k) := Bg.at rfl
      have cg_2 : w1.cell? ⟨g, 2, none⟩ = some (.string v) := Bg.at rfl
      go_wp2_with fail
      refine (ref_Is_any K k v _).mono ?_; rintro e w2 ⟨rfl, hb_⟩; rw [← HF.out]
      clear cg_0
      clear cg_1
      clear cg_2
      replace Bg := Bg.belowS hb_
      replace hb := bt hb hb_
      clear hb_
      have cg_0 : w2.cell? ⟨g, 0, none⟩ = some (.int .i64 K) := Bg.at rfl
      have cg_1 : w2.cell? ⟨g, 1, none⟩ = some (.string k) := Bg.at rfl
      have cg_2 : w2.cell? ⟨g, 2, none⟩ = some (.string v) := Bg.at rfl
      go_wp2_with fail
      go_ret2
      exact ⟨rfl, hb⟩
  | true =>
    simp only [Bool.true_eq_false, if_false] at hr hs
    by_cases h2 : K = 2
    · subst h2
      have HF := hid hf; clear hf
      rw [if_pos rfl] at hr hs
      subst hr hs
      cases has
      all_goals
        go_enter Try.func16, Try.ntmps16
        go_wp2_with (with_reducible refine at_op (.box 23 (.tmp 0)) rfl ?_; refine Stopped.go ?_)
        refine Stopped.mk (wpList_box rfl #[.int .i64 2, .string k, .string v] 23 (by go_simp) ?_)
        intro g w1 hg_ Bg hb_ hz_
        have hb := hb_
        clear hg_ hz_ hb_
        have cg_0 : w1.cell? ⟨g, 0, none⟩ = some (.int .i64 2) := Bg.at rfl
        have cg_1 : w1.cell? ⟨g, 1, none⟩ = some (.string k) := Bg.at rfl
        have cg_2 : w1.cell? ⟨g, 2, none⟩ = some (.string v) := Bg.at rfl
        go_wp2_with fail
        refine (ref_Is_any 2 k v _).mono ?_; rintro e w2 ⟨rfl, hb_⟩; rw [← HF.out]
        clear cg_0
        clear cg_1
        clear cg_2
        replace Bg := Bg.belowS hb_
        replace hb := bt hb hb_
        clear hb_
        have cg_0 : w2.cell? ⟨g, 0, none⟩ = some (.int .i64 2) := Bg.at rfl
        have cg_1 : w2.cell? ⟨g, 1, none⟩ = some (.string k) := Bg.at rfl
        have cg_2 : w2.cell? ⟨g, 2, none⟩ = some (.string v) := Bg.at rfl
        go_wp2_with fail
        go_ret2
        exact ⟨rfl, hb⟩
    rw [if_neg h2] at hr hs
    subst hs
    by_cases h1 : K = 1
    · subst h1
      have HF := hid hf; clear hf
      rw [if_pos (Or.inl rfl)] at hr
      rw [hr]; clear hr
      cases has
      all_goals
        go_enter Try.func16, Try.ntmps16
        go_wp2_with (with_reducible refine at_op (.box 23 (.tmp 0)) rfl ?_; refine Stopped.go ?_)
        refine Stopped.mk (wpList_box rfl #[.int .i64 1, .string k, .string v] 23 (by go_simp) ?_)
        intro g w1 hg_ Bg hb_ hz_
        have hb := hb_
        clear hg_ hz_ hb_
        have cg_0 : w1.cell? ⟨g, 0, none⟩ = some (.int .i64 1) := Bg.at rfl
        have cg_1 : w1.cell? ⟨g, 1, none⟩ = some (.string k) := Bg.at rfl
        have cg_2 : w1.cell? ⟨g, 2, none⟩ = some (.string v) := Bg.at rfl
        go_wp2_with fail
        refine (ref_Is_any 1 k v _).mono ?_; rintro e w2 ⟨rfl, hb_⟩; rw [← HF.out]
        clear cg_0
        clear cg_1
        clear cg_2
        replace Bg := Bg.belowS hb_
        replace hb := bt hb hb_
        clear hb_
        have cg_0 : w2.cell? ⟨g, 0, none⟩ = some (.int .i64 1) := Bg.at rfl
        have cg_1 : w2.cell? ⟨g, 1, none⟩ = some (.string k) := Bg.at rfl
        have cg_2 : w2.cell? ⟨g, 2, none⟩ = some (.string v) := Bg.at rfl
        go_wp2_with fail
        go_ret2
        exact ⟨rfl, hb⟩
    have h3 : K = 3 := by
      unfold msgIs at hf
      rw [if_neg h1, if_neg h2] at hf
      by_cases h3 : K = 3
      · exact h3
      · rw [if_neg h3, Bool.and_false] at hf; cases hf
    subst h3
    have HF := hid hf
    cases has with
    | false =>
      rw [if_pos (Or.inr rfl)] at hr
      rw [hr]; clear hr
      clear hf
      go_enter Try.func16, Try.ntmps16
      go_wp2_with (with_reducible refine at_op (.box 23 (.tmp 0)) rfl ?_; refine Stopped.go ?_)
      refine Stopped.mk (wpList_box rfl #[.int .i64 3, .string k, .string v] 23 (by go_simp) ?_)
      intro g w1 hg_ Bg hb_ hz_
      have hb := hb_
      clear hg_ hz_ hb_
      have cg_0 : w1.cell? ⟨g, 0, none⟩ = some (.int .i64 3) := Bg.at rfl
      have cg_1 : w1.cell? ⟨g, 1, none⟩ = some (.string k) := Bg.at rfl
      have cg_2 : w1.cell? ⟨g, 2, none⟩ = some (.string v) := Bg.at rfl
      go_wp2_with fail
      refine (ref_Is_any 3 k v _).mono ?_; rintro e w2 ⟨rfl, hb_⟩; rw [← HF.out]
      clear cg_0
      clear cg_1
      clear cg_2
      replace Bg := Bg.belowS hb_
      replace hb := bt hb hb_
      clear hb_
      have cg_0 : w2.cell? ⟨g, 0, none⟩ = some (.int .i64 3) := Bg.at rfl
      have cg_1 : w2.cell? ⟨g, 1, none⟩ = some (.string k) := Bg.at rfl
      have cg_2 : w2.cell? ⟨g, 2, none⟩ = some (.string v) := Bg.at rfl
      go_wp2_with fail
      go_ret2
      exact ⟨rfl, hb⟩
    | true =>
      rw [if_neg (by decide)] at hr
      have hv8 : v.size = 8 := by
        unfold msgIs at hf
        rw [if_neg h1, if_neg h2, if_pos rfl] at hf
        have h := (Bool.and_eq_true _ _ ▸ hf.symm).2
        rw [beq_iff_eq] at h; omega
      unfold sumK at hr
      rw [show numB v = true from decide_eq_true hv8, Bool.and_true] at hr
      by_cases h8 : val.size = 8
      · rw [if_pos (show numB val = true from decide_eq_true h8)] at hr
        have e8 : ((val.size : Int) == 8) = true := by rw [beq_iff_eq]; omega
        have HR := hid hr; clear hr hf hv8 h8
        go_enter Try.func16, Try.ntmps16
        go_wp2_with (with_reducible refine at_op (.box 23 (.tmp 0)) rfl ?_; refine Stopped.go ?_)
        refine Stopped.mk (wpList_box rfl #[.int .i64 3, .string k, .string v] 23 (by go_simp) ?_)
        intro g w1 hg_ Bg hb_ hz_
        have hb := hb_
        clear hg_ hz_ hb_
        have cg_0 : w1.cell? ⟨g, 0, none⟩ = some (.int .i64 3) := Bg.at rfl
        have cg_1 : w1.cell? ⟨g, 1, none⟩ = some (.string k) := Bg.at rfl
        have cg_2 : w1.cell? ⟨g, 2, none⟩ = some (.string v) := Bg.at rfl
        go_wp2_with fail
        refine (ref_Is_any 3 k v _).mono ?_; rintro e w2 ⟨rfl, hb_⟩; rw [← HF.out]
        clear cg_0
        clear cg_1
        clear cg_2
        replace Bg := Bg.belowS hb_
        replace hb := bt hb hb_
        clear hb_
        have cg_0 : w2.cell? ⟨g, 0, none⟩ = some (.int .i64 3) := Bg.at rfl
        have cg_1 : w2.cell? ⟨g, 1, none⟩ = some (.string k) := Bg.at rfl
        have cg_2 : w2.cell? ⟨g, 2, none⟩ = some (.string v) := Bg.at rfl
        go_wp2_with fail
        refine (ref_Sum_any _ _ _).mono ?_; rintro e w3 ⟨rfl, hb_⟩; rw [← HR.out]
        replace hb := bt hb hb_; clear hb_
        go_wp2_with fail
        go_ret2
        exact ⟨rfl, hb⟩
      · rw [if_neg (by rw [show numB val = false from decide_eq_false h8]; decide)] at hr
        have e8 : ((val.size : Int) == 8) = false := by rw [beq_eq_false_iff_ne]; omega
        subst hr
        clear hf hv8 h8
        go_enter Try.func16, Try.ntmps16
        go_wp2_with (with_reducible refine at_op (.box 23 (.tmp 0)) rfl ?_; refine Stopped.go ?_)
        refine Stopped.mk (wpList_box rfl #[.int .i64 3, .string k, .string v] 23 (by go_simp) ?_)
        intro g w1 hg_ Bg hb_ hz_
        have hb := hb_
        clear hg_ hz_ hb_
        have cg_0 : w1.cell? ⟨g, 0, none⟩ = some (.int .i64 3) := Bg.at rfl
        have cg_1 : w1.cell? ⟨g, 1, none⟩ = some (.string k) := Bg.at rfl
        have cg_2 : w1.cell? ⟨g, 2, none⟩ = some (.string v) := Bg.at rfl
        go_wp2_with fail
        refine (ref_Is_any 3 k v _).mono ?_; rintro e w2 ⟨rfl, hb_⟩; rw [← HF.out]
        clear cg_0
        clear cg_1
        clear cg_2
        replace Bg := Bg.belowS hb_
        replace hb := bt hb hb_
        clear hb_
        have cg_0 : w2.cell? ⟨g, 0, none⟩ = some (.int .i64 3) := Bg.at rfl
        have cg_1 : w2.cell? ⟨g, 1, none⟩ = some (.string k) := Bg.at rfl
        have cg_2 : w2.cell? ⟨g, 2, none⟩ = some (.string v) := Bg.at rfl
        go_wp2_with fail
        go_ret2
        exact ⟨rfl, hb⟩

end Go.Proofs.Ytbhmkigomlpkcaa
