/-
  tale.name, tale.kindOf, order.fields, bare, isLong, walked.
-/
import Derived.Test.YthhmdmfbaooldaaGreatDoorTaleNum
namespace Go.Proofs.YthhmdmfbaooldaaGreatDoor
open Go.RowKit

/-- a kind's name -/
def nameL (K : Int) : List UInt8 :=
  if K = 1 then [112, 117, 116] else if K = 2 then [100, 101, 108, 101, 116, 101] else if K = 3 then [97, 100, 100] else if K = 4 then [103, 101, 116] else if K = 5 then [115, 99, 97, 110]
  else if K = 6 then [115, 121, 110, 99] else if K = 7 then [99, 104, 101, 99, 107, 112, 111, 105, 110, 116] else if K = 8 then [115, 116, 97, 116, 117, 115] else []
def nameB (K : Int) : ByteArray := ⟨(nameL K).toArray⟩
theorem kinds (K : Int) : K = 1 ∨ K = 2 ∨ K = 3 ∨ K = 4 ∨ K = 5 ∨ K = 6 ∨ K = 7 ∨ K = 8 ∨ (¬ (1 ≤ K ∧ K ≤ 8)) := by omega
theorem neK {K a : Int} (h : ¬ (1 ≤ K ∧ K ≤ 8)) (ha : 1 ≤ a ∧ a ≤ 8) : (K == a) = false := by
  rw [beq_eq_false_iff_ne]; omega

set_option maxHeartbeats 2000000 in
theorem tale_name_any (K : Int) (w : World) :
    Calls Tryz.prog 55 #[.int .i64 K] w fun e w' => e = .returned (.string (nameB K)) ∧ w' = w := by
  obtain ⟨r, hr⟩ : ∃ r, r = nameB K := ⟨_, rfl⟩
  rw [← hr]
  rcases kinds K with rfl | rfl | rfl | rfl | rfl | rfl | rfl | rfl | h
  iterate 8
    · have hr' : r = ⟨_⟩ := hr.trans rfl
      subst hr'
      clear hr
      go_enter Tryz.func55, Tryz.ntmps55
      go_wp2_with fail
      go_ret
      exact ⟨rfl, rfl⟩
  · have e1 := neK h (a := 1) (by decide); have e2 := neK h (a := 2) (by decide); have e3 := neK h (a := 3) (by decide); have e4 := neK h (a := 4) (by decide)
    have e5 := neK h (a := 5) (by decide); have e6 := neK h (a := 6) (by decide); have e7 := neK h (a := 7) (by decide); have e8 := neK h (a := 8) (by decide)
    have hr' : r = ⟨#[]⟩ := by
      rw [hr]; unfold nameB nameL
      rw [if_neg (by omega), if_neg (by omega), if_neg (by omega), if_neg (by omega), if_neg (by omega), if_neg (by omega), if_neg (by omega), if_neg (by omega)]
    subst hr'
    clear hr h
    go_enter Tryz.func55, Tryz.ntmps55
    go_wp2_with fail
    go_ret
    exact ⟨rfl, rfl⟩

/-- the kind of a name -/
def kindL (l : List UInt8) : Nat := if l = nameL 1 then 1 else if l = nameL 2 then 2 else if l = nameL 3 then 3 else if l = nameL 4 then 4 else if l = nameL 5 then 5 else if l = nameL 6 then 6 else if l = nameL 7 then 7 else if l = nameL 8 then 8 else 0
theorem kindL_below {l : List UInt8} {k : Nat} (h1 : 1 ≤ k) (h8 : k ≤ 8) (h : l = nameL k) : kindL l = k := by
  subst h
  have : k = 1 ∨ k = 2 ∨ k = 3 ∨ k = 4 ∨ k = 5 ∨ k = 6 ∨ k = 7 ∨ k = 8 := by omega
  rcases this with rfl | rfl | rfl | rfl | rfl | rfl | rfl | rfl <;> decide
theorem kindL_none {l : List UInt8} (h : ∀ k : Nat, 1 ≤ k → k ≤ 8 → l ≠ nameL k) : kindL l = 0 := by
  unfold kindL
  have h1 := h 1 (by decide) (by decide); have h2 := h 2 (by decide) (by decide); have h3 := h 3 (by decide) (by decide); have h4 := h 4 (by decide) (by decide)
  have h5 := h 5 (by decide) (by decide); have h6 := h 6 (by decide) (by decide); have h7 := h 7 (by decide) (by decide); have h8 := h 8 (by decide) (by decide)
  rw [if_neg (show l ≠ nameL 1 from h1), if_neg (show l ≠ nameL 2 from h2), if_neg (show l ≠ nameL 3 from h3), if_neg (show l ≠ nameL 4 from h4), if_neg (show l ≠ nameL 5 from h5), if_neg (show l ≠ nameL 6 from h6), if_neg (show l ≠ nameL 7 from h7), if_neg (show l ≠ nameL 8 from h8)]
-- if_neg h2, if_neg h3, if_neg h4, if_neg h5, if_neg h6, if_neg h7, if_neg h8]
--  rw [if_neg (h 2 (by decide) (by decide)), if_neg (h 3 (by decide) (by decide)), if_neg (h 4 (by decide) (by decide)), if_neg (h 5 (by decide) (by decide)), if_neg (h 6 (by decide) (by decide)), if_neg (h 7 (by decide) (by decide)), if_neg (h 8 (by decide) (by decide))]

set_option maxHeartbeats 2000000 in
theorem tale_kindOf_any (s : ByteArray) (w : World) :
    Calls Tryz.prog 38 #[.string s] w fun e w' => e = .returned (.int .i64 (kindL s.data.toList)) ∧ w' = w := by
  go_enter Tryz.func38, Tryz.ntmps38
  go_wp2_with fail
  go_loopg [3] 8 (fun g i wx => ∃ k : Nat, k + g = 9 ∧ 1 ≤ k ∧ i = .int .i64 k ∧ Hid (∀ j : Nat, 1 ≤ j → j < k → s.data.toList ≠ nameL j) ∧ w = wx)
  case atStart => exact ⟨1, by omega, by omega, rfl, fun j h1 h2 => by omega, rfl⟩
  case round =>
    obtain ⟨k, hk, hk1, rfl, HI, rfl⟩ := hrel
    by_cases hlt : k ≤ 8
    · obtain ⟨W, hW⟩ : ∃ W, W = nameB (k : Int) := ⟨_, rfl⟩
      have C := tale_name_any (k : Int) w
      rw [← hW] at C
      have HC := hid C; clear C
      by_cases he : W = s
      · have hss : (W.toList == s.toList) = true := by rw [he]; simp
        have hr : kindL s.data.toList = k := kindL_below hk1 hlt (by rw [← he, hW]; rfl)
        have HR := hid hr
        clear hr he hW HI
        go_wp2_with fail
        refine HC.out.mono ?_; rintro e w1 ⟨rfl, rfl⟩
        go_wp2_with fail
        go_ret
        rw [HR.out]
        exact ⟨rfl, rfl⟩
      · have hss := ba_ne he
        have HN : Hid (∀ j : Nat, 1 ≤ j → j < k + 1 → s.data.toList ≠ nameL j) := by
          intro j h1 h2
          by_cases hj : j < k
          · exact HI.out j h1 hj
          · obtain rfl : j = k := by omega
            intro e
            apply he
            rw [hW]; unfold nameB
            rw [← e]
        clear he hW HI
        go_wp2_with fail
        refine HC.out.mono ?_; rintro e w1 ⟨rfl, rfl⟩
        go_wp2_with fail
        go_roundg (9 - (k + 1))
        case measure => omega
        case rel => exact ⟨k + 1, by omega, by omega, by go_num, HN.out, rfl⟩
    · have hr : kindL s.data.toList = 0 := kindL_none fun j h1 h2 => HI.out j h1 (by omega)
      have HR := hid hr
      clear hr
      go_wp2_with fail
      go_ret
      rw [HR.out]
      exact ⟨rfl, rfl⟩

/-- whether there is such a kind -/
def kindB (K : Int) : Bool := decide (1 ≤ K ∧ K ≤ 8)
/-- some value, and that truth -/
def SomeV (b : Bool) (w : World) (e : Ending) (w' : World) : Prop := ∃ v, e = .returned (.tuple #[v, .bool b]) ∧ Below w.heap.size w w'
set_option maxHeartbeats 4000000 in
set_option maxRecDepth 100000 in
theorem order_fields_any (K : Int) (w : World) :
    Calls Tryz.prog 43 #[.int .i64 K] w (SomeV (kindB K) w) := by
  obtain ⟨f, hf⟩ : ∃ f, f = kindB K := ⟨_, rfl⟩
  rw [← hf]
  have hA := below_alloc w (.cells #[.nilFunc, .nilFunc] 107)
  have hN := heap_alloc_new w (.cells #[.nilFunc, .nilFunc] 107)
  have HN := hid hN; have HA := hid hA
  clear hA hN
  rcases kinds K with rfl | rfl | rfl | rfl | rfl | rfl | rfl | rfl | h
  iterate 8
    · have hf' : f = true := hf.trans rfl
      subst hf'
      clear hf
      go_enter Tryz.func43, Tryz.ntmps43
      go_wp2_with (with_reducible refine at_op (.store 107 (.tmp 4) (.tmp 5)) rfl ?_; refine Stopped.go ?_)
      refine Stopped.mk (wpList_store_row_k rfl _ _ _ rfl w.heap.size #[.func (.func 58) #[] #[], .func (.func 59) #[] #[]] rfl rfl _ _ HN.out (by kernel_rfl) rfl (by simp [Value.oneCell']) ?_)
      intro w1 hN1 hB1 hz1
      have c0 : w1.cell? ⟨w.heap.size, 0, none⟩ = some (.func (.func 58) #[] #[]) := by rw [cell_of_row w1 _ 0 _ _ _ hN1]; rfl
      have c1 : w1.cell? ⟨w.heap.size, 1, none⟩ = some (.func (.func 59) #[] #[]) := by rw [cell_of_row w1 _ 1 _ _ _ hN1]; rfl
      have HB := hid (HA.out.trans (hB1 _ (Nat.le_refl _)))
      clear hN1 hB1 hz1
      go_wp2_with fail
      go_ret2
      exact ⟨_, rfl, by first | exact bt HB.out (below_alloc _ _) | exact HB.out⟩
  · have e1 := neK h (a := 1) (by decide); have e2 := neK h (a := 2) (by decide); have e3 := neK h (a := 3) (by decide); have e4 := neK h (a := 4) (by decide); have e5 := neK h (a := 5) (by decide)
    have hf' : f = false := by rw [hf]; unfold kindB; rw [decide_eq_false h]
    subst hf'
    clear hf
    by_cases h6 : 6 ≤ K
    · have h8 : decide (K ≤ 8) = false := by simp; omega
      clear h
      go_enter Tryz.func43, Tryz.ntmps43
      go_wp2_with (with_reducible refine at_op (.store 107 (.tmp 4) (.tmp 5)) rfl ?_; refine Stopped.go ?_)
      refine Stopped.mk (wpList_store_row_k rfl _ _ _ rfl w.heap.size #[.func (.func 58) #[] #[], .func (.func 59) #[] #[]] rfl rfl _ _ HN.out (by kernel_rfl) rfl (by simp [Value.oneCell']) ?_)
      intro w1 hN1 hB1 hz1
      have HB := hid (HA.out.trans (hB1 _ (Nat.le_refl _)))
      clear hN1 hB1 hz1
      go_wp2_with fail
      go_ret2
      exact ⟨_, rfl, HB.out⟩
    · clear h
      go_enter Tryz.func43, Tryz.ntmps43
      go_wp2_with (with_reducible refine at_op (.store 107 (.tmp 4) (.tmp 5)) rfl ?_; refine Stopped.go ?_)
      refine Stopped.mk (wpList_store_row_k rfl _ _ _ rfl w.heap.size #[.func (.func 58) #[] #[], .func (.func 59) #[] #[]] rfl rfl _ _ HN.out (by kernel_rfl) rfl (by simp [Value.oneCell']) ?_)
      intro w1 hN1 hB1 hz1
      have HB := hid (HA.out.trans (hB1 _ (Nat.le_refl _)))
      clear hN1 hB1 hz1
      go_wp2_with fail
      go_ret2
      exact ⟨_, rfl, HB.out⟩

set_option maxHeartbeats 1000000 in
theorem order_isLong_any (s : ByteArray) (w : World) :
    Calls Tryz.prog 46 #[.string s] w fun e w' => e = .returned (.bool (decide ((255 : Int) < (s.size : Int)))) ∧ w' = w := by
  by_cases h : (255 : Int) < (s.size : Int)
  all_goals
    go_enter Tryz.func46, Tryz.ntmps46
    go_wp2_with fail
    go_ret
    exact ⟨ret_bool (by simp; omega), rfl⟩
end Go.Proofs.YthhmdmfbaooldaaGreatDoor
