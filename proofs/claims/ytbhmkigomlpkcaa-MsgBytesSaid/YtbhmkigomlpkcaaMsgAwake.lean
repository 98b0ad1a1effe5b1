/-
  Messages (layer 8), walked: awake, long.
-/
import Derived.Test.YtbhmkigomlpkcaaMsgThen
import Derived.Lib.QuietBelow
namespace Go.Proofs.Ytbhmkigomlpkcaa
open Go.RowKit Go.Sort

theorem regrown_same {P : Program} {f : FuncId} {args : Array Value} {w : World} {d : Nat} {os : Array Obj} {v : Value}
    (h : Calls P f args (grow (redrawn w d) os) fun e w' => e = .returned v ∧ grow (redrawn w d) os = w') : Calls P f args (grow (redrawn w d) os) fun e w'' => e = .returned v ∧ ∃ p : Regrown, w'' = grow (redrawn w p.d) p.os :=
  h.mono fun _ _ ⟨he, hb⟩ => ⟨he, ⟨d, os⟩, hb.symm⟩

def longB (k v : ByteArray) : Bool := decide ((1024 : Int) < k.size) || decide ((1024 : Int) < v.size)
set_option maxHeartbeats 8000000 in
set_option maxRecDepth 100000 in
theorem msg_long_any (K : Int) (k v : ByteArray) (w : World) :
    Calls Try.prog 14 #[.agg #[.int .i64 K, .string k, .string v]] w fun e w' => e = .returned (.bool (longB k v)) ∧ Below w.heap.size w w' := by
  obtain ⟨r, hr⟩ : ∃ r, r = longB k v := ⟨_, rfl⟩
  rw [← hr]
  unfold longB at hr
  by_cases h1 : (1024 : Int) < k.size <;> by_cases h2 : (1024 : Int) < v.size
  all_goals
    first | rw [decide_eq_true h1] at hr | rw [decide_eq_false h1] at hr
    first | rw [decide_eq_true h2] at hr | rw [decide_eq_false h2] at hr
    simp only [Bool.or_true, Bool.or_false] at hr
    subst hr
    go_enter Try.func14, Try.ntmps14
    go_wp2_with (with_reducible refine at_op (.box 23 (.tmp 0)) rfl ?_; refine Stopped.go ?_)
    refine Stopped.mk (wpList_box rfl #[.int .i64 K, .string k, .string v] 23 (by go_simp) ?_)
    intro g w1 hg_ Bg hb_ hz_
    have hb := hb_
    clear hg_ hz_ hb_
    have cg_0 : w1.cell? ⟨g, 0, none⟩ = some (.int .i64 K) := Bg.at rfl
    have cg_1 : w1.cell? ⟨g, 1, none⟩ = some (.string k) := Bg.at rfl
    have cg_2 : w1.cell? ⟨g, 2, none⟩ = some (.string v) := Bg.at rfl
    clear Bg
    go_wp2_with fail
    go_ret
    first | exact ⟨rfl, hb⟩ | exact ⟨ret_bool (by simp; omega), hb⟩

set_option maxHeartbeats 8000000 in
set_option maxRecDepth 100000 in
theorem awake08_any  (w : World) :
    Calls Try.prog 13 #[] w fun e w' => e = .returned (.bool true) ∧ Below w.heap.size w w' := by
  have v7 := hid (show val8 7 = ⟨#[0, 0, 0, 0, 0, 0, 0, 7]⟩ by kernel_rfl)
  have v1 := hid (show val8 1 = ⟨#[0, 0, 0, 0, 0, 0, 0, 1]⟩ by kernel_rfl)
  have t1 := hid (show thenM 1 ⟨#[97]⟩ ⟨#[0, 0, 0, 0, 0, 0, 0, 5]⟩ 3 ⟨#[97]⟩ ⟨#[0, 0, 0, 0, 0, 0, 0, 7]⟩ = (1, ⟨#[97]⟩, ⟨#[0, 0, 0, 0, 0, 0, 0, 12]⟩) by kernel_rfl)
  have t2 := hid (show thenIs 1 ⟨#[97]⟩ ⟨#[0, 0, 0, 0, 0, 0, 0, 5]⟩ 3 ⟨#[97]⟩ ⟨#[0, 0, 0, 0, 0, 0, 0, 7]⟩ = true by kernel_rfl)
  have p1 := hid (show applyV 3 ⟨#[97]⟩ ⟨#[0, 0, 0, 0, 0, 0, 0, 1]⟩ ⟨#[0, 0, 0, 0, 0, 0, 0, 5]⟩ true = ⟨#[0, 0, 0, 0, 0, 0, 0, 6]⟩ by kernel_rfl)
  have p2 := hid (show applyB 3 ⟨#[97]⟩ ⟨#[0, 0, 0, 0, 0, 0, 0, 1]⟩ true = true by kernel_rfl)
  have p3 := hid (show applyV 2 ⟨#[97]⟩ ⟨#[]⟩ ⟨#[0, 0, 0, 0, 0, 0, 0, 5]⟩ true = ⟨#[]⟩ by kernel_rfl)
  have p4 := hid (show applyB 2 ⟨#[97]⟩ ⟨#[]⟩ true = false by kernel_rfl)
  have t3 := hid (show thenM 1 ⟨#[97]⟩ ⟨#[]⟩ 2 ⟨#[98]⟩ ⟨#[]⟩ = (0, ⟨#[]⟩, ⟨#[]⟩) by kernel_rfl)
  have t4 := hid (show thenIs 1 ⟨#[97]⟩ ⟨#[]⟩ 2 ⟨#[98]⟩ ⟨#[]⟩ = false by kernel_rfl)
  have I1 : Hid (∀ W', Calls Try.prog 17 #[.agg #[.int .i64 1, .string ⟨#[97]⟩, .string ⟨#[0, 0, 0, 0, 0, 0, 0, 12]⟩]] W' fun e w' => e = .returned (.bool true) ∧ Below W'.heap.size W' w') := fun W' => by have := msg_Is_any 1 ⟨#[97]⟩ ⟨#[0, 0, 0, 0, 0, 0, 0, 12]⟩ W'; rw [show msgIs 1 ⟨#[97]⟩ ⟨#[0, 0, 0, 0, 0, 0, 0, 12]⟩ = true by kernel_rfl] at this; exact this
  have I2 : Hid (∀ W', Calls Try.prog 17 #[.agg #[.int .i64 0, .string ⟨#[]⟩, .string ⟨#[]⟩]] W' fun e w' => e = .returned (.bool false) ∧ Below W'.heap.size W' w') := fun W' => by have := msg_Is_any 0 ⟨#[]⟩ ⟨#[]⟩ W'; rw [show msgIs 0 ⟨#[]⟩ ⟨#[]⟩ = false by kernel_rfl] at this; exact this
  have I3 : Hid (∀ W', Calls Try.prog 19 #[.agg #[.int .i64 1, .string ⟨#[97]⟩, .string ⟨#[0, 0, 0, 0, 0, 0, 0, 12]⟩]] W' fun e w' => e = .returned (.int .i64 12) ∧ Below W'.heap.size W' w') := fun W' => msg_Weight_any 1 ⟨#[97]⟩ ⟨#[0, 0, 0, 0, 0, 0, 0, 12]⟩ (by decide) (by decide) W'
  have I4 : Hid (∀ W', Calls Try.prog 20 #[.string ⟨#[97]⟩, .string ⟨#[0, 0, 0, 0, 0, 0, 0, 12]⟩] W' fun e w' => e = .returned (.agg #[.int .i64 1, .string ⟨#[97]⟩, .string ⟨#[0, 0, 0, 0, 0, 0, 0, 12]⟩]) ∧ Below W'.heap.size W' w') := fun W' => msg_OfPut_any ⟨#[97]⟩ ⟨#[0, 0, 0, 0, 0, 0, 0, 12]⟩ W'
  have x1 : (⟨#[0, 0, 0, 0, 0, 0, 0, 5]⟩ : ByteArray).extract 0 7 = ⟨#[0, 0, 0, 0, 0, 0, 0]⟩ := by kernel_rfl
  have x2 : (⟨#[0, 0, 0, 0, 0, 0, 0]⟩ : ByteArray) ++ ⟨#[12]⟩ = ⟨#[0, 0, 0, 0, 0, 0, 0, 12]⟩ := by kernel_rfl
  have x3 : (⟨#[0, 0, 0, 0, 0, 0, 0]⟩ : ByteArray) ++ ⟨#[6]⟩ = ⟨#[0, 0, 0, 0, 0, 0, 0, 6]⟩ := by kernel_rfl
  have HX := hid (And.intro x1 (And.intro x2 x3)); clear x1 x2 x3
  go_enter Try.func13, Try.ntmps13
  go_wp2_with fail
  refine (msg_OfPut_any _ _ _).mono ?_; rintro e w1 ⟨rfl, hb⟩
  go_wp2_with fail
  refine (msg_OfAdd_any _ 7 (by decide) _).mono ?_; rintro e w2 ⟨rfl, hb_⟩; rw [v7.out]
  replace hb := bt hb hb_; clear hb_
  go_wp2_with fail
  refine (msg_Then_any _ _ _ _ _ _ _).mono ?_; rintro e w3 ⟨rfl, hb_⟩; rw [t1.out, t2.out]
  replace hb := bt hb hb_; clear hb_
  have hA := below_alloc w3 (.cells #[.int .i64 1, .string ⟨#[97]⟩, .string ⟨#[0, 0, 0, 0, 0, 0, 0, 12]⟩] 23)
  have BM := Blk.new w3 #[.int .i64 1, .string ⟨#[97]⟩, .string ⟨#[0, 0, 0, 0, 0, 0, 0, 12]⟩] 23
  obtain ⟨g, hg⟩ : ∃ g, g = w3.heap.size := ⟨_, rfl⟩
  have HG := hid hg; have HA := hid hA; have HM := hid BM; clear hg hA BM
  go_wp2_with fail
  rw [← HG.out]
  have HM2 := HM.out; rw [← HG.out] at HM2
  replace hb := bt hb HA.out
  have HM := hid HM2
  clear HM2 HG HA
  generalize w3.alloc (.cells #[.int .i64 1, .string ⟨#[97]⟩, .string ⟨#[0, 0, 0, 0, 0, 0, 0, 12]⟩] 23) = w4 at hb HM ⊢
  refine (msg_OfAdd_any _ 1 (by decide) _).mono ?_; rintro e w5 ⟨rfl, hb_⟩; rw [v1.out]
  replace hb := bt hb hb_; have HM5 := hid (HM.out.belowS hb_); clear hb_ HM
  go_wp2_with fail
  refine (msg_Apply_any _ _ _ _ _ _).mono ?_; rintro e w6 ⟨rfl, hb_⟩; rw [p1.out, p2.out]
  replace hb := bt hb hb_; have HM6 := hid (HM5.out.belowS hb_); clear hb_ HM5
  go_wp2_with fail
  refine (msg_OfDel_any _ _).mono ?_; rintro e w7 ⟨rfl, hb_⟩
  replace hb := bt hb hb_; have HM7 := hid (HM6.out.belowS hb_); clear hb_ HM6
  go_wp2_with fail
  refine (msg_Apply_any _ _ _ _ _ _).mono ?_; rintro e w8 ⟨rfl, hb_⟩; rw [p3.out, p4.out]
  replace hb := bt hb hb_; have HM8 := hid (HM7.out.belowS hb_); clear hb_ HM7
  go_wp2_with fail
  refine (msg_OfPut_any _ _ _).mono ?_; rintro e w9 ⟨rfl, hb_⟩
  replace hb := bt hb hb_; have HM9 := hid (HM8.out.belowS hb_); clear hb_ HM8
  go_wp2_with fail
  refine (msg_OfDel_any _ _).mono ?_; rintro e w10 ⟨rfl, hb_⟩
  replace hb := bt hb hb_; have HM10 := hid (HM9.out.belowS hb_); clear hb_ HM9
  go_wp2_with fail
  refine (msg_Then_any _ _ _ _ _ _ _).mono ?_; rintro e w11 ⟨rfl, hb_⟩; rw [t3.out, t4.out]
  replace hb := bt hb hb_; have HM11 := hid (HM10.out.belowS hb_); clear hb_ HM10
  have hA := below_alloc w11 (.cells #[.int .i64 0, .string ⟨#[]⟩, .string ⟨#[]⟩] 23)
  replace hb := bt hb hA; have HM12 := hid (HM11.out.belowS hA); clear hA HM11
  go_wp2_with fail
  generalize w11.alloc (.cells #[.int .i64 0, .string ⟨#[]⟩, .string ⟨#[]⟩] 23) = W at hb HM12 ⊢
  have m0 : ∀ d os, (grow (redrawn W d) os).cell? ⟨g, 0, none⟩ = some (.int .i64 1) := fun d os => cell_regrown (HM12.out.at rfl) d os
  have m1 : ∀ d os, (grow (redrawn W d) os).cell? ⟨g, 1, none⟩ = some (.string ⟨#[97]⟩) := fun d os => cell_regrown (HM12.out.at rfl) d os
  have m2 : ∀ d os, (grow (redrawn W d) os).cell? ⟨g, 2, none⟩ = some (.string ⟨#[0, 0, 0, 0, 0, 0, 0, 12]⟩) := fun d os => cell_regrown (HM12.out.at rfl) d os
  obtain ⟨x1, x2, x3⟩ := HX.out
  refine wp_region_quiet_below (by kernel_rfl) (by kernel_rfl) ?_
  repeat (go_big_quiet_step (first
    | with_reducible exact Calls.regrown_of (I1.out _)
    | with_reducible exact Calls.regrown_of (I2.out _)
    | with_reducible exact Calls.regrown_of (I3.out _)
    | with_reducible exact Calls.regrown_of (I4.out _)))
  refine wpQuiet_nil ?_
  intro _ hw'
  obtain ⟨⟨dq, osq⟩, hw''⟩ := hw'
  subst hw''
  clear m0 m1 m2 x1 x2 x3
  go_wp2_with fail
  go_ret
  exact ⟨rfl, bt hb (below_regrown W dq osq)⟩

end Go.Proofs.Ytbhmkigomlpkcaa
