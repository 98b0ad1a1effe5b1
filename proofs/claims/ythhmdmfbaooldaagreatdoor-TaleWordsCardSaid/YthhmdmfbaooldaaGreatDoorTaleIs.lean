/-
  (order.Order).bare, order.Is, walked.
-/
import Derived.Test.YthhmdmfbaooldaaGreatDoorTaleOrd
import Derived.Test.YthhmdmfbaooldaaGreatDoorQuietTail
import Derived.Test.YthhmdmfbaooldaaGreatDoorPenOut
import Derived.Lib.QuietBelow
namespace Go.Proofs.YthhmdmfbaooldaaGreatDoor
open Go.RowKit Go.Sort

/-- the fields of its kind alone -/
def bKey (K : Int) (key : ByteArray) : ByteArray := if K = 1 ∨ K = 2 ∨ K = 3 ∨ K = 4 then key else ⟨#[]⟩
def bVal (K : Int) (val : ByteArray) : ByteArray := if K = 1 then val else ⟨#[]⟩
def bN (K : Int) (n : Int) : Int := if K = 3 then n else 0
def bLo (K : Int) (lo : ByteArray) : ByteArray := if K = 5 then lo else ⟨#[]⟩

set_option maxHeartbeats 8000000 in
set_option maxRecDepth 100000 in
theorem bare_any (K : Int) (key val lo hi : ByteArray) (n : Int) (w : World) :
    Calls Tryz.prog 44 #[.agg #[.int .i64 K, .string key, .string val, .int .u64 n, .string lo, .string hi]] w fun e w' =>
      e = .returned (.agg #[.int .i64 K, .string (bKey K key), .string (bVal K val), .int .u64 (bN K n), .string (bLo K lo), .string (bLo K hi)]) ∧ Below w.heap.size w w' := by
  have hu := Tryz.underlying37
  obtain ⟨q1, h1⟩ : ∃ q, q = bKey K key := ⟨_, rfl⟩
  obtain ⟨q2, h2⟩ : ∃ q, q = bVal K val := ⟨_, rfl⟩
  obtain ⟨q3, h3⟩ : ∃ q, q = bN K n := ⟨_, rfl⟩
  obtain ⟨q4, h4⟩ : ∃ q, q = bLo K lo := ⟨_, rfl⟩
  obtain ⟨q5, h5⟩ : ∃ q, q = bLo K hi := ⟨_, rfl⟩
  rw [← h1, ← h2, ← h3, ← h4, ← h5]
  rcases kinds K with rfl | rfl | rfl | rfl | rfl | rfl | rfl | rfl | h
  case inl | inr.inr.inl | inr.inr.inr.inr.inl =>
    simp [bKey, bVal, bN, bLo] at h1 h2 h3 h4 h5
    subst h1 h2 h3 h4 h5
    go_enter Tryz.func44, Tryz.ntmps44
    go_wp2_with fail
    go_region
    all_goals
      go_wp2_with fail
      (try simp only [Exit.inBlock, Exit.then])
      exact bodyPost_ret (by simp [results, Tryz.results44, go_sem]) rfl ⟨rfl, Below.drew ((((Below.refl _ w).alloc (Nat.le_refl _) _).alloc (by simp) _).alloc (by simp; omega) _)⟩
  case inr.inl | inr.inr.inr.inl | inr.inr.inr.inr.inr.inl | inr.inr.inr.inr.inr.inr.inl | inr.inr.inr.inr.inr.inr.inr.inl =>
    simp [bKey, bVal, bN, bLo] at h1 h2 h3 h4 h5
    subst h1 h2 h3 h4 h5
    go_enter Tryz.func44, Tryz.ntmps44
    go_wp2_with fail
    (try simp only [Exit.inBlock, Exit.then])
    exact bodyPost_ret (by simp [results, Tryz.results44, go_sem]) rfl ⟨rfl, ((((Below.refl _ w).alloc (Nat.le_refl _) _).alloc (by simp) _).alloc (by simp; omega) _)⟩
  case inr.inr.inr.inr.inr.inr.inr.inr =>
    have g : ∀ a : Int, 1 ≤ a → a ≤ 8 → K ≠ a := fun a h1 h2 e => h ⟨by omega, by omega⟩
    simp only [bKey, bVal, bN, bLo, g 1 (by decide) (by decide), g 2 (by decide) (by decide), g 3 (by decide) (by decide), g 4 (by decide) (by decide), g 5 (by decide) (by decide), or_self, if_false] at h1 h2 h3 h4 h5
    subst h1 h2 h3 h4 h5
    clear g
    have e1 := neK h (a := 1) (by decide); have e2 := neK h (a := 2) (by decide); have e3 := neK h (a := 3) (by decide); have e4 := neK h (a := 4) (by decide); have e5 := neK h (a := 5) (by decide)
    clear h
    go_enter Tryz.func44, Tryz.ntmps44
    go_wp2_with fail
    (try simp only [Exit.inBlock, Exit.then])
    exact bodyPost_ret (by simp [results, Tryz.results44, go_sem]) rfl ⟨rfl, ((((Below.refl _ w).alloc (Nat.le_refl _) _).alloc (by simp) _).alloc (by simp; omega) _)⟩

/-- two orders, compared -/
def ordSame (K K' : Int) (q1 q2 : ByteArray) (q3 : Int) (q4 q5 key val : ByteArray) (n : Int) (lo hi : ByteArray) : Bool := decide (K = K' ∧ q1 = key ∧ q2 = val ∧ q3 = n ∧ q4 = lo ∧ q5 = hi)
theorem ba_toList {a b : ByteArray} : a.toList = b.toList ↔ a = b := by
  constructor
  · intro e
    rw [ByteArray.toList_eq, ByteArray.toList_eq] at e
    cases a; cases b
    simp only [Array.toList_inj] at e
    rw [e]
  · intro e; rw [e]
theorem ordSame_run (K K' : Int) (q1 q2 q4 q5 key val lo hi : ByteArray) (q3 n : Int) (w : World) : (binOp .eql 37 (.agg #[.int .i64 K, .string q1, .string q2, .int .u64 q3, .string q4, .string q5]) (.agg #[.int .i64 K', .string key, .string val, .int .u64 n, .string lo, .string hi])).run Tryz.prog w = .ok (.bool (ordSame K K' q1 q2 q3 q4 q5 key val n lo hi)) w := by
  have hu := Tryz.underlying37
  unfold ordSame
  go_simp
  simp only [ba_toList]
  by_cases h0 : K = K' <;> by_cases h1 : q1 = key <;> by_cases h2 : q2 = val <;> by_cases h3 : q3 = n <;> by_cases h4 : q4 = lo <;> by_cases h5 : q5 = hi <;> simp [h0, h1, h2, h3, h4, h5]

/-- whether it is an order -/
def ordB (K : Int) (key val : ByteArray) (n : Int) (lo hi : ByteArray) : Bool :=
  kindB K && ordSame K K (bKey K key) (bVal K val) (bN K n) (bLo K lo) (bLo K hi) key val n lo hi && !([key, val, lo, hi].any fun s => decide ((255 : Int) < (s.size : Int)))

set_option maxHeartbeats 8000000 in
set_option maxRecDepth 100000 in
theorem order_Is_any (K : Int) (key val lo hi : ByteArray) (n : Int) (w : World) :
    Calls Tryz.prog 26 #[.agg #[.int .i64 K, .string key, .string val, .int .u64 n, .string lo, .string hi]] w fun e w' =>
      e = .returned (.bool (ordB K key val n lo hi)) ∧ Below w.heap.size w w' := by
  have hu := Tryz.underlying37
  obtain ⟨f, hf⟩ : ∃ f, f = ordB K key val n lo hi := ⟨_, rfl⟩
  rw [← hf]
  unfold ordB at hf
  have hB := fun w' => bare_any K key val lo hi n w'
  have hF := fun w' => order_fields_any K w'
  obtain ⟨kb, hkb⟩ : ∃ k, k = kindB K := ⟨_, rfl⟩
  obtain ⟨q1, h1⟩ : ∃ q, q = bKey K key := ⟨_, rfl⟩
  obtain ⟨q2, h2⟩ : ∃ q, q = bVal K val := ⟨_, rfl⟩
  obtain ⟨q3, h3⟩ : ∃ q, q = bN K n := ⟨_, rfl⟩
  obtain ⟨q4, h4⟩ : ∃ q, q = bLo K lo := ⟨_, rfl⟩
  obtain ⟨q5, h5⟩ : ∃ q, q = bLo K hi := ⟨_, rfl⟩
  rw [← hkb, ← h1, ← h2, ← h3, ← h4, ← h5] at hf
  rw [← h1, ← h2, ← h3, ← h4, ← h5] at hB
  rw [← hkb] at hF
  obtain ⟨c, hc⟩ : ∃ c, c = ordSame K K q1 q2 q3 q4 q5 key val n lo hi := ⟨_, rfl⟩
  have hcmp := fun w' => ordSame_run K K q1 q2 q4 q5 key val lo hi q3 n w'
  rw [← hc] at hf hcmp
  have HBARE := hid hB; have HFLD := hid hF; have HF := hid hf
  clear hc h1 h2 h3 h4 h5 hkb hB hF hf
  go_enter Tryz.func26, Tryz.ntmps26
  go_wp2_with (with_reducible refine at_op (.box 37 (.tmp 0)) rfl ?_; refine Stopped.go ?_)
  refine Stopped.mk (wpList_box rfl #[.int .i64 K, .string key, .string val, .int .u64 n, .string lo, .string hi] 37 (by go_simp) ?_)
  intro g w1 hg Bg hb1 hz
  have c0 : w1.cell? ⟨g, 0, none⟩ = some (.int .i64 K) := Bg.at rfl
  have HBG := hid Bg; have HB1 := hid hb1
  clear hg hz Bg hb1
  go_wp2_with fail
  refine (HFLD.out _).mono ?_; rintro e w2 ⟨v, rfl, hb2⟩
  have HBG2 := hid (HBG.out.belowS hb2); have HB2 := hid (bt HB1.out hb2)
  clear c0 hb2 HBG HB1 HFLD
  go_wp2_with fail
  have b0 := HBG2.out.at (i := 0) rfl
  have b1 := HBG2.out.at (i := 1) rfl
  have b2 := HBG2.out.at (i := 2) rfl
  have b3 := HBG2.out.at (i := 3) rfl
  have b4 := HBG2.out.at (i := 4) rfl
  have b5 := HBG2.out.at (i := 5) rfl
  have x0 : ∀ (dd : Nat) (os : Array Obj), (grow (redrawn w2 dd) os).cell? ⟨g, 0, none⟩ = some (.int .i64 K) := fun dd os => cell_regrown b0 dd os
  have x1 : ∀ (dd : Nat) (os : Array Obj), (grow (redrawn w2 dd) os).cell? ⟨g, 1, none⟩ = some (.string key) := fun dd os => cell_regrown b1 dd os
  have x2 : ∀ (dd : Nat) (os : Array Obj), (grow (redrawn w2 dd) os).cell? ⟨g, 2, none⟩ = some (.string val) := fun dd os => cell_regrown b2 dd os
  have x3 : ∀ (dd : Nat) (os : Array Obj), (grow (redrawn w2 dd) os).cell? ⟨g, 3, none⟩ = some (.int .u64 n) := fun dd os => cell_regrown b3 dd os
  have x4 : ∀ (dd : Nat) (os : Array Obj), (grow (redrawn w2 dd) os).cell? ⟨g, 4, none⟩ = some (.string lo) := fun dd os => cell_regrown b4 dd os
  have x5 : ∀ (dd : Nat) (os : Array Obj), (grow (redrawn w2 dd) os).cell? ⟨g, 5, none⟩ = some (.string hi) := fun dd os => cell_regrown b5 dd os
  have KB := hid (fun (dd : Nat) (os : Array Obj) => HBARE.out (grow (redrawn w2 dd) os))
  clear b0 b1 b2 b3 b4 b5 HBARE
  cases kb with
  | false =>
    refine wp_region_quiet_tail 16 (C := fun w' => ∃ p : Regrown, w' = grow (redrawn w2 p.d) p.os) (by kernel_rfl) (by kernel_rfl) (regrown_of_below (RowKit.Below.refl _ w2).drew) ?_
    simp only [List.take_succ_cons, List.take_zero, List.drop_succ_cons, List.drop_zero]
    repeat (go_big_quiet_step (first | with_reducible exact Calls.regrown_of (KB.out _ _)))
    refine wpQuiet_nil ?_
    intro _ hw'
    obtain ⟨⟨dq, osq⟩, hw''⟩ := hw'
    subst hw''
    have HE := hid (bt HB2.out (below_regrown w2 dq osq))
    clear x0 x1 x2 x3 x4 x5 KB
    generalize grow (redrawn w2 dq) osq = w6 at HE ⊢
    have hf := HF.out
    simp only [Bool.false_and] at hf
    subst hf
    clear HF
    go_wp2_with fail
    go_ret
    exact ⟨rfl, HE.out⟩
  | true =>
    cases c with
    | false =>
      refine wp_region_quiet_tail 16 (C := fun w' => ∃ p : Regrown, w' = grow (redrawn w2 p.d) p.os) (by kernel_rfl) (by kernel_rfl) (regrown_of_below (RowKit.Below.refl _ w2).drew) ?_
      simp only [List.take_succ_cons, List.take_zero, List.drop_succ_cons, List.drop_zero]
      repeat (go_big_quiet_step (first | with_reducible exact Calls.regrown_of (KB.out _ _)))
      refine wpQuiet_nil ?_
      intro _ hw'
      obtain ⟨⟨dq, osq⟩, hw''⟩ := hw'
      subst hw''
      have HE := hid (bt HB2.out (below_regrown w2 dq osq))
      clear x0 x1 x2 x3 x4 x5 KB
      generalize grow (redrawn w2 dq) osq = w6 at HE ⊢
      have hf := HF.out
      simp only [Bool.and_false, Bool.false_and] at hf
      subst hf
      clear HF
      go_wp2_with fail
      go_ret
      exact ⟨rfl, HE.out⟩
    | true =>
      refine wp_region_quiet_tail 16 (C := fun w' => ∃ p : Regrown, w' = grow (redrawn w2 p.d) p.os) (by kernel_rfl) (by kernel_rfl) (regrown_of_below (RowKit.Below.refl _ w2).drew) ?_
      simp only [List.take_succ_cons, List.take_zero, List.drop_succ_cons, List.drop_zero]
      repeat (go_big_quiet_step (first | with_reducible exact Calls.regrown_of (KB.out _ _)))
      refine wpQuiet_nil ?_
      intro _ hw'
      obtain ⟨⟨dq, osq⟩, hw''⟩ := hw'
      subst hw''
      have HE := hid (bt HB2.out (below_regrown w2 dq osq))
      clear x0 x1 x2 x3 x4 x5 KB
      generalize grow (redrawn w2 dq) osq = w6 at HE ⊢
      go_wp2_with fail
      have hA := below_alloc w6 (.cells #[.string key, .string val, .string lo, .string hi] 9)
      have hrow := row_new w6 #[.string key, .string val, .string lo, .string hi] 9
      refine (ContainsFunc_strs 46 #[] (fun s => decide ((255 : Int) < (s.size : Int))) (enters_of Tryz.func46 (by kernel_rfl) rfl) _ 4 [key, val, lo, hi] (by simp) _ hrow (fun s => (order_isLong_any s _).mono (fun e w' h => ⟨h.1, h.2.symm⟩))).mono ?_
      rintro e w7 ⟨rfl, rfl⟩
      obtain ⟨l, hl⟩ : ∃ l, l = ([key, val, lo, hi].any fun s => decide ((255 : Int) < (s.size : Int))) := ⟨_, rfl⟩
      rw [← hl]
      have hf := HF.out
      rw [← hl] at hf
      simp only [Bool.and_true, Bool.true_and] at hf
      subst hf
      have HE2 := hid (bt HE.out hA)
      clear HF hl hA hrow
      go_wp2_with fail
      go_ret
      exact ⟨rfl, HE2.out⟩
end Go.Proofs.YthhmdmfbaooldaaGreatDoor
