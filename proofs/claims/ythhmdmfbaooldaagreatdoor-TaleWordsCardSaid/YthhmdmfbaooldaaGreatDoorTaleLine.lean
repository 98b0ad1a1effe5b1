/-
  tale.words, tale.Line, walked.
-/
import Derived.Test.YthhmdmfbaooldaaGreatDoorTaleRow
import Derived.Test.YthhmdmfbaooldaaGreatDoorTaleIs
import Derived.Test.YthhmdmfbaooldaaGreatDoorQuietTailM
namespace Go.Proofs.YthhmdmfbaooldaaGreatDoor
open Go.RowKit Go.Sort

def wB (l : List UInt8) : ByteArray := ⟨(wordT l).toArray⟩
def dB (n : Nat) : ByteArray := ⟨(Lib.decDigits n).toArray⟩
/-- an order's words -/
def wordsB (K : Int) (key val : ByteArray) (n : Nat) (lo hi : ByteArray) : List ByteArray :=
  nameB K :: (if K = 1 then [wB key.data.toList, wB val.data.toList] else if K = 2 ∨ K = 4 then [wB key.data.toList] else if K = 3 then [wB key.data.toList, dB n] else if K = 5 then [wB lo.data.toList, wB hi.data.toList] else [])

set_option maxHeartbeats 16000000 in
set_option maxRecDepth 100000 in
theorem tale_words_any (K : Int) (key val lo hi : ByteArray) (n : Nat) (hK : kindB K = true) (s1 : key.size ≤ 1000) (s2 : val.size ≤ 1000) (s3 : lo.size ≤ 1000) (s4 : hi.size ≤ 1000) (hn : n < 18446744073709551616) (w : World) (hL : Lib28 w) :
    Calls Tryz.prog 35 #[.agg #[.int .i64 K, .string key, .string val, .int .u64 n, .string lo, .string hi]] w (WordsR (wordsB K key val n lo hi) w) := by
  have hu := Tryz.underlying37
  have HL := hid hL; clear hL
  obtain ⟨nm, hnm⟩ : ∃ r, r = nameB K := ⟨_, rfl⟩
  obtain ⟨k1, hk1⟩ : ∃ r, r = wB key.data.toList := ⟨_, rfl⟩
  obtain ⟨k2, hk2⟩ : ∃ r, r = wB val.data.toList := ⟨_, rfl⟩
  obtain ⟨k3, hk3⟩ : ∃ r, r = dB n := ⟨_, rfl⟩
  obtain ⟨k4, hk4⟩ : ∃ r, r = wB lo.data.toList := ⟨_, rfl⟩
  obtain ⟨k5, hk5⟩ : ∃ r, r = wB hi.data.toList := ⟨_, rfl⟩
  have CN := fun w' => tale_name_any K w'
  have C1 := fun w' => tale_Word_any key (by omega) w'
  have C2 := fun w' => tale_Word_any val (by omega) w'
  have C3 := fun w' hw' => FormatUint_any n hn w' hw'
  have C4 := fun w' => tale_Word_any lo (by omega) w'
  have C5 := fun w' => tale_Word_any hi (by omega) w'
  obtain ⟨W, hW⟩ : ∃ W, W = wordsB K key val n lo hi := ⟨_, rfl⟩
  rw [← hW]
  unfold wordsB at hW
  change ∀ w', Calls _ _ _ w' fun e w'' => e = .returned (.string (wB key.data.toList)) ∧ _ at C1
  change ∀ w', Calls _ _ _ w' fun e w'' => e = .returned (.string (wB val.data.toList)) ∧ _ at C2
  change ∀ w' _, Calls _ _ _ w' fun e w'' => e = .returned (.string (dB n)) ∧ _ at C3
  change ∀ w', Calls _ _ _ w' fun e w'' => e = .returned (.string (wB lo.data.toList)) ∧ _ at C4
  change ∀ w', Calls _ _ _ w' fun e w'' => e = .returned (.string (wB hi.data.toList)) ∧ _ at C5
  rw [← hnm] at CN hW
  rw [← hk1] at C1 hW
  rw [← hk2] at C2 hW
  rw [← hk3] at C3 hW
  rw [← hk4] at C4 hW
  rw [← hk5] at C5 hW
  have D0 := hid CN; have D1 := hid C1; have D2 := hid C2; have D3 := hid C3; have D4 := hid C4; have D5 := hid C5; have HW := hid hW
  clear CN C1 C2 C3 C4 C5 hnm hk1 hk2 hk3 hk4 hk5 hW s1 s2 s3 s4
  have hKd : 1 ≤ K ∧ K ≤ 8 := by unfold kindB at hK; exact of_decide_eq_true hK
  have hcs : K = 1 ∨ K = 2 ∨ K = 3 ∨ K = 4 ∨ K = 5 ∨ K = 6 ∨ K = 7 ∨ K = 8 := by omega
  clear hK hKd
  go_enter Tryz.func35, Tryz.ntmps35
  go_wp2_with (with_reducible refine at_op (.box 37 (.tmp 0)) rfl ?_; refine Stopped.go ?_)
  refine Stopped.mk (wpList_box rfl #[.int .i64 K, .string key, .string val, .int .u64 n, .string lo, .string hi] 37 (by go_simp) ?_)
  intro g w1 hg Bg hb1 hz
  have c0 : w1.cell? ⟨g, 0, none⟩ = some (.int .i64 K) := Bg.at rfl
  have HBG := hid Bg; have HB1 := hid hb1
  clear hg hz Bg hb1
  go_wp2_with fail
  refine (D0.out _).mono ?_; rintro e w2 ⟨rfl, rfl⟩
  go_wp2_with (with_reducible refine at_op (.fieldAddr 37 (.tmp 1) 0) rfl ?_; refine Stopped.go ?_)
  have hA := below_alloc w2 (.cells #[.string nm] 9)
  have hR := WRow.new HB1.out #[.string nm] [nm] rfl (by simp) (by simp)
  have hG := HBG.out.alloc (.cells #[.string nm] 9)
  change WRow w _ (.slice (some ⟨w2.heap.size, 0, none⟩) 1 1) [nm] at hR
  generalize hV : Value.slice (some ⟨w2.heap.size, 0, none⟩) 1 1 = V at hR ⊢
  clear c0 hV HBG HB1 D0 hA
  generalize w2.alloc (.cells #[.string nm] 9) = w3 at hR hG ⊢
  clear w2
  have HBG := hid hG; have HR := hid hR; have HL3 := hid (HL.out.below hR.2.1)
  have c0 : w3.cell? ⟨g, 0, none⟩ = some (.int .i64 K) := hG.at rfl
  clear hG hR HL
  refine Stopped.mk ?_
  have x0 : ∀ (dd : Nat) (os : Array Obj), (grow (redrawn w3 dd) os).cell? ⟨g, 0, none⟩ = some (.int .i64 K) := fun dd os => cell_regrown (HBG.out.at (i := 0) rfl) dd os
  have x1 : ∀ (dd : Nat) (os : Array Obj), (grow (redrawn w3 dd) os).cell? ⟨g, 1, none⟩ = some (.string key) := fun dd os => cell_regrown (HBG.out.at (i := 1) rfl) dd os
  have x2 : ∀ (dd : Nat) (os : Array Obj), (grow (redrawn w3 dd) os).cell? ⟨g, 2, none⟩ = some (.string val) := fun dd os => cell_regrown (HBG.out.at (i := 2) rfl) dd os
  have x3 : ∀ (dd : Nat) (os : Array Obj), (grow (redrawn w3 dd) os).cell? ⟨g, 3, none⟩ = some (.int .u64 n) := fun dd os => cell_regrown (HBG.out.at (i := 3) rfl) dd os
  have x4 : ∀ (dd : Nat) (os : Array Obj), (grow (redrawn w3 dd) os).cell? ⟨g, 4, none⟩ = some (.string lo) := fun dd os => cell_regrown (HBG.out.at (i := 4) rfl) dd os
  have x5 : ∀ (dd : Nat) (os : Array Obj), (grow (redrawn w3 dd) os).cell? ⟨g, 5, none⟩ = some (.string hi) := fun dd os => cell_regrown (HBG.out.at (i := 5) rfl) dd os
  rcases hcs with rfl | rfl | rfl | rfl | rfl | rfl | rfl | rfl
  · have E1 := hid (fun (dd : Nat) (os : Array Obj) => D1.out (grow (redrawn w3 dd) os))
    have E2 := hid (fun (dd : Nat) (os : Array Obj) => D2.out (grow (redrawn w3 dd) os))
    clear D1 D2 D3 D4 D5
    go_wp2_with fail
    clear c0
    refine wp_region_any (by kernel_rfl) ?_
    refine wpAny_take (i := 0) (v := V) (fuel := 9) rfl (by kernel_rfl) (by kernel_rfl) (by kernel_rfl) (fun _ _ _ h => h) (Or.inl ⟨by rfl, fun w => rfl⟩) ?_
    refine wpAny_quiet_tail 1 7 (C := fun w' => ∃ p : Regrown, w' = grow (redrawn w3 p.d) p.os) rfl (by kernel_rfl) (regrown_of_below (RowKit.Below.refl _ w3).drew) ?_
    simp only [List.take_succ_cons, List.take_zero, List.drop_succ_cons, List.drop_zero]
    simp [Act.put]
    repeat (go_big_quiet_step (first | with_reducible exact Calls.regrown_of (E1.out _ _) | with_reducible exact Calls.regrown_of (E2.out _ _)))
    refine wpQuiet_nil ?_
    rintro ⟨dq, osq⟩
    have HR4 := hid (HR.out.below (below_regrown w3 dq osq))
    clear x0 x1 x2 x3 x4 x5 E1 E2 HR HBG HL3
    generalize grow (redrawn w3 dq) osq = w4 at HR4 ⊢
    go_wp2_with (with_reducible refine at_op (.call { callee := .builtin .append, args := #[.tmp 12, .tmp 19], argTypes := #[78, 78] }) rfl ?_; refine Stopped.go ?_)
    refine Stopped.mk (wpList_more rfl (.tmp 12) (.tmp 19) rfl [k1, k2] rfl (HR4.out.below (below_alloc w4 _)) _ 2 2 rfl rfl (row_new w4 #[.string k1, .string k2] 9) (by simp) ?_)
    intro V5 w5 hr5
    have HE : Hid (WRow w w5 V5 W) := by rw [HW.out]; exact hr5
    have hW0 : 0 < W.length := by rw [HW.out]; simp
    clear hr5 HR4 HW
    obtain ⟨b, cap, rfl, he⟩ := HE.out.parts hW0
    have HF := hid he
    clear he hW0 HE
    go_wp2_with fail
    go_ret
    exact ⟨b, cap, rfl, HF.out⟩
  · have E1 := hid (D1.out w3)
    clear D1 D2 D3 D4 D5 x0 x1 x2 x3 x4 x5
    have c1 : w3.cell? ⟨g, 1, none⟩ = some (.string key) := HBG.out.at (i := 1) rfl
    go_wp2_with fail
    refine E1.out.mono ?_; rintro e w4 ⟨rfl, hb4⟩
    have HR4 := hid (HR.out.below hb4)
    clear hb4 c0 c1 E1 HR HBG HL3
    go_wp2_with (with_reducible refine at_op (.call { callee := .builtin .append, args := #[.tmp 24, .tmp 28], argTypes := #[78, 78] }) rfl ?_; refine Stopped.go ?_)
    refine Stopped.mk (wpList_more rfl (.tmp 24) (.tmp 28) rfl [k1] rfl (HR4.out.below (below_alloc w4 _)) _ 1 1 rfl rfl (row_new w4 #[.string k1] 9) (by simp) ?_)
    intro V5 w5 hr5
    have HE : Hid (WRow w w5 V5 W) := by rw [HW.out]; exact hr5
    have hW0 : 0 < W.length := by rw [HW.out]; simp
    clear hr5 HR4 HW
    obtain ⟨b, cap, rfl, he⟩ := HE.out.parts hW0
    have HF := hid he
    clear he hW0 HE
    go_wp2_with fail
    go_ret
    exact ⟨b, cap, rfl, HF.out⟩
  · have E1 := hid (fun (dd : Nat) (os : Array Obj) => D1.out (grow (redrawn w3 dd) os))
    have E2 := hid (fun (dd : Nat) (os : Array Obj) => D3.out (grow (redrawn w3 dd) os) (HL3.out.below (below_regrown w3 dd os)))
    clear D1 D2 D3 D4 D5
    go_wp2_with fail
    clear c0
    refine wp_region_any (by kernel_rfl) ?_
    refine wpAny_take (i := 0) (v := V) (fuel := 9) rfl (by kernel_rfl) (by kernel_rfl) (by kernel_rfl) (fun _ _ _ h => h) (Or.inl ⟨by rfl, fun w => rfl⟩) ?_
    refine wpAny_quiet_tail 1 7 (C := fun w' => ∃ p : Regrown, w' = grow (redrawn w3 p.d) p.os) rfl (by kernel_rfl) (regrown_of_below (RowKit.Below.refl _ w3).drew) ?_
    simp only [List.take_succ_cons, List.take_zero, List.drop_succ_cons, List.drop_zero]
    simp [Act.put]
    repeat (go_big_quiet_step (first | with_reducible exact Calls.regrown_of (E1.out _ _) | with_reducible exact Calls.regrown_of (E2.out _ _)))
    refine wpQuiet_nil ?_
    rintro ⟨dq, osq⟩
    have HR4 := hid (HR.out.below (below_regrown w3 dq osq))
    clear x0 x1 x2 x3 x4 x5 E1 E2 HR HBG HL3
    generalize grow (redrawn w3 dq) osq = w4 at HR4 ⊢
    go_wp2_with (with_reducible refine at_op (.call { callee := .builtin .append, args := #[.tmp 32, .tmp 39], argTypes := #[78, 78] }) rfl ?_; refine Stopped.go ?_)
    refine Stopped.mk (wpList_more rfl (.tmp 32) (.tmp 39) rfl [k1, k3] rfl (HR4.out.below (below_alloc w4 _)) _ 2 2 rfl rfl (row_new w4 #[.string k1, .string k3] 9) (by simp) ?_)
    intro V5 w5 hr5
    have HE : Hid (WRow w w5 V5 W) := by rw [HW.out]; exact hr5
    have hW0 : 0 < W.length := by rw [HW.out]; simp
    clear hr5 HR4 HW
    obtain ⟨b, cap, rfl, he⟩ := HE.out.parts hW0
    have HF := hid he
    clear he hW0 HE
    go_wp2_with fail
    go_ret
    exact ⟨b, cap, rfl, HF.out⟩
  · have E1 := hid (D1.out w3)
    clear D1 D2 D3 D4 D5 x0 x1 x2 x3 x4 x5
    have c1 : w3.cell? ⟨g, 1, none⟩ = some (.string key) := HBG.out.at (i := 1) rfl
    go_wp2_with fail
    refine E1.out.mono ?_; rintro e w4 ⟨rfl, hb4⟩
    have HR4 := hid (HR.out.below hb4)
    clear hb4 c0 c1 E1 HR HBG HL3
    go_wp2_with (with_reducible refine at_op (.call { callee := .builtin .append, args := #[.tmp 24, .tmp 28], argTypes := #[78, 78] }) rfl ?_; refine Stopped.go ?_)
    refine Stopped.mk (wpList_more rfl (.tmp 24) (.tmp 28) rfl [k1] rfl (HR4.out.below (below_alloc w4 _)) _ 1 1 rfl rfl (row_new w4 #[.string k1] 9) (by simp) ?_)
    intro V5 w5 hr5
    have HE : Hid (WRow w w5 V5 W) := by rw [HW.out]; exact hr5
    have hW0 : 0 < W.length := by rw [HW.out]; simp
    clear hr5 HR4 HW
    obtain ⟨b, cap, rfl, he⟩ := HE.out.parts hW0
    have HF := hid he
    clear he hW0 HE
    go_wp2_with fail
    go_ret
    exact ⟨b, cap, rfl, HF.out⟩
  · have E1 := hid (fun (dd : Nat) (os : Array Obj) => D4.out (grow (redrawn w3 dd) os))
    have E2 := hid (fun (dd : Nat) (os : Array Obj) => D5.out (grow (redrawn w3 dd) os))
    clear D1 D2 D3 D4 D5
    go_wp2_with fail
    clear c0
    refine wp_region_any (by kernel_rfl) ?_
    refine wpAny_take (i := 0) (v := V) (fuel := 9) rfl (by kernel_rfl) (by kernel_rfl) (by kernel_rfl) (fun _ _ _ h => h) (Or.inl ⟨by rfl, fun w => rfl⟩) ?_
    refine wpAny_quiet_tail 1 7 (C := fun w' => ∃ p : Regrown, w' = grow (redrawn w3 p.d) p.os) rfl (by kernel_rfl) (regrown_of_below (RowKit.Below.refl _ w3).drew) ?_
    simp only [List.take_succ_cons, List.take_zero, List.drop_succ_cons, List.drop_zero]
    simp [Act.put]
    repeat (go_big_quiet_step (first | with_reducible exact Calls.regrown_of (E1.out _ _) | with_reducible exact Calls.regrown_of (E2.out _ _)))
    refine wpQuiet_nil ?_
    rintro ⟨dq, osq⟩
    have HR4 := hid (HR.out.below (below_regrown w3 dq osq))
    clear x0 x1 x2 x3 x4 x5 E1 E2 HR HBG HL3
    generalize grow (redrawn w3 dq) osq = w4 at HR4 ⊢
    go_wp2_with (with_reducible refine at_op (.call { callee := .builtin .append, args := #[.tmp 43, .tmp 50], argTypes := #[78, 78] }) rfl ?_; refine Stopped.go ?_)
    refine Stopped.mk (wpList_more rfl (.tmp 43) (.tmp 50) rfl [k4, k5] rfl (HR4.out.below (below_alloc w4 _)) _ 2 2 rfl rfl (row_new w4 #[.string k4, .string k5] 9) (by simp) ?_)
    intro V5 w5 hr5
    have HE : Hid (WRow w w5 V5 W) := by rw [HW.out]; exact hr5
    have hW0 : 0 < W.length := by rw [HW.out]; simp
    clear hr5 HR4 HW
    obtain ⟨b, cap, rfl, he⟩ := HE.out.parts hW0
    have HF := hid he
    clear he hW0 HE
    go_wp2_with fail
    go_ret
    exact ⟨b, cap, rfl, HF.out⟩
  iterate 3
    · have HE : Hid (WRow w w3 V W) := by rw [HW.out]; exact HR.out
      have hW0 : 0 < W.length := by rw [HW.out]; simp
      obtain ⟨b, cap, rfl, he⟩ := HE.out.parts hW0
      have HF := hid he
      clear he hW0 HE HR HW D1 D2 D3 D4 D5 x0 x1 x2 x3 x4 x5 HBG HL3
      go_wp2_with fail
      go_ret
      exact ⟨b, cap, rfl, HF.out⟩

theorem ordB_parts {K : Int} {key val lo hi : ByteArray} {n : Int} (h : ordB K key val n lo hi = true) :
    kindB K = true ∧ (bKey K key = key ∧ bVal K val = val ∧ bN K n = n ∧ bLo K lo = lo ∧ bLo K hi = hi) ∧ key.size ≤ 255 ∧ val.size ≤ 255 ∧ lo.size ≤ 255 ∧ hi.size ≤ 255 := by
  unfold ordB ordSame at h
  simp only [Bool.and_eq_true, decide_eq_true_eq, Bool.not_eq_true', List.any_cons, List.any_nil, Bool.or_false, Bool.or_eq_false_iff, decide_eq_false_iff_not] at h
  obtain ⟨⟨h1, _, h2⟩, h3, h4, h5, h6⟩ := h
  exact ⟨h1, h2, by omega, by omega, by omega, by omega⟩
/-- an order's line -/
def lineB (K : Int) (key val : ByteArray) (n : Nat) (lo hi : ByteArray) : ByteArray := joinB (wordsB K key val n lo hi)
theorem wB_len (s : ByteArray) (h : s.size ≤ 1000) : (wB s.data.toList).data.toList.length ≤ 4000 := by
  have h1 := wordL_len s.data.toList
  have h2 : s.data.toList.length = s.size := by simp
  show (wordT s.data.toList).length ≤ 4000
  unfold wordT
  split
  · simp
  · omega
theorem dec_len (n : Nat) (h : n < 18446744073709551616) : (Lib.decDigits n).length ≤ 20 := by
  rw [Lib.decDigits_length]
  by_cases h0 : 1 ≤ n
  · have := Lib.numDigits_eq n h0 h
    split at this <;> omega
  · obtain rfl : n = 0 := by omega
    rw [Lib.nDigits_small (by decide)]; decide
theorem name_len (K : Int) : (nameB K).data.toList.length ≤ 10 := by
  show (nameL K).length ≤ 10
  unfold nameL
  repeat (split; decide)
  decide
theorem words_len {K : Int} {key val lo hi : ByteArray} {n : Nat} (s1 : key.size ≤ 1000) (s2 : val.size ≤ 1000) (s3 : lo.size ≤ 1000) (s4 : hi.size ≤ 1000) (hn : n < 18446744073709551616) :
    (wordsB K key val n lo hi).length ≤ 3 ∧ ∀ x ∈ (wordsB K key val n lo hi).map (·.data.toList), x.length ≤ 4000 := by
  have h0 := name_len K
  have h1 := wB_len key s1
  have h2 := wB_len val s2
  have h3 := wB_len lo s3
  have h4 := wB_len hi s4
  have h5 : (dB n).data.toList.length ≤ 20 := dec_len n hn
  unfold wordsB
  refine ⟨by split <;> (try split) <;> (try split) <;> (try split) <;> simp, fun x hx => ?_⟩
  simp only [List.map_cons, List.mem_cons] at hx
  rcases hx with rfl | hx
  · omega
  · split at hx
    · simp only [List.map_cons, List.map_nil, List.mem_cons, List.not_mem_nil, or_false] at hx
      rcases hx with rfl | rfl <;> omega
    · split at hx
      · simp only [List.map_cons, List.map_nil, List.mem_cons, List.not_mem_nil, or_false] at hx
        subst hx; omega
      · split at hx
        · simp only [List.map_cons, List.map_nil, List.mem_cons, List.not_mem_nil, or_false] at hx
          rcases hx with rfl | rfl <;> omega
        · split at hx
          · simp only [List.map_cons, List.map_nil, List.mem_cons, List.not_mem_nil, or_false] at hx
            rcases hx with rfl | rfl <;> omega
          · simp at hx
theorem line_len {K : Int} {key val lo hi : ByteArray} {n : Nat} (s1 : key.size ≤ 1000) (s2 : val.size ≤ 1000) (s3 : lo.size ≤ 1000) (s4 : hi.size ≤ 1000) (hn : n < 18446744073709551616) : (lineB K key val n lo hi).size ≤ 20000 := by
  obtain ⟨h1, h2⟩ := words_len (K := K) s1 s2 s3 s4 hn
  have h3 := join_len _ 4000 h2
  rw [List.length_map] at h3
  have h4 : (wordsB K key val n lo hi).length * (4000 + 1) ≤ 3 * 4001 := Nat.mul_le_mul_right _ h1
  show (Lib.join _ [32]).toArray.size ≤ _
  rw [List.size_toArray]; omega

set_option maxHeartbeats 4000000 in
set_option maxRecDepth 100000 in
theorem tale_Line_any (K : Int) (key val lo hi : ByteArray) (n : Nat) (hn : n < 18446744073709551616) (w : World) (hL : Lib28 w) :
    Calls Tryz.prog 18 #[.agg #[.int .i64 K, .string key, .string val, .int .u64 n, .string lo, .string hi]] w fun e w' =>
      e = .returned (.tuple #[.string (if ordB K key val n lo hi = true then lineB K key val n lo hi else ⟨#[]⟩), .int .i64 (if ordB K key val n lo hi = true then 0 else 1)]) ∧ Below w.heap.size w w' := by
  have hu := Tryz.underlying37
  have HL := hid hL; clear hL
  have CI := fun w' => order_Is_any K key val lo hi n w'
  cases ho : ordB K key val n lo hi with
  | false =>
    rw [ho] at CI
    have HI := hid CI
    simp only [Bool.false_eq_true, if_false]
    clear CI ho
    go_enter Tryz.func18, Tryz.ntmps18
    go_wp2_with (with_reducible refine at_op (.box 37 (.tmp 0)) rfl ?_; refine Stopped.go ?_)
    refine Stopped.mk (wpList_box rfl #[.int .i64 K, .string key, .string val, .int .u64 n, .string lo, .string hi] 37 (by go_simp) ?_)
    intro g w1 hg Bg hb1 hz
    have c0 : w1.cell? ⟨g, 0, none⟩ = some (.int .i64 K) := Bg.at rfl
    have c1 : w1.cell? ⟨g, 1, none⟩ = some (.string key) := Bg.at rfl
    have c2 : w1.cell? ⟨g, 2, none⟩ = some (.string val) := Bg.at rfl
    have c3 : w1.cell? ⟨g, 3, none⟩ = some (.int .u64 n) := Bg.at rfl
    have c4 : w1.cell? ⟨g, 4, none⟩ = some (.string lo) := Bg.at rfl
    have c5 : w1.cell? ⟨g, 5, none⟩ = some (.string hi) := Bg.at rfl
    have HB1 := hid hb1
    clear hg hz Bg hb1
    go_wp2_with fail
    refine (HI.out _).mono ?_; rintro e w2 ⟨rfl, hb2⟩
    have HB2 := hid (bt HB1.out hb2)
    clear hb2 c0 c1 c2 c3 c4 c5 HB1
    go_wp2_with fail
    go_ret2
    exact ⟨rfl, HB2.out⟩
  | true =>
    obtain ⟨hk, _, s1, s2, s3, s4⟩ := ordB_parts ho
    have CW := fun w' hw' => tale_words_any K key val lo hi n hk (by omega) (by omega) (by omega) (by omega) hn w' hw'
    have hlen := words_len (K := K) (key := key) (val := val) (lo := lo) (hi := hi) (n := n) (by omega) (by omega) (by omega) (by omega) hn
    obtain ⟨W, hW⟩ : ∃ W, W = wordsB K key val n lo hi := ⟨_, rfl⟩
    have hline : lineB K key val n lo hi = joinB W := by rw [hW]; rfl
    rw [hline]
    rw [← hW] at CW hlen
    rw [ho] at CI
    have HI := hid CI; have HW := hid CW; have HLEN := hid hlen
    simp only [if_true]
    clear CI ho hk s1 s2 s3 s4 hline hW CW hlen
    go_enter Tryz.func18, Tryz.ntmps18
    go_wp2_with (with_reducible refine at_op (.box 37 (.tmp 0)) rfl ?_; refine Stopped.go ?_)
    refine Stopped.mk (wpList_box rfl #[.int .i64 K, .string key, .string val, .int .u64 n, .string lo, .string hi] 37 (by go_simp) ?_)
    intro g w1 hg Bg hb1 hz
    have c0 : w1.cell? ⟨g, 0, none⟩ = some (.int .i64 K) := Bg.at rfl
    have c1 : w1.cell? ⟨g, 1, none⟩ = some (.string key) := Bg.at rfl
    have c2 : w1.cell? ⟨g, 2, none⟩ = some (.string val) := Bg.at rfl
    have c3 : w1.cell? ⟨g, 3, none⟩ = some (.int .u64 n) := Bg.at rfl
    have c4 : w1.cell? ⟨g, 4, none⟩ = some (.string lo) := Bg.at rfl
    have c5 : w1.cell? ⟨g, 5, none⟩ = some (.string hi) := Bg.at rfl
    have HB1 := hid hb1
    have HBG := hid Bg
    clear hg hz Bg hb1
    go_wp2_with fail
    refine (HI.out _).mono ?_; rintro e w2 ⟨rfl, hb2⟩
    have HB2 := hid (bt HB1.out hb2)
    have Bg2 := HBG.out.belowS hb2
    clear hb2 c0 c1 c2 c3 c4 c5 HB1 HBG
    have c0 : w2.cell? ⟨g, 0, none⟩ = some (.int .i64 K) := Bg2.at rfl
    have c1 : w2.cell? ⟨g, 1, none⟩ = some (.string key) := Bg2.at rfl
    have c2 : w2.cell? ⟨g, 2, none⟩ = some (.string val) := Bg2.at rfl
    have c3 : w2.cell? ⟨g, 3, none⟩ = some (.int .u64 n) := Bg2.at rfl
    have c4 : w2.cell? ⟨g, 4, none⟩ = some (.string lo) := Bg2.at rfl
    have c5 : w2.cell? ⟨g, 5, none⟩ = some (.string hi) := Bg2.at rfl
    clear Bg2
    go_wp2_with fail
    refine (HW.out _ (HL.out.below HB2.out)).mono ?_
    rintro e w3 ⟨b, cap, rfl, hcap, hbl, hcells, hb3⟩
    have HB3 := hid (bt HB2.out hb3)
    have HJ := hid (Join_any b cap W w3 hcells hbl hcap (by have := HLEN.out.1; omega) (by
      have h3 := join_len _ 4000 HLEN.out.2
      rw [List.length_map] at h3
      have h4 : W.length * (4000 + 1) ≤ 3 * 4001 := Nat.mul_le_mul_right _ HLEN.out.1
      omega))
    clear hb3 c0 c1 c2 c3 c4 c5 hcap hbl hcells HB2
    go_wp2_with fail
    refine HJ.out.mono ?_; rintro e w4 ⟨rfl, hb4⟩
    have HB4 := hid (bt HB3.out hb4)
    clear hb4 HB3 HJ
    go_wp2_with fail
    go_ret2
    exact ⟨rfl, HB4.out⟩
end Go.Proofs.YthhmdmfbaooldaaGreatDoor
