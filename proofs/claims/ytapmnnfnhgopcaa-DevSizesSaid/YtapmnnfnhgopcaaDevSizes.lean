/-
  DevSizes, walked: of every number, and of all bytes, whether a device can be; of nil there is nothing.
-/
import Derived.Test.YtapmnnfnhgopcaaDevLaws
namespace Go.Proofs.Ytapmnnfnhgopcaa
open Go.RowKit

set_option maxRecDepth 100000
theorem dev_Cut_nil (w : World) : Calls Try.prog 31 #[.pointer none, .slice none 0 0] w fun e w' => e = .returned (.tuple #[]) ∧ w = w' := by
  go_enter Try.func31, Try.ntmps31
  go_wp2_with fail
  (try simp only [Exit.inBlock, Exit.then])
  exact bodyPost_ret (results_none rfl _ _ _) rfl ⟨rfl, rfl⟩
theorem dev_Come_nil (w : World) : Calls Try.prog 32 #[.pointer none] w fun e w' => e = .returned (.tuple #[]) ∧ w = w' := by
  go_enter Try.func32, Try.ntmps32
  go_wp2_with fail
  go_end0
  exact ⟨rfl, rfl⟩
theorem dev_Fuse_nil (w : World) (x : Int) : Calls Try.prog 27 #[.pointer none, .int .i64 x, .slice none 0 0] w fun e w' => e = .returned (.tuple #[]) ∧ w = w' := by
  go_enter Try.func27, Try.ntmps27
  go_wp2_with fail
  go_end0
  exact ⟨rfl, rfl⟩
theorem dev_Read_nil (w : World) (x : Int) : Calls Try.prog 33 #[.pointer none, .int .i64 x] w fun e w' => e = .returned (.tuple #[.string ⟨#[]⟩, .int .i64 2]) ∧ w = w' := by
  go_enter Try.func33, Try.ntmps33
  go_wp2_with fail
  go_ret2
  exact ⟨rfl, rfl⟩
theorem dev_Write_nil (w : World) (x : Int) (s : ByteArray) : Calls Try.prog 28 #[.pointer none, .int .i64 x, .string s] w fun e w' => e = .returned (.int .i64 2) ∧ w = w' := by
  go_enter Try.func28, Try.ntmps28
  go_wp2_with fail
  go_ret
  exact ⟨rfl, rfl⟩
theorem dev_Flush_nil (w : World) : Calls Try.prog 26 #[.pointer none] w fun e w' => e = .returned (.int .i64 2) ∧ w = w' := by
  go_enter Try.func26, Try.ntmps26
  go_wp2_with fail
  go_ret
  exact ⟨rfl, rfl⟩
theorem dev_Len_nil (w : World) : Calls Try.prog 62 #[.pointer none] w fun e w' => e = .returned (.int .i64 0) ∧ w = w' := by
  go_enter Try.func62, Try.ntmps62
  go_wp2_with fail
  go_ret
  exact ⟨rfl, rfl⟩
theorem dev_At_nil (w : World) : Calls Try.prog 60 #[.pointer none] w fun e w' => e = .returned (.slice none 0 0) ∧ w = w' := by
  go_enter Try.func60, Try.ntmps60
  go_wp2_with fail
  go_ret
  exact ⟨rfl, rfl⟩
theorem dev_Loose_nil (w : World) : Calls Try.prog 61 #[.pointer none] w fun e w' => e = .returned (.int .i64 0) ∧ w = w' := by
  go_enter Try.func61, Try.ntmps61
  go_wp2_with fail
  refine (dev_At_nil _).mono ?_; rintro e w1 ⟨rfl, rfl⟩
  go_wp2_with fail
  go_ret
  exact ⟨rfl, rfl⟩
theorem dev_IsOn_nil (w : World) : Calls Try.prog 30 #[.pointer none] w fun e w' => e = .returned (.bool false) ∧ w = w' := by
  go_enter Try.func30, Try.ntmps30
  go_wp2_with fail
  go_ret
  exact ⟨rfl, rfl⟩
theorem dev_Image_nil (w : World) : Calls Try.prog 34 #[.pointer none] w fun e w' => e = .returned (.string ⟨#[]⟩) ∧ w = w' := by
  go_enter Try.func34, Try.ntmps34
  go_wp2_with fail
  go_ret
  exact ⟨rfl, rfl⟩
set_option maxHeartbeats 1000000 in
theorem dev_Count_nil (w : World) : Calls Try.prog 35 #[.pointer none] w fun e w' => e = .returned (.agg #[.int .i64 0, .int .i64 0, .int .i64 0]) ∧ Below w.heap.size w w' := by
  have hA := below_alloc w (.cells #[.int .i64 0, .int .i64 0, .int .i64 0] 54)
  have hN : (w.alloc (.cells #[.int .i64 0, .int .i64 0, .int .i64 0] 54)).heap[w.heap.size]? = some (.cells #[.int .i64 0, .int .i64 0, .int .i64 0] 54 (0, 0)) := heap_alloc_new w _
  have HN := hid hN; have HA := hid hA
  clear hN hA
  go_enter Try.func35, Try.ntmps35
  go_wp2_with fail
  (try simp only [Exit.inBlock, Exit.then])
  exact bodyPost_ret (results_cell_row rfl _ _ w.heap.size _ _ (0, 0) _ rfl HN.out Try.underlying54 rfl (by kernel_rfl)) rfl ⟨rfl, HA.out⟩

theorem zeros_of (n : Nat) : (List.replicate n (Value.int .u8 0)) = u8s (List.replicate n 0) := by simp [u8s]

set_option maxHeartbeats 8000000 in
theorem devSizes_walk (n sz : Int) (w : World) (hn : (Lit.int .i64 n).wf = true) :
    Calls Try.prog 13 #[.int .i64 n, .int .i64 sz] w fun e w' => e = .returned (.bool true) ∧ Below w.heap.size w w' := by
  obtain ⟨i0, hi0, hz0, hz1, hz2⟩ := info_parts info_byte
  have HI0 := hid hi0; have HZ0 := hid hz0; have HZ1 := hid hz1; have HZ2 := hid hz2
  clear hi0 hz0 hz1 hz2
  obtain ⟨k, hk, hk1⟩ := umod sz 131672 (by decide)
  have HK := hid hk
  have hn2 := wf_i64 hn
  have HNN := hid hn2
  clear hk hn hn2
  by_cases h1 : 1 ≤ n ∧ n ≤ 512
  · obtain ⟨m, rfl⟩ : ∃ m : Nat, n = (m : Int) := ⟨n.toNat, by omega⟩
    obtain ⟨h1, h2⟩ := h1
    go_enter Try.func13, Try.ntmps13
    go_wp2_with fail
    refine (awake03_any _).mono ?_; rintro e w1 ⟨rfl, hb⟩
    have HB := hid hb; clear hb
    go_wp2_with fail
    refine (dv_New HB.out m (by omega) (by omega)).mono ?_; rintro e w2 ⟨p, F, rfl, hD, hb, _⟩
    have HD := hid hD; clear hD hb HB
    go_wp2_with fail
    refine (dev_Len w2 p _ F HD.out.at_ m HD.out.ok).mono ?_; rintro e w3 ⟨rfl, rfl⟩
    go_wp2_with fail
    refine (dev_Image w2 p _ F HD.out.at_).mono ?_; rintro e w3 ⟨rfl, rfl⟩
    obtain ⟨Z, hZ⟩ : ∃ Z : ByteArray, Z = ⟨(Dv.new m).safe.toArray⟩ := ⟨_, rfl⟩
    rw [← hZ]
    have hz : (Z.size : Int) = 256 * (m : Int) := by
      have : Z.size = (Dv.new m).safe.length := by rw [hZ]; show (Dv.new m).safe.toArray.size = _; simp
      rw [this]; simp [Dv.new]
    clear hZ
    have HBB := hid HD.out.bel
    clear HD
    have hk := HK.out
    go_wp2_with (with_reducible refine at_op (.makeSlice 35 (.tmp 46) (.tmp 46)) rfl ?_; refine Stopped.go ?_)
    refine Stopped.mk (wpList_make_k rfl _ _ _ rfl 5 i0 (.int .u8 0) Try.underlying35 HI0.out HZ0.out HZ1.out rfl .i64 .i64 k k k rfl rfl rfl rfl (by rw [HZ2.out]; omega) (by omega) ?_)
    intro w3 hB hb3 _
    rw [zeros_of] at hB
    have HB2 := hid hB.bytes'
    have HB3 := hid (bt HBB.out hb3)
    clear hk hB hb3 HBB
    go_wp2_with (with_reducible refine at_op (.convert 35 9 (.tmp 47)) rfl ?_; refine Stopped.go ?_)
    refine Stopped.mk (wpList_string rfl _ _ 5 _ rfl ⟨w2.heap.size, 0, none⟩ k k (List.replicate k 0) rfl (by rw [List.length_replicate]) Try.underlying35 Try.underlying5 Try.underlying9 HB2.out ?_)
    obtain ⟨Y, hY⟩ : ∃ Y : ByteArray, Y = ⟨(List.replicate k 0).toArray⟩ := ⟨_, rfl⟩
    rw [← hY]
    have hy : Y.size = k := by rw [hY]; show (List.replicate k (0 : UInt8)).toArray.size = _; simp
    have HY := hid hy
    clear hY hy HB2
    by_cases hq : 256 ≤ k ∧ k < 131328
    · obtain ⟨hq1, hq2⟩ := hq
      have hq1' : (256 : Int) ≤ (k : Int) := by omega
      have hq2' : (k : Int) < 131328 := by omega
      have hq3 : decide ((k : Int) < 131328) = true := by simp; omega
      go_wp2_with fail
      refine (dev_Of w3 Y (k / 256) (by rw [HY.out]) (by omega) (by omega)).mono ?_; rintro e w4 ⟨p2, F2, rfl, hD, hb, _⟩
      have HD2 := hid hD; have HB5 := hid (bt HB3.out hb)
      clear hD hb HB3
      have hd : (k : Int).tdiv 256 = ((k / 256 : Nat) : Int) := by rw [Int.tdiv_eq_ediv_of_nonneg (by omega)]; omega
      obtain ⟨q, hqq⟩ : ∃ q, q = k / 256 := ⟨_, rfl⟩
      rw [← hqq] at hd
      have hok : DvOk q ({ Dv.new q with safe := Y.data.toList.take (256 * q) } : Dv) := by
        refine ⟨by omega, by omega, ?_, by simp [Dv.new], by simp [Dv.new]⟩
        have e : Y.data.toList.length = k := by rw [← HY.out]; simp
        show (Y.data.toList.take (256 * q)).length = _
        rw [List.length_take, e]; omega
      rw [← hqq] at HD2
      have HOK := hid hok
      have hd2 : (k : Int) / 256 = (q : Int) := by omega
      clear hok hqq
      go_wp2_with fail
      refine (dev_Len w4 p2 _ F2 HD2.out q HOK.out).mono ?_; rintro e w5 ⟨rfl, rfl⟩
      go_wp2_with fail
      refine (dev_Cut_nil _).mono ?_; rintro e w6 ⟨rfl, rfl⟩
      go_wp2_with fail
      refine (dev_Come_nil _).mono ?_; rintro e w6 ⟨rfl, rfl⟩
      go_wp2_with fail
      refine (dev_Fuse_nil _ 1).mono ?_; rintro e w6 ⟨rfl, rfl⟩
      go_wp2_with fail
      refine (dev_Read_nil _ 0).mono ?_; rintro e w6 ⟨rfl, rfl⟩
      go_wp2_with fail
      refine (dev_Write_nil _ 0 ⟨#[]⟩).mono ?_; rintro e w6 ⟨rfl, rfl⟩
      go_wp2_with fail
      refine (dev_Flush_nil _).mono ?_; rintro e w6 ⟨rfl, rfl⟩
      go_wp2_with fail
      refine (dev_Len_nil _).mono ?_; rintro e w6 ⟨rfl, rfl⟩
      go_wp2_with fail
      refine (dev_Loose_nil _).mono ?_; rintro e w6 ⟨rfl, rfl⟩
      go_wp2_with fail
      refine (dev_At_nil _).mono ?_; rintro e w6 ⟨rfl, rfl⟩
      go_wp2_with fail
      refine (dev_IsOn_nil _).mono ?_; rintro e w6 ⟨rfl, rfl⟩
      go_wp2_with fail
      refine (dev_Image_nil _).mono ?_; rintro e w6 ⟨rfl, rfl⟩
      go_wp2_with fail
      refine (dev_Count_nil _).mono ?_; rintro e w6 ⟨rfl, hb⟩
      have HB6 := hid (bt HB5.out hb); clear hb HB5
      have hu := Try.underlying54
      go_wp2_with fail
      go_ret
      exact ⟨rfl, HB6.out⟩

    · have hq' : k < 256 ∨ 131328 ≤ k := by omega
      clear hq
      rcases hq' with hq1 | hq1
      all_goals
        have hq2 : (k : Int) < 131672 := hk1
        have hq0 : (0 : Int) ≤ (k : Int) := by omega
      · have hq3 : decide ((256 : Int) ≤ (k : Int)) = false := by simp; omega
        go_wp2_with fail
        refine (dev_Of_no w3 Y (by rw [HY.out]; omega) (by rw [HY.out]; omega)).mono ?_; rintro e w4 ⟨rfl, rfl⟩
        have HB5 := HB3
        clear HB3
        go_wp2_with fail
        refine (dev_Cut_nil _).mono ?_; rintro e w6 ⟨rfl, rfl⟩
        go_wp2_with fail
        refine (dev_Come_nil _).mono ?_; rintro e w6 ⟨rfl, rfl⟩
        go_wp2_with fail
        refine (dev_Fuse_nil _ 1).mono ?_; rintro e w6 ⟨rfl, rfl⟩
        go_wp2_with fail
        refine (dev_Read_nil _ 0).mono ?_; rintro e w6 ⟨rfl, rfl⟩
        go_wp2_with fail
        refine (dev_Write_nil _ 0 ⟨#[]⟩).mono ?_; rintro e w6 ⟨rfl, rfl⟩
        go_wp2_with fail
        refine (dev_Flush_nil _).mono ?_; rintro e w6 ⟨rfl, rfl⟩
        go_wp2_with fail
        refine (dev_Len_nil _).mono ?_; rintro e w6 ⟨rfl, rfl⟩
        go_wp2_with fail
        refine (dev_Loose_nil _).mono ?_; rintro e w6 ⟨rfl, rfl⟩
        go_wp2_with fail
        refine (dev_At_nil _).mono ?_; rintro e w6 ⟨rfl, rfl⟩
        go_wp2_with fail
        refine (dev_IsOn_nil _).mono ?_; rintro e w6 ⟨rfl, rfl⟩
        go_wp2_with fail
        refine (dev_Image_nil _).mono ?_; rintro e w6 ⟨rfl, rfl⟩
        go_wp2_with fail
        refine (dev_Count_nil _).mono ?_; rintro e w6 ⟨rfl, hb⟩
        have HB6 := hid (bt HB5.out hb); clear hb HB5
        have hu := Try.underlying54
        go_wp2_with fail
        go_ret
        exact ⟨rfl, HB6.out⟩

      · have hq3 : decide ((k : Int) < 131328) = false := by simp; omega
        have hq4 : (256 : Int) ≤ (k : Int) := by omega
        go_wp2_with fail
        refine (dev_Of_no w3 Y (by rw [HY.out]; omega) (by rw [HY.out]; omega)).mono ?_; rintro e w4 ⟨rfl, rfl⟩
        have HB5 := HB3
        clear HB3
        go_wp2_with fail
        refine (dev_Cut_nil _).mono ?_; rintro e w6 ⟨rfl, rfl⟩
        go_wp2_with fail
        refine (dev_Come_nil _).mono ?_; rintro e w6 ⟨rfl, rfl⟩
        go_wp2_with fail
        refine (dev_Fuse_nil _ 1).mono ?_; rintro e w6 ⟨rfl, rfl⟩
        go_wp2_with fail
        refine (dev_Read_nil _ 0).mono ?_; rintro e w6 ⟨rfl, rfl⟩
        go_wp2_with fail
        refine (dev_Write_nil _ 0 ⟨#[]⟩).mono ?_; rintro e w6 ⟨rfl, rfl⟩
        go_wp2_with fail
        refine (dev_Flush_nil _).mono ?_; rintro e w6 ⟨rfl, rfl⟩
        go_wp2_with fail
        refine (dev_Len_nil _).mono ?_; rintro e w6 ⟨rfl, rfl⟩
        go_wp2_with fail
        refine (dev_Loose_nil _).mono ?_; rintro e w6 ⟨rfl, rfl⟩
        go_wp2_with fail
        refine (dev_At_nil _).mono ?_; rintro e w6 ⟨rfl, rfl⟩
        go_wp2_with fail
        refine (dev_IsOn_nil _).mono ?_; rintro e w6 ⟨rfl, rfl⟩
        go_wp2_with fail
        refine (dev_Image_nil _).mono ?_; rintro e w6 ⟨rfl, rfl⟩
        go_wp2_with fail
        refine (dev_Count_nil _).mono ?_; rintro e w6 ⟨rfl, hb⟩
        have HB6 := hid (bt HB5.out hb); clear hb HB5
        have hu := Try.underlying54
        go_wp2_with fail
        go_ret
        exact ⟨rfl, HB6.out⟩

  · have h2 : n < 1 ∨ 512 < n := by omega
    clear h1
    rcases h2 with h2 | h2
    · go_enter Try.func13, Try.ntmps13
      have h3 : decide ((1 : Int) ≤ n) = false := by simp; omega
      go_wp2_with fail
      refine (awake03_any _).mono ?_; rintro e w1 ⟨rfl, hb⟩
      have HBB := hid hb; clear hb
      go_wp2_with fail
      refine (dev_New_no w1 n (.inl h2)).mono ?_; rintro e w2 ⟨rfl, rfl⟩
      have hk := HK.out
      go_wp2_with (with_reducible refine at_op (.makeSlice 35 (.tmp 46) (.tmp 46)) rfl ?_; refine Stopped.go ?_)
      refine Stopped.mk (wpList_make_k rfl _ _ _ rfl 5 i0 (.int .u8 0) Try.underlying35 HI0.out HZ0.out HZ1.out rfl .i64 .i64 k k k rfl rfl rfl rfl (by rw [HZ2.out]; omega) (by omega) ?_)
      intro w3 hB hb3 _
      rw [zeros_of] at hB
      have HB2 := hid hB.bytes'
      have HB3 := hid (bt HBB.out hb3)
      clear hk hB hb3 HBB
      go_wp2_with (with_reducible refine at_op (.convert 35 9 (.tmp 47)) rfl ?_; refine Stopped.go ?_)
      refine Stopped.mk (wpList_string rfl _ _ 5 _ rfl ⟨w1.heap.size, 0, none⟩ k k (List.replicate k 0) rfl (by rw [List.length_replicate]) Try.underlying35 Try.underlying5 Try.underlying9 HB2.out ?_)
      obtain ⟨Y, hY⟩ : ∃ Y : ByteArray, Y = ⟨(List.replicate k 0).toArray⟩ := ⟨_, rfl⟩
      rw [← hY]
      have hy : Y.size = k := by rw [hY]; show (List.replicate k (0 : UInt8)).toArray.size = _; simp
      have HY := hid hy
      clear hY hy HB2
      by_cases hq : 256 ≤ k ∧ k < 131328
      · obtain ⟨hq1, hq2⟩ := hq
        have hq1' : (256 : Int) ≤ (k : Int) := by omega
        have hq2' : (k : Int) < 131328 := by omega
        have hq3 : decide ((k : Int) < 131328) = true := by simp; omega
        go_wp2_with fail
        refine (dev_Of w3 Y (k / 256) (by rw [HY.out]) (by omega) (by omega)).mono ?_; rintro e w4 ⟨p2, F2, rfl, hD, hb, _⟩
        have HD2 := hid hD; have HB5 := hid (bt HB3.out hb)
        clear hD hb HB3
        have hd : (k : Int).tdiv 256 = ((k / 256 : Nat) : Int) := by rw [Int.tdiv_eq_ediv_of_nonneg (by omega)]; omega
        obtain ⟨q, hqq⟩ : ∃ q, q = k / 256 := ⟨_, rfl⟩
        rw [← hqq] at hd
        have hok : DvOk q ({ Dv.new q with safe := Y.data.toList.take (256 * q) } : Dv) := by
          refine ⟨by omega, by omega, ?_, by simp [Dv.new], by simp [Dv.new]⟩
          have e : Y.data.toList.length = k := by rw [← HY.out]; simp
          show (Y.data.toList.take (256 * q)).length = _
          rw [List.length_take, e]; omega
        rw [← hqq] at HD2
        have HOK := hid hok
        have hd2 : (k : Int) / 256 = (q : Int) := by omega
        clear hok hqq
        go_wp2_with fail
        refine (dev_Len w4 p2 _ F2 HD2.out q HOK.out).mono ?_; rintro e w5 ⟨rfl, rfl⟩
        go_wp2_with fail
        refine (dev_Cut_nil _).mono ?_; rintro e w6 ⟨rfl, rfl⟩
        go_wp2_with fail
        refine (dev_Come_nil _).mono ?_; rintro e w6 ⟨rfl, rfl⟩
        go_wp2_with fail
        refine (dev_Fuse_nil _ 1).mono ?_; rintro e w6 ⟨rfl, rfl⟩
        go_wp2_with fail
        refine (dev_Read_nil _ 0).mono ?_; rintro e w6 ⟨rfl, rfl⟩
        go_wp2_with fail
        refine (dev_Write_nil _ 0 ⟨#[]⟩).mono ?_; rintro e w6 ⟨rfl, rfl⟩
        go_wp2_with fail
        refine (dev_Flush_nil _).mono ?_; rintro e w6 ⟨rfl, rfl⟩
        go_wp2_with fail
        refine (dev_Len_nil _).mono ?_; rintro e w6 ⟨rfl, rfl⟩
        go_wp2_with fail
        refine (dev_Loose_nil _).mono ?_; rintro e w6 ⟨rfl, rfl⟩
        go_wp2_with fail
        refine (dev_At_nil _).mono ?_; rintro e w6 ⟨rfl, rfl⟩
        go_wp2_with fail
        refine (dev_IsOn_nil _).mono ?_; rintro e w6 ⟨rfl, rfl⟩
        go_wp2_with fail
        refine (dev_Image_nil _).mono ?_; rintro e w6 ⟨rfl, rfl⟩
        go_wp2_with fail
        refine (dev_Count_nil _).mono ?_; rintro e w6 ⟨rfl, hb⟩
        have HB6 := hid (bt HB5.out hb); clear hb HB5
        have hu := Try.underlying54
        go_wp2_with fail
        go_ret
        exact ⟨rfl, HB6.out⟩

      · have hq' : k < 256 ∨ 131328 ≤ k := by omega
        clear hq
        rcases hq' with hq1 | hq1
        all_goals
          have hq2 : (k : Int) < 131672 := hk1
          have hq0 : (0 : Int) ≤ (k : Int) := by omega
        · have hq3 : decide ((256 : Int) ≤ (k : Int)) = false := by simp; omega
          go_wp2_with fail
          refine (dev_Of_no w3 Y (by rw [HY.out]; omega) (by rw [HY.out]; omega)).mono ?_; rintro e w4 ⟨rfl, rfl⟩
          have HB5 := HB3
          clear HB3
          go_wp2_with fail
          refine (dev_Cut_nil _).mono ?_; rintro e w6 ⟨rfl, rfl⟩
          go_wp2_with fail
          refine (dev_Come_nil _).mono ?_; rintro e w6 ⟨rfl, rfl⟩
          go_wp2_with fail
          refine (dev_Fuse_nil _ 1).mono ?_; rintro e w6 ⟨rfl, rfl⟩
          go_wp2_with fail
          refine (dev_Read_nil _ 0).mono ?_; rintro e w6 ⟨rfl, rfl⟩
          go_wp2_with fail
          refine (dev_Write_nil _ 0 ⟨#[]⟩).mono ?_; rintro e w6 ⟨rfl, rfl⟩
          go_wp2_with fail
          refine (dev_Flush_nil _).mono ?_; rintro e w6 ⟨rfl, rfl⟩
          go_wp2_with fail
          refine (dev_Len_nil _).mono ?_; rintro e w6 ⟨rfl, rfl⟩
          go_wp2_with fail
          refine (dev_Loose_nil _).mono ?_; rintro e w6 ⟨rfl, rfl⟩
          go_wp2_with fail
          refine (dev_At_nil _).mono ?_; rintro e w6 ⟨rfl, rfl⟩
          go_wp2_with fail
          refine (dev_IsOn_nil _).mono ?_; rintro e w6 ⟨rfl, rfl⟩
          go_wp2_with fail
          refine (dev_Image_nil _).mono ?_; rintro e w6 ⟨rfl, rfl⟩
          go_wp2_with fail
          refine (dev_Count_nil _).mono ?_; rintro e w6 ⟨rfl, hb⟩
          have HB6 := hid (bt HB5.out hb); clear hb HB5
          have hu := Try.underlying54
          go_wp2_with fail
          go_ret
          exact ⟨rfl, HB6.out⟩

        · have hq3 : decide ((k : Int) < 131328) = false := by simp; omega
          have hq4 : (256 : Int) ≤ (k : Int) := by omega
          go_wp2_with fail
          refine (dev_Of_no w3 Y (by rw [HY.out]; omega) (by rw [HY.out]; omega)).mono ?_; rintro e w4 ⟨rfl, rfl⟩
          have HB5 := HB3
          clear HB3
          go_wp2_with fail
          refine (dev_Cut_nil _).mono ?_; rintro e w6 ⟨rfl, rfl⟩
          go_wp2_with fail
          refine (dev_Come_nil _).mono ?_; rintro e w6 ⟨rfl, rfl⟩
          go_wp2_with fail
          refine (dev_Fuse_nil _ 1).mono ?_; rintro e w6 ⟨rfl, rfl⟩
          go_wp2_with fail
          refine (dev_Read_nil _ 0).mono ?_; rintro e w6 ⟨rfl, rfl⟩
          go_wp2_with fail
          refine (dev_Write_nil _ 0 ⟨#[]⟩).mono ?_; rintro e w6 ⟨rfl, rfl⟩
          go_wp2_with fail
          refine (dev_Flush_nil _).mono ?_; rintro e w6 ⟨rfl, rfl⟩
          go_wp2_with fail
          refine (dev_Len_nil _).mono ?_; rintro e w6 ⟨rfl, rfl⟩
          go_wp2_with fail
          refine (dev_Loose_nil _).mono ?_; rintro e w6 ⟨rfl, rfl⟩
          go_wp2_with fail
          refine (dev_At_nil _).mono ?_; rintro e w6 ⟨rfl, rfl⟩
          go_wp2_with fail
          refine (dev_IsOn_nil _).mono ?_; rintro e w6 ⟨rfl, rfl⟩
          go_wp2_with fail
          refine (dev_Image_nil _).mono ?_; rintro e w6 ⟨rfl, rfl⟩
          go_wp2_with fail
          refine (dev_Count_nil _).mono ?_; rintro e w6 ⟨rfl, hb⟩
          have HB6 := hid (bt HB5.out hb); clear hb HB5
          have hu := Try.underlying54
          go_wp2_with fail
          go_ret
          exact ⟨rfl, HB6.out⟩

    · go_enter Try.func13, Try.ntmps13
      have h3 : (1 : Int) ≤ n := by omega
      have h4 : decide (n ≤ 512) = false := by simp; omega
      go_wp2_with fail
      refine (awake03_any _).mono ?_; rintro e w1 ⟨rfl, hb⟩
      have HBB := hid hb; clear hb
      go_wp2_with fail
      refine (dev_New_no w1 n (.inr h2)).mono ?_; rintro e w2 ⟨rfl, rfl⟩
      have hk := HK.out
      go_wp2_with (with_reducible refine at_op (.makeSlice 35 (.tmp 46) (.tmp 46)) rfl ?_; refine Stopped.go ?_)
      refine Stopped.mk (wpList_make_k rfl _ _ _ rfl 5 i0 (.int .u8 0) Try.underlying35 HI0.out HZ0.out HZ1.out rfl .i64 .i64 k k k rfl rfl rfl rfl (by rw [HZ2.out]; omega) (by omega) ?_)
      intro w3 hB hb3 _
      rw [zeros_of] at hB
      have HB2 := hid hB.bytes'
      have HB3 := hid (bt HBB.out hb3)
      clear hk hB hb3 HBB
      go_wp2_with (with_reducible refine at_op (.convert 35 9 (.tmp 47)) rfl ?_; refine Stopped.go ?_)
      refine Stopped.mk (wpList_string rfl _ _ 5 _ rfl ⟨w1.heap.size, 0, none⟩ k k (List.replicate k 0) rfl (by rw [List.length_replicate]) Try.underlying35 Try.underlying5 Try.underlying9 HB2.out ?_)
      obtain ⟨Y, hY⟩ : ∃ Y : ByteArray, Y = ⟨(List.replicate k 0).toArray⟩ := ⟨_, rfl⟩
      rw [← hY]
      have hy : Y.size = k := by rw [hY]; show (List.replicate k (0 : UInt8)).toArray.size = _; simp
      have HY := hid hy
      clear hY hy HB2
      by_cases hq : 256 ≤ k ∧ k < 131328
      · obtain ⟨hq1, hq2⟩ := hq
        have hq1' : (256 : Int) ≤ (k : Int) := by omega
        have hq2' : (k : Int) < 131328 := by omega
        have hq3 : decide ((k : Int) < 131328) = true := by simp; omega
        go_wp2_with fail
        refine (dev_Of w3 Y (k / 256) (by rw [HY.out]) (by omega) (by omega)).mono ?_; rintro e w4 ⟨p2, F2, rfl, hD, hb, _⟩
        have HD2 := hid hD; have HB5 := hid (bt HB3.out hb)
        clear hD hb HB3
        have hd : (k : Int).tdiv 256 = ((k / 256 : Nat) : Int) := by rw [Int.tdiv_eq_ediv_of_nonneg (by omega)]; omega
        obtain ⟨q, hqq⟩ : ∃ q, q = k / 256 := ⟨_, rfl⟩
        rw [← hqq] at hd
        have hok : DvOk q ({ Dv.new q with safe := Y.data.toList.take (256 * q) } : Dv) := by
          refine ⟨by omega, by omega, ?_, by simp [Dv.new], by simp [Dv.new]⟩
          have e : Y.data.toList.length = k := by rw [← HY.out]; simp
          show (Y.data.toList.take (256 * q)).length = _
          rw [List.length_take, e]; omega
        rw [← hqq] at HD2
        have HOK := hid hok
        have hd2 : (k : Int) / 256 = (q : Int) := by omega
        clear hok hqq
        go_wp2_with fail
        refine (dev_Len w4 p2 _ F2 HD2.out q HOK.out).mono ?_; rintro e w5 ⟨rfl, rfl⟩
        go_wp2_with fail
        refine (dev_Cut_nil _).mono ?_; rintro e w6 ⟨rfl, rfl⟩
        go_wp2_with fail
        refine (dev_Come_nil _).mono ?_; rintro e w6 ⟨rfl, rfl⟩
        go_wp2_with fail
        refine (dev_Fuse_nil _ 1).mono ?_; rintro e w6 ⟨rfl, rfl⟩
        go_wp2_with fail
        refine (dev_Read_nil _ 0).mono ?_; rintro e w6 ⟨rfl, rfl⟩
        go_wp2_with fail
        refine (dev_Write_nil _ 0 ⟨#[]⟩).mono ?_; rintro e w6 ⟨rfl, rfl⟩
        go_wp2_with fail
        refine (dev_Flush_nil _).mono ?_; rintro e w6 ⟨rfl, rfl⟩
        go_wp2_with fail
        refine (dev_Len_nil _).mono ?_; rintro e w6 ⟨rfl, rfl⟩
        go_wp2_with fail
        refine (dev_Loose_nil _).mono ?_; rintro e w6 ⟨rfl, rfl⟩
        go_wp2_with fail
        refine (dev_At_nil _).mono ?_; rintro e w6 ⟨rfl, rfl⟩
        go_wp2_with fail
        refine (dev_IsOn_nil _).mono ?_; rintro e w6 ⟨rfl, rfl⟩
        go_wp2_with fail
        refine (dev_Image_nil _).mono ?_; rintro e w6 ⟨rfl, rfl⟩
        go_wp2_with fail
        refine (dev_Count_nil _).mono ?_; rintro e w6 ⟨rfl, hb⟩
        have HB6 := hid (bt HB5.out hb); clear hb HB5
        have hu := Try.underlying54
        go_wp2_with fail
        go_ret
        exact ⟨rfl, HB6.out⟩

      · have hq' : k < 256 ∨ 131328 ≤ k := by omega
        clear hq
        rcases hq' with hq1 | hq1
        all_goals
          have hq2 : (k : Int) < 131672 := hk1
          have hq0 : (0 : Int) ≤ (k : Int) := by omega
        · have hq3 : decide ((256 : Int) ≤ (k : Int)) = false := by simp; omega
          go_wp2_with fail
          refine (dev_Of_no w3 Y (by rw [HY.out]; omega) (by rw [HY.out]; omega)).mono ?_; rintro e w4 ⟨rfl, rfl⟩
          have HB5 := HB3
          clear HB3
          go_wp2_with fail
          refine (dev_Cut_nil _).mono ?_; rintro e w6 ⟨rfl, rfl⟩
          go_wp2_with fail
          refine (dev_Come_nil _).mono ?_; rintro e w6 ⟨rfl, rfl⟩
          go_wp2_with fail
          refine (dev_Fuse_nil _ 1).mono ?_; rintro e w6 ⟨rfl, rfl⟩
          go_wp2_with fail
          refine (dev_Read_nil _ 0).mono ?_; rintro e w6 ⟨rfl, rfl⟩
          go_wp2_with fail
          refine (dev_Write_nil _ 0 ⟨#[]⟩).mono ?_; rintro e w6 ⟨rfl, rfl⟩
          go_wp2_with fail
          refine (dev_Flush_nil _).mono ?_; rintro e w6 ⟨rfl, rfl⟩
          go_wp2_with fail
          refine (dev_Len_nil _).mono ?_; rintro e w6 ⟨rfl, rfl⟩
          go_wp2_with fail
          refine (dev_Loose_nil _).mono ?_; rintro e w6 ⟨rfl, rfl⟩
          go_wp2_with fail
          refine (dev_At_nil _).mono ?_; rintro e w6 ⟨rfl, rfl⟩
          go_wp2_with fail
          refine (dev_IsOn_nil _).mono ?_; rintro e w6 ⟨rfl, rfl⟩
          go_wp2_with fail
          refine (dev_Image_nil _).mono ?_; rintro e w6 ⟨rfl, rfl⟩
          go_wp2_with fail
          refine (dev_Count_nil _).mono ?_; rintro e w6 ⟨rfl, hb⟩
          have HB6 := hid (bt HB5.out hb); clear hb HB5
          have hu := Try.underlying54
          go_wp2_with fail
          go_ret
          exact ⟨rfl, HB6.out⟩

        · have hq3 : decide ((k : Int) < 131328) = false := by simp; omega
          have hq4 : (256 : Int) ≤ (k : Int) := by omega
          go_wp2_with fail
          refine (dev_Of_no w3 Y (by rw [HY.out]; omega) (by rw [HY.out]; omega)).mono ?_; rintro e w4 ⟨rfl, rfl⟩
          have HB5 := HB3
          clear HB3
          go_wp2_with fail
          refine (dev_Cut_nil _).mono ?_; rintro e w6 ⟨rfl, rfl⟩
          go_wp2_with fail
          refine (dev_Come_nil _).mono ?_; rintro e w6 ⟨rfl, rfl⟩
          go_wp2_with fail
          refine (dev_Fuse_nil _ 1).mono ?_; rintro e w6 ⟨rfl, rfl⟩
          go_wp2_with fail
          refine (dev_Read_nil _ 0).mono ?_; rintro e w6 ⟨rfl, rfl⟩
          go_wp2_with fail
          refine (dev_Write_nil _ 0 ⟨#[]⟩).mono ?_; rintro e w6 ⟨rfl, rfl⟩
          go_wp2_with fail
          refine (dev_Flush_nil _).mono ?_; rintro e w6 ⟨rfl, rfl⟩
          go_wp2_with fail
          refine (dev_Len_nil _).mono ?_; rintro e w6 ⟨rfl, rfl⟩
          go_wp2_with fail
          refine (dev_Loose_nil _).mono ?_; rintro e w6 ⟨rfl, rfl⟩
          go_wp2_with fail
          refine (dev_At_nil _).mono ?_; rintro e w6 ⟨rfl, rfl⟩
          go_wp2_with fail
          refine (dev_IsOn_nil _).mono ?_; rintro e w6 ⟨rfl, rfl⟩
          go_wp2_with fail
          refine (dev_Image_nil _).mono ?_; rintro e w6 ⟨rfl, rfl⟩
          go_wp2_with fail
          refine (dev_Count_nil _).mono ?_; rintro e w6 ⟨rfl, hb⟩
          have HB6 := hid (bt HB5.out hb); clear hb HB5
          have hu := Try.underlying54
          go_wp2_with fail
          go_ret
          exact ⟨rfl, HB6.out⟩


/-- in the row's words -/
theorem devSizes_law (n sz : Int) (w : World) (hn : (Lit.int .i64 n).wf = true) (_ : (Lit.int .i64 sz).wf = true) :
    Calls Try.prog 13 #[.int .i64 n, .int .i64 sz] w fun e w' => e = .returned (.bool true) ∧ Below w.heap.size w w' := devSizes_walk n sz w hn
end Go.Proofs.Ytapmnnfnhgopcaa
