/-
  grangerref28.Signed, Tell, grangerlaw28.stats, walked.
-/
import Derived.Test.YthhmdmfbaooldaaGreatDoorTaleRef
import Derived.ChangeKeysEq
namespace Go.Proofs.YthhmdmfbaooldaaGreatDoor
open Go.RowKit Go.Sort

set_option maxHeartbeats 2000000 in
theorem refSigned_any (n : Int) (h1 : -9223372036854775808 ≤ n) (h2 : n ≤ 9223372036854775807) (w : World) :
    Calls Tryz.prog 42 #[.int .i64 n] w fun e w' => e = .returned (.string (iB n)) ∧ Below w.heap.size w w' := by
  by_cases h0 : n < 0
  · obtain ⟨m, hm⟩ : ∃ m : Nat, m = n.natAbs := ⟨_, rfl⟩
    have HD := hid (refDigits_any m (by omega) w)
    have hr : iB n = ⟨#[45]⟩ ++ dB m := by
      apply ba_same
      rw [ByteArray.data_append, Array.toList_append]
      show Lib.itoa n = 45 :: Lib.decDigits m
      unfold Lib.itoa
      rw [if_pos h0, hm]
    have hl : (dB m).size ≤ 20 := by
      have := dec_len m (by omega)
      have e : (dB m).data.toList.length = (dB m).size := by simp
      have e2 : (dB m).data.toList = Lib.decDigits m := rfl
      rw [e2] at e; omega
    have u1 : IntKind.u64.wrap n = n + 18446744073709551616 := by rw [IntKind.wrap_u64]; omega
    have u2 : IntKind.u64.wrap (-(n + 18446744073709551616)) = (m : Int) := by rw [IntKind.wrap_u64]; omega
    rw [hr]
    obtain ⟨X, hX⟩ : ∃ X, X = dB m := ⟨_, rfl⟩
    rw [← hX] at HD hl ⊢
    clear hX hr hm
    go_enter Tryz.func42, Tryz.ntmps42
    go_wp2_with fail
    refine HD.out.mono ?_; rintro e w1 ⟨rfl, hb⟩
    have HB := hid hb; clear hb HD
    have q1 : ¬ (9223372036854775807 < 1 + X.size) := by omega
    go_wp2_with fail
    go_ret
    exact ⟨rfl, HB.out⟩
  · obtain ⟨m, hm⟩ : ∃ m : Nat, m = n.toNat := ⟨_, rfl⟩
    obtain rfl : n = (m : Int) := by omega
    have HD := hid (refDigits_any m (by omega) w)
    have hr : iB (m : Int) = dB m := by unfold iB; rw [Lib.itoa_nonneg]; rfl
    rw [hr]
    clear hr hm
    go_enter Tryz.func42, Tryz.ntmps42
    go_wp2_with fail
    refine HD.out.mono ?_; rintro e w1 ⟨rfl, hb⟩
    have HB := hid hb; clear hb HD
    go_wp2_with fail
    go_ret
    exact ⟨rfl, HB.out⟩

set_option maxHeartbeats 2000000 in
theorem stats_any (s0 s1 s2 s3 s4 s5 s6 s7 s8 : Int) (w : World) :
    Calls Tryz.prog 25 #[.agg #[.int .i64 s0, .int .i64 s1, .int .i64 s2, .int .i64 s3, .int .i64 s4, .int .i64 s5, .int .i64 s6, .int .i64 s7, .int .i64 s8]] w fun e w' =>
      e = .returned (.agg #[.int .i64 s0, .int .i64 s1, .int .i64 s2, .int .i64 s3, .int .i64 s4, .int .i64 s5, .int .i64 s6, .int .i64 s7, .int .i64 s8]) ∧ Below w.heap.size w w' := by
  have hu := Tryz.underlying50
  have hu2 := Tryz.underlying57
  go_enter Tryz.func25, Tryz.ntmps25
  go_wp2_with fail
  exact bodyPost_ret (by simp [results, Tryz.results25, go_sem]) rfl ⟨rfl, ((Below.refl _ w).alloc (Nat.le_refl _) _).alloc (by simp) _⟩
theorem eqItems_ints {P : Program} (d : Nat) {e : TypeId} {k : IntKind} (he : P.plainKey e = true) (hu : P.underlying e = some (.int k)) (xs ys : Array Value) (a b : Nat → Int) (w : World) : ∀ (is : List Nat), (∀ i ∈ is, xs[i]? = some (.int k (a i)) ∧ ys[i]? = some (.int k (b i))) →
    (Op.eqItems (d + 1) e 1 xs ys is).run P w = .ok (is.all fun i => a i == b i) w
  | [], _ => by simp [Op.eqItems]
  | i :: is, h => by
    obtain ⟨h1, h2⟩ := h i (by simp)
    have ih := eqItems_ints d he hu xs ys a b w is (fun j hj => h j (by simp [hj]))
    simp only [Op.eqItems, Sem.run_bind, Nat.mul_one, run_part_plain w he h1, run_part_plain w he h2, run_equalIn_int w d e k k _ _ hu, Result.andThen_ok, List.all_cons]
    cases a i == b i
    · simp
    · simpa using ih
theorem statsNe2_run (s0 s1 s2 s3 s4 s5 s6 s7 s8 : Int) (w : World) : (binOp .neq 57 (.agg #[.int .i64 s0, .int .i64 s1, .int .i64 s2, .int .i64 s3, .int .i64 s4, .int .i64 s5, .int .i64 s6, .int .i64 s7, .int .i64 s8]) (.agg #[.int .i64 0, .int .i64 0, .int .i64 0, .int .i64 0, .int .i64 0, .int .i64 0, .int .i64 0, .int .i64 0, .int .i64 0])).run Tryz.prog w = .ok (.bool (!zeroS [s0, s1, s2, s3, s4, s5, s6, s7, s8])) w := by
  have hu := Tryz.underlying57
  obtain ⟨i, hi⟩ := info_of_underlying Tryz.underlying3
  have hc : Tryz.prog.cellsOf 3 = 1 := by kernel_rfl
  rw [run_neq_struct, run_equalIn_array w 9999 _ _ hu hi, hc, eqItems_ints 9998 (by kernel_rfl) Tryz.underlying3 _ _ (fun j => [s0, s1, s2, s3, s4, s5, s6, s7, s8].getD j 0) (fun _ => 0) w _ ?_]
  · rfl
  · intro j hj
    have : j < 9 := List.mem_range.1 hj
    obtain rfl | rfl | rfl | rfl | rfl | rfl | rfl | rfl | rfl : j = 0 ∨ j = 1 ∨ j = 2 ∨ j = 3 ∨ j = 4 ∨ j = 5 ∨ j = 6 ∨ j = 7 ∨ j = 8 := by omega
    all_goals exact ⟨rfl, rfl⟩

/-- a string is the join of words -/
def SJ (s : ByteArray) (ws : List ByteArray) : Prop := s.data.toList = Lib.join (ws.map (·.data.toList)) [32] ∧ ws ≠ [] ∧ s.size ≤ 4001 * ws.length
theorem join_snoc (A : List (List UInt8)) (x : List UInt8) (h : A ≠ []) : Lib.join (A ++ [x]) [32] = Lib.join A [32] ++ 32 :: x := by
  cases A with
  | nil => exact absurd rfl h
  | cons a A =>
    rw [List.cons_append, Lib.join_cons, Lib.join_cons]
    simp [Lib.joinTail]
theorem SJ.more {s t x : ByteArray} {ws : List ByteArray} (h : SJ s ws) (ht : t.data.toList = 32 :: x.data.toList) (hx : x.size ≤ 4000) : SJ (s ++ t) (ws ++ [x]) := by
  obtain ⟨h1, h2, h3⟩ := h
  refine ⟨?_, by simp, ?_⟩
  · rw [ByteArray.data_append, Array.toList_append, h1, ht, List.map_append, List.map_singleton, join_snoc _ _ (by simpa using h2)]
  · have e : t.size = x.size + 1 := by
      have := congrArg List.length ht
      simpa using this
    rw [ByteArray.size_append, List.length_append, List.length_singleton]; omega
theorem SJ.blank {s x : ByteArray} {ws : List ByteArray} (h : SJ s ws) (hx : x.size ≤ 4000) : SJ (s ++ ⟨#[32]⟩ ++ x) (ws ++ [x]) := by
  have := h.more (t := ⟨#[32]⟩ ++ x) (x := x) (by rw [ByteArray.data_append, Array.toList_append]; rfl) hx
  rwa [ByteArray.append_assoc]
theorem SJ.two {s t x y : ByteArray} {ws : List ByteArray} (h : SJ s ws) (ht : t.data.toList = 32 :: x.data.toList ++ [32]) (hx : x.size ≤ 4000) (hy : y.size ≤ 4000) : SJ (s ++ t ++ y) (ws ++ [x, y]) := by
  have h1 := (h.more (t := ⟨(32 :: x.data.toList).toArray⟩) (x := x) (by simp) hx).blank hy
  have e : t = ⟨(32 :: x.data.toList).toArray⟩ ++ ⟨#[32]⟩ := by
    apply ba_same
    rw [ht, ByteArray.data_append, Array.toList_append]
  rw [e, ← ByteArray.append_assoc]
  simpa using h1
theorem SJ.eq {s : ByteArray} {ws : List ByteArray} (h : SJ s ws) : s = joinB ws := ba_same h.1
/-- the value of a string that is the join of words, in a world above the first -/
def SV (w wx : World) (v : Value) (ws : List ByteArray) : Prop := (∃ s, v = .string s ∧ SJ s ws) ∧ Below w.heap.size w wx
theorem SV.below {w wx w' : World} {v : Value} {ws : List ByteArray} (h : SV w wx v ws) (hb : Below wx.heap.size wx w') : SV w w' v ws := ⟨h.1, bt h.2 hb⟩
theorem iB_len {n : Int} (h : (Lit.int .i64 n).wf = true) : (iB n).size ≤ 4000 := by
  have := itoa_len h
  have e : (iB n).data.toList.length = (iB n).size := by simp
  have e2 : (iB n).data.toList = Lib.itoa n := rfl
  rw [e2] at e; omega
theorem wB_size (s : ByteArray) (h : s.size ≤ 1000) : (wB s.data.toList).size ≤ 4000 := by
  have := wB_len s h
  have e : (wB s.data.toList).data.toList.length = (wB s.data.toList).size := by simp
  omega
end Go.Proofs.YthhmdmfbaooldaaGreatDoor
