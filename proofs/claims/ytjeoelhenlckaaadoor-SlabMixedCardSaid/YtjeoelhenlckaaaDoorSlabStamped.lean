/-
  SlabStamped: walked.
-/
import Derived.Test.YtjeoelhenlckaaaDoorSlabPlain
namespace Go.Proofs.YtjeoelhenlckaaaDoor
open Go.RowKit

theorem readV_not {b : ByteArray} (h : b.size ≠ 256) : readV b = (0, 0, ⟨#[]⟩, 1) := by unfold readV; rw [if_neg h]
theorem isBlankV_take {b : ByteArray} {k : Nat} (h : k = b.size) : (decide (b.size = 256) && (b.data.toList.take k).all (· == 0)) = isBlankV b := by
  rw [List.take_of_length_le (by rw [h]; simp)]; rfl

set_option maxHeartbeats 8000000 in
set_option maxRecDepth 100000 in
theorem slabStamped_walk (e q : Int) (s b : ByteArray) (w : World) :
    Calls Tryd.prog 4 #[.int .i64 e, .int .i64 q, .string s, .string b] w fun e w' => e = .returned (.bool true) ∧ Below w.heap.size w w' := by
  by_cases hs : 300 < s.size
  · have hs' : (300 : Int) < (s.size : Int) := by omega
    go_enter Tryd.func4, Tryd.ntmps4
    go_wp2_with fail
    refine (awake04_any _).mono ?_; rintro ee w1 ⟨rfl, hb1⟩
    have H1 := hid hb1; clear hb1
    go_wp2_with fail
    go_ret
    exact ⟨rfl, H1.out⟩
  have hs' : ¬ (300 : Int) < (s.size : Int) := by omega
  by_cases hbb : 300 < b.size
  · have hb' : (300 : Int) < (b.size : Int) := by omega
    go_enter Tryd.func4, Tryd.ntmps4
    go_wp2_with fail
    refine (awake04_any _).mono ?_; rintro ee w1 ⟨rfl, hb1⟩
    have H1 := hid hb1; clear hb1
    go_wp2_with fail
    go_ret
    exact ⟨rfl, H1.out⟩
  have hb' : ¬ (300 : Int) < (b.size : Int) := by omega
  have C1 := hid (fun w' => slab_Stamp e q s w')
  have C2 := hid (fun w' => ref04_Stamp e q s (by omega) w')
  have C3 := hid (fun w' => slab_Read b w')
  have C4 := hid (fun w' => slab_IsBlank b (by omega) w')
  obtain ⟨v, k, f, hl, hf, hef⟩ : ∃ (v : ByteArray) (k : Int) (f : Bool), stampV e q s = (v, k) ∧ rstampV e q s = (v, f) ∧ (k = 0 ∧ f = true ∨ k = 1 ∧ f = false) := by
    by_cases h : s.size ≤ 218 ∧ 1 ≤ e ∧ e ≤ 2147483647 ∧ 0 ≤ q ∧ q ≤ 2147483647
    · exact ⟨_, 0, true, by unfold stampV; rw [if_pos h], by unfold rstampV; rw [if_pos h], .inl ⟨rfl, rfl⟩⟩
    · exact ⟨_, 1, false, by unfold stampV; rw [if_neg h], by unfold rstampV; rw [if_neg h], .inr ⟨rfl, rfl⟩⟩
  rw [hl] at C1
  rw [hf] at C2
  have hvv := beq_self v
  clear hl hf
  obtain ⟨B, hB⟩ : ∃ B, B = isBlankV b := ⟨_, rfl⟩
  rw [← hB] at C4
  have HB := hid hB
  obtain ⟨sz, hsz⟩ : ∃ f, f = decide (b.size = 256) := ⟨_, rfl⟩
  have hszq : (((b.size : Int)) == 256) = sz := by
    rw [hsz, Bool.eq_iff_iff, beq_iff_eq, decide_eq_true_eq]; omega
  have hszn : (((b.size : Int)) != 256) = !sz := by rw [bne, hszq]
  have C5 : Hid (b.size = 256 → ∀ w', Calls Tryd.prog 16 #[.string b] w' fun ee w'' => ee = .returned (.tuple #[.int .i64 (readV b).1, .int .i64 (readV b).2.1, .string (readV b).2.2.1, .int .i64 (readV b).2.2.2]) ∧ Below w'.heap.size w' w'') := fun h w' => ref04_Read b h w'
  obtain ⟨⟨r1, r2, r3, r4⟩, hr⟩ : ∃ r, r = readV b := ⟨_, rfl⟩
  rw [← hr] at C3 C5
  have hrr := beq_self r3
  have HR := hid hr; have HSZ := hid hsz
  clear hB hr hsz
  rcases hef with ⟨rfl, rfl⟩ | ⟨rfl, rfl⟩
  all_goals
    go_enter Tryd.func4, Tryd.ntmps4
    go_wp2_with fail
    refine (awake04_any _).mono ?_; rintro ee w1 ⟨rfl, hb1⟩
    have H1 := hid hb1; clear hb1
    go_wp2_with fail
    refine (C1.out w1).mono ?_; rintro ee w2 ⟨rfl, hb1⟩
    have H2 := hid (bt H1.out hb1); clear hb1 H1 C1
    go_wp2_with fail
    refine (C2.out w2).mono ?_; rintro ee w3 ⟨rfl, hb1⟩
    have H3 := hid (bt H2.out hb1); clear hb1 H2 C2
    go_wp2_with fail
    go_loopg [13, 14] b.size (fun g y x wx => ∃ (k : Nat) (f : Bool), k + g = b.size ∧ x = .int .i64 k ∧ y = .bool f ∧ wx = w3 ∧ Hid (f = (decide (b.size = 256) && (b.data.toList.take k).all (· == 0))))
    case atStart => exact ⟨0, sz, by omega, rfl, rfl, rfl, (show sz = (decide (b.size = 256) && (b.data.toList.take 0).all (· == 0)) by rw [HSZ.out]; simp)⟩
    case round =>
      obtain ⟨k, f, hk, rfl, rfl, rfl, HF⟩ := hrel
      by_cases hlt : k < b.size
      · have hsn := take_snoc b k hlt
        obtain ⟨x, hx⟩ : ∃ x, x = b.data.toList.getD k 0 := ⟨_, rfl⟩
        have hx7 : ∀ h : k < b.size, b[k]'h = x := by
          intro h
          rw [hx, data_getD b k h]
        rw [← hx] at hsn
        obtain ⟨z, hz⟩ : ∃ z, z = (x == 0) := ⟨_, rfl⟩
        have hzq : ((x.toNat : Int) == 0) = z := by
          rw [hz, Bool.eq_iff_iff, beq_iff_eq, beq_iff_eq]
          constructor
          · intro h; exact UInt8.toNat_inj.1 (by simpa using h)
          · intro h; rw [h]; rfl
        have HN : Hid ((f && z) = (decide (b.size = 256) && (b.data.toList.take (k + 1)).all (· == 0))) := by
          show (f && z) = _
          rw [hsn, List.all_append, HF.out, hz, Bool.and_assoc]
          simp
        clear hx hsn hz
        cases f with
        | true =>
          go_wp2_with fail
          go_roundg (b.size - (k + 1))
          case measure => omega
          case rel => exact ⟨k + 1, z, by omega, by go_num, by first | rfl | simp, rfl, HN.out⟩
        | false =>
          go_wp2_with fail
          go_roundg (b.size - (k + 1))
          case measure => omega
          case rel => exact ⟨k + 1, false, by omega, by go_num, rfl, rfl, HN.out⟩
      · have hkb : k = b.size := by omega
        subst hkb
        have hfB : f = B := by rw [HF.out, HB.out]; exact isBlankV_take rfl
        subst hfB
        go_wp2_with fail
        refine (C3.out wr).mono ?_; rintro ee w4 ⟨rfl, hb1⟩
        have H4 := hid (bt H3.out hb1); clear hb1 H3 C3
        go_wp2_with fail
        refine (C4.out w4).mono ?_; rintro ee w5 ⟨rfl, hb1⟩
        have H5 := hid (bt H4.out hb1); clear hb1 H4 C4
        cases sz with
        | true =>
          have C6 := C5.out (of_decide_eq_true HSZ.out.symm)
          have HC6 := hid C6
          clear C6
          go_wp2_with fail
          refine (HC6.out w5).mono ?_; rintro ee w6 ⟨rfl, hb1⟩
          have H6 := hid (bt H5.out hb1); clear hb1 H5 HC6 C5
          go_wp2_with fail
          go_ret
          exact ⟨rfl, H6.out⟩
        | false =>
          have hr := HR.out
          rw [readV_not (of_decide_eq_false HSZ.out.symm)] at hr
          simp only [Prod.mk.injEq] at hr
          obtain ⟨rfl, rfl, rfl, rfl⟩ := hr
          go_wp2_with fail
          go_ret
          exact ⟨rfl, H5.out⟩
theorem slabStamped_row (e q : Int) (s b : ByteArray) (w : World) (_ : (Lit.int .i64 e).wf = true) (_ : (Lit.int .i64 q).wf = true) (_ : s.size ≤ 140737488351232) (_ : b.size ≤ 140737488351232) :
    Calls Tryd.prog 4 #[.int .i64 e, .int .i64 q, .string s, .string b] w fun e w' => e = .returned (.bool true) ∧ Below w.heap.size w w' := slabStamped_walk e q s b w
end Go.Proofs.YtjeoelhenlckaaaDoor
