/-
  Of every word the sum that it tells: the law, walked.
-/
import Derived.Test.YtapmnnfnhgopcaaCrcLaws
namespace Go.Proofs.Ytapmnnfnhgopcaa
open Go.RowKit

theorem dv_all8 : ∀ n : Fin 256, (isd (UInt8.ofNat n.val) = decide (0 ≤ dv (UInt8.ofNat n.val))) ∧ (0 ≤ dv (UInt8.ofNat n.val) → dig (dv (UInt8.ofNat n.val)).toNat = UInt8.ofNat n.val) := by decide +kernel
theorem dv_dig : ∀ d : Fin 16, dv (dig d.val) = (d.val : Int) := by decide +kernel
theorem dv_isd (b : UInt8) : isd b = decide (0 ≤ dv b) := by
  have := (dv_all8 ⟨b.toNat, b.toNat_lt⟩).1
  simpa using this
theorem dig_dv (b : UInt8) (h : 0 ≤ dv b) : dig (dv b).toNat = b := by
  have := (dv_all8 ⟨b.toNat, b.toNat_lt⟩).2
  simp at this
  exact this h

theorem pv_isSome : ∀ (l : List UInt8) (n : Nat), (pv l n).isSome = l.all isd
  | [], n => rfl
  | b :: l, n => by
    simp only [pv, List.all_cons, dv_isd b]
    by_cases h : dv b < 0
    · rw [if_pos h, decide_eq_false (by omega)]; rfl
    · rw [if_neg h, decide_eq_true (by omega), Bool.true_and]; exact pv_isSome l _

theorem pv_hx : ∀ (l : List UInt8) (n N : Nat), pv l n = some N → hx N l.length = l ∧ N / 16 ^ l.length = n
  | [], n, N, h => by
    simp only [pv, Option.some.injEq] at h
    simp [hx, h]
  | b :: l, n, N, h => by
    simp only [pv] at h
    by_cases hb : dv b < 0
    · rw [if_pos hb] at h; cases h
    · rw [if_neg hb] at h
      obtain ⟨h1, h2⟩ := pv_hx l _ _ h
      obtain ⟨d1, d2⟩ := dv_all b
      have hm : (n * 16 + (dv b).toNat) % 16 = (dv b).toNat := by omega
      constructor
      · simp only [List.length_cons, hx, h1, h2, hm, dig_dv b (by omega)]
      · rw [List.length_cons, Nat.pow_succ, ← Nat.div_div_eq_div_mul, h2]; omega

theorem pv_of_hx (n : Nat) : ∀ (k m : Nat), pv (hx n k) m = some (m * 16 ^ k + n % 16 ^ k)
  | 0, m => by simp [pv, hx, Nat.mod_one]
  | k + 1, m => by
    have hd : n / 16 ^ k % 16 < 16 := Nat.mod_lt _ (by decide)
    have e := dv_dig ⟨n / 16 ^ k % 16, hd⟩
    simp only at e
    simp only [hx, pv, e]
    rw [if_neg (by omega), Int.toNat_natCast, pv_of_hx n k]
    congr 1
    rw [Nat.pow_succ, Nat.mod_mul, Nat.add_mul, Nat.mul_assoc, Nat.mul_comm 16 (16 ^ k), Nat.mul_comm (n / 16 ^ k % 16)]
    omega

theorem crc_Parse_some (s : ByteArray) (w : World) (n : Nat) (v : Bool) (hs : s.size ≤ 9223372036854775807) (hv : v = (decide (s.size = 8) && (pv s.data.toList 0).isSome)) (hn : n = if s.size = 8 then (pv s.data.toList 0).getD 0 else 0) :
    Calls Try.prog 22 #[.string s] w fun e w' => e = .returned (.tuple #[.int .u32 n, .bool v]) ∧ Below w.heap.size w w' := by
  subst hv hn
  exact (crc_Parse_any s w hs).mono fun _ _ ⟨b, h⟩ => ⟨h, b⟩

set_option maxHeartbeats 2000000 in
set_option maxRecDepth 100000 in
theorem CrcTexts_walk (c : Int) (s : ByteArray) (w : World) (hc : (Lit.int .u32 c).wf = true) (hs : s.size ≤ 140737488351232) :
    Calls Try.prog 4 #[.int .u32 c, .string s] w fun e w' => e = .returned (.bool true) ∧ Below w.heap.size w w' := by
  have hcl := wf_u32 hc
  obtain ⟨n, rfl⟩ := Int.eq_ofNat_of_zero_le hcl.1
  have hnl : n < 4294967296 := by omega
  clear hc hcl
  by_cases h1 : s.size ≤ 100
  · have t8 : (hx n 8).length = 8 := hx_len n 8
    have hp : pv (hx n 8) 0 = some n := by
      rw [pv_of_hx]
      congr 1
      omega
    have HT : Hid ((ByteArray.mk (hx n 8).toArray).size = 8) := by simp [Hid, ByteArray.size, t8]
    have HP : Hid (pv (ByteArray.mk (hx n 8).toArray).data.toList 0 = some n) := hp
    obtain ⟨T, hT⟩ : ∃ T, T = ByteArray.mk (hx n 8).toArray := ⟨_, rfl⟩
    rw [← hT] at HT HP
    have HTT := hid hT
    clear t8 hp hT
    obtain ⟨v, hv⟩ : ∃ v, v = (decide (s.size = 8) && (pv s.data.toList 0).isSome) := ⟨_, rfl⟩
    obtain ⟨y, hy⟩ : ∃ y, y = if s.size = 8 then (pv s.data.toList 0).getD 0 else 0 := ⟨_, rfl⟩
    have hd : digB s = v := by
      rw [hv, pv_isSome]; unfold digB; rw [Bool.and_comm]
    have hyl : y < 4294967296 := by
      rw [hy]
      split
      · rename_i h8
        cases hq : pv s.data.toList 0 with
        | none => simp
        | some N =>
          have := (pv_hx _ _ _ hq).2
          rw [show s.data.toList.length = 8 by simpa using h8] at this
          simp only [Option.getD_some]
          have := Nat.lt_of_div_eq_zero (show 0 < 16 ^ 8 by decide) this
          omega
      · decide
    have hyes : v = true → ByteArray.mk (hx y 8).toArray = s := by
      intro h
      rw [hv, Bool.and_eq_true] at h
      have h8 : s.size = 8 := by simpa using h.1
      obtain ⟨N, hN⟩ := Option.isSome_iff_exists.1 h.2
      rw [if_pos h8, hN] at hy
      have := (pv_hx _ _ _ hN).1
      rw [show s.data.toList.length = 8 by simpa using h8] at this
      simp only [Option.getD_some] at hy
      rw [hy, this]
    have hno : v = false → y = 0 := by
      intro h
      rw [hv, Bool.and_eq_false_iff] at h
      rw [hy]
      split
      · rename_i h8
        rcases h with h | h
        · simp at h; omega
        · simp at h; rw [h]; rfl
      · rfl
    have HV := hid hv; have HY := hid hy; have HD := hid hd
    clear hv hy hd
    go_enter Try.func4, Try.ntmps4
    go_wp2_with fail
    refine (awake02_any _).mono ?_; rintro e w1 ⟨rfl, hb1⟩
    go_wp2_with fail
    refine (crc_Text_any n hnl _).mono ?_; rintro e w2 ⟨rfl, hb2⟩; rw [← HTT.out]
    go_wp2_with fail
    refine (crc_Parse_yes T _ n HT.out HP.out).mono ?_; rintro e w3 ⟨rfl, hb3⟩
    go_wp2_with fail
    refine (crc_Parse_some s _ y v (by omega) HV.out HY.out).mono ?_; rintro e w4 ⟨rfl, hb4⟩
    cases v with
    | true =>
      have HE := hid (hyes rfl)
      clear hyes hno
      go_wp2_with fail
      refine (crc_Text_any n hnl _).mono ?_; rintro e w5 ⟨rfl, hb5⟩
      go_wp2_with fail
      refine (ref02_Text_any n hnl _).mono ?_; rintro e w6 ⟨rfl, rfl⟩
      go_wp2_with fail
      refine (ref02_Text_any y hyl _).mono ?_; rintro e w6 ⟨rfl, rfl⟩; rw [HE.out]
      go_wp2_with fail
      go_ret
      exact ⟨rfl, by repeat (first | exact Below.refl _ _ | (refine bt ?_ (by assumption)))⟩
    | false =>
      have HE := hid (hno rfl)
      clear hyes hno
      go_wp2_with fail
      refine (crc_Text_any n hnl _).mono ?_; rintro e w5 ⟨rfl, hb5⟩
      go_wp2_with fail
      refine (ref02_Text_any n hnl _).mono ?_; rintro e w6 ⟨rfl, rfl⟩
      rw [HE.out]
      go_wp2_with fail
      refine (digits_any s _ (by omega)).mono ?_; rintro e w6 ⟨rfl, rfl⟩; rw [HD.out]
      go_wp2_with fail
      go_ret
      exact ⟨rfl, by repeat (first | exact Below.refl _ _ | (refine bt ?_ (by assumption)))⟩
  · go_enter Try.func4, Try.ntmps4
    go_wp2_with fail
    refine (awake02_any _).mono ?_; rintro e w1 ⟨rfl, hb1⟩
    go_wp2_with fail
    go_ret
    exact ⟨rfl, hb1⟩
end Go.Proofs.Ytapmnnfnhgopcaa
