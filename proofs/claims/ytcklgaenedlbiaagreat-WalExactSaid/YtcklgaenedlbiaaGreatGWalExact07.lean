/-
  The document's reader of layer 1: Raw, Num, Text.
  msg.Read and the document's, of whatever bytes.
-/
import Derived.Test.YtcklgaenedlbiaaGreatGWalExact03
import Derived.Test.YtcklgaenedlbiaaGreatGWalExact06

namespace Go.Proofs.YtcklgaenedlbiaaGreat
open Go.RowKit

def RefAt (w : World) (p : Nat) (r : ByteArray) (b : Bool) : Prop := Blk w p 120 [.string r, .bool b]
theorem RefAt.c0 {w : World} {p : Nat} {r : ByteArray} {b : Bool} (h : RefAt w p r b) : w.cell? ⟨p, 0, none⟩ = some (.string r) := Blk.at h rfl
theorem RefAt.c1 {w : World} {p : Nat} {r : ByteArray} {b : Bool} (h : RefAt w p r b) : w.cell? ⟨p, 1, none⟩ = some (.bool b) := Blk.at h rfl
theorem RefAt.f0 {w : World} {p : Nat} {r : ByteArray} {b : Bool} (h : RefAt w p r b) : w.frozen? ⟨p, 0, none⟩ = false := Blk.free h (by simp)
theorem RefAt.f1 {w : World} {p : Nat} {r : ByteArray} {b : Bool} (h : RefAt w p r b) : w.frozen? ⟨p, 1, none⟩ = false := Blk.free h (by simp)

set_option maxHeartbeats 2000000 in
theorem rIn_Raw_no (p : Nat) (r : ByteArray) (b : Bool) (n : Int) (w : World) (h : RefAt w p r b) (hc : b = true ∨ n < 0 ∨ (r.size : Int) < n) :
    Calls Tryz.prog 93 #[.pointer (some ⟨p, 0, none⟩), .int .i64 n] w fun e w' => e = .returned (.string emptyB) ∧ Keeps [p] w w' ∧ RefAt w' p emptyB true := by
  have c0 := h.c0; have c1 := h.c1; have f0 := h.f0; have f1 := h.f1
  have hend : Keeps [p] w ((w.setCell ⟨p, 1, none⟩ (.bool true)).setCell ⟨p, 0, none⟩ (.string ⟨#[]⟩)) ∧ RefAt ((w.setCell ⟨p, 1, none⟩ (.bool true)).setCell ⟨p, 0, none⟩ (.string ⟨#[]⟩)) p emptyB true :=
    ⟨((Keeps.refl _ _).setCell (by simp) _).setCell (by simp) _, Blk.set (Blk.set h 1 (.bool true)) 0 (.string ⟨#[]⟩)⟩
  have HE := hid hend
  clear h hend
  cases b with
  | true =>
    clear hc
    go_enter Tryz.func93, Tryz.ntmps93
    go_wp2_with fail
    go_ret
    exact ⟨rfl, HE.out.1, HE.out.2⟩
  | false =>
    by_cases hn : n < 0
    · clear hc
      go_enter Tryz.func93, Tryz.ntmps93
      go_wp2_with fail
      go_ret
      exact ⟨rfl, HE.out.1, HE.out.2⟩
    · have hr : (r.size : Int) < n := by simp at hc; omega
      clear hc
      go_enter Tryz.func93, Tryz.ntmps93
      go_wp2_with fail
      go_ret
      exact ⟨rfl, HE.out.1, HE.out.2⟩

set_option maxHeartbeats 2000000 in
theorem rIn_Raw_yes (p : Nat) (r : ByteArray) (n : Nat) (w : World) (h : RefAt w p r false) (hc : n ≤ r.size) :
    Calls Tryz.prog 93 #[.pointer (some ⟨p, 0, none⟩), .int .i64 n] w fun e w' => e = .returned (.string (r.extract 0 n)) ∧ Keeps [p] w w' ∧ RefAt w' p (r.extract n r.size) false := by
  have c0 := h.c0; have c1 := h.c1; have f0 := h.f0
  have b0 : (0 : Int) ≤ (n : Int) := by omega
  have b1 : (n : Int) ≤ (r.size : Int) := by omega
  have H := hid h; clear h
  go_enter Tryz.func93, Tryz.ntmps93
  go_wp2_with fail
  go_ret
  exact ⟨rfl, (Keeps.refl _ _).setCell (by simp) _, Blk.set H.out 0 _⟩

set_option maxHeartbeats 4000000 in
set_option maxRecDepth 100000 in
theorem rIn_Num_no (p : Nat) (r : ByteArray) (b : Bool) (n : Int) (w : World) (h : RefAt w p r b) (hc : isW n = false ∨ b = true ∨ (r.size : Int) < n) :
    Calls Tryz.prog 67 #[.pointer (some ⟨p, 0, none⟩), .int .i64 n] w fun e w' => e = .returned (.int .i64 0) ∧ Keeps [p] w w' ∧ RefAt w' p emptyB true := by
  have H := hid h; clear h
  cases hw : isW n with
  | false =>
    clear hc
    obtain ⟨h1, h2, h4, h8⟩ := isW_not hw
    have e1 : (n != 1) = true := by simpa using h1
    have e2 : (n != 2) = true := by simpa using h2
    have e4 : (n != 4) = true := by simpa using h4
    have e8 : (n != 8) = true := by simpa using h8
    clear hw
    go_enter Tryz.func67, Tryz.ntmps67
    go_wp2_with fail
    refine (rIn_Raw_no p r b (-1) _ H.out (.inr (.inl (by decide)))).mono ?_; rintro e w1 ⟨rfl, hk, hi⟩
    have HK := hid hk; have HI := hid hi; clear hk hi
    go_wp2_with fail
    go_ret
    exact ⟨rfl, HK.out, HI.out⟩
  | true =>
    have hno : b = true ∨ n < 0 ∨ (r.size : Int) < n := by
      rcases hc with h | h | h
      · rw [hw] at h; cases h
      · exact .inl h
      · exact .inr (.inr h)
    have HNO := hid hno
    clear hc hno
    rcases isW_cases hw with rfl | rfl | rfl | rfl
    all_goals
      clear hw
      go_enter Tryz.func67, Tryz.ntmps67
      go_wp2_with fail
      refine (rIn_Raw_no p r b _ _ H.out HNO.out).mono ?_; rintro e w1 ⟨rfl, hk, hi⟩
      have HK := hid hk; have HI := hid hi; clear hk hi
      rw [show emptyB = ⟨#[]⟩ from rfl]
      go_wp2_with fail
      refine wp_loop_rounds 1 ?_
      rw [rounds_succ]
      go_wp2_with fail
      go_ret
      exact ⟨rfl, HK.out, HI.out⟩

theorem be_up (l : List UInt8) (k n : Nat) (hk : k < n) (hn : n ≤ l.length) : be (l.take k) * 256 ≤ be (l.take n) := by
  obtain ⟨d, rfl⟩ : ∃ d, n = k + 1 + d := ⟨n - (k + 1), by omega⟩
  have step : ∀ m, m < l.length → be (l.take m) * 256 ≤ be (l.take (m + 1)) := fun m hm => by
    rw [List.take_succ_eq_append_getElem hm, be_snoc]; omega
  clear hk
  induction d with
  | zero => exact step k (by omega)
  | succ d ih =>
    have h1 := ih (by omega)
    have h2 := step (k + 1 + d) (by omega)
    have h3 : k + 1 + (d + 1) = k + 1 + d + 1 := by omega
    rw [h3]
    exact Nat.le_trans (Nat.le_trans h1 (Nat.le_mul_of_pos_right _ (by decide))) h2

set_option maxHeartbeats 8000000 in
set_option maxRecDepth 100000 in
theorem rIn_Num_walk (p : Nat) (r : ByteArray) (n : Nat) (w : World) (h : RefAt w p r false) (hw : isW (n : Int) = true) (hc : n ≤ r.size) (N : Nat) (hN : N = be (r.data.toList.take n)) (big : Bool) (hb : big = decide (9223372036854775808 ≤ N)) :
    Calls Tryz.prog 67 #[.pointer (some ⟨p, 0, none⟩), .int .i64 n] w fun e w' => e = .returned (.int .i64 (if big then 0 else (N : Int))) ∧ Keeps [p] w w' ∧ RefAt w' p (if big then emptyB else r.extract n r.size) big := by
  obtain ⟨V, hV⟩ : ∃ V : Int, V = if big then 0 else (N : Int) := ⟨_, rfl⟩
  obtain ⟨R, hR⟩ : ∃ R : ByteArray, R = if big then emptyB else r.extract n r.size := ⟨_, rfl⟩
  rw [← hV, ← hR]
  have HV := hid hV; have HRR := hid hR; clear hV hR
  have H := hid h; clear h
  have HN := hid hN; have HB := hid hb
  clear hN hb
  obtain ⟨t, ht⟩ : ∃ t, t = r.extract 0 n := ⟨_, rfl⟩
  have htl : t.data.toList = r.data.toList.take n := by rw [ht]; simp
  have hts : t.size = n := by
    have h1 := congrArg List.length htl
    rw [List.length_take] at h1
    have h2 : t.data.toList.length = t.size := by simp
    have h3 : r.data.toList.length = r.size := by simp
    omega
  have hn8 : n ≤ 8 := by rcases isW_cases hw with h | h | h | h <;> omega
  have HT := hid ht; have HTL := hid htl; have HTS := hid hts
  clear ht htl
  have hcase : (n : Int) = 1 ∨ (n : Int) = 2 ∨ (n : Int) = 4 ∨ (n : Int) = 8 := isW_cases hw
  have hti : (t.size : Int) = (n : Int) := by omega
  rcases hcase with h | h | h | h
  all_goals
    first | have e1 : ((n : Int) != 1) = false := (by rw [h]; rfl) | have e1 : ((n : Int) != 1) = true := (by rw [h]; rfl)
    first | have e2 : ((n : Int) != 2) = false := (by rw [h]; rfl) | have e2 : ((n : Int) != 2) = true := (by rw [h]; rfl)
    first | have e4 : ((n : Int) != 4) = false := (by rw [h]; rfl) | have e4 : ((n : Int) != 4) = true := (by rw [h]; rfl)
    first | have e8 : ((n : Int) != 8) = false := (by rw [h]; rfl) | have e8 : ((n : Int) != 8) = true := (by rw [h]; rfl)
    clear hw h
    go_enter Tryz.func67, Tryz.ntmps67
    go_wp2_with fail
    refine (rIn_Raw_yes p r n _ H.out hc).mono ?_; rintro e w2 ⟨rfl, hk2, hi2⟩
    rw [← HT.out]
    have HK := hid hk2; have HI := hid hi2
    clear hk2 hi2 e1 e2 e4 e8
    go_wp2_with fail
    go_loopg [6, 7] n (fun g x j wx => ∃ (k : Nat) (M : Nat), k + g = n ∧ j = .int .i64 k ∧ x = .int .i64 M ∧ M < 9223372036854775808 ∧ Hid (M = be (t.data.toList.take k)) ∧ w2 = wx)
    case atStart => exact ⟨0, 0, by omega, rfl, rfl, by decide, (show 0 = be (t.data.toList.take 0) by simp [be]), rfl⟩
    case round =>
      obtain ⟨k, M, hk, rfl, rfl, hMl, HM, rfl⟩ := hrel
      by_cases hlt : k < n
      · rcases Int.lt_or_le 36028797018963967 (M : Int) with hbig | hbig
        · have htl9 : n ≤ t.data.toList.length := by
            have h3 : t.data.toList.length = t.size := by simp
            omega
          have hN2 : M * 256 ≤ N := by
            have hup := be_up t.data.toList k n hlt htl9
            rw [← HM.out] at hup
            have hNt : be (t.data.toList.take n) = N := by rw [HN.out, ← HTL.out, List.take_of_length_le (Nat.le_of_eq (by rw [show t.data.toList.length = t.size by simp, hts]))]
            rw [hNt] at hup
            exact hup
          have hbt : big = true := by rw [HB.out]; exact decide_eq_true (by omega)
          have HBT := hid hbt
          clear hbt htl9 hN2
          go_wp2_with fail
          refine (rIn_Raw_no p _ _ (-1) _ HI.out (.inr (.inl (by decide)))).mono ?_; rintro e w3 ⟨rfl, hk3, hi3⟩
          have HK3 := hid hk3; have HI3 := hid hi3; clear hk3 hi3
          go_wp2_with fail
          go_ret
          exact ⟨by rw [HV.out, HBT.out]; rfl, HK.out.trans HK3.out, by rw [HRR.out, HBT.out]; exact HI3.out⟩
        · have hkt : k < t.size := by rw [hts]; exact hlt
          have hsn := take_snoc t k hkt
          obtain ⟨x, hx⟩ : ∃ x, x = t.data.toList.getD k 0 := ⟨_, rfl⟩
          have hx7 : ∀ h : k < t.size, t[k]'h = x := by
            intro h
            rw [hx, data_getD t k h]
          rw [← hx] at hsn
          have hxl := x.toNat_lt
          obtain ⟨M2, hM2⟩ : ∃ M2, M2 = M * 256 := ⟨_, rfl⟩
          have e2 : wrap64 ((M2 : Int) + (x.toNat : Int)) = ((M2 + x.toNat : Nat) : Int) := by unfold wrap64; omega
          have E2 := hid e2; clear e2
          have e1 : wrap64 ((M : Int) * 256) = (M2 : Int) := by unfold wrap64; omega
          have E1 := hid e1; clear e1
          have HNX : Hid (M2 + x.toNat = be (t.data.toList.take (k + 1))) := by rw [hsn, be_snoc, ← HM.out, hM2]; rfl
          have hlt2 : M2 + x.toNat < 9223372036854775808 := by omega
          have e1 := E1.out; have e2 := E2.out
          have HM22 := hid hM2
          clear hx hsn hM2 E1 E2
          go_wp2_with fail
          go_roundg (n - (k + 1))
          case measure => omega
          case rel => exact ⟨k + 1, M2 + x.toNat, by omega, by go_num, by first | rfl | go_num | (simp [HM22.out]), hlt2, HNX, rfl⟩
      · have hkn : k = n := by omega
        have hNt : be (t.data.toList.take k) = N := by rw [hkn, HN.out, ← HTL.out, List.take_of_length_le (Nat.le_of_eq (by rw [show t.data.toList.length = t.size by simp, hts]))]
        have hMN : M = N := HM.out.trans hNt
        clear hNt
        have hbf : big = false := by rw [HB.out]; exact decide_eq_false (by rw [← hMN]; omega)
        have HBF := hid hbf; have HMN := hid hMN
        clear hMN hbf hkn
        go_wp2_with fail
        go_ret
        exact ⟨by rw [HV.out, HBF.out, ← HMN.out]; rfl, HK.out, by rw [HRR.out, HBF.out]; exact HI.out⟩

theorem rIn_Num1 (p : Nat) (r : ByteArray) (w : World) (h : RefAt w p r false) (x : UInt8) (hx : r.data.toList[0]? = some x) :
    Calls Tryz.prog 67 #[.pointer (some ⟨p, 0, none⟩), .int .i64 1] w fun e w' => e = .returned (.int .i64 x.toNat) ∧ Keeps [p] w w' ∧ RefAt w' p (r.extract 1 r.size) false := by
  have hl : 0 < r.data.toList.length := (List.getElem?_eq_some_iff.1 hx).1
  have hsz : 1 ≤ r.size := by simp at hl; omega
  have ht : r.data.toList.take 1 = [x] := by
    cases hd : r.data.toList with
    | nil => rw [hd] at hl; simp at hl
    | cons y l => rw [hd] at hx; simp at hx; simp [hx]
  refine (rIn_Num_walk p r 1 w h rfl hsz x.toNat (by rw [ht]; simp [be]) false ?_).mono ?_
  · have := x.toNat_lt
    rw [eq_comm, decide_eq_false_iff_not]; omega
  · rintro e w' ⟨rfl, hk, hi⟩
    exact ⟨rfl, hk, hi⟩

set_option maxHeartbeats 2000000 in
theorem rIn_Text_no (p : Nat) (r : ByteArray) (b : Bool) (most : Int) (w : World) (h : RefAt w p r b)
    (hc : b = true ∨ r.size = 0 ∨ ∃ x : UInt8, r.data.toList[0]? = some x ∧ (most < (x.toNat : Int) ∨ (r.size : Int) < x.toNat + 1)) :
    Calls Tryz.prog 94 #[.pointer (some ⟨p, 0, none⟩), .int .i64 most] w fun e w' => e = .returned (.string emptyB) ∧ Keeps [p] w w' ∧ RefAt w' p emptyB true := by
  have H := hid h; clear h
  by_cases hs : b = true ∨ r.size = 0
  · have hno : isW 1 = false ∨ b = true ∨ (r.size : Int) < 1 := by
      rcases hs with h | h
      · exact .inr (.inl h)
      · right; right; omega
    clear hc hs
    go_enter Tryz.func94, Tryz.ntmps94
    go_wp2_with fail
    refine (rIn_Num_no p r b 1 _ H.out hno).mono ?_; rintro e w1 ⟨rfl, hk1, hi1⟩
    have c1 := hi1.c1
    have HK := hid hk1; have HI := hid hi1; clear hk1 hi1
    go_wp2_with fail
    refine (rIn_Raw_no p _ _ _ _ HI.out (.inl rfl)).mono ?_; rintro e w2 ⟨rfl, hk2, hi2⟩
    have HK2 := hid hk2; have HI2 := hid hi2; clear hk2 hi2 c1
    go_wp2_with fail
    go_ret
    exact ⟨rfl, HK.out.trans HK2.out, HI2.out⟩
  · have hbf : b = false := by cases b <;> simp_all
    obtain ⟨x, hx, hc⟩ : ∃ x : UInt8, r.data.toList[0]? = some x ∧ (most < (x.toNat : Int) ∨ (r.size : Int) < x.toNat + 1) := by
      rcases hc with h | h | h
      · exact absurd (.inl h) hs
      · exact absurd (.inr h) hs
      · exact h
    subst hbf
    clear hs
    have hr1 : (r.extract 1 r.size).size = r.size - 1 := by simp
    have HX := hid hx; clear hx
    have hxl : x.toNat < 256 := x.toNat_lt
    by_cases hm : most < (x.toNat : Int)
    · clear hc hr1
      go_enter Tryz.func94, Tryz.ntmps94
      go_wp2_with fail
      refine (rIn_Num1 p r _ H.out x HX.out).mono ?_; rintro e w1 ⟨rfl, hk1, hi1⟩
      have c1 := hi1.c1
      have HK := hid hk1; have HI := hid hi1; clear hk1 hi1
      go_wp2_with fail
      refine (rIn_Raw_no p _ _ _ _ HI.out (.inr (.inl (by decide)))).mono ?_; rintro e w2 ⟨rfl, hk2, hi2⟩
      have HK2 := hid hk2; have HI2 := hid hi2; clear hk2 hi2 c1
      go_wp2_with fail
      go_ret
      exact ⟨rfl, HK.out.trans HK2.out, HI2.out⟩
    · have hr0 : 1 ≤ r.size := by
        have := (List.getElem?_eq_some_iff.1 HX.out).1
        simp at this; omega
      have hc2 : ((r.extract 1 r.size).size : Int) < (x.toNat : Int) := by rw [hr1]; omega
      have HC2 := hid hc2
      clear hr1 hc hc2
      go_enter Tryz.func94, Tryz.ntmps94
      go_wp2_with fail
      refine (rIn_Num1 p r _ H.out x HX.out).mono ?_; rintro e w1 ⟨rfl, hk1, hi1⟩
      have c1 := hi1.c1
      have HK := hid hk1; have HI := hid hi1; clear hk1 hi1
      go_wp2_with fail
      refine (rIn_Raw_no p _ _ (x.toNat : Int) _ HI.out (.inr (.inr HC2.out))).mono ?_; rintro e w2 ⟨rfl, hk2, hi2⟩
      have HK2 := hid hk2; have HI2 := hid hi2; clear hk2 hi2 c1
      go_wp2_with fail
      go_ret
      exact ⟨rfl, HK.out.trans HK2.out, HI2.out⟩

set_option maxHeartbeats 2000000 in
theorem rIn_Text_yes (p : Nat) (r : ByteArray) (most : Int) (w : World) (h : RefAt w p r false) (x : UInt8) (hx : r.data.toList[0]? = some x) (hm : (x.toNat : Int) ≤ most) (hs : x.toNat + 1 ≤ r.size) :
    Calls Tryz.prog 94 #[.pointer (some ⟨p, 0, none⟩), .int .i64 most] w fun e w' => e = .returned (.string ((r.extract 1 r.size).extract 0 x.toNat)) ∧ Keeps [p] w w' ∧ RefAt w' p ((r.extract 1 r.size).extract x.toNat (r.extract 1 r.size).size) false := by
  have H := hid h; clear h
  have hr1 : (r.extract 1 r.size).size = r.size - 1 := by simp
  have HX := hid hx; clear hx
  have HR := hid hr1; clear hr1
  have hxl : x.toNat < 256 := x.toNat_lt
  go_enter Tryz.func94, Tryz.ntmps94
  go_wp2_with fail
  refine (rIn_Num1 p r _ H.out x HX.out).mono ?_; rintro e w1 ⟨rfl, hk1, hi1⟩
  have c1 := hi1.c1
  have HK := hid hk1; have HI := hid hi1; clear hk1 hi1
  go_wp2_with fail
  refine (rIn_Raw_yes p _ x.toNat _ HI.out (by rw [HR.out]; omega)).mono ?_; rintro e w2 ⟨rfl, hk2, hi2⟩
  have HK2 := hid hk2; have HI2 := hid hi2; clear hk2 hi2 c1
  go_wp2_with fail
  go_ret
  exact ⟨rfl, HK.out.trans HK2.out, HI2.out⟩

/-! What a deed reads, and what is left -/
def rawT (r : ByteArray) (b : Bool) (n : Int) : ByteArray × ByteArray × Bool :=
  if b = false ∧ 0 ≤ n ∧ n ≤ r.size then (r.extract 0 n.toNat, r.extract n.toNat r.size, false) else (emptyB, emptyB, true)
def numT (r : ByteArray) (b : Bool) (n : Int) : Int × ByteArray × Bool :=
  if b = false ∧ isW n = true ∧ n ≤ r.size then
    (if 9223372036854775808 ≤ be (r.data.toList.take n.toNat) then (0, emptyB, true) else ((be (r.data.toList.take n.toNat) : Int), r.extract n.toNat r.size, false))
  else (0, emptyB, true)
def textT (r : ByteArray) (b : Bool) (most : Int) : ByteArray × ByteArray × Bool :=
  match r.data.toList[0]? with
  | none => (emptyB, emptyB, true)
  | some x => if b = false ∧ (x.toNat : Int) ≤ most ∧ x.toNat + 1 ≤ r.size then ((r.extract 1 r.size).extract 0 x.toNat, (r.extract 1 r.size).extract x.toNat (r.extract 1 r.size).size, false) else (emptyB, emptyB, true)

section
variable (F : FuncId) (At : World → Nat → ByteArray → Bool → Prop)
theorem raw_spec (no : ∀ p r b n w, At w p r b → (b = true ∨ n < 0 ∨ (r.size : Int) < n) → Calls Tryz.prog F #[.pointer (some ⟨p, 0, none⟩), .int .i64 n] w fun e w' => e = .returned (.string emptyB) ∧ Keeps [p] w w' ∧ At w' p emptyB true)
    (yes : ∀ p r (n : Nat) w, At w p r false → n ≤ r.size → Calls Tryz.prog F #[.pointer (some ⟨p, 0, none⟩), .int .i64 n] w fun e w' => e = .returned (.string (r.extract 0 n)) ∧ Keeps [p] w w' ∧ At w' p (r.extract n r.size) false)
    (p : Nat) (r : ByteArray) (b : Bool) (n : Int) (w : World) (h : At w p r b) :
    Calls Tryz.prog F #[.pointer (some ⟨p, 0, none⟩), .int .i64 n] w fun e w' => e = .returned (.string (rawT r b n).1) ∧ Keeps [p] w w' ∧ At w' p (rawT r b n).2.1 (rawT r b n).2.2 := by
  unfold rawT
  by_cases hc : b = false ∧ 0 ≤ n ∧ n ≤ r.size
  · rw [if_pos hc]
    obtain ⟨rfl, h0, h1⟩ := hc
    obtain ⟨m, rfl⟩ : ∃ m : Nat, n = (m : Int) := ⟨n.toNat, by omega⟩
    exact yes p r m w h (by omega)
  · rw [if_neg hc]
    refine no p r b n w h ?_
    cases b with
    | true => exact .inl rfl
    | false =>
      right
      by_cases h0 : n < 0
      · exact .inl h0
      · right
        have : ¬ (n ≤ r.size) := fun h1 => hc ⟨rfl, by omega, h1⟩
        omega
theorem num_spec (no : ∀ p r b n w, At w p r b → (isW n = false ∨ b = true ∨ (r.size : Int) < n) → Calls Tryz.prog F #[.pointer (some ⟨p, 0, none⟩), .int .i64 n] w fun e w' => e = .returned (.int .i64 0) ∧ Keeps [p] w w' ∧ At w' p emptyB true)
    (yes : ∀ p r (n : Nat) w, At w p r false → isW (n : Int) = true → n ≤ r.size → ∀ N, N = be (r.data.toList.take n) → ∀ big, big = decide (9223372036854775808 ≤ N) → Calls Tryz.prog F #[.pointer (some ⟨p, 0, none⟩), .int .i64 n] w fun e w' => e = .returned (.int .i64 (if big then 0 else (N : Int))) ∧ Keeps [p] w w' ∧ At w' p (if big then emptyB else r.extract n r.size) big)
    (p : Nat) (r : ByteArray) (b : Bool) (n : Int) (w : World) (h : At w p r b) :
    Calls Tryz.prog F #[.pointer (some ⟨p, 0, none⟩), .int .i64 n] w fun e w' => e = .returned (.int .i64 (numT r b n).1) ∧ Keeps [p] w w' ∧ At w' p (numT r b n).2.1 (numT r b n).2.2 := by
  unfold numT
  by_cases hc : b = false ∧ isW n = true ∧ n ≤ r.size
  · rw [if_pos hc]
    obtain ⟨rfl, h0, h1⟩ := hc
    obtain ⟨m, rfl⟩ : ∃ m : Nat, n = (m : Int) := ⟨n.toNat, by rcases isW_cases h0 with e | e | e | e <;> omega⟩
    have hy := yes p r m w h h0 (by omega) _ rfl _ rfl
    rw [Int.toNat_natCast]
    cases hb : decide (9223372036854775808 ≤ be (r.data.toList.take m)) with
    | true => rw [hb] at hy; rw [if_pos (of_decide_eq_true hb)]; exact hy
    | false => rw [hb] at hy; rw [if_neg (of_decide_eq_false hb)]; exact hy
  · rw [if_neg hc]
    refine no p r b n w h ?_
    cases b with
    | true => exact .inr (.inl rfl)
    | false =>
      cases hw : isW n with
      | false => exact .inl rfl
      | true =>
        right; right
        have : ¬ (n ≤ r.size) := fun h1 => hc ⟨rfl, hw, h1⟩
        omega
theorem text_spec (no : ∀ p r b most w, At w p r b → (b = true ∨ r.size = 0 ∨ ∃ x : UInt8, r.data.toList[0]? = some x ∧ (most < (x.toNat : Int) ∨ (r.size : Int) < x.toNat + 1)) → Calls Tryz.prog F #[.pointer (some ⟨p, 0, none⟩), .int .i64 most] w fun e w' => e = .returned (.string emptyB) ∧ Keeps [p] w w' ∧ At w' p emptyB true)
    (yes : ∀ p r most w, At w p r false → ∀ x : UInt8, r.data.toList[0]? = some x → (x.toNat : Int) ≤ most → x.toNat + 1 ≤ r.size → Calls Tryz.prog F #[.pointer (some ⟨p, 0, none⟩), .int .i64 most] w fun e w' => e = .returned (.string ((r.extract 1 r.size).extract 0 x.toNat)) ∧ Keeps [p] w w' ∧ At w' p ((r.extract 1 r.size).extract x.toNat (r.extract 1 r.size).size) false)
    (p : Nat) (r : ByteArray) (b : Bool) (most : Int) (w : World) (h : At w p r b) :
    Calls Tryz.prog F #[.pointer (some ⟨p, 0, none⟩), .int .i64 most] w fun e w' => e = .returned (.string (textT r b most).1) ∧ Keeps [p] w w' ∧ At w' p (textT r b most).2.1 (textT r b most).2.2 := by
  unfold textT
  cases hx : r.data.toList[0]? with
  | none =>
    refine no p r b most w h (.inr (.inl ?_))
    have h1 := List.getElem?_eq_none_iff.1 hx
    have h2 : r.data.toList.length = r.size := by simp
    omega
  | some x =>
    by_cases hc : b = false ∧ (x.toNat : Int) ≤ most ∧ x.toNat + 1 ≤ r.size
    · simp only [if_pos hc]
      obtain ⟨rfl, h0, h1⟩ := hc
      exact yes p r most w h x hx h0 h1
    · simp only [if_neg hc]
      refine no p r b most w h ?_
      cases b with
      | true => exact .inl rfl
      | false =>
        right; right
        refine ⟨x, hx, ?_⟩
        by_cases h0 : most < (x.toNat : Int)
        · exact .inl h0
        · right
          have : ¬ (x.toNat + 1 ≤ r.size) := fun h1 => hc ⟨rfl, by omega, h1⟩
          omega
end
theorem In_Raw_all (p : Nat) (r : ByteArray) (b : Bool) (n : Int) (w : World) (h : InAt w p r b) :
    Calls Tryz.prog 100 #[.pointer (some ⟨p, 0, none⟩), .int .i64 n] w fun e w' => e = .returned (.string (rawT r b n).1) ∧ Keeps [p] w w' ∧ InAt w' p (rawT r b n).2.1 (rawT r b n).2.2 :=
  raw_spec 100 InAt In_Raw_no In_Raw_yes p r b n w h
theorem rIn_Raw_all (p : Nat) (r : ByteArray) (b : Bool) (n : Int) (w : World) (h : RefAt w p r b) :
    Calls Tryz.prog 93 #[.pointer (some ⟨p, 0, none⟩), .int .i64 n] w fun e w' => e = .returned (.string (rawT r b n).1) ∧ Keeps [p] w w' ∧ RefAt w' p (rawT r b n).2.1 (rawT r b n).2.2 :=
  raw_spec 93 RefAt rIn_Raw_no rIn_Raw_yes p r b n w h
theorem In_Num_all (p : Nat) (r : ByteArray) (b : Bool) (n : Int) (w : World) (h : InAt w p r b) :
    Calls Tryz.prog 77 #[.pointer (some ⟨p, 0, none⟩), .int .i64 n] w fun e w' => e = .returned (.int .i64 (numT r b n).1) ∧ Keeps [p] w w' ∧ InAt w' p (numT r b n).2.1 (numT r b n).2.2 :=
  num_spec 77 InAt In_Num_no (fun p r n w h hw hc N hN big hb => In_Num_walk p r n w h hw hc N hN big hb) p r b n w h
theorem rIn_Num_all (p : Nat) (r : ByteArray) (b : Bool) (n : Int) (w : World) (h : RefAt w p r b) :
    Calls Tryz.prog 67 #[.pointer (some ⟨p, 0, none⟩), .int .i64 n] w fun e w' => e = .returned (.int .i64 (numT r b n).1) ∧ Keeps [p] w w' ∧ RefAt w' p (numT r b n).2.1 (numT r b n).2.2 :=
  num_spec 67 RefAt rIn_Num_no (fun p r n w h hw hc N hN big hb => rIn_Num_walk p r n w h hw hc N hN big hb) p r b n w h
theorem In_Text_all (p : Nat) (r : ByteArray) (b : Bool) (n : Int) (w : World) (h : InAt w p r b) :
    Calls Tryz.prog 102 #[.pointer (some ⟨p, 0, none⟩), .int .i64 n] w fun e w' => e = .returned (.string (textT r b n).1) ∧ Keeps [p] w w' ∧ InAt w' p (textT r b n).2.1 (textT r b n).2.2 :=
  text_spec 102 InAt In_Text_no (fun p r most w h x hx hm hs => In_Text_yes p r most w h x hx hm hs) p r b n w h
theorem rIn_Text_all (p : Nat) (r : ByteArray) (b : Bool) (n : Int) (w : World) (h : RefAt w p r b) :
    Calls Tryz.prog 94 #[.pointer (some ⟨p, 0, none⟩), .int .i64 n] w fun e w' => e = .returned (.string (textT r b n).1) ∧ Keeps [p] w w' ∧ RefAt w' p (textT r b n).2.1 (textT r b n).2.2 :=
  text_spec 94 RefAt rIn_Text_no (fun p r most w h x hx hm hs => rIn_Text_yes p r most w h x hx hm hs) p r b n w h
end Go.Proofs.YtcklgaenedlbiaaGreat

namespace Go.Proofs.YtcklgaenedlbiaaGreat
open Go.RowKit


/-- what is read: a message; what is left; whether something was wrong -/
def readT (r : ByteArray) (b : Bool) : Msg3 × ByteArray × Bool :=
  if isB ((numT r b 1).1, (textT (numT r b 1).2.1 (numT r b 1).2.2 8).1, (textT (textT (numT r b 1).2.1 (numT r b 1).2.2 8).2.1 (textT (numT r b 1).2.1 (numT r b 1).2.2 8).2.2 16).1) then
    (((numT r b 1).1, (textT (numT r b 1).2.1 (numT r b 1).2.2 8).1, (textT (textT (numT r b 1).2.1 (numT r b 1).2.2 8).2.1 (textT (numT r b 1).2.1 (numT r b 1).2.2 8).2.2 16).1),
      (textT (textT (numT r b 1).2.1 (numT r b 1).2.2 8).2.1 (textT (numT r b 1).2.1 (numT r b 1).2.2 8).2.2 16).2)
  else ((0, ⟨#[]⟩, ⟨#[]⟩), emptyB, true)

theorem readT_parts (r : ByteArray) (b : Bool) : ∃ (K : Int) (r1 : ByteArray) (b1 : Bool) (k r2 : ByteArray) (b2 : Bool) (v r3 : ByteArray) (b3 : Bool),
    numT r b 1 = (K, r1, b1) ∧ textT r1 b1 8 = (k, r2, b2) ∧ textT r2 b2 16 = (v, r3, b3) ∧ readT r b = if msgIs K k v then ((K, k, v), r3, b3) else ((0, ⟨#[]⟩, ⟨#[]⟩), emptyB, true) := by
  obtain ⟨⟨K, r1, b1⟩, h1⟩ : ∃ x, x = numT r b 1 := ⟨_, rfl⟩
  obtain ⟨⟨k, r2, b2⟩, h2⟩ : ∃ x, x = textT r1 b1 8 := ⟨_, rfl⟩
  obtain ⟨⟨v, r3, b3⟩, h3⟩ : ∃ x, x = textT r2 b2 16 := ⟨_, rfl⟩
  refine ⟨K, r1, b1, k, r2, b2, v, r3, b3, h1.symm, h2.symm, h3.symm, ?_⟩
  unfold readT
  simp only [← h1, ← h2, ← h3]
  rfl
theorem rawT_neg (r : ByteArray) (b : Bool) : rawT r b (-1) = (emptyB, emptyB, true) := by
  unfold rawT
  rw [if_neg (by omega)]

set_option maxHeartbeats 8000000 in
set_option maxRecDepth 100000 in
theorem msg_Read_any (p : Nat) (r : ByteArray) (b : Bool) (w : World) (h : InAt w p r b) :
    Calls Tryz.prog 79 #[.pointer (some ⟨p, 0, none⟩)] w fun e w' => e = .returned (.agg #[.int .i64 (readT r b).1.1, .string (readT r b).1.2.1, .string (readT r b).1.2.2]) ∧ Keeps [p] w w' ∧ InAt w' p (readT r b).2.1 (readT r b).2.2 := by
  obtain ⟨K, r1, b1, k, r2, b2, v, r3, b3, t1, t2, t3, t4⟩ := readT_parts r b
  rw [t4]
  obtain ⟨f, hf⟩ : ∃ f, f = msgIs K k v := ⟨_, rfl⟩
  rw [← hf]
  have T1 := hid t1; have T2 := hid t2; have T3 := hid t3; have HF := hid hf
  clear t1 t2 t3 t4 hf
  have hu := Tryz.underlying39
  have hA := below_alloc w (.cells #[.int .i64 0, .string ⟨#[]⟩, .string ⟨#[]⟩] 39)
  have FA := MsgAt.new w 0 ⟨#[]⟩ ⟨#[]⟩
  obtain ⟨g2, hg⟩ : ∃ g, g = w.heap.size := ⟨_, rfl⟩
  rw [← hg] at FA
  have hgp : g2 ≠ p := by have := Blk.lt h; omega
  have H1 := hid (show MsgAt (w.alloc (.cells #[.int .i64 0, .string ⟨#[]⟩, .string ⟨#[]⟩] 39)) g2 0 ⟨#[]⟩ ⟨#[]⟩ ∧ InAt (w.alloc (.cells #[.int .i64 0, .string ⟨#[]⟩, .string ⟨#[]⟩] 39)) p r b ∧ Keeps [p] w (w.alloc (.cells #[.int .i64 0, .string ⟨#[]⟩, .string ⟨#[]⟩] 39)) ∧ w.heap.size ≤ g2 ∧ g2 ≠ p from
    ⟨FA, Blk.belowS h hA, Keeps.of hA, Nat.le_of_eq hg.symm, hgp⟩)
  have HG := hid hg
  clear hA FA h hg hgp
  cases f
  all_goals
    go_enter Tryz.func79, Tryz.ntmps79
    go_wp2_with fail
    rw [← HG.out]
    clear HG
    generalize w.alloc (.cells #[.int .i64 0, .string ⟨#[]⟩, .string ⟨#[]⟩] 39) = w1 at H1 ⊢
    refine (In_Num_all p r b 1 _ H1.out.2.1).mono ?_; rintro e w2 ⟨rfl, k1, i1⟩
    rw [T1.out] at i1 ⊢
    have HI2 := hid i1
    have H2 := hid (show MsgAt w2 g2 0 ⟨#[]⟩ ⟨#[]⟩ ∧ Keeps [p] w w2 from ⟨H1.out.1.keeps k1 (by simp; exact H1.out.2.2.2.2), H1.out.2.2.1.trans k1⟩)
    clear k1 i1
    go_wp2_with fail
    refine (In_Text_all p r1 b1 8 _ HI2.out).mono ?_; rintro e w3 ⟨rfl, k1, i1⟩
    rw [T2.out] at i1 ⊢
    have HI3 := hid i1
    have H3 := hid (show MsgAt w3 g2 0 ⟨#[]⟩ ⟨#[]⟩ ∧ Keeps [p] w w3 from ⟨H2.out.1.keeps k1 (by simp; exact H1.out.2.2.2.2), H2.out.2.trans k1⟩)
    clear k1 i1 HI2 H2
    go_wp2_with fail
    refine (In_Text_all p r2 b2 16 _ HI3.out).mono ?_; rintro e w4 ⟨rfl, k1, i1⟩
    rw [T3.out] at i1 ⊢
    have HI4 := hid i1
    have H4 := hid (show MsgAt w4 g2 0 ⟨#[]⟩ ⟨#[]⟩ ∧ Keeps [p] w w4 from ⟨H3.out.1.keeps k1 (by simp; exact H1.out.2.2.2.2), H3.out.2.trans k1⟩)
    clear k1 i1 HI3 H3
    have hA := below_alloc w4 (.cells #[.int .i64 K, .string k, .string v] 39)
    have FB := MsgAt.new w4 K k v
    obtain ⟨g3, hg3⟩ : ∃ g, g = w4.heap.size := ⟨_, rfl⟩
    rw [← hg3] at FB
    have x0 := FB.at0; have x1 := FB.at1; have x2 := FB.at2
    have H5 := hid (show MsgAt (w4.alloc (.cells #[.int .i64 K, .string k, .string v] 39)) g2 0 ⟨#[]⟩ ⟨#[]⟩ ∧ Keeps [p] w (w4.alloc (.cells #[.int .i64 K, .string k, .string v] 39)) ∧ InAt (w4.alloc (.cells #[.int .i64 K, .string k, .string v] 39)) p r3 b3 ∧ MsgAt (w4.alloc (.cells #[.int .i64 K, .string k, .string v] 39)) g3 K k v from
      ⟨H4.out.1.below hA, H4.out.2.trans (Keeps.of hA), Blk.belowS HI4.out hA, FB⟩)
    have HG3 := hid hg3
    clear hA FB hg3 H4 HI4
    go_wp2_with fail
    clear x0 x1 x2
    rw [← HG3.out]
    clear HG3
    generalize w4.alloc (.cells #[.int .i64 K, .string k, .string v] 39) = w5 at H5 ⊢
    refine (msg_isNot_any K k v _).mono ?_; rintro e w6 ⟨rfl, hb_⟩
    rw [← HF.out]
    have H6 := hid (show MsgAt w6 g2 0 ⟨#[]⟩ ⟨#[]⟩ ∧ Keeps [p] w w6 ∧ InAt w6 p r3 b3 from ⟨H5.out.1.below hb_, H5.out.2.1.trans (Keeps.of hb_), Blk.belowS H5.out.2.2.1 hb_⟩)
    have FB := H5.out.2.2.2.below hb_
    have x0 := FB.at0; have x1 := FB.at1; have x2 := FB.at2
    clear FB hb_ H5
  · go_wp2_with fail
    clear x0 x1 x2
    refine (In_Raw_all p r3 b3 (-1) _ H6.out.2.2).mono ?_; rintro e w7 ⟨rfl, k1, i1⟩
    rw [rawT_neg] at i1 ⊢
    have H7 := hid (show MsgAt w7 g2 0 ⟨#[]⟩ ⟨#[]⟩ ∧ Keeps [p] w w7 ∧ InAt w7 p emptyB true from ⟨H6.out.1.keeps k1 (by simp; exact H1.out.2.2.2.2), H6.out.2.1.trans k1, i1⟩)
    clear k1 i1 H6
    go_wp2_with (with_reducible refine at_op (.store 39 (.tmp 2) (.tmp 15)) rfl ?_; refine Stopped.go ?_)
    refine Stopped.mk (wpList_store_row_keeps rfl _ _ _ rfl g2 #[.int .i64 0, .string ⟨#[]⟩, .string ⟨#[]⟩] rfl rfl _ _ H7.out.1 (by kernel_rfl) rfl (by simp [Value.oneCell']) ?_)
    intro w8 F8 k8
    have H8 := hid (show MsgAt w8 g2 0 ⟨#[]⟩ ⟨#[]⟩ ∧ Keeps [p] w w8 ∧ InAt w8 p emptyB true from
      ⟨F8, H7.out.2.1.go k8 (fun x hx => by simp at hx; rw [hx]; exact .inr H1.out.2.2.2.1), Blk.keeps H7.out.2.2 k8 (by simp; exact Ne.symm H1.out.2.2.2.2)⟩)
    clear F8 k8 H7
    go_wp2_with fail
    (try simp only [Exit.inBlock, Exit.then])
    exact bodyPost_ret (results_cell_row rfl _ _ g2 _ _ (0, 0) _ rfl H8.out.1 hu rfl (by kernel_rfl)) rfl ⟨rfl, H8.out.2.1, H8.out.2.2⟩
  · go_wp2_with (with_reducible refine at_op (.store 39 (.tmp 2) (.tmp 16)) rfl ?_; refine Stopped.go ?_)
    refine Stopped.mk (wpList_store_row_keeps rfl _ _ _ rfl g2 #[.int .i64 K, .string k, .string v] rfl rfl _ _ H6.out.1 (by kernel_rfl) rfl (by simp [Value.oneCell']) ?_)
    intro w7 F7 k7
    have H7 := hid (show MsgAt w7 g2 K k v ∧ Keeps [p] w w7 ∧ InAt w7 p r3 b3 from
      ⟨F7, H6.out.2.1.go k7 (fun x hx => by simp at hx; rw [hx]; exact .inr H1.out.2.2.2.1), Blk.keeps H6.out.2.2 k7 (by simp; exact Ne.symm H1.out.2.2.2.2)⟩)
    clear F7 k7 x0 x1 x2 H6
    go_wp2_with fail
    (try simp only [Exit.inBlock, Exit.then])
    exact bodyPost_ret (results_cell_row rfl _ _ g2 _ _ (0, 0) _ rfl H7.out.1 hu rfl (by kernel_rfl)) rfl ⟨rfl, H7.out.2.1, H7.out.2.2⟩
end Go.Proofs.YtcklgaenedlbiaaGreat
