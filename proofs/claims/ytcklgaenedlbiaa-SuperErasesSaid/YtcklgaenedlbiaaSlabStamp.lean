/-
  slab.Stamp, Read: walked.
-/
import Derived.Test.YtcklgaenedlbiaaSlabText
namespace Go.Proofs.Ytcklgaenedlbiaa
open Go.RowKit

theorem numOk44 {e q : Int} (h1 : 0 ≤ e) (h2 : e < 4294967296) (h3 : 0 ≤ q) (h4 : q < 4294967296) : numOk 4 [e, q] = true ∧ beAll (4 : Int).toNat [e, q] = markB e.toNat q.toNat := by
  constructor
  · show (isW 4 && [e, q].all (fitsB 4)) = true
    simp [isW, fitsB]; omega
  · simp [beAll, markB]
/-- the first sectors of a stamped block -/
def stampN (e q : Nat) (F : List UInt8) : Nat → List UInt8
  | 0 => []
  | k + 1 => stampN e q F k ++ (markB e q ++ (F.drop (56 * k)).take 56)
theorem stampN_4 (e q : Nat) (F : List UInt8) : stampN e q F 4 = stampB e q F := by
  simp [stampN, stampB, sectB, markB]
theorem stampN_le (e q : Nat) (F : List UInt8) : ∀ k, (stampN e q F k).length ≤ 64 * k
  | 0 => Nat.le_refl _
  | k + 1 => by
    have := stampN_le e q F k
    simp only [stampN, List.length_append, markB_length, List.length_take]; omega
/-- a stamped block and its error -/
def stampV (e q : Int) (s : ByteArray) : ByteArray × Int :=
  if s.size ≤ 218 ∧ 1 ≤ e ∧ e ≤ 2147483647 ∧ 0 ≤ q ∧ q ≤ 2147483647 then (⟨(stampB e.toNat q.toNat (frameB 224 s.data.toList)).toArray⟩, 0) else (⟨#[]⟩, 1)

set_option maxHeartbeats 4000000 in
set_option maxRecDepth 100000 in
theorem slab_Stamp (e q : Int) (s : ByteArray) (w : World) :
    Calls Try.prog 73 #[.int .i64 e, .int .i64 q, .string s] w fun ee w' => ee = .returned (.tuple #[.string (stampV e q s).1, .int .i64 (stampV e q s).2]) ∧ Below w.heap.size w w' := by
  by_cases hs : 218 < s.size
  · have hs' : (218 : Int) < (s.size : Int) := by omega
    have hv : stampV e q s = (⟨#[]⟩, 1) := by unfold stampV; rw [if_neg (by omega)]
    have HV := hid hv
    clear hv
    go_enter Try.func73, Try.ntmps73
    go_wp2_with fail
    go_ret2
    exact ⟨by rw [HV.out]; rfl, Below.refl _ _⟩
  have hs' : ¬ (218 : Int) < (s.size : Int) := by omega
  by_cases h1 : e < 1
  · have hv : stampV e q s = (⟨#[]⟩, 1) := by unfold stampV; rw [if_neg (by omega)]
    have HV := hid hv
    clear hv
    go_enter Try.func73, Try.ntmps73
    go_wp2_with fail
    go_ret2
    exact ⟨by rw [HV.out]; rfl, Below.refl _ _⟩
  by_cases h2 : 2147483647 < e
  · have hv : stampV e q s = (⟨#[]⟩, 1) := by unfold stampV; rw [if_neg (by omega)]
    have HV := hid hv
    clear hv
    go_enter Try.func73, Try.ntmps73
    go_wp2_with fail
    go_ret2
    exact ⟨by rw [HV.out]; rfl, Below.refl _ _⟩
  by_cases h3 : q < 0
  · have hv : stampV e q s = (⟨#[]⟩, 1) := by unfold stampV; rw [if_neg (by omega)]
    have HV := hid hv
    clear hv
    go_enter Try.func73, Try.ntmps73
    go_wp2_with fail
    go_ret2
    exact ⟨by rw [HV.out]; rfl, Below.refl _ _⟩
  by_cases h4 : 2147483647 < q
  · have hv : stampV e q s = (⟨#[]⟩, 1) := by unfold stampV; rw [if_neg (by omega)]
    have HV := hid hv
    clear hv
    go_enter Try.func73, Try.ntmps73
    go_wp2_with fail
    go_ret2
    exact ⟨by rw [HV.out]; rfl, Below.refl _ _⟩
  obtain ⟨F, hF⟩ : ∃ F, F = frameB 224 s.data.toList := ⟨_, rfl⟩
  have hsl : s.data.toList.length = s.size := by simp
  have hFl : F.length = 224 := by rw [hF]; exact frameB_length (by rw [hsl]; omega)
  have hv : stampV e q s = (⟨(stampB e.toNat q.toNat F).toArray⟩, 0) := by unfold stampV; rw [if_pos (by omega), ← hF]
  have hcall := slab_frame 224 s (by omega) (by decide) w
  rw [← hF] at hcall
  obtain ⟨f, hf⟩ : ∃ f : ByteArray, f = ⟨F.toArray⟩ := ⟨_, rfl⟩
  rw [← hf] at hcall
  have hfs : f.size = 224 := by rw [hf]; show F.toArray.size = _; simp [hFl]
  have hfl : f.data.toList = F := by rw [hf]
  obtain ⟨o1, o2⟩ := numOk44 (e := e) (q := q) (by omega) (by omega) (by omega) (by omega)
  have HV := hid hv; have HC := hid hcall; have HFL := hid hfl; have O1 := hid o1; have O2 := hid o2
  clear hv hcall hf hfl hF hFl hsl o1 o2
  go_enter Try.func73, Try.ntmps73
  go_wp2_with fail
  refine HC.out.mono ?_; rintro ee w1 ⟨rfl, hb1⟩
  have HP0 := hid (Pen.new hb1)
  clear hb1 HC
  go_wp2_with fail
  go_loopg [10] 4 (fun g x wx => ∃ k a : Nat, k + g = 4 ∧ a = 56 * k ∧ x = .int .i64 a ∧ Hid (Pen w wx w1.heap.size (stampN e.toNat q.toNat F k)))
  case atStart => exact ⟨0, 0, rfl, rfl, rfl, HP0.out⟩
  case round =>
    obtain ⟨k, a, hk, ha, rfl, HS⟩ := hrel
    by_cases hlt : k < 4
    · have ha' : (a : Int) < 224 := by omega
      obtain ⟨b, hb⟩ : ∃ b, b = a + 56 := ⟨_, rfl⟩
      have e1 : IntKind.i64.wrap ((a : Int) + 56) = (b : Int) := by rw [IntKind.wrap_i64]; omega
      have c1 : (b : Int) ≤ (f.size : Int) := by omega
      have c2 : (a : Int) ≤ (b : Int) := by omega
      have hx : (f.extract a b).data.toList = (F.drop (56 * k)).take 56 := by
        rw [cut_list, HFL.out, ha, hb, List.drop_take]; congr 1; omega
      have hxs : (f.extract a b).size ≤ 64 := by simp; omega
      have HX := hid hx; have HXS := hid hxs; have HA := hid (And.intro ha hb)
      clear hx hxs ha hb
      have hle := stampN_le e.toNat q.toNat F k
      go_wp2_with fail
      refine (pen_Num HS.out 4 [e, q] #[.int .i64 e, .int .i64 q] 3 rfl 2 (by simp) (by simp; omega)).mono ?_
      rintro ee w3 ⟨rfl, P3⟩
      rw [O1.out, O2.out] at P3
      rw [O1.out]
      simp only [if_true] at P3 ⊢
      have HP3 := hid P3
      clear P3 HS
      go_wp2_with fail
      refine (pen_Raw HP3.out (f.extract a b) (by have := HXS.out; rw [List.length_append, markB_length]; omega)).mono ?_
      rintro ee w4 ⟨rfl, P4⟩
      rw [HX.out, List.append_assoc] at P4
      have HP4 : Hid (Pen w w4 w1.heap.size (stampN e.toNat q.toNat F (k + 1))) := P4
      clear P4 HP3
      go_wp2_with fail
      go_roundg (4 - (k + 1))
      case measure => omega
      case rel => exact ⟨k + 1, b, by omega, by have := HA.out; omega, by first | rfl | go_num, HP4⟩
    · have hk4 : k = 4 := by omega
      subst hk4
      have ha' : ¬ (a : Int) < 224 := by omega
      go_wp2_with fail
      rw [stampN_4] at HS
      refine (pen_Bytes HS.out).mono ?_
      rintro ee w3 ⟨rfl, P3⟩
      have HB := hid P3.bel
      clear P3 HS
      go_wp2_with fail
      go_ret2
      exact ⟨by rw [HV.out]; rfl, HB.out⟩
end Go.Proofs.Ytcklgaenedlbiaa
