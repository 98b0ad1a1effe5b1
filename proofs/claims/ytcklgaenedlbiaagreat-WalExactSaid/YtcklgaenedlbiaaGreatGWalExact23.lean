/-
  slab.text, Lay, Open: walked.
  slab.Stamp, Read: walked.
-/
import Derived.Test.YtcklgaenedlbiaaGreatGWalExact22
import Derived.Test.YtcklgaenedlbiaaGreatGWalExact07

namespace Go.Proofs.YtcklgaenedlbiaaGreat
open Go.RowKit

theorem cut_list (f : ByteArray) (a b : Nat) : (f.extract a b).data.toList = (f.data.toList.take b).drop a := by
  simp [ByteArray.data_extract, Array.toList_extract, List.extract_eq_take_drop, List.drop_take]
theorem num_part (r : ByteArray) (W : Nat) (hw : isW (W : Int) = true) (hs : W ≤ r.size) (hW : W ≤ 4) :
    ∃ n : Nat, n = be (r.data.toList.take W) ∧ n < 256 ^ W ∧ numT r false (W : Int) = ((n : Int), r.extract W r.size, false) := by
  refine ⟨_, rfl, ?_, ?_⟩
  · refine Nat.lt_of_lt_of_le (be_lt _) (Nat.pow_le_pow_right (by decide) ?_)
    rw [List.length_take]; omega
  · have h1 : be (r.data.toList.take W) < 256 ^ 4 := by
      refine Nat.lt_of_lt_of_le (be_lt _) (Nat.pow_le_pow_right (by decide) ?_)
      rw [List.length_take]; omega
    unfold numT
    rw [if_pos ⟨rfl, hw, by omega⟩]
    simp only [Int.toNat_natCast]
    rw [if_neg (by omega)]
theorem beq_bytes (a b : ByteArray) : (a.toList == b.toList) = decide (a.data.toList = b.data.toList) := by
  rw [ByteArray.toList_eq, ByteArray.toList_eq, Bool.eq_iff_iff]; simp
/-- a frame's text and error, as the program hands them back -/
def textV (f : List UInt8) : ByteArray × Int := match textR f with
  | .ok s => (⟨s.toArray⟩, 0)
  | .error k => (⟨#[]⟩, k)
theorem textV_cases (f : List UInt8) :
    (f.length - 6 < be ((f.drop 4).take 2) → textV f = (⟨#[]⟩, 5)) ∧
    (¬ f.length - 6 < be ((f.drop 4).take 2) → frameB f.length ((f.drop 6).take (be ((f.drop 4).take 2))) = f → textV f = (⟨((f.drop 6).take (be ((f.drop 4).take 2))).toArray⟩, 0)) ∧
    (¬ f.length - 6 < be ((f.drop 4).take 2) → frameB f.length ((f.drop 6).take (be ((f.drop 4).take 2))) ≠ f → textV f = (⟨#[]⟩, 6)) := by
  unfold textV textR
  refine ⟨fun h => by rw [if_pos h], fun h h2 => by rw [if_neg h, if_pos h2], fun h h2 => by rw [if_neg h, if_neg h2]⟩

set_option maxHeartbeats 4000000 in
set_option maxRecDepth 100000 in
theorem slab_text (f : ByteArray) (h6 : 6 ≤ f.size) (hsz : f.size ≤ 1000) (w : World) :
    Calls Tryz.prog 78 #[.string f] w fun e w' => e = .returned (.tuple #[.string (textV f.data.toList).1, .int .i64 (textV f.data.toList).2]) ∧ Below w.heap.size w w' := by
  have b4 : (4 : Int) ≤ (f.size : Int) := by omega
  have hfl : f.data.toList.length = f.size := by simp
  obtain ⟨r, hr⟩ : ∃ r, r = f.extract 4 f.size := ⟨_, rfl⟩
  have hrs : r.size = f.size - 4 := by rw [hr]; simp
  obtain ⟨n, hn, hn2, hnum⟩ := num_part r 2 (by decide) (by omega) (by decide)
  have hn3 : n = be ((f.data.toList.drop 4).take 2) := by
    have e0 : f.data.toList.take f.size = f.data.toList := by rw [← hfl]; exact List.take_length
    rw [hn, hr, cut_list, e0]
  obtain ⟨t1, t2, t3⟩ := textV_cases f.data.toList
  rw [← hn3, hfl] at t1 t2 t3
  obtain ⟨V, hV⟩ : ∃ V, V = textV f.data.toList := ⟨_, rfl⟩
  rw [← hV] at t1 t2 t3 ⊢
  have hn65 : n < 65536 := hn2
  have e1 : IntKind.i64.wrap ((f.size : Int) - 6) = (f.size : Int) - 6 := by rw [IntKind.wrap_i64]; omega
  have HNUM := hid hnum; have T1 := hid t1; have T2 := hid t2; have T3 := hid t3; have HFL := hid hfl
  clear hn hn2 hn3 hnum t1 t2 t3 hV hfl hrs
  go_enter Tryz.func78, Tryz.ntmps78
  go_wp2_with fail
  rw [← hr]
  refine (pen_Of_any r _).mono ?_; rintro e w1 ⟨rfl, hb1, hi1, hsz1⟩
  obtain ⟨p, hp⟩ : ∃ p, p = w.heap.size := ⟨_, rfl⟩
  rw [← hp] at hi1 ⊢
  have H1 := hid (And.intro hb1 (And.intro hi1 hp))
  clear hb1 hi1 hsz1 hp
  go_wp2_with fail
  refine (In_Num_all p r false 2 _ H1.out.2.1).mono ?_; rintro e w2 ⟨rfl, hk2, hi2⟩
  rw [show (2 : Int) = ((2 : Nat) : Int) from rfl, HNUM.out]
  have H2 := hid (show Below w.heap.size w w2 from Keeps.below H1.out.1 hk2 (fun x hx => by simp at hx; rw [hx, H1.out.2.2]; exact Nat.le_refl _))
  clear hk2 hi2 H1 HNUM
  by_cases hc : (f.size : Int) - 6 < (n : Int)
  · go_wp2_with fail
    go_ret2
    exact ⟨by rw [T1.out (by omega)]; rfl, H2.out⟩
  · have hc' : ¬ f.size - 6 < n := by omega
    obtain ⟨m, hm⟩ : ∃ m, m = 6 + n := ⟨_, rfl⟩
    have e2 : IntKind.i64.wrap (6 + (n : Int)) = (m : Int) := by rw [IntKind.wrap_i64]; omega
    have b6 : (m : Int) ≤ (f.size : Int) := by omega
    have b7 : (6 : Int) ≤ (m : Int) := by omega
    obtain ⟨s, hs⟩ : ∃ s, s = f.extract 6 m := ⟨_, rfl⟩
    have hsl : s.data.toList = (f.data.toList.drop 6).take n := by rw [hs, cut_list, hm, List.drop_take]; congr 1; omega
    have hss : s.size = n := by
      have h := congrArg List.length hsl
      rw [List.length_take, List.length_drop, HFL.out] at h
      have h2 : s.data.toList.length = s.size := by simp
      omega
    have hcall := slab_frame f.size s (by omega) hsz w2
    rw [hsl] at hcall
    obtain ⟨F, hF⟩ : ∃ F, F = frameB f.size ((f.data.toList.drop 6).take n) := ⟨_, rfl⟩
    rw [← hF] at T2 T3 hcall
    have HC := hid hcall; have HSL := hid hsl; have HM := hid hm
    clear hcall hsl hss hF hm
    by_cases heq : F = f.data.toList
    · have hb : (F == f.toList) = true := by rw [ByteArray.toList_eq]; simpa using heq
      have T := hid (T2.out hc' heq)
      clear heq T1 T2 T3
      go_wp2_with fail
      rw [← hs]
      refine HC.out.mono ?_; rintro e w3 ⟨rfl, hb3⟩
      have H3 := hid (bt H2.out hb3)
      clear hb3 H2 HC
      go_wp2_with fail
      go_ret2
      refine ⟨?_, H3.out⟩
      rw [T.out]
      show Ending.returned (.tuple #[.string (f.extract 6 m), .int .i64 0]) = _
      rw [← hs, show s = ⟨((f.data.toList.drop 6).take n).toArray⟩ from ba_ofP (by rw [HSL.out])]
    · have hb : (F == f.toList) = false := by rw [ByteArray.toList_eq]; simpa using heq
      have T := hid (T3.out hc' heq)
      clear heq T1 T2 T3
      go_wp2_with fail
      rw [← hs]
      refine HC.out.mono ?_; rintro e w3 ⟨rfl, hb3⟩
      have H3 := hid (bt H2.out hb3)
      clear hb3 H2 HC
      go_wp2_with fail
      go_ret2
      exact ⟨by rw [T.out]; rfl, H3.out⟩

/-- a plain block's text and error -/
def openV (b : ByteArray) : ByteArray × Int := if b.size = 256 then textV b.data.toList else (⟨#[]⟩, 1)
/-- a text's plain block and error -/
def layV (s : ByteArray) : ByteArray × Int := if s.size ≤ 250 then (⟨(frameB 256 s.data.toList).toArray⟩, 0) else (⟨#[]⟩, 1)
end Go.Proofs.YtcklgaenedlbiaaGreat

namespace Go.Proofs.YtcklgaenedlbiaaGreat
open Go.RowKit

theorem numOk44 {e q : Int} (h1 : 0 ≤ e) (h2 : e < 4294967296) (h3 : 0 ≤ q) (h4 : q < 4294967296) : numOk 4 [e, q] = true ∧ beAll (4 : Int).toNat [e, q] = markB e.toNat q.toNat := by
  constructor
  · show (isW 4 && [e, q].all (fitsB 4)) = true
    simp [isW, fitsB]; omega
  · simp [beAll, markB]
/-- the first sectors of a stamped block -/
def stampN (e q : Nat) (F : List UInt8) : Nat → List UInt8
  | 0 => []
  | k + 1 => stampN e q F k ++ (markB e q ++ (F.drop (56 * k)).take 56)
theorem stampN_4 (e q : Nat) (F : List UInt8) : stampN e q F 4 = stampB e q F := by
  simp [stampN, stampB, sectB, markB]
theorem stampN_le (e q : Nat) (F : List UInt8) : ∀ k, (stampN e q F k).length ≤ 64 * k
  | 0 => Nat.le_refl _
  | k + 1 => by
    have := stampN_le e q F k
    simp only [stampN, List.length_append, markB_length, List.length_take]; omega
/-- a stamped block and its error -/
def stampV (e q : Int) (s : ByteArray) : ByteArray × Int :=
  if s.size ≤ 218 ∧ 1 ≤ e ∧ e ≤ 2147483647 ∧ 0 ≤ q ∧ q ≤ 2147483647 then (⟨(stampB e.toNat q.toNat (frameB 224 s.data.toList)).toArray⟩, 0) else (⟨#[]⟩, 1)

set_option maxHeartbeats 4000000 in
set_option maxRecDepth 100000 in
theorem slab_Stamp (e q : Int) (s : ByteArray) (w : World) :
    Calls Tryz.prog 38 #[.int .i64 e, .int .i64 q, .string s] w fun ee w' => ee = .returned (.tuple #[.string (stampV e q s).1, .int .i64 (stampV e q s).2]) ∧ Below w.heap.size w w' := by
  by_cases hs : 218 < s.size
  · have hs' : (218 : Int) < (s.size : Int) := by omega
    have hv : stampV e q s = (⟨#[]⟩, 1) := by unfold stampV; rw [if_neg (by omega)]
    have HV := hid hv
    clear hv
    go_enter Tryz.func38, Tryz.ntmps38
    go_wp2_with fail
    go_ret2
    exact ⟨by rw [HV.out]; rfl, Below.refl _ _⟩
  have hs' : ¬ (218 : Int) < (s.size : Int) := by omega
  by_cases h1 : e < 1
  · have hv : stampV e q s = (⟨#[]⟩, 1) := by unfold stampV; rw [if_neg (by omega)]
    have HV := hid hv
    clear hv
    go_enter Tryz.func38, Tryz.ntmps38
    go_wp2_with fail
    go_ret2
    exact ⟨by rw [HV.out]; rfl, Below.refl _ _⟩
  by_cases h2 : 2147483647 < e
  · have hv : stampV e q s = (⟨#[]⟩, 1) := by unfold stampV; rw [if_neg (by omega)]
    have HV := hid hv
    clear hv
    go_enter Tryz.func38, Tryz.ntmps38
    go_wp2_with fail
    go_ret2
    exact ⟨by rw [HV.out]; rfl, Below.refl _ _⟩
  by_cases h3 : q < 0
  · have hv : stampV e q s = (⟨#[]⟩, 1) := by unfold stampV; rw [if_neg (by omega)]
    have HV := hid hv
    clear hv
    go_enter Tryz.func38, Tryz.ntmps38
    go_wp2_with fail
    go_ret2
    exact ⟨by rw [HV.out]; rfl, Below.refl _ _⟩
  by_cases h4 : 2147483647 < q
  · have hv : stampV e q s = (⟨#[]⟩, 1) := by unfold stampV; rw [if_neg (by omega)]
    have HV := hid hv
    clear hv
    go_enter Tryz.func38, Tryz.ntmps38
    go_wp2_with fail
    go_ret2
    exact ⟨by rw [HV.out]; rfl, Below.refl _ _⟩
  obtain ⟨F, hF⟩ : ∃ F, F = frameB 224 s.data.toList := ⟨_, rfl⟩
  have hsl : s.data.toList.length = s.size := by simp
  have hFl : F.length = 224 := by rw [hF]; exact frameB_length (by rw [hsl]; omega)
  have hv : stampV e q s = (⟨(stampB e.toNat q.toNat F).toArray⟩, 0) := by unfold stampV; rw [if_pos (by omega), ← hF]
  have hcall := slab_frame 224 s (by omega) (by decide) w
  rw [← hF] at hcall
  obtain ⟨f, hf⟩ : ∃ f : ByteArray, f = ⟨F.toArray⟩ := ⟨_, rfl⟩
  rw [← hf] at hcall
  have hfs : f.size = 224 := by rw [hf]; show F.toArray.size = _; simp [hFl]
  have hfl : f.data.toList = F := by rw [hf]
  obtain ⟨o1, o2⟩ := numOk44 (e := e) (q := q) (by omega) (by omega) (by omega) (by omega)
  have HV := hid hv; have HC := hid hcall; have HFL := hid hfl; have O1 := hid o1; have O2 := hid o2
  clear hv hcall hf hfl hF hFl hsl o1 o2
  go_enter Tryz.func38, Tryz.ntmps38
  go_wp2_with fail
  refine HC.out.mono ?_; rintro ee w1 ⟨rfl, hb1⟩
  have HP0 := hid (Pen.new hb1)
  clear hb1 HC
  go_wp2_with fail
  go_loopg [10] 4 (fun g x wx => ∃ k a : Nat, k + g = 4 ∧ a = 56 * k ∧ x = .int .i64 a ∧ Hid (Pen w wx w1.heap.size (stampN e.toNat q.toNat F k)))
  case atStart => exact ⟨0, 0, rfl, rfl, rfl, HP0.out⟩
  case round =>
    obtain ⟨k, a, hk, ha, rfl, HS⟩ := hrel
    by_cases hlt : k < 4
    · have ha' : (a : Int) < 224 := by omega
      obtain ⟨b, hb⟩ : ∃ b, b = a + 56 := ⟨_, rfl⟩
      have e1 : IntKind.i64.wrap ((a : Int) + 56) = (b : Int) := by rw [IntKind.wrap_i64]; omega
      have c1 : (b : Int) ≤ (f.size : Int) := by omega
      have c2 : (a : Int) ≤ (b : Int) := by omega
      have hx : (f.extract a b).data.toList = (F.drop (56 * k)).take 56 := by
        rw [cut_list, HFL.out, ha, hb, List.drop_take]; congr 1; omega
      have hxs : (f.extract a b).size ≤ 64 := by simp; omega
      have HX := hid hx; have HXS := hid hxs; have HA := hid (And.intro ha hb)
      clear hx hxs ha hb
      have hle := stampN_le e.toNat q.toNat F k
      go_wp2_with fail
      refine (pen_Num HS.out 4 [e, q] #[.int .i64 e, .int .i64 q] 3 rfl 2 (by simp) (by simp; omega)).mono ?_
      rintro ee w3 ⟨rfl, P3⟩
      rw [O1.out, O2.out] at P3
      rw [O1.out]
      simp only [if_true] at P3 ⊢
      have HP3 := hid P3
      clear P3 HS
      go_wp2_with fail
      refine (pen_Raw HP3.out (f.extract a b) (by have := HXS.out; rw [List.length_append, markB_length]; omega)).mono ?_
      rintro ee w4 ⟨rfl, P4⟩
      rw [HX.out, List.append_assoc] at P4
      have HP4 : Hid (Pen w w4 w1.heap.size (stampN e.toNat q.toNat F (k + 1))) := P4
      clear P4 HP3
      go_wp2_with fail
      go_roundg (4 - (k + 1))
      case measure => omega
      case rel => exact ⟨k + 1, b, by omega, by have := HA.out; omega, by first | rfl | go_num, HP4⟩
    · have hk4 : k = 4 := by omega
      subst hk4
      have ha' : ¬ (a : Int) < 224 := by omega
      go_wp2_with fail
      rw [stampN_4] at HS
      refine (pen_Bytes HS.out).mono ?_
      rintro ee w3 ⟨rfl, P3⟩
      have HB := hid P3.bel
      clear P3 HS
      go_wp2_with fail
      go_ret2
      exact ⟨by rw [HV.out]; rfl, HB.out⟩
end Go.Proofs.YtcklgaenedlbiaaGreat
