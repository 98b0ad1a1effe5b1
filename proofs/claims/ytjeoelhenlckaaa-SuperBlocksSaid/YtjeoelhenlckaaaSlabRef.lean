/-
  The document's frames and blocks: walked.
-/
import Derived.Test.YtjeoelhenlckaaaSlabRead
import Derived.Test.YtjeoelhenlckaaaPenRef
import Derived.Test.YtjeoelhenlckaaaCrcRef
namespace Go.Proofs.Ytjeoelhenlckaaa
open Go.RowKit

theorem app_list (a b : ByteArray) : (a ++ b).data.toList = a.data.toList ++ b.data.toList := by simp
theorem list_len (a : ByteArray) : a.data.toList.length = a.size := by simp
def frameV (size : Nat) (s : ByteArray) : ByteArray × Bool := if s.size + 6 ≤ size then (⟨(frameB size s.data.toList).toArray⟩, true) else (⟨#[]⟩, false)

set_option maxHeartbeats 4000000 in
set_option maxRecDepth 100000 in
theorem ref04_Frame (size : Nat) (s : ByteArray) (h6 : 6 ≤ size) (hsz : size ≤ 1000) (hs9 : s.size ≤ 1000000) (w : World) :
    Calls Try.prog 101 #[.int .i64 size, .string s] w fun e w' => e = .returned (.tuple #[.string (frameV size s).1, .bool (frameV size s).2]) ∧ Below w.heap.size w w' := by
  obtain ⟨m6, hm6⟩ : ∃ m, m = size - 6 := ⟨_, rfl⟩
  have e1 : IntKind.i64.wrap ((size : Int) - 6) = (m6 : Int) := by rw [IntKind.wrap_i64]; omega
  by_cases h : s.size + 6 ≤ size
  case neg =>
    have hv : frameV size s = (⟨#[]⟩, false) := by unfold frameV; rw [if_neg h]
    have hb : (m6 : Int) < (s.size : Int) := by omega
    have HV := hid hv
    clear hv hm6
    go_enter Try.func101, Try.ntmps101
    go_wp2_with fail
    go_ret2
    exact ⟨by rw [HV.out]; rfl, Below.refl _ _⟩
  have hv : frameV size s = (⟨(frameB size s.data.toList).toArray⟩, true) := by unfold frameV; rw [if_pos h]
  have hb : ¬ (m6 : Int) < (s.size : Int) := by omega
  obtain ⟨z, hz⟩ : ∃ z, z = size - 6 - s.size := ⟨_, rfl⟩
  obtain ⟨m4, hm4⟩ : ∃ m, m = size - 4 := ⟨_, rfl⟩
  have e2 : IntKind.i64.wrap ((size : Int) - 4) = (m4 : Int) := by rw [IntKind.wrap_i64]; omega
  have hN := ref01_Num_yes 2 s.size (by decide) (by omega) (by omega) w
  obtain ⟨n2, hn2⟩ : ∃ n2 : ByteArray, n2 = numS (2 : Int).toNat ((s.size : Int)).toNat := ⟨_, rfl⟩
  rw [← hn2] at hN
  have hn2l : n2.data.toList = beB 2 s.size := by rw [hn2]; rfl
  have hn2s : n2.size = 2 := by rw [← list_len, hn2l, beB_length]
  have q1 : ¬ 9223372036854775807 < n2.size + s.size := by omega
  have HV := hid hv; have HN := hid hN; have HNL := hid hn2l; have HM := hid (And.intro hz (And.intro hm4 hm6)); have HNS := hid hn2s
  clear hv hN hn2 hn2l hn2s hz hm4 hm6
  go_enter Try.func101, Try.ntmps101
  go_wp2_with fail
  refine HN.out.mono ?_; rintro e w1 ⟨rfl, hb1⟩
  have H1 := hid hb1
  clear hb1 HN
  go_wp2_with fail
  go_loopg [8] z (fun g x wx => ∃ (k : Nat) (t : ByteArray), k + g = z ∧ x = .string t ∧ t.size + z = m4 + k ∧ wx = w1 ∧ Hid (t.data.toList = beB 2 s.size ++ s.data.toList ++ List.replicate k 0))
  case atStart =>
    refine ⟨0, n2 ++ s, by omega, rfl, ?_, rfl, ?_⟩
    · have := HM.out; have := HNS.out; rw [show (n2 ++ s).size = n2.size + s.size by simp]; omega
    · show (n2 ++ s).data.toList = _
      rw [app_list, HNL.out]; simp
  case round =>
    obtain ⟨k, t, hk, rfl, hts, rfl, HT⟩ := hrel
    by_cases hlt : k < z
    · have c1 : (t.size : Int) < (m4 : Int) := by omega
      have hm4l : m4 ≤ 1000 := by have := HM.out; omega
      have q2 : ¬ 9223372036854775807 < t.size + (⟨#[0]⟩ : ByteArray).size := by show ¬ 9223372036854775807 < t.size + 1; omega
      have q3 : ¬ 9223372036854775807 < t.size + 1 := by omega
      have HT2 : Hid ((t ++ ⟨#[0]⟩).data.toList = beB 2 s.size ++ s.data.toList ++ List.replicate (k + 1) 0) := by
        show (t ++ ⟨#[0]⟩).data.toList = _
        rw [app_list, HT.out, List.replicate_succ']; simp
      go_wp2_with fail
      go_roundg (z - (k + 1))
      case measure => omega
      case rel => exact ⟨k + 1, t ++ ⟨#[0]⟩, by omega, rfl, by rw [show (t ++ ⟨#[0]⟩).size = t.size + 1 by simp; rfl]; omega, rfl, HT2⟩
    · have hkz : k = z := by omega
      subst hkz
      have c1 : ¬ (t.size : Int) < (m4 : Int) := by omega
      have htr : t.data.toList = restB size s.data.toList := by
        rw [HT.out]; unfold restB; rw [list_len, HM.out.1]
      obtain ⟨n, hn⟩ : ∃ n, n = Crc.sum t.data.toList := ⟨_, rfl⟩
      have hnl : n < 4294967296 := by rw [hn]; exact sum_lt' _
      have hS := ref02_Sum_any t wr (by have := HM.out; omega)
      rw [← hn] at hS
      have hN4 := ref01_Num_yes 4 n (by decide) (by omega) (by omega) wr
      obtain ⟨n4, hn4⟩ : ∃ n4 : ByteArray, n4 = numS (4 : Int).toNat ((n : Int)).toNat := ⟨_, rfl⟩
      rw [← hn4] at hN4
      have hn4l : n4.data.toList = beB 4 n := by rw [hn4]; rfl
      have hn4s : n4.size = 4 := by rw [← list_len, hn4l, beB_length]
      have q4 : ¬ 9223372036854775807 < n4.size + t.size := by have := HM.out; omega
      have hR : n4 ++ t = ⟨(frameB size s.data.toList).toArray⟩ := ba_of (by rw [app_list, hn4l]; unfold frameB; rw [← htr, ← hn])
      have HS := hid hS; have HN4 := hid hN4; have HR := hid hR
      clear htr hn hS hN4 hn4 hn4l hn4s hR
      go_wp2_with fail
      refine HS.out.mono ?_; rintro e w2 ⟨rfl, rfl⟩
      go_wp2_with fail
      refine HN4.out.mono ?_; rintro e w2 ⟨rfl, hb2⟩
      have H2 := hid (bt H1.out hb2)
      clear hb2 HN4 HS
      go_wp2_with fail
      go_ret2
      refine ⟨?_, H2.out⟩
      rw [HV.out, ← HR.out]
      rfl

set_option maxHeartbeats 4000000 in
set_option maxRecDepth 100000 in
theorem ref04_Open (f : ByteArray) (h6 : 6 ≤ f.size) (hsz : f.size ≤ 1000) (w : World) :
    Calls Try.prog 103 #[.string f] w fun e w' => e = .returned (.tuple #[.string (textV f.data.toList).1, .int .i64 (textV f.data.toList).2]) ∧ Below w.heap.size w w' := by
  have b4 : (6 : Int) ≤ (f.size : Int) := by omega
  have hfl : f.data.toList.length = f.size := by simp
  obtain ⟨r, hr⟩ : ∃ r, r = f.extract 4 6 := ⟨_, rfl⟩
  have hrs : r.size = 2 := by rw [hr]; simp; omega
  obtain ⟨n, hn, hn2, hnum⟩ := num_part r 2 (by decide) (by omega) (by decide)
  have hn3 : n = be ((f.data.toList.drop 4).take 2) := by
    rw [hn, hr, cut_list]
    congr 1
    rw [List.take_of_length_le (by rw [List.length_drop, List.length_take]; omega), List.drop_take]
  obtain ⟨t1, t2, t3⟩ := textV_cases f.data.toList
  rw [← hn3, hfl] at t1 t2 t3
  obtain ⟨V, hV⟩ : ∃ V, V = textV f.data.toList := ⟨_, rfl⟩
  rw [← hV] at t1 t2 t3 ⊢
  have hn65 : n < 65536 := hn2
  obtain ⟨m6, hm6⟩ : ∃ m, m = f.size - 6 := ⟨_, rfl⟩
  rw [← hm6] at t1 t2 t3
  have e1 : IntKind.i64.wrap ((f.size : Int) - 6) = (m6 : Int) := by rw [IntKind.wrap_i64]; omega
  have hA := below_alloc w (.cells #[.string r, .bool false] 90)
  have hI := Blk.new w #[.string r, .bool false] 90
  have H0 := hid (show Below w.heap.size w (w.alloc (.cells #[.string r, .bool false] 90)) ∧ RefAt (w.alloc (.cells #[.string r, .bool false] 90)) w.heap.size r false from ⟨hA, hI⟩)
  have HNUM := hid hnum; have T1 := hid t1; have T2 := hid t2; have T3 := hid t3; have HFL := hid hfl; have HM := hid hm6
  clear hn hn2 hn3 hnum t1 t2 t3 hV hfl hrs hA hI hm6
  go_enter Try.func103, Try.ntmps103
  go_wp2_with fail
  rw [← hr]
  refine (rIn_Num_all _ r false 2 _ H0.out.2).mono ?_; rintro e w2 ⟨rfl, hk2, hi2⟩
  rw [show (2 : Int) = ((2 : Nat) : Int) from rfl, HNUM.out]
  have H2 := hid (show Below w.heap.size w w2 from Keeps.below H0.out.1 hk2 (fun x hx => by simp at hx; rw [hx]; exact Nat.le_refl _))
  clear hk2 hi2 H0 HNUM
  by_cases hc : m6 < n
  · have hc1 : (m6 : Int) < (n : Int) := by omega
    go_wp2_with fail
    go_ret2
    exact ⟨by rw [T1.out hc]; rfl, H2.out⟩
  · have hc1 : ¬ (m6 : Int) < (n : Int) := by omega
    obtain ⟨m, hm⟩ : ∃ m, m = 6 + n := ⟨_, rfl⟩
    have e2 : IntKind.i64.wrap (6 + (n : Int)) = (m : Int) := by rw [IntKind.wrap_i64]; omega
    have b6 : (m : Int) ≤ (f.size : Int) := by have := HM.out; omega
    have b7 : (6 : Int) ≤ (m : Int) := by omega
    obtain ⟨s, hs⟩ : ∃ s, s = f.extract 6 m := ⟨_, rfl⟩
    have hsl : s.data.toList = (f.data.toList.drop 6).take n := by rw [hs, cut_list, hm, List.drop_take]; congr 1; omega
    have hss : s.size = n := by
      have h := congrArg List.length hsl
      rw [List.length_take, List.length_drop, HFL.out] at h
      have h2 : s.data.toList.length = s.size := by simp
      omega
    have hcall := ref04_Frame f.size s (by omega) (by omega) (by omega) w2
    have hfv : frameV f.size s = (⟨(frameB f.size ((f.data.toList.drop 6).take n)).toArray⟩, true) := by unfold frameV; rw [if_pos (by have := HM.out; omega), hsl]
    rw [hfv] at hcall
    obtain ⟨F, hF⟩ : ∃ F, F = frameB f.size ((f.data.toList.drop 6).take n) := ⟨_, rfl⟩
    rw [← hF] at T2 T3 hcall
    have HC := hid hcall; have HSL := hid hsl
    clear hcall hsl hss hF hm hfv
    by_cases heq : F = f.data.toList
    · have hb : (F == f.toList) = true := by rw [ByteArray.toList_eq]; simpa using heq
      have T := hid (T2.out hc heq)
      clear heq T1 T2 T3
      go_wp2_with fail
      rw [← hs]
      refine HC.out.mono ?_; rintro e w3 ⟨rfl, hb3⟩
      have H3 := hid (bt H2.out hb3)
      clear hb3 H2 HC
      go_wp2_with fail
      go_ret2
      refine ⟨?_, H3.out⟩
      rw [T.out]
      show Ending.returned (.tuple #[.string (f.extract 6 m), .int .i64 0]) = _
      rw [← hs, show s = ⟨((f.data.toList.drop 6).take n).toArray⟩ from ba_of (by rw [HSL.out])]
    · have hb : (F == f.toList) = false := by rw [ByteArray.toList_eq]; simpa using heq
      have T := hid (T3.out hc heq)
      clear heq T1 T2 T3
      go_wp2_with fail
      rw [← hs]
      refine HC.out.mono ?_; rintro e w3 ⟨rfl, hb3⟩
      have H3 := hid (bt H2.out hb3)
      clear hb3 H2 HC
      go_wp2_with fail
      go_ret2
      exact ⟨by rw [T.out]; rfl, H3.out⟩
end Go.Proofs.Ytjeoelhenlckaaa
