/-
  The document's frames and blocks: walked.
  The document's stamped blocks: walked.
-/
import Derived.Test.YtcklgaenedlbiaaGreatGWalExact24
import Derived.Test.YtcklgaenedlbiaaGreatGWalExact33

namespace Go.Proofs.YtcklgaenedlbiaaGreat
open Go.RowKit

theorem app_list (a b : ByteArray) : (a ++ b).data.toList = a.data.toList ++ b.data.toList := by simp
theorem list_len (a : ByteArray) : a.data.toList.length = a.size := by simp
def frameV (size : Nat) (s : ByteArray) : ByteArray × Bool := if s.size + 6 ≤ size then (⟨(frameB size s.data.toList).toArray⟩, true) else (⟨#[]⟩, false)

set_option maxHeartbeats 4000000 in
set_option maxRecDepth 100000 in
theorem ref04_Frame (size : Nat) (s : ByteArray) (h6 : 6 ≤ size) (hsz : size ≤ 1000) (hs9 : s.size ≤ 1000000) (w : World) :
    Calls Tryz.prog 56 #[.int .i64 size, .string s] w fun e w' => e = .returned (.tuple #[.string (frameV size s).1, .bool (frameV size s).2]) ∧ Below w.heap.size w w' := by
  obtain ⟨m6, hm6⟩ : ∃ m, m = size - 6 := ⟨_, rfl⟩
  have e1 : IntKind.i64.wrap ((size : Int) - 6) = (m6 : Int) := by rw [IntKind.wrap_i64]; omega
  by_cases h : s.size + 6 ≤ size
  case neg =>
    have hv : frameV size s = (⟨#[]⟩, false) := by unfold frameV; rw [if_neg h]
    have hb : (m6 : Int) < (s.size : Int) := by omega
    have HV := hid hv
    clear hv hm6
    go_enter Tryz.func56, Tryz.ntmps56
    go_wp2_with fail
    go_ret2
    exact ⟨by rw [HV.out]; rfl, Below.refl _ _⟩
  have hv : frameV size s = (⟨(frameB size s.data.toList).toArray⟩, true) := by unfold frameV; rw [if_pos h]
  have hb : ¬ (m6 : Int) < (s.size : Int) := by omega
  obtain ⟨z, hz⟩ : ∃ z, z = size - 6 - s.size := ⟨_, rfl⟩
  obtain ⟨m4, hm4⟩ : ∃ m, m = size - 4 := ⟨_, rfl⟩
  have e2 : IntKind.i64.wrap ((size : Int) - 4) = (m4 : Int) := by rw [IntKind.wrap_i64]; omega
  have hN := ref01_Num_yes 2 s.size (by decide) (by omega) (by omega) w
  obtain ⟨n2, hn2⟩ : ∃ n2 : ByteArray, n2 = numS (2 : Int).toNat ((s.size : Int)).toNat := ⟨_, rfl⟩
  rw [← hn2] at hN
  have hn2l : n2.data.toList = beB 2 s.size := by rw [hn2]; rfl
  have hn2s : n2.size = 2 := by rw [← list_len, hn2l, beB_length]
  have q1 : ¬ 9223372036854775807 < n2.size + s.size := by omega
  have HV := hid hv; have HN := hid hN; have HNL := hid hn2l; have HM := hid (And.intro hz (And.intro hm4 hm6)); have HNS := hid hn2s
  clear hv hN hn2 hn2l hn2s hz hm4 hm6
  go_enter Tryz.func56, Tryz.ntmps56
  go_wp2_with fail
  refine HN.out.mono ?_; rintro e w1 ⟨rfl, hb1⟩
  have H1 := hid hb1
  clear hb1 HN
  go_wp2_with fail
  go_loopg [8] z (fun g x wx => ∃ (k : Nat) (t : ByteArray), k + g = z ∧ x = .string t ∧ t.size + z = m4 + k ∧ wx = w1 ∧ Hid (t.data.toList = beB 2 s.size ++ s.data.toList ++ List.replicate k 0))
  case atStart =>
    refine ⟨0, n2 ++ s, by omega, rfl, ?_, rfl, ?_⟩
    · have := HM.out; have := HNS.out; rw [show (n2 ++ s).size = n2.size + s.size by simp]; omega
    · show (n2 ++ s).data.toList = _
      rw [app_list, HNL.out]; simp
  case round =>
    obtain ⟨k, t, hk, rfl, hts, rfl, HT⟩ := hrel
    by_cases hlt : k < z
    · have c1 : (t.size : Int) < (m4 : Int) := by omega
      have hm4l : m4 ≤ 1000 := by have := HM.out; omega
      have q2 : ¬ 9223372036854775807 < t.size + (⟨#[0]⟩ : ByteArray).size := by show ¬ 9223372036854775807 < t.size + 1; omega
      have q3 : ¬ 9223372036854775807 < t.size + 1 := by omega
      have HT2 : Hid ((t ++ ⟨#[0]⟩).data.toList = beB 2 s.size ++ s.data.toList ++ List.replicate (k + 1) 0) := by
        show (t ++ ⟨#[0]⟩).data.toList = _
        rw [app_list, HT.out, List.replicate_succ']; simp
      go_wp2_with fail
      go_roundg (z - (k + 1))
      case measure => omega
      case rel => exact ⟨k + 1, t ++ ⟨#[0]⟩, by omega, rfl, by rw [show (t ++ ⟨#[0]⟩).size = t.size + 1 by simp; rfl]; omega, rfl, HT2⟩
    · have hkz : k = z := by omega
      subst hkz
      have c1 : ¬ (t.size : Int) < (m4 : Int) := by omega
      have htr : t.data.toList = restB size s.data.toList := by
        rw [HT.out]; unfold restB; rw [list_len, HM.out.1]
      obtain ⟨n, hn⟩ : ∃ n, n = Crc.sum t.data.toList := ⟨_, rfl⟩
      have hnl : n < 4294967296 := by rw [hn]; exact sum_lt' _
      have hS := ref02_Sum_any t wr (by have := HM.out; omega)
      rw [← hn] at hS
      have hN4 := ref01_Num_yes 4 n (by decide) (by omega) (by omega) wr
      obtain ⟨n4, hn4⟩ : ∃ n4 : ByteArray, n4 = numS (4 : Int).toNat ((n : Int)).toNat := ⟨_, rfl⟩
      rw [← hn4] at hN4
      have hn4l : n4.data.toList = beB 4 n := by rw [hn4]; rfl
      have hn4s : n4.size = 4 := by rw [← list_len, hn4l, beB_length]
      have q4 : ¬ 9223372036854775807 < n4.size + t.size := by have := HM.out; omega
      have hR : n4 ++ t = ⟨(frameB size s.data.toList).toArray⟩ := ba_ofP (by rw [app_list, hn4l]; unfold frameB; rw [← htr, ← hn])
      have HS := hid hS; have HN4 := hid hN4; have HR := hid hR
      clear htr hn hS hN4 hn4 hn4l hn4s hR
      go_wp2_with fail
      refine HS.out.mono ?_; rintro e w2 ⟨rfl, rfl⟩
      go_wp2_with fail
      refine HN4.out.mono ?_; rintro e w2 ⟨rfl, hb2⟩
      have H2 := hid (bt H1.out hb2)
      clear hb2 HN4 HS
      go_wp2_with fail
      go_ret2
      refine ⟨?_, H2.out⟩
      rw [HV.out, ← HR.out]
      rfl

set_option maxHeartbeats 4000000 in
set_option maxRecDepth 100000 in
theorem ref04_Open (f : ByteArray) (h6 : 6 ≤ f.size) (hsz : f.size ≤ 1000) (w : World) :
    Calls Tryz.prog 68 #[.string f] w fun e w' => e = .returned (.tuple #[.string (textV f.data.toList).1, .int .i64 (textV f.data.toList).2]) ∧ Below w.heap.size w w' := by
  have b4 : (6 : Int) ≤ (f.size : Int) := by omega
  have hfl : f.data.toList.length = f.size := by simp
  obtain ⟨r, hr⟩ : ∃ r, r = f.extract 4 6 := ⟨_, rfl⟩
  have hrs : r.size = 2 := by rw [hr]; simp; omega
  obtain ⟨n, hn, hn2, hnum⟩ := num_part r 2 (by decide) (by omega) (by decide)
  have hn3 : n = be ((f.data.toList.drop 4).take 2) := by
    rw [hn, hr, cut_list]
    congr 1
    rw [List.take_of_length_le (by rw [List.length_drop, List.length_take]; omega), List.drop_take]
  obtain ⟨t1, t2, t3⟩ := textV_cases f.data.toList
  rw [← hn3, hfl] at t1 t2 t3
  obtain ⟨V, hV⟩ : ∃ V, V = textV f.data.toList := ⟨_, rfl⟩
  rw [← hV] at t1 t2 t3 ⊢
  have hn65 : n < 65536 := hn2
  obtain ⟨m6, hm6⟩ : ∃ m, m = f.size - 6 := ⟨_, rfl⟩
  rw [← hm6] at t1 t2 t3
  have e1 : IntKind.i64.wrap ((f.size : Int) - 6) = (m6 : Int) := by rw [IntKind.wrap_i64]; omega
  have hA := below_alloc w (.cells #[.string r, .bool false] 120)
  have hI := Blk.new w #[.string r, .bool false] 120
  have H0 := hid (show Below w.heap.size w (w.alloc (.cells #[.string r, .bool false] 120)) ∧ RefAt (w.alloc (.cells #[.string r, .bool false] 120)) w.heap.size r false from ⟨hA, hI⟩)
  have HNUM := hid hnum; have T1 := hid t1; have T2 := hid t2; have T3 := hid t3; have HFL := hid hfl; have HM := hid hm6
  clear hn hn2 hn3 hnum t1 t2 t3 hV hfl hrs hA hI hm6
  go_enter Tryz.func68, Tryz.ntmps68
  go_wp2_with fail
  rw [← hr]
  refine (rIn_Num_all _ r false 2 _ H0.out.2).mono ?_; rintro e w2 ⟨rfl, hk2, hi2⟩
  rw [show (2 : Int) = ((2 : Nat) : Int) from rfl, HNUM.out]
  have H2 := hid (show Below w.heap.size w w2 from Keeps.below H0.out.1 hk2 (fun x hx => by simp at hx; rw [hx]; exact Nat.le_refl _))
  clear hk2 hi2 H0 HNUM
  by_cases hc : m6 < n
  · have hc1 : (m6 : Int) < (n : Int) := by omega
    go_wp2_with fail
    go_ret2
    exact ⟨by rw [T1.out hc]; rfl, H2.out⟩
  · have hc1 : ¬ (m6 : Int) < (n : Int) := by omega
    obtain ⟨m, hm⟩ : ∃ m, m = 6 + n := ⟨_, rfl⟩
    have e2 : IntKind.i64.wrap (6 + (n : Int)) = (m : Int) := by rw [IntKind.wrap_i64]; omega
    have b6 : (m : Int) ≤ (f.size : Int) := by have := HM.out; omega
    have b7 : (6 : Int) ≤ (m : Int) := by omega
    obtain ⟨s, hs⟩ : ∃ s, s = f.extract 6 m := ⟨_, rfl⟩
    have hsl : s.data.toList = (f.data.toList.drop 6).take n := by rw [hs, cut_list, hm, List.drop_take]; congr 1; omega
    have hss : s.size = n := by
      have h := congrArg List.length hsl
      rw [List.length_take, List.length_drop, HFL.out] at h
      have h2 : s.data.toList.length = s.size := by simp
      omega
    have hcall := ref04_Frame f.size s (by omega) (by omega) (by omega) w2
    have hfv : frameV f.size s = (⟨(frameB f.size ((f.data.toList.drop 6).take n)).toArray⟩, true) := by unfold frameV; rw [if_pos (by have := HM.out; omega), hsl]
    rw [hfv] at hcall
    obtain ⟨F, hF⟩ : ∃ F, F = frameB f.size ((f.data.toList.drop 6).take n) := ⟨_, rfl⟩
    rw [← hF] at T2 T3 hcall
    have HC := hid hcall; have HSL := hid hsl
    clear hcall hsl hss hF hm hfv
    by_cases heq : F = f.data.toList
    · have hb : (F == f.toList) = true := by rw [ByteArray.toList_eq]; simpa using heq
      have T := hid (T2.out hc heq)
      clear heq T1 T2 T3
      go_wp2_with fail
      rw [← hs]
      refine HC.out.mono ?_; rintro e w3 ⟨rfl, hb3⟩
      have H3 := hid (bt H2.out hb3)
      clear hb3 H2 HC
      go_wp2_with fail
      go_ret2
      refine ⟨?_, H3.out⟩
      rw [T.out]
      show Ending.returned (.tuple #[.string (f.extract 6 m), .int .i64 0]) = _
      rw [← hs, show s = ⟨((f.data.toList.drop 6).take n).toArray⟩ from ba_ofP (by rw [HSL.out])]
    · have hb : (F == f.toList) = false := by rw [ByteArray.toList_eq]; simpa using heq
      have T := hid (T3.out hc heq)
      clear heq T1 T2 T3
      go_wp2_with fail
      rw [← hs]
      refine HC.out.mono ?_; rintro e w3 ⟨rfl, hb3⟩
      have H3 := hid (bt H2.out hb3)
      clear hb3 H2 HC
      go_wp2_with fail
      go_ret2
      exact ⟨by rw [T.out]; rfl, H3.out⟩
end Go.Proofs.YtcklgaenedlbiaaGreat

namespace Go.Proofs.YtcklgaenedlbiaaGreat
open Go.RowKit

/-- a stamped block; whether it can be -/
def rstampV (e q : Int) (s : ByteArray) : ByteArray × Bool :=
  if s.size ≤ 218 ∧ 1 ≤ e ∧ e ≤ 2147483647 ∧ 0 ≤ q ∧ q ≤ 2147483647 then (⟨(stampB e.toNat q.toNat (frameB 224 s.data.toList)).toArray⟩, true) else (⟨#[]⟩, false)

set_option maxHeartbeats 4000000 in
set_option maxRecDepth 100000 in
theorem ref04_Stamp (e q : Int) (s : ByteArray) (hs9 : s.size ≤ 1000000) (w : World) :
    Calls Tryz.prog 36 #[.int .i64 e, .int .i64 q, .string s] w fun ee w' => ee = .returned (.tuple #[.string (rstampV e q s).1, .bool (rstampV e q s).2]) ∧ Below w.heap.size w w' := by
  have hcall := ref04_Frame 224 s (by decide) (by decide) hs9 w
  obtain ⟨F, hF⟩ : ∃ F, F = frameB 224 s.data.toList := ⟨_, rfl⟩
  obtain ⟨f, hf⟩ : ∃ f : ByteArray, f = ⟨F.toArray⟩ := ⟨_, rfl⟩
  by_cases hs : s.size ≤ 218
  case neg =>
    have hfv : frameV 224 s = (⟨#[]⟩, false) := by unfold frameV; rw [if_neg (by omega)]
    have hv : rstampV e q s = (⟨#[]⟩, false) := by unfold rstampV; rw [if_neg (by omega)]
    rw [hfv] at hcall
    have HV := hid hv; have HC := hid hcall
    clear hv hcall hf hfv hF
    go_enter Tryz.func36, Tryz.ntmps36
    go_wp2_with fail
    refine HC.out.mono ?_; rintro ee w1 ⟨rfl, hb1⟩
    have H1 := hid hb1
    clear hb1 HC
    go_wp2_with fail
    go_ret2
    exact ⟨by rw [HV.out]; rfl, H1.out⟩
  have hfv : frameV 224 s = (f, true) := by unfold frameV; rw [if_pos (by omega), hf, hF]
  rw [hfv] at hcall
  by_cases h1 : e < 1
  · have hv : rstampV e q s = (⟨#[]⟩, false) := by unfold rstampV; rw [if_neg (by omega)]
    have HV := hid hv; have HC := hid hcall
    clear hv hcall hf hfv hF
    go_enter Tryz.func36, Tryz.ntmps36
    go_wp2_with fail
    refine HC.out.mono ?_; rintro ee w1 ⟨rfl, hb1⟩
    have H1 := hid hb1
    clear hb1 HC
    go_wp2_with fail
    go_ret2
    exact ⟨by rw [HV.out]; rfl, H1.out⟩
  by_cases h2 : 2147483647 < e
  · have hv : rstampV e q s = (⟨#[]⟩, false) := by unfold rstampV; rw [if_neg (by omega)]
    have HV := hid hv; have HC := hid hcall
    clear hv hcall hf hfv hF
    go_enter Tryz.func36, Tryz.ntmps36
    go_wp2_with fail
    refine HC.out.mono ?_; rintro ee w1 ⟨rfl, hb1⟩
    have H1 := hid hb1
    clear hb1 HC
    go_wp2_with fail
    go_ret2
    exact ⟨by rw [HV.out]; rfl, H1.out⟩
  by_cases h3 : q < 0
  · have hv : rstampV e q s = (⟨#[]⟩, false) := by unfold rstampV; rw [if_neg (by omega)]
    have HV := hid hv; have HC := hid hcall
    clear hv hcall hf hfv hF
    go_enter Tryz.func36, Tryz.ntmps36
    go_wp2_with fail
    refine HC.out.mono ?_; rintro ee w1 ⟨rfl, hb1⟩
    have H1 := hid hb1
    clear hb1 HC
    go_wp2_with fail
    go_ret2
    exact ⟨by rw [HV.out]; rfl, H1.out⟩
  by_cases h4 : 2147483647 < q
  · have hv : rstampV e q s = (⟨#[]⟩, false) := by unfold rstampV; rw [if_neg (by omega)]
    have HV := hid hv; have HC := hid hcall
    clear hv hcall hf hfv hF
    go_enter Tryz.func36, Tryz.ntmps36
    go_wp2_with fail
    refine HC.out.mono ?_; rintro ee w1 ⟨rfl, hb1⟩
    have H1 := hid hb1
    clear hb1 HC
    go_wp2_with fail
    go_ret2
    exact ⟨by rw [HV.out]; rfl, H1.out⟩
  have hsl : s.data.toList.length = s.size := by simp
  have hFl : F.length = 224 := by rw [hF]; exact frameB_length (by rw [hsl]; omega)
  have hv : rstampV e q s = (⟨(stampB e.toNat q.toNat F).toArray⟩, true) := by unfold rstampV; rw [if_pos (by omega), ← hF]
  have hfs : f.size = 224 := by rw [hf]; show F.toArray.size = _; simp [hFl]
  have hfl : f.data.toList = F := by rw [hf]
  have hNe := fun w' => ref01_Num_yes 4 e (by decide) (by omega) (by omega) w'
  have hNq := fun w' => ref01_Num_yes 4 q (by decide) (by omega) (by omega) w'
  obtain ⟨ne, hne⟩ : ∃ n4 : ByteArray, n4 = numS (4 : Int).toNat e.toNat := ⟨_, rfl⟩
  obtain ⟨nq, hnq⟩ : ∃ n4 : ByteArray, n4 = numS (4 : Int).toNat q.toNat := ⟨_, rfl⟩
  rw [← hne] at hNe
  rw [← hnq] at hNq
  have hnel : ne.data.toList = beB 4 e.toNat := by rw [hne]; rfl
  have hnql : nq.data.toList = beB 4 q.toNat := by rw [hnq]; rfl
  have hnes : ne.size = 4 := by rw [← list_len, hnel, beB_length]
  have hnqs : nq.size = 4 := by rw [← list_len, hnql, beB_length]
  have HV := hid hv; have HC := hid hcall; have HFL := hid hfl; have HNE := hid hNe; have HNQ := hid hNq; have HEL := hid hnel; have HQL := hid hnql; have HSZ := hid (And.intro hnes hnqs)
  clear hv hcall hf hfl hF hFl hsl hfv hNe hNq hne hnq hnel hnql hnes hnqs
  go_enter Tryz.func36, Tryz.ntmps36
  go_wp2_with fail
  refine HC.out.mono ?_; rintro ee w1 ⟨rfl, hb1⟩
  have H1 := hid hb1
  clear hb1 HC
  go_wp2_with fail
  refine (HNE.out w1).mono ?_; rintro ee w2 ⟨rfl, hb1⟩
  have H2 := hid (bt H1.out hb1)
  clear hb1 HNE H1
  go_wp2_with fail
  refine (HNQ.out w2).mono ?_; rintro ee w3 ⟨rfl, hb1⟩
  have H3 := hid (bt H2.out hb1)
  clear hb1 HNQ H2
  go_wp2_with fail
  go_loopg [14, 15] 4 (fun g x y wx => ∃ (k : Nat) (o : ByteArray), k + g = 4 ∧ y = .int .i64 k ∧ x = .string o ∧ o.size ≤ 64 * k ∧ wx = w3 ∧ Hid (o.data.toList = stampN e.toNat q.toNat F k))
  case atStart => exact ⟨0, ⟨#[]⟩, rfl, rfl, rfl, Nat.le_refl _, rfl, rfl⟩
  case round =>
    obtain ⟨k, o, hk, rfl, rfl, hos, rfl, HS⟩ := hrel
    by_cases hlt : k < 4
    · have hlt' : (k : Int) < 4 := by omega
      obtain ⟨a, ha⟩ : ∃ a, a = 56 * k := ⟨_, rfl⟩
      obtain ⟨b, hb⟩ : ∃ b, b = a + 56 := ⟨_, rfl⟩
      have e1 : IntKind.i64.wrap (56 * (k : Int)) = (a : Int) := by rw [IntKind.wrap_i64]; omega
      have e2 : IntKind.i64.wrap ((a : Int) + 56) = (b : Int) := by rw [IntKind.wrap_i64]; omega
      have c1 : (b : Int) ≤ (f.size : Int) := by omega
      have c2 : (a : Int) ≤ (b : Int) := by omega
      obtain ⟨x, hx⟩ : ∃ x, x = f.extract a b := ⟨_, rfl⟩
      have hxl : x.data.toList = (F.drop (56 * k)).take 56 := by
        rw [hx, cut_list, HFL.out, ha, hb, List.drop_take]; congr 1; omega
      have hxs : x.size ≤ 56 := by rw [hx]; simp; omega
      obtain ⟨z1, z2⟩ := HSZ.out
      obtain ⟨o1, ho1⟩ : ∃ o1, o1 = o ++ ne := ⟨_, rfl⟩
      obtain ⟨o2, ho2⟩ : ∃ o2, o2 = o1 ++ nq := ⟨_, rfl⟩
      have ho1s : o1.size = o.size + 4 := by rw [ho1]; simp [z1]
      have ho2s : o2.size = o.size + 8 := by rw [ho2]; simp [ho1s, z2]
      have q1 : ¬ 9223372036854775807 < o.size + ne.size := by omega
      have q2 : ¬ 9223372036854775807 < o.size + ne.size + nq.size := by omega
      have q3 : ¬ 9223372036854775807 < o.size + ne.size + nq.size + (b - a) := by omega
      have HO : Hid ((o2 ++ x).data.toList = stampN e.toNat q.toNat F (k + 1) ∧ (o2 ++ x).size ≤ 64 * (k + 1)) := by
        refine ⟨?_, ?_⟩
        · rw [app_list, ho2, app_list, ho1, app_list, HS.out, HEL.out, HQL.out, hxl]
          simp [stampN, markB]
        · rw [show (o2 ++ x).size = o2.size + x.size by simp]; omega
      have HX := hid (show o ++ ne ++ nq ++ f.extract a b = o2 ++ x by rw [ho2, ho1, hx])
      have HA := hid (And.intro ha hb)
      clear ha hb hxl hxs z1 z2 ho1s ho2s ho1 ho2 hx
      go_wp2_with fail
      go_roundg (4 - (k + 1))
      case measure => omega
      case rel => exact ⟨k + 1, o2 ++ x, by omega, by go_num, by rw [← HX.out], HO.out.2, rfl, HO.out.1⟩
    · have hk4 : k = 4 := by omega
      subst hk4
      rw [stampN_4] at HS
      have HR : Hid (o = ⟨(stampB e.toNat q.toNat F).toArray⟩) := ba_ofP HS.out
      go_wp2_with fail
      go_ret2
      refine ⟨?_, H3.out⟩
      rw [HV.out, ← HR.out]
      rfl
end Go.Proofs.YtcklgaenedlbiaaGreat
