/-
  The document's stamped blocks: walked.
-/
import Derived.Test.YtjeoelhenlckaaaSlabRef
namespace Go.Proofs.Ytjeoelhenlckaaa
open Go.RowKit

/-- a stamped block; whether it can be -/
def rstampV (e q : Int) (s : ByteArray) : ByteArray × Bool :=
  if s.size ≤ 218 ∧ 1 ≤ e ∧ e ≤ 2147483647 ∧ 0 ≤ q ∧ q ≤ 2147483647 then (⟨(stampB e.toNat q.toNat (frameB 224 s.data.toList)).toArray⟩, true) else (⟨#[]⟩, false)

set_option maxHeartbeats 4000000 in
set_option maxRecDepth 100000 in
theorem ref04_Stamp (e q : Int) (s : ByteArray) (hs9 : s.size ≤ 1000000) (w : World) :
    Calls Try.prog 64 #[.int .i64 e, .int .i64 q, .string s] w fun ee w' => ee = .returned (.tuple #[.string (rstampV e q s).1, .bool (rstampV e q s).2]) ∧ Below w.heap.size w w' := by
  have hcall := ref04_Frame 224 s (by decide) (by decide) hs9 w
  obtain ⟨F, hF⟩ : ∃ F, F = frameB 224 s.data.toList := ⟨_, rfl⟩
  obtain ⟨f, hf⟩ : ∃ f : ByteArray, f = ⟨F.toArray⟩ := ⟨_, rfl⟩
  by_cases hs : s.size ≤ 218
  case neg =>
    have hfv : frameV 224 s = (⟨#[]⟩, false) := by unfold frameV; rw [if_neg (by omega)]
    have hv : rstampV e q s = (⟨#[]⟩, false) := by unfold rstampV; rw [if_neg (by omega)]
    rw [hfv] at hcall
    have HV := hid hv; have HC := hid hcall
    clear hv hcall hf hfv hF
    go_enter Try.func64, Try.ntmps64
    go_wp2_with fail
    refine HC.out.mono ?_; rintro ee w1 ⟨rfl, hb1⟩
    have H1 := hid hb1
    clear hb1 HC
    go_wp2_with fail
    go_ret2
    exact ⟨by rw [HV.out]; rfl, H1.out⟩
  have hfv : frameV 224 s = (f, true) := by unfold frameV; rw [if_pos (by omega), hf, hF]
  rw [hfv] at hcall
  by_cases h1 : e < 1
  · have hv : rstampV e q s = (⟨#[]⟩, false) := by unfold rstampV; rw [if_neg (by omega)]
    have HV := hid hv; have HC := hid hcall
    clear hv hcall hf hfv hF
    go_enter Try.func64, Try.ntmps64
    go_wp2_with fail
    refine HC.out.mono ?_; rintro ee w1 ⟨rfl, hb1⟩
    have H1 := hid hb1
    clear hb1 HC
    go_wp2_with fail
    go_ret2
    exact ⟨by rw [HV.out]; rfl, H1.out⟩
  by_cases h2 : 2147483647 < e
  · have hv : rstampV e q s = (⟨#[]⟩, false) := by unfold rstampV; rw [if_neg (by omega)]
    have HV := hid hv; have HC := hid hcall
    clear hv hcall hf hfv hF
    go_enter Try.func64, Try.ntmps64
    go_wp2_with fail
    refine HC.out.mono ?_; rintro ee w1 ⟨rfl, hb1⟩
    have H1 := hid hb1
    clear hb1 HC
    go_wp2_with fail
    go_ret2
    exact ⟨by rw [HV.out]; rfl, H1.out⟩
  by_cases h3 : q < 0
  · have hv : rstampV e q s = (⟨#[]⟩, false) := by unfold rstampV; rw [if_neg (by omega)]
    have HV := hid hv; have HC := hid hcall
    clear hv hcall hf hfv hF
    go_enter Try.func64, Try.ntmps64
    go_wp2_with fail
    refine HC.out.mono ?_; rintro ee w1 ⟨rfl, hb1⟩
    have H1 := hid hb1
    clear hb1 HC
    go_wp2_with fail
    go_ret2
    exact ⟨by rw [HV.out]; rfl, H1.out⟩
  by_cases h4 : 2147483647 < q
  · have hv : rstampV e q s = (⟨#[]⟩, false) := by unfold rstampV; rw [if_neg (by omega)]
    have HV := hid hv; have HC := hid hcall
    clear hv hcall hf hfv hF
    go_enter Try.func64, Try.ntmps64
    go_wp2_with fail
    refine HC.out.mono ?_; rintro ee w1 ⟨rfl, hb1⟩
    have H1 := hid hb1
    clear hb1 HC
    go_wp2_with fail
    go_ret2
    exact ⟨by rw [HV.out]; rfl, H1.out⟩
  have hsl : s.data.toList.length = s.size := by simp
  have hFl : F.length = 224 := by rw [hF]; exact frameB_length (by rw [hsl]; omega)
  have hv : rstampV e q s = (⟨(stampB e.toNat q.toNat F).toArray⟩, true) := by unfold rstampV; rw [if_pos (by omega), ← hF]
  have hfs : f.size = 224 := by rw [hf]; show F.toArray.size = _; simp [hFl]
  have hfl : f.data.toList = F := by rw [hf]
  have hNe := fun w' => ref01_Num_yes 4 e (by decide) (by omega) (by omega) w'
  have hNq := fun w' => ref01_Num_yes 4 q (by decide) (by omega) (by omega) w'
  obtain ⟨ne, hne⟩ : ∃ n4 : ByteArray, n4 = numS (4 : Int).toNat e.toNat := ⟨_, rfl⟩
  obtain ⟨nq, hnq⟩ : ∃ n4 : ByteArray, n4 = numS (4 : Int).toNat q.toNat := ⟨_, rfl⟩
  rw [← hne] at hNe
  rw [← hnq] at hNq
  have hnel : ne.data.toList = beB 4 e.toNat := by rw [hne]; rfl
  have hnql : nq.data.toList = beB 4 q.toNat := by rw [hnq]; rfl
  have hnes : ne.size = 4 := by rw [← list_len, hnel, beB_length]
  have hnqs : nq.size = 4 := by rw [← list_len, hnql, beB_length]
  have HV := hid hv; have HC := hid hcall; have HFL := hid hfl; have HNE := hid hNe; have HNQ := hid hNq; have HEL := hid hnel; have HQL := hid hnql; have HSZ := hid (And.intro hnes hnqs)
  clear hv hcall hf hfl hF hFl hsl hfv hNe hNq hne hnq hnel hnql hnes hnqs
  go_enter Try.func64, Try.ntmps64
  go_wp2_with fail
  refine HC.out.mono ?_; rintro ee w1 ⟨rfl, hb1⟩
  have H1 := hid hb1
  clear hb1 HC
  go_wp2_with fail
  refine (HNE.out w1).mono ?_; rintro ee w2 ⟨rfl, hb1⟩
  have H2 := hid (bt H1.out hb1)
  clear hb1 HNE H1
  go_wp2_with fail
  refine (HNQ.out w2).mono ?_; rintro ee w3 ⟨rfl, hb1⟩
  have H3 := hid (bt H2.out hb1)
  clear hb1 HNQ H2
  go_wp2_with fail
  go_loopg [14, 15] 4 (fun g x y wx => ∃ (k : Nat) (o : ByteArray), k + g = 4 ∧ y = .int .i64 k ∧ x = .string o ∧ o.size ≤ 64 * k ∧ wx = w3 ∧ Hid (o.data.toList = stampN e.toNat q.toNat F k))
  case atStart => exact ⟨0, ⟨#[]⟩, rfl, rfl, rfl, Nat.le_refl _, rfl, rfl⟩
  case round =>
    obtain ⟨k, o, hk, rfl, rfl, hos, rfl, HS⟩ := hrel
    by_cases hlt : k < 4
    · have hlt' : (k : Int) < 4 := by omega
      obtain ⟨a, ha⟩ : ∃ a, a = 56 * k := ⟨_, rfl⟩
      obtain ⟨b, hb⟩ : ∃ b, b = a + 56 := ⟨_, rfl⟩
      have e1 : IntKind.i64.wrap (56 * (k : Int)) = (a : Int) := by rw [IntKind.wrap_i64]; omega
      have e2 : IntKind.i64.wrap ((a : Int) + 56) = (b : Int) := by rw [IntKind.wrap_i64]; omega
      have c1 : (b : Int) ≤ (f.size : Int) := by omega
      have c2 : (a : Int) ≤ (b : Int) := by omega
      obtain ⟨x, hx⟩ : ∃ x, x = f.extract a b := ⟨_, rfl⟩
      have hxl : x.data.toList = (F.drop (56 * k)).take 56 := by
        rw [hx, cut_list, HFL.out, ha, hb, List.drop_take]; congr 1; omega
      have hxs : x.size ≤ 56 := by rw [hx]; simp; omega
      obtain ⟨z1, z2⟩ := HSZ.out
      obtain ⟨o1, ho1⟩ : ∃ o1, o1 = o ++ ne := ⟨_, rfl⟩
      obtain ⟨o2, ho2⟩ : ∃ o2, o2 = o1 ++ nq := ⟨_, rfl⟩
      have ho1s : o1.size = o.size + 4 := by rw [ho1]; simp [z1]
      have ho2s : o2.size = o.size + 8 := by rw [ho2]; simp [ho1s, z2]
      have q1 : ¬ 9223372036854775807 < o.size + ne.size := by omega
      have q2 : ¬ 9223372036854775807 < o.size + ne.size + nq.size := by omega
      have q3 : ¬ 9223372036854775807 < o.size + ne.size + nq.size + (b - a) := by omega
      have HO : Hid ((o2 ++ x).data.toList = stampN e.toNat q.toNat F (k + 1) ∧ (o2 ++ x).size ≤ 64 * (k + 1)) := by
        refine ⟨?_, ?_⟩
        · rw [app_list, ho2, app_list, ho1, app_list, HS.out, HEL.out, HQL.out, hxl]
          simp [stampN, markB]
        · rw [show (o2 ++ x).size = o2.size + x.size by simp]; omega
      have HX := hid (show o ++ ne ++ nq ++ f.extract a b = o2 ++ x by rw [ho2, ho1, hx])
      have HA := hid (And.intro ha hb)
      clear ha hb hxl hxs z1 z2 ho1s ho2s ho1 ho2 hx
      go_wp2_with fail
      go_roundg (4 - (k + 1))
      case measure => omega
      case rel => exact ⟨k + 1, o2 ++ x, by omega, by go_num, by rw [← HX.out], HO.out.2, rfl, HO.out.1⟩
    · have hk4 : k = 4 := by omega
      subst hk4
      rw [stampN_4] at HS
      have HR : Hid (o = ⟨(stampB e.toNat q.toNat F).toArray⟩) := ba_of HS.out
      go_wp2_with fail
      go_ret2
      refine ⟨?_, H3.out⟩
      rw [HV.out, ← HR.out]
      rfl
end Go.Proofs.Ytjeoelhenlckaaa
