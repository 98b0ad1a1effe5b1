/-
  Superblocks that can be: walked.
-/
import Derived.Test.YtcklgaenedlbiaaCapa
namespace Go.Proofs.Ytcklgaenedlbiaa
open Go.RowKit

/-- a superblock -/
structure Sup where
  (blocks epoch root from_ nodes items weight : Int)
def Sup.vals (s : Sup) : Array Value := #[.int .i64 s.blocks, .int .i64 s.epoch, .int .i64 s.root, .int .i64 s.from_, .int .i64 s.nodes, .int .i64 s.items, .int .i64 s.weight]
def kindOf (p : Pl) (x : Int) : Int := if x < 0 ∨ p.n ≤ x then 0 else if x < 2 then 1 else if x < p.first then 2 else 3
def holdsB (p : Pl) (x : Int) : Bool := decide (0 ≤ x) && decide (x ≤ p.cap)
/-- whether it can be -/
def goodC (p : Pl) (κ B E F N I W : Int) : Bool := decide (64 ≤ B ∧ B ≤ 512 ∧ 1 ≤ E ∧ E ≤ 2147483647 ∧ κ = 3 ∧ 0 ≤ F ∧ F < p.log ∧ 1 ≤ N ∧ N ≤ p.half ∧ 0 ≤ W ∧ W ≤ p.cap ∧ 0 ≤ I ∧ I ≤ W)
def goodB (s : Sup) : Bool := goodC (planOf s.blocks.toNat) (kindOf (planOf s.blocks.toNat) s.root) s.blocks s.epoch s.from_ s.nodes s.items s.weight
theorem cells7 {W : World} {g : Nat} {T : TypeId} {a b c d e f h : Value} (hB : Blk W g T [a, b, c, d, e, f, h]) :
    W.cell? ⟨g, 0, none⟩ = some a ∧ W.cell? ⟨g, 1, none⟩ = some b ∧ W.cell? ⟨g, 2, none⟩ = some c ∧ W.cell? ⟨g, 3, none⟩ = some d ∧ W.cell? ⟨g, 4, none⟩ = some e ∧ W.cell? ⟨g, 5, none⟩ = some f ∧ W.cell? ⟨g, 6, none⟩ = some h :=
  ⟨hB.at rfl, hB.at rfl, hB.at rfl, hB.at rfl, hB.at rfl, hB.at rfl, hB.at rfl⟩

set_option maxHeartbeats 2000000 in
set_option maxRecDepth 100000 in
theorem capa_Kind (p : Pl) (x : Int) (w : World) :
    Calls Try.prog 103 #[.agg p.vals, .int .i64 x] w fun e w' => e = .returned (.int .i64 (kindOf p x)) ∧ Below w.heap.size w w' := by
  obtain ⟨n, log, first, data, half, leaves, cap⟩ := p
  obtain ⟨v, hv⟩ : ∃ v, v = kindOf ⟨n, log, first, data, half, leaves, cap⟩ x := ⟨_, rfl⟩
  rw [← hv]
  simp only [kindOf] at hv
  simp only [Pl.vals]
  have hA := below_alloc w (.cells #[.int .i64 n, .int .i64 log, .int .i64 first, .int .i64 data, .int .i64 half, .int .i64 leaves, .int .i64 cap] 110)
  have HA := hid hA; clear hA
  by_cases h1 : x < 0
  · rw [if_pos (.inl h1)] at hv
    have HV := hid hv; clear hv
    go_enter Try.func103, Try.ntmps103
    go_wp2_with fail
    go_ret
    exact ⟨by rw [HV.out]; rfl, HA.out⟩
  by_cases h2 : (n : Int) ≤ x
  · rw [if_pos (.inr h2)] at hv
    have HV := hid hv; clear hv
    go_enter Try.func103, Try.ntmps103
    go_wp2_with fail
    go_ret
    exact ⟨by rw [HV.out]; rfl, HA.out⟩
  rw [if_neg (by omega)] at hv
  by_cases h3 : x < 2
  · rw [if_pos h3] at hv
    have HV := hid hv; clear hv
    go_enter Try.func103, Try.ntmps103
    go_wp2_with fail
    go_ret
    exact ⟨by rw [HV.out]; rfl, HA.out⟩
  rw [if_neg h3] at hv
  by_cases h4 : x < (first : Int)
  · rw [if_pos h4] at hv
    have HV := hid hv; clear hv
    go_enter Try.func103, Try.ntmps103
    go_wp2_with fail
    go_ret
    exact ⟨by rw [HV.out]; rfl, HA.out⟩
  · rw [if_neg h4] at hv
    have HV := hid hv; clear hv
    go_enter Try.func103, Try.ntmps103
    go_wp2_with fail
    go_ret
    exact ⟨by rw [HV.out]; rfl, HA.out⟩

set_option maxHeartbeats 2000000 in
set_option maxRecDepth 100000 in
theorem capa_Holds (p : Pl) (x : Int) (w : World) :
    Calls Try.prog 104 #[.agg p.vals, .int .i64 x] w fun e w' => e = .returned (.bool (holdsB p x)) ∧ Below w.heap.size w w' := by
  obtain ⟨n, log, first, data, half, leaves, cap⟩ := p
  obtain ⟨v, hv⟩ : ∃ v, v = holdsB ⟨n, log, first, data, half, leaves, cap⟩ x := ⟨_, rfl⟩
  rw [← hv]
  simp only [holdsB] at hv
  simp only [Pl.vals]
  have hA := below_alloc w (.cells #[.int .i64 n, .int .i64 log, .int .i64 first, .int .i64 data, .int .i64 half, .int .i64 leaves, .int .i64 cap] 110)
  have HA := hid hA; clear hA
  by_cases h1 : 0 ≤ x
  · by_cases h2 : x ≤ (cap : Int)
    · rw [decide_eq_true h1, decide_eq_true h2] at hv
      have HV := hid hv; clear hv
      go_enter Try.func104, Try.ntmps104
      go_wp2_with fail
      go_ret
      exact ⟨by rw [HV.out]; rfl, HA.out⟩
    · rw [decide_eq_true h1, decide_eq_false h2] at hv
      have HV := hid hv; clear hv
      go_enter Try.func104, Try.ntmps104
      go_wp2_with fail
      go_ret
      exact ⟨by rw [HV.out]; rfl, HA.out⟩
  · rw [decide_eq_false h1] at hv
    have HV := hid hv; clear hv
    go_enter Try.func104, Try.ntmps104
    go_wp2_with fail
    go_ret
    exact ⟨by rw [HV.out]; rfl, HA.out⟩

set_option maxHeartbeats 8000000 in
set_option maxRecDepth 100000 in
theorem super_is (s : Sup) (w : World) :
    Calls Try.prog 81 #[.agg s.vals] w fun e w' => e = .returned (.bool (goodB s)) ∧ Below w.heap.size w w' := by
  obtain ⟨B, E, R, F, N, I, W⟩ := s
  obtain ⟨v, hv⟩ : ∃ v, v = goodB ⟨B, E, R, F, N, I, W⟩ := ⟨_, rfl⟩
  rw [← hv]
  simp only [goodB] at hv
  simp only [Sup.vals]
  have HA := hid (below_alloc w (.cells #[.int .i64 B, .int .i64 E, .int .i64 R, .int .i64 F, .int .i64 N, .int .i64 I, .int .i64 W] 60))
  have HN := hid (Blk.new w #[.int .i64 B, .int .i64 E, .int .i64 R, .int .i64 F, .int .i64 N, .int .i64 I, .int .i64 W] 60)
  by_cases hB : B < 64 ∨ 512 < B
  · unfold goodC at hv
    rw [decide_eq_false (by omega)] at hv
    have HV := hid hv; clear hv
    have HO := hid (fun w' => capa_Of_no B hB w')
    go_enter Try.func81, Try.ntmps81
    go_wp2_with fail
    refine (HO.out _).mono ?_; rintro e w1 ⟨rfl, hb1⟩
    rw [show (.agg zero7 : Value) = .agg #[.int .i64 0, .int .i64 0, .int .i64 0, .int .i64 0, .int .i64 0, .int .i64 0, .int .i64 0] from rfl]
    have H1 := hid (bt (bt HA.out hb1) (below_alloc w1 (.cells #[.int .i64 0, .int .i64 0, .int .i64 0, .int .i64 0, .int .i64 0, .int .i64 0, .int .i64 0] 110))); clear hb1
    go_wp2_with fail
    go_ret
    exact ⟨by rw [HV.out]; rfl, H1.out⟩
  obtain ⟨b, rfl⟩ : ∃ b : Nat, B = (b : Int) := ⟨B.toNat, by omega⟩
  have hb1 : 64 ≤ b := by omega
  have hb2 : b ≤ 512 := by omega
  have HO := hid (fun w' => capa_Of_yes b hb1 hb2 w')
  simp only [Int.toNat_natCast] at hv
  obtain ⟨p, hp⟩ : ∃ p, p = planOf b := ⟨_, rfl⟩
  rw [← hp] at hv HO
  clear hp hB
  have HK := hid (fun w' => capa_Kind p R w')
  have HH := hid (fun w' => capa_Holds p W w')
  obtain ⟨κ, hκ⟩ : ∃ κ, κ = kindOf p R := ⟨_, rfl⟩
  obtain ⟨η, hη⟩ : ∃ η, η = holdsB p W := ⟨_, rfl⟩
  rw [← hκ] at hv HK
  rw [← hη] at HH
  have hη2 : η = (decide (0 ≤ W) && decide (W ≤ p.cap)) := hη
  clear hκ hη
  obtain ⟨n, log, first, data, half, leaves, cap⟩ := p
  simp only [Pl.vals] at HO HK HH
  unfold goodC at hv
  simp only at hv hη2
  by_cases he1 : E < 1
  · rw [decide_eq_false (by omega)] at hv
    have HV := hid hv; clear hv
    go_enter Try.func81, Try.ntmps81
    go_wp2_with fail
    refine (HO.out _).mono ?_; rintro e w1 ⟨rfl, hb1⟩
    have H1 := hid (And.intro (bt (bt HA.out hb1) (below_alloc w1 (.cells #[.int .i64 n, .int .i64 log, .int .i64 first, .int .i64 data, .int .i64 half, .int .i64 leaves, .int .i64 cap] 110))) ((HN.out.belowS hb1).belowS (below_alloc w1 (.cells #[.int .i64 n, .int .i64 log, .int .i64 first, .int .i64 data, .int .i64 half, .int .i64 leaves, .int .i64 cap] 110))))
    have HP1 := hid (Blk.new w1 #[.int .i64 n, .int .i64 log, .int .i64 first, .int .i64 data, .int .i64 half, .int .i64 leaves, .int .i64 cap] 110)
    clear hb1 HO
    obtain ⟨x0, x1, x2, x3, x4, x5, x6⟩ := cells7 H1.out.2
    go_wp2_with fail
    go_ret
    exact ⟨by rw [HV.out]; first | rfl | exact ret_bool (decide_eq_false (by omega)), H1.out.1⟩
  by_cases he2 : 2147483647 < E
  · rw [decide_eq_false (by omega)] at hv
    have HV := hid hv; clear hv
    go_enter Try.func81, Try.ntmps81
    go_wp2_with fail
    refine (HO.out _).mono ?_; rintro e w1 ⟨rfl, hb1⟩
    have H1 := hid (And.intro (bt (bt HA.out hb1) (below_alloc w1 (.cells #[.int .i64 n, .int .i64 log, .int .i64 first, .int .i64 data, .int .i64 half, .int .i64 leaves, .int .i64 cap] 110))) ((HN.out.belowS hb1).belowS (below_alloc w1 (.cells #[.int .i64 n, .int .i64 log, .int .i64 first, .int .i64 data, .int .i64 half, .int .i64 leaves, .int .i64 cap] 110))))
    have HP1 := hid (Blk.new w1 #[.int .i64 n, .int .i64 log, .int .i64 first, .int .i64 data, .int .i64 half, .int .i64 leaves, .int .i64 cap] 110)
    clear hb1 HO
    obtain ⟨x0, x1, x2, x3, x4, x5, x6⟩ := cells7 H1.out.2
    go_wp2_with fail
    go_ret
    exact ⟨by rw [HV.out]; first | rfl | exact ret_bool (decide_eq_false (by omega)), H1.out.1⟩
  by_cases hk : κ = 3
  case neg =>
    have hkq : (κ != 3) = true := by rw [bne_iff_ne]; exact hk
    rw [decide_eq_false (by omega)] at hv
    have HV := hid hv; clear hv
    go_enter Try.func81, Try.ntmps81
    go_wp2_with fail
    refine (HO.out _).mono ?_; rintro e w1 ⟨rfl, hb1⟩
    have H1 := hid (And.intro (bt (bt HA.out hb1) (below_alloc w1 (.cells #[.int .i64 n, .int .i64 log, .int .i64 first, .int .i64 data, .int .i64 half, .int .i64 leaves, .int .i64 cap] 110))) ((HN.out.belowS hb1).belowS (below_alloc w1 (.cells #[.int .i64 n, .int .i64 log, .int .i64 first, .int .i64 data, .int .i64 half, .int .i64 leaves, .int .i64 cap] 110))))
    have HP1 := hid (Blk.new w1 #[.int .i64 n, .int .i64 log, .int .i64 first, .int .i64 data, .int .i64 half, .int .i64 leaves, .int .i64 cap] 110)
    clear hb1 HO
    obtain ⟨x0, x1, x2, x3, x4, x5, x6⟩ := cells7 H1.out.2
    go_wp2_with fail
    refine (HK.out _).mono ?_; rintro e w2 ⟨rfl, hb2⟩
    have H2 := hid (And.intro (bt H1.out.1 hb2) (And.intro (H1.out.2.belowS hb2) (HP1.out.belowS hb2)))
    clear hb2 x0 x1 x2 x3 x4 x5 x6 HK
    obtain ⟨x0, x1, x2, x3, x4, x5, x6⟩ := cells7 H2.out.2.1
    obtain ⟨y0, y1, y2, y3, y4, y5, y6⟩ := cells7 H2.out.2.2
    go_wp2_with fail
    go_ret
    exact ⟨by rw [HV.out]; first | rfl | exact ret_bool (decide_eq_false (by omega)), H2.out.1⟩
  have hkq : (κ != 3) = false := by rw [hk]; rfl
  by_cases hf1 : F < 0
  · rw [decide_eq_false (by omega)] at hv
    have HV := hid hv; clear hv
    go_enter Try.func81, Try.ntmps81
    go_wp2_with fail
    refine (HO.out _).mono ?_; rintro e w1 ⟨rfl, hb1⟩
    have H1 := hid (And.intro (bt (bt HA.out hb1) (below_alloc w1 (.cells #[.int .i64 n, .int .i64 log, .int .i64 first, .int .i64 data, .int .i64 half, .int .i64 leaves, .int .i64 cap] 110))) ((HN.out.belowS hb1).belowS (below_alloc w1 (.cells #[.int .i64 n, .int .i64 log, .int .i64 first, .int .i64 data, .int .i64 half, .int .i64 leaves, .int .i64 cap] 110))))
    have HP1 := hid (Blk.new w1 #[.int .i64 n, .int .i64 log, .int .i64 first, .int .i64 data, .int .i64 half, .int .i64 leaves, .int .i64 cap] 110)
    clear hb1 HO
    obtain ⟨x0, x1, x2, x3, x4, x5, x6⟩ := cells7 H1.out.2
    go_wp2_with fail
    refine (HK.out _).mono ?_; rintro e w2 ⟨rfl, hb2⟩
    have H2 := hid (And.intro (bt H1.out.1 hb2) (And.intro (H1.out.2.belowS hb2) (HP1.out.belowS hb2)))
    clear hb2 x0 x1 x2 x3 x4 x5 x6 HK
    obtain ⟨x0, x1, x2, x3, x4, x5, x6⟩ := cells7 H2.out.2.1
    obtain ⟨y0, y1, y2, y3, y4, y5, y6⟩ := cells7 H2.out.2.2
    go_wp2_with fail
    go_ret
    exact ⟨by rw [HV.out]; first | rfl | exact ret_bool (decide_eq_false (by omega)), H2.out.1⟩
  by_cases hf2 : (log : Int) ≤ F
  · rw [decide_eq_false (by omega)] at hv
    have HV := hid hv; clear hv
    go_enter Try.func81, Try.ntmps81
    go_wp2_with fail
    refine (HO.out _).mono ?_; rintro e w1 ⟨rfl, hb1⟩
    have H1 := hid (And.intro (bt (bt HA.out hb1) (below_alloc w1 (.cells #[.int .i64 n, .int .i64 log, .int .i64 first, .int .i64 data, .int .i64 half, .int .i64 leaves, .int .i64 cap] 110))) ((HN.out.belowS hb1).belowS (below_alloc w1 (.cells #[.int .i64 n, .int .i64 log, .int .i64 first, .int .i64 data, .int .i64 half, .int .i64 leaves, .int .i64 cap] 110))))
    have HP1 := hid (Blk.new w1 #[.int .i64 n, .int .i64 log, .int .i64 first, .int .i64 data, .int .i64 half, .int .i64 leaves, .int .i64 cap] 110)
    clear hb1 HO
    obtain ⟨x0, x1, x2, x3, x4, x5, x6⟩ := cells7 H1.out.2
    go_wp2_with fail
    refine (HK.out _).mono ?_; rintro e w2 ⟨rfl, hb2⟩
    have H2 := hid (And.intro (bt H1.out.1 hb2) (And.intro (H1.out.2.belowS hb2) (HP1.out.belowS hb2)))
    clear hb2 x0 x1 x2 x3 x4 x5 x6 HK
    obtain ⟨x0, x1, x2, x3, x4, x5, x6⟩ := cells7 H2.out.2.1
    obtain ⟨y0, y1, y2, y3, y4, y5, y6⟩ := cells7 H2.out.2.2
    go_wp2_with fail
    go_ret
    exact ⟨by rw [HV.out]; first | rfl | exact ret_bool (decide_eq_false (by omega)), H2.out.1⟩
  by_cases hn1 : N < 1
  · rw [decide_eq_false (by omega)] at hv
    have HV := hid hv; clear hv
    go_enter Try.func81, Try.ntmps81
    go_wp2_with fail
    refine (HO.out _).mono ?_; rintro e w1 ⟨rfl, hb1⟩
    have H1 := hid (And.intro (bt (bt HA.out hb1) (below_alloc w1 (.cells #[.int .i64 n, .int .i64 log, .int .i64 first, .int .i64 data, .int .i64 half, .int .i64 leaves, .int .i64 cap] 110))) ((HN.out.belowS hb1).belowS (below_alloc w1 (.cells #[.int .i64 n, .int .i64 log, .int .i64 first, .int .i64 data, .int .i64 half, .int .i64 leaves, .int .i64 cap] 110))))
    have HP1 := hid (Blk.new w1 #[.int .i64 n, .int .i64 log, .int .i64 first, .int .i64 data, .int .i64 half, .int .i64 leaves, .int .i64 cap] 110)
    clear hb1 HO
    obtain ⟨x0, x1, x2, x3, x4, x5, x6⟩ := cells7 H1.out.2
    go_wp2_with fail
    refine (HK.out _).mono ?_; rintro e w2 ⟨rfl, hb2⟩
    have H2 := hid (And.intro (bt H1.out.1 hb2) (And.intro (H1.out.2.belowS hb2) (HP1.out.belowS hb2)))
    clear hb2 x0 x1 x2 x3 x4 x5 x6 HK
    obtain ⟨x0, x1, x2, x3, x4, x5, x6⟩ := cells7 H2.out.2.1
    obtain ⟨y0, y1, y2, y3, y4, y5, y6⟩ := cells7 H2.out.2.2
    go_wp2_with fail
    go_ret
    exact ⟨by rw [HV.out]; first | rfl | exact ret_bool (decide_eq_false (by omega)), H2.out.1⟩
  by_cases hn2 : (half : Int) < N
  · rw [decide_eq_false (by omega)] at hv
    have HV := hid hv; clear hv
    go_enter Try.func81, Try.ntmps81
    go_wp2_with fail
    refine (HO.out _).mono ?_; rintro e w1 ⟨rfl, hb1⟩
    have H1 := hid (And.intro (bt (bt HA.out hb1) (below_alloc w1 (.cells #[.int .i64 n, .int .i64 log, .int .i64 first, .int .i64 data, .int .i64 half, .int .i64 leaves, .int .i64 cap] 110))) ((HN.out.belowS hb1).belowS (below_alloc w1 (.cells #[.int .i64 n, .int .i64 log, .int .i64 first, .int .i64 data, .int .i64 half, .int .i64 leaves, .int .i64 cap] 110))))
    have HP1 := hid (Blk.new w1 #[.int .i64 n, .int .i64 log, .int .i64 first, .int .i64 data, .int .i64 half, .int .i64 leaves, .int .i64 cap] 110)
    clear hb1 HO
    obtain ⟨x0, x1, x2, x3, x4, x5, x6⟩ := cells7 H1.out.2
    go_wp2_with fail
    refine (HK.out _).mono ?_; rintro e w2 ⟨rfl, hb2⟩
    have H2 := hid (And.intro (bt H1.out.1 hb2) (And.intro (H1.out.2.belowS hb2) (HP1.out.belowS hb2)))
    clear hb2 x0 x1 x2 x3 x4 x5 x6 HK
    obtain ⟨x0, x1, x2, x3, x4, x5, x6⟩ := cells7 H2.out.2.1
    obtain ⟨y0, y1, y2, y3, y4, y5, y6⟩ := cells7 H2.out.2.2
    go_wp2_with fail
    go_ret
    exact ⟨by rw [HV.out]; first | rfl | exact ret_bool (decide_eq_false (by omega)), H2.out.1⟩
  cases η
  case false =>
    have hw : ¬ (0 ≤ W ∧ W ≤ (cap : Int)) := by
      rintro ⟨h1, h2⟩
      rw [decide_eq_true h1, decide_eq_true h2] at hη2
      cases hη2
    clear hη2
    rw [decide_eq_false (by omega)] at hv
    have HV := hid hv; clear hv
    go_enter Try.func81, Try.ntmps81
    go_wp2_with fail
    refine (HO.out _).mono ?_; rintro e w1 ⟨rfl, hb1⟩
    have H1 := hid (And.intro (bt (bt HA.out hb1) (below_alloc w1 (.cells #[.int .i64 n, .int .i64 log, .int .i64 first, .int .i64 data, .int .i64 half, .int .i64 leaves, .int .i64 cap] 110))) ((HN.out.belowS hb1).belowS (below_alloc w1 (.cells #[.int .i64 n, .int .i64 log, .int .i64 first, .int .i64 data, .int .i64 half, .int .i64 leaves, .int .i64 cap] 110))))
    have HP1 := hid (Blk.new w1 #[.int .i64 n, .int .i64 log, .int .i64 first, .int .i64 data, .int .i64 half, .int .i64 leaves, .int .i64 cap] 110)
    clear hb1 HO
    obtain ⟨x0, x1, x2, x3, x4, x5, x6⟩ := cells7 H1.out.2
    go_wp2_with fail
    refine (HK.out _).mono ?_; rintro e w2 ⟨rfl, hb2⟩
    have H2 := hid (And.intro (bt H1.out.1 hb2) (And.intro (H1.out.2.belowS hb2) (HP1.out.belowS hb2)))
    clear hb2 x0 x1 x2 x3 x4 x5 x6 HK
    obtain ⟨x0, x1, x2, x3, x4, x5, x6⟩ := cells7 H2.out.2.1
    obtain ⟨y0, y1, y2, y3, y4, y5, y6⟩ := cells7 H2.out.2.2
    go_wp2_with fail
    refine (HH.out _).mono ?_; rintro e w3 ⟨rfl, hb3⟩
    have H3 := hid (And.intro (bt H2.out.1 hb3) (H2.out.2.1.belowS hb3))
    clear hb3 x0 x1 x2 x3 x4 x5 x6 y0 y1 y2 y3 y4 y5 y6 HH
    obtain ⟨x0, x1, x2, x3, x4, x5, x6⟩ := cells7 H3.out.2
    go_wp2_with fail
    go_ret
    exact ⟨by rw [HV.out]; first | rfl | exact ret_bool (decide_eq_false (by omega)), H3.out.1⟩
  have hw1 : 0 ≤ W := by
    by_cases h : 0 ≤ W
    · exact h
    · rw [decide_eq_false h] at hη2; cases hη2
  have hw2 : W ≤ (cap : Int) := by
    by_cases h : W ≤ (cap : Int)
    · exact h
    · rw [decide_eq_false h, Bool.and_false] at hη2; cases hη2
  clear hη2
  by_cases hi1 : I < 0
  · rw [decide_eq_false (by omega)] at hv
    have HV := hid hv; clear hv
    go_enter Try.func81, Try.ntmps81
    go_wp2_with fail
    refine (HO.out _).mono ?_; rintro e w1 ⟨rfl, hb1⟩
    have H1 := hid (And.intro (bt (bt HA.out hb1) (below_alloc w1 (.cells #[.int .i64 n, .int .i64 log, .int .i64 first, .int .i64 data, .int .i64 half, .int .i64 leaves, .int .i64 cap] 110))) ((HN.out.belowS hb1).belowS (below_alloc w1 (.cells #[.int .i64 n, .int .i64 log, .int .i64 first, .int .i64 data, .int .i64 half, .int .i64 leaves, .int .i64 cap] 110))))
    have HP1 := hid (Blk.new w1 #[.int .i64 n, .int .i64 log, .int .i64 first, .int .i64 data, .int .i64 half, .int .i64 leaves, .int .i64 cap] 110)
    clear hb1 HO
    obtain ⟨x0, x1, x2, x3, x4, x5, x6⟩ := cells7 H1.out.2
    go_wp2_with fail
    refine (HK.out _).mono ?_; rintro e w2 ⟨rfl, hb2⟩
    have H2 := hid (And.intro (bt H1.out.1 hb2) (And.intro (H1.out.2.belowS hb2) (HP1.out.belowS hb2)))
    clear hb2 x0 x1 x2 x3 x4 x5 x6 HK
    obtain ⟨x0, x1, x2, x3, x4, x5, x6⟩ := cells7 H2.out.2.1
    obtain ⟨y0, y1, y2, y3, y4, y5, y6⟩ := cells7 H2.out.2.2
    go_wp2_with fail
    refine (HH.out _).mono ?_; rintro e w3 ⟨rfl, hb3⟩
    have H3 := hid (And.intro (bt H2.out.1 hb3) (H2.out.2.1.belowS hb3))
    clear hb3 x0 x1 x2 x3 x4 x5 x6 y0 y1 y2 y3 y4 y5 y6 HH
    obtain ⟨x0, x1, x2, x3, x4, x5, x6⟩ := cells7 H3.out.2
    go_wp2_with fail
    go_ret
    exact ⟨by rw [HV.out]; first | rfl | exact ret_bool (decide_eq_false (by omega)), H3.out.1⟩
  by_cases hi2 : W < I
  · rw [decide_eq_false (by omega)] at hv
    have HV := hid hv; clear hv
    go_enter Try.func81, Try.ntmps81
    go_wp2_with fail
    refine (HO.out _).mono ?_; rintro e w1 ⟨rfl, hb1⟩
    have H1 := hid (And.intro (bt (bt HA.out hb1) (below_alloc w1 (.cells #[.int .i64 n, .int .i64 log, .int .i64 first, .int .i64 data, .int .i64 half, .int .i64 leaves, .int .i64 cap] 110))) ((HN.out.belowS hb1).belowS (below_alloc w1 (.cells #[.int .i64 n, .int .i64 log, .int .i64 first, .int .i64 data, .int .i64 half, .int .i64 leaves, .int .i64 cap] 110))))
    have HP1 := hid (Blk.new w1 #[.int .i64 n, .int .i64 log, .int .i64 first, .int .i64 data, .int .i64 half, .int .i64 leaves, .int .i64 cap] 110)
    clear hb1 HO
    obtain ⟨x0, x1, x2, x3, x4, x5, x6⟩ := cells7 H1.out.2
    go_wp2_with fail
    refine (HK.out _).mono ?_; rintro e w2 ⟨rfl, hb2⟩
    have H2 := hid (And.intro (bt H1.out.1 hb2) (And.intro (H1.out.2.belowS hb2) (HP1.out.belowS hb2)))
    clear hb2 x0 x1 x2 x3 x4 x5 x6 HK
    obtain ⟨x0, x1, x2, x3, x4, x5, x6⟩ := cells7 H2.out.2.1
    obtain ⟨y0, y1, y2, y3, y4, y5, y6⟩ := cells7 H2.out.2.2
    go_wp2_with fail
    refine (HH.out _).mono ?_; rintro e w3 ⟨rfl, hb3⟩
    have H3 := hid (And.intro (bt H2.out.1 hb3) (H2.out.2.1.belowS hb3))
    clear hb3 x0 x1 x2 x3 x4 x5 x6 y0 y1 y2 y3 y4 y5 y6 HH
    obtain ⟨x0, x1, x2, x3, x4, x5, x6⟩ := cells7 H3.out.2
    go_wp2_with fail
    go_ret
    exact ⟨by rw [HV.out]; first | rfl | exact ret_bool (decide_eq_false (by omega)), H3.out.1⟩
  rw [decide_eq_true (by omega)] at hv
  have HV := hid hv; clear hv
  go_enter Try.func81, Try.ntmps81
  go_wp2_with fail
  refine (HO.out _).mono ?_; rintro e w1 ⟨rfl, hb1⟩
  have H1 := hid (And.intro (bt (bt HA.out hb1) (below_alloc w1 (.cells #[.int .i64 n, .int .i64 log, .int .i64 first, .int .i64 data, .int .i64 half, .int .i64 leaves, .int .i64 cap] 110))) ((HN.out.belowS hb1).belowS (below_alloc w1 (.cells #[.int .i64 n, .int .i64 log, .int .i64 first, .int .i64 data, .int .i64 half, .int .i64 leaves, .int .i64 cap] 110))))
  have HP1 := hid (Blk.new w1 #[.int .i64 n, .int .i64 log, .int .i64 first, .int .i64 data, .int .i64 half, .int .i64 leaves, .int .i64 cap] 110)
  clear hb1 HO
  obtain ⟨x0, x1, x2, x3, x4, x5, x6⟩ := cells7 H1.out.2
  go_wp2_with fail
  refine (HK.out _).mono ?_; rintro e w2 ⟨rfl, hb2⟩
  have H2 := hid (And.intro (bt H1.out.1 hb2) (And.intro (H1.out.2.belowS hb2) (HP1.out.belowS hb2)))
  clear hb2 x0 x1 x2 x3 x4 x5 x6 HK
  obtain ⟨x0, x1, x2, x3, x4, x5, x6⟩ := cells7 H2.out.2.1
  obtain ⟨y0, y1, y2, y3, y4, y5, y6⟩ := cells7 H2.out.2.2
  go_wp2_with fail
  refine (HH.out _).mono ?_; rintro e w3 ⟨rfl, hb3⟩
  have H3 := hid (And.intro (bt H2.out.1 hb3) (H2.out.2.1.belowS hb3))
  clear hb3 x0 x1 x2 x3 x4 x5 x6 y0 y1 y2 y3 y4 y5 y6 HH
  obtain ⟨x0, x1, x2, x3, x4, x5, x6⟩ := cells7 H3.out.2
  go_wp2_with fail
  go_ret
  exact ⟨by rw [HV.out]; first | rfl | exact ret_bool (decide_eq_true (by omega)), H3.out.1⟩

end Go.Proofs.Ytcklgaenedlbiaa
