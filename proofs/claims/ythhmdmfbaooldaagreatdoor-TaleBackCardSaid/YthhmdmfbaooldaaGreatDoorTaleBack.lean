/-
  TaleBack: walked.
-/
import Derived.Test.YthhmdmfbaooldaaGreatDoorTaleAwake
namespace Go.Proofs.YthhmdmfbaooldaaGreatDoor
open Go.RowKit Go.Sort

theorem ordSameNe_run (K K' : Int) (q1 q2 q4 q5 key val lo hi : ByteArray) (q3 n : Int) (w : World) : (binOp .neq 37 (.agg #[.int .i64 K, .string q1, .string q2, .int .u64 q3, .string q4, .string q5]) (.agg #[.int .i64 K', .string key, .string val, .int .u64 n, .string lo, .string hi])).run Tryz.prog w = .ok (.bool (!ordSame K K' q1 q2 q3 q4 q5 key val n lo hi)) w := by
  have hu := Tryz.underlying37
  unfold ordSame
  go_simp
  simp only [ba_toList]
  by_cases h0 : K = K' <;> by_cases h1 : q1 = key <;> by_cases h2 : q2 = val <;> by_cases h3 : q3 = n <;> by_cases h4 : q4 = lo <;> by_cases h5 : q5 = hi <;> simp [h0, h1, h2, h3, h4, h5]
theorem ordSame_self (K : Int) (q1 q2 : ByteArray) (q3 : Int) (q4 q5 : ByteArray) : ordSame K K q1 q2 q3 q4 q5 q1 q2 q3 q4 q5 = true := by unfold ordSame; simp
theorem join_print : ∀ (ws : List (List UInt8)), (∀ w ∈ ws, ∀ c ∈ w, 32 ≤ c ∧ c ≤ 126) → ∀ c ∈ Lib.join ws [32], 32 ≤ c ∧ c ≤ 126
  | [], _, c, hc => by simp [Lib.join] at hc
  | [w], h, c, hc => by rw [Lib.join_one] at hc; exact h w (by simp) c hc
  | w :: v :: ws, h, c, hc => by
    have e : Lib.join (w :: v :: ws) [32] = w ++ 32 :: Lib.join (v :: ws) [32] := by simp [Lib.join, List.intercalate]
    rw [e] at hc
    rcases List.mem_append.1 hc with hc | hc
    · exact h w (by simp) c hc
    · rcases List.mem_cons.1 hc with rfl | hc
      · decide
      · exact join_print (v :: ws) (fun x hx => h x (List.mem_cons_of_mem _ hx)) c hc
theorem words_print (K : Int) (key val : ByteArray) (n : Nat) (lo hi : ByteArray) : ∀ w ∈ wordsL K key val n lo hi, ∀ c ∈ w, 32 ≤ c ∧ c ≤ 126 := by
  have hw : ∀ l : List UInt8, ∀ c ∈ wordT l, 32 ≤ c ∧ c ≤ 126 := fun l c hc => by
    obtain ⟨h1, h2⟩ := (word_print l).2 c hc
    refine ⟨?_, h2⟩
    rw [UInt8.lt_iff_toNat_lt] at h1
    rw [UInt8.le_iff_toNat_le]; omega
  have hd : ∀ n, ∀ c ∈ Lib.decDigits n, 32 ≤ c ∧ c ≤ 126 := fun n c hc => by
    obtain ⟨h1, h2⟩ := dec_print n c hc
    rw [UInt8.le_iff_toNat_le] at *
    rw [UInt8.le_iff_toNat_le] at *
    have e1 : (48 : UInt8).toNat = 48 := rfl
    have e2 : (57 : UInt8).toNat = 57 := rfl
    have e3 : (32 : UInt8).toNat = 32 := rfl
    have e4 : (126 : UInt8).toNat = 126 := rfl
    omega
  have hn : ∀ c ∈ nameL K, 32 ≤ c ∧ c ≤ 126 := fun c hc => by
    obtain ⟨h1, h2⟩ := name_print K c hc
    rw [UInt8.le_iff_toNat_le] at *
    rw [UInt8.le_iff_toNat_le] at *
    have e1 : (97 : UInt8).toNat = 97 := rfl
    have e2 : (122 : UInt8).toNat = 122 := rfl
    have e3 : (32 : UInt8).toNat = 32 := rfl
    have e4 : (126 : UInt8).toNat = 126 := rfl
    omega
  intro w hm
  unfold wordsL wordsB at hm
  simp only [List.map_cons, List.mem_cons] at hm
  rcases hm with rfl | hm
  · exact hn
  · split at hm
    · simp only [List.map_cons, List.map_nil, List.mem_cons, List.not_mem_nil, or_false] at hm
      rcases hm with rfl | rfl <;> exact hw _
    · split at hm
      · simp only [List.map_cons, List.map_nil, List.mem_cons, List.not_mem_nil, or_false] at hm
        subst hm; exact hw _
      · split at hm
        · simp only [List.map_cons, List.map_nil, List.mem_cons, List.not_mem_nil, or_false] at hm
          rcases hm with rfl | rfl
          · exact hw _
          · exact hd _
        · split at hm
          · simp only [List.map_cons, List.map_nil, List.mem_cons, List.not_mem_nil, or_false] at hm
            rcases hm with rfl | rfl <;> exact hw _
          · simp at hm
theorem line_print (K : Int) (key val : ByteArray) (n : Nat) (lo hi : ByteArray) (k : Nat) (h : k < (lineB K key val n lo hi).size) :
    ¬ (((lineB K key val n lo hi)[k]'h).toNat : Int) < 32 ∧ ¬ (126 : Int) < (((lineB K key val n lo hi)[k]'h).toNat : Int) := by
  have hm : ((lineB K key val n lo hi)[k]'h) ∈ (lineB K key val n lo hi).data.toList := by
    rw [← data_getD _ k h]
    have hl : k < (lineB K key val n lo hi).data.toList.length := by simpa using h
    rw [List.getD_eq_getElem?_getD, List.getElem?_eq_getElem hl]
    exact List.getElem_mem hl
  rw [line_data] at hm
  obtain ⟨h1, h2⟩ := join_print _ (words_print K key val n lo hi) _ hm
  rw [UInt8.le_iff_toNat_le] at h1 h2
  have e1 : (32 : UInt8).toNat = 32 := rfl
  have e2 : (126 : UInt8).toNat = 126 := rfl
  omega

set_option maxHeartbeats 16000000 in
set_option maxRecDepth 100000 in
theorem taleBack_walk (K : Int) (key val : ByteArray) (n : Nat) (lo hi line : ByteArray) (at_ : Int) (hn : n < 18446744073709551616) (w : World) (hL : Lib28 w) :
    Calls Tryz.prog 6 #[.agg #[.int .i64 K, .string key, .string val, .int .u64 n, .string lo, .string hi], .string line, .int .i64 at_] w fun e w' => e = .returned (.bool true) ∧ Below w.heap.size w w' := by
  have hu := Tryz.underlying37
  have HL := hid hL; clear hL
  have HA := hid (fun w' hw' => awake28_any w' hw')
  by_cases hbig : (2048 : Int) < line.size
  · go_enter Tryz.func6, Tryz.ntmps6
    go_wp2_with (with_reducible refine at_op (.box 37 (.tmp 0)) rfl ?_; refine Stopped.go ?_)
    refine Stopped.mk (wpList_box rfl #[.int .i64 K, .string key, .string val, .int .u64 n, .string lo, .string hi] 37 (by go_simp) ?_)
    intro g w1 hg Bg hb1 hz
    have H1 := hid hb1
    clear hg hz Bg hb1
    go_wp2_with fail
    refine (HA.out _ (HL.out.below H1.out)).mono ?_; rintro e w2 ⟨rfl, hb2⟩
    have H2 := hid (bt H1.out hb2); clear hb2 H1
    go_wp2_with fail
    go_ret
    exact ⟨rfl, H2.out⟩
  go_enter Tryz.func6, Tryz.ntmps6
  go_wp2_with (with_reducible refine at_op (.box 37 (.tmp 0)) rfl ?_; refine Stopped.go ?_)
  refine Stopped.mk (wpList_box rfl #[.int .i64 K, .string key, .string val, .int .u64 n, .string lo, .string hi] 37 (by go_simp) ?_)
  intro g w1 hg Bg hb1 hz
  have H1 := hid (And.intro hb1 Bg)
  clear hg hz Bg hb1
  go_wp2_with fail
  refine (HA.out _ (HL.out.below H1.out.1)).mono ?_; rintro e w2 ⟨rfl, hb2⟩
  have H2 := hid (And.intro (bt H1.out.1 hb2) (H1.out.2.belowS hb2)); clear hb2 H1 HA
  -- the first part: a line that is read
  have hsz : line.size ≤ 50000 := by omega
  cases hR : readIs line with
  | false =>
    have CR := hid (Read_no line hR hsz w2 (HL.out.below H2.out.1))
    clear hR hsz
    go_wp2_with fail
    refine CR.out.mono ?_; rintro e w3 ⟨rfl, hb3⟩
    have H3 := hid (And.intro (bt (bt H2.out.1 hb3) (below_alloc w3 (.cells #[.int .i64 0, .string ⟨#[]⟩, .string ⟨#[]⟩, .int .u64 0, .string ⟨#[]⟩, .string ⟨#[]⟩] 37))) ((H2.out.2.belowS hb3).alloc (.cells #[.int .i64 0, .string ⟨#[]⟩, .string ⟨#[]⟩, .int .u64 0, .string ⟨#[]⟩, .string ⟨#[]⟩] 37)))
    clear hb3 CR H2
    go_upto_region 10 with fail
    have H6 : Hid (Below w.heap.size w (w3.alloc (.cells #[.int .i64 0, .string ⟨#[]⟩, .string ⟨#[]⟩, .int .u64 0, .string ⟨#[]⟩, .string ⟨#[]⟩] 37)) ∧ Blk (w3.alloc (.cells #[.int .i64 0, .string ⟨#[]⟩, .string ⟨#[]⟩, .int .u64 0, .string ⟨#[]⟩, .string ⟨#[]⟩] 37)) g 37 [.int .i64 K, .string key, .string val, .int .u64 n, .string lo, .string hi]) := H3.out
    clear H3
    generalize w3.alloc (.cells #[.int .i64 0, .string ⟨#[]⟩, .string ⟨#[]⟩, .int .u64 0, .string ⟨#[]⟩, .string ⟨#[]⟩] 37) = w6 at H6 ⊢
    have c0 : w6.cell? ⟨g, 0, none⟩ = some (.int .i64 K) := H6.out.2.at (i := 0) rfl
    have c1 : w6.cell? ⟨g, 1, none⟩ = some (.string key) := H6.out.2.at (i := 1) rfl
    have c2 : w6.cell? ⟨g, 2, none⟩ = some (.string val) := H6.out.2.at (i := 2) rfl
    have c3 : w6.cell? ⟨g, 3, none⟩ = some (.int .u64 n) := H6.out.2.at (i := 3) rfl
    have c4 : w6.cell? ⟨g, 4, none⟩ = some (.string lo) := H6.out.2.at (i := 4) rfl
    have c5 : w6.cell? ⟨g, 5, none⟩ = some (.string hi) := H6.out.2.at (i := 5) rfl
    have CI := fun w' => order_Is_any K key val lo hi n w'
    cases ho : ordB K key val n lo hi with
    | false =>
      rw [ho] at CI
      have CIS := hid CI
      clear CI ho
      go_wp2_with fail
      refine (CIS.out _).mono ?_; rintro e w7 ⟨rfl, hb7⟩
      have H7 := hid (bt H6.out.1 hb7)
      clear hb7 CIS H6 c0 c1 c2 c3 c4 c5
      go_wp2_with fail
      go_ret
      exact ⟨rfl, H7.out⟩
    | true =>
      rw [ho] at CI
      have CIS := hid CI
      clear CI
      obtain ⟨hk, _, s1, s2, s3, s4⟩ := ordB_parts ho
      have hls := line_len (K := K) (key := key) (val := val) (lo := lo) (hi := hi) (n := n) (by omega) (by omega) (by omega) (by omega) hn
      have hpr := line_print K key val n lo hi
      have hmore := fun s' a b h1 h2 => read_more ho s' a b h1 h2
      obtain ⟨s, hs⟩ : ∃ s, s = lineB K key val n lo hi := ⟨_, rfl⟩
      have CL := hid (fun w' hw' => Line_yes ho hn s hs w' hw')
      have CR := hid (fun w' hw' => Read_yes ho hn s hs (by rw [hs]; omega) w' hw')
      have hpr' : ∀ (k : Nat) (h : k < s.size), ¬ ((s[k]'h).toNat : Int) < 32 ∧ ¬ (126 : Int) < ((s[k]'h).toNat : Int) := by subst hs; exact hpr
      rw [← hs] at hls hmore
      have HPR := hid hpr'; have HM := hid hmore
      clear hpr hpr' hmore hs ho hk s1 s2 s3 s4
      go_wp2_with fail
      refine (CIS.out _).mono ?_; rintro e w7 ⟨rfl, hb7⟩
      have H7 := hid (And.intro (bt H6.out.1 hb7) (H6.out.2.belowS hb7))
      clear hb7 CIS H6 c0 c1 c2 c3 c4 c5
      have c0 : w7.cell? ⟨g, 0, none⟩ = some (.int .i64 K) := H7.out.2.at (i := 0) rfl
      have c1 : w7.cell? ⟨g, 1, none⟩ = some (.string key) := H7.out.2.at (i := 1) rfl
      have c2 : w7.cell? ⟨g, 2, none⟩ = some (.string val) := H7.out.2.at (i := 2) rfl
      have c3 : w7.cell? ⟨g, 3, none⟩ = some (.int .u64 n) := H7.out.2.at (i := 3) rfl
      have c4 : w7.cell? ⟨g, 4, none⟩ = some (.string lo) := H7.out.2.at (i := 4) rfl
      have c5 : w7.cell? ⟨g, 5, none⟩ = some (.string hi) := H7.out.2.at (i := 5) rfl
      go_wp2_with fail
      refine (CL.out _ (HL.out.below H7.out.1)).mono ?_; rintro e w8 ⟨rfl, hb8⟩
      have H8 := hid (And.intro (bt H7.out.1 hb8) (H7.out.2.belowS hb8))
      clear hb8 CL H7 c0 c1 c2 c3 c4 c5
      go_wp2_with fail
      refine (CR.out _ (HL.out.below H8.out.1)).mono ?_; rintro e w9 ⟨rfl, hb9⟩
      have H9 := hid (And.intro (bt H8.out.1 hb9) (H8.out.2.belowS hb9))
      clear hb9 CR H8
      go_upto_region 14 with fail
      have hN := Blk.new w9 #[.int .i64 K, .string key, .string val, .int .u64 n, .string lo, .string hi] 37
      have hA := below_alloc w9 (.cells #[.int .i64 K, .string key, .string val, .int .u64 n, .string lo, .string hi] 37)
      have H10 := hid (And.intro (bt H9.out.1 hA) (H9.out.2.belowS hA))
      obtain ⟨g13, hg13⟩ : ∃ q, q = w9.heap.size := ⟨_, rfl⟩
      rw [← hg13] at hN ⊢
      clear hg13 hA H9
      generalize w9.alloc (.cells #[.int .i64 K, .string key, .string val, .int .u64 n, .string lo, .string hi] 37) = w10 at hN H10 ⊢
      change Blk w10 g13 _ [.int .i64 K, .string key, .string val, .int .u64 n, .string lo, .string hi] at hN
      have d0 : w10.cell? ⟨g13, 0, none⟩ = some (.int .i64 K) := hN.at (i := 0) rfl
      have d1 : w10.cell? ⟨g13, 1, none⟩ = some (.string key) := hN.at (i := 1) rfl
      have d2 : w10.cell? ⟨g13, 2, none⟩ = some (.string val) := hN.at (i := 2) rfl
      have d3 : w10.cell? ⟨g13, 3, none⟩ = some (.int .u64 n) := hN.at (i := 3) rfl
      have d4 : w10.cell? ⟨g13, 4, none⟩ = some (.string lo) := hN.at (i := 4) rfl
      have d5 : w10.cell? ⟨g13, 5, none⟩ = some (.string hi) := hN.at (i := 5) rfl
      have c0 : w10.cell? ⟨g, 0, none⟩ = some (.int .i64 K) := H10.out.2.at (i := 0) rfl
      have c1 : w10.cell? ⟨g, 1, none⟩ = some (.string key) := H10.out.2.at (i := 1) rfl
      have c2 : w10.cell? ⟨g, 2, none⟩ = some (.string val) := H10.out.2.at (i := 2) rfl
      have c3 : w10.cell? ⟨g, 3, none⟩ = some (.int .u64 n) := H10.out.2.at (i := 3) rfl
      have c4 : w10.cell? ⟨g, 4, none⟩ = some (.string lo) := H10.out.2.at (i := 4) rfl
      have c5 : w10.cell? ⟨g, 5, none⟩ = some (.string hi) := H10.out.2.at (i := 5) rfl
      have hcmp : ∀ wx, (binOp .neq 37 (.agg #[.int .i64 K, .string key, .string val, .int .u64 n, .string lo, .string hi]) (.agg #[.int .i64 K, .string key, .string val, .int .u64 n, .string lo, .string hi])).run Tryz.prog wx = .ok (.bool false) wx := fun wx => by
        rw [ordSameNe_run, ordSame_self]; rfl
      clear hN
      go_wp2_with fail
      clear hcmp c0 c1 c2 c3 c4 c5 d0 d1 d2 d3 d4 d5
      go_loopg [15] s.size (fun gg j wx => ∃ k : Nat, k + gg = s.size ∧ j = .int .i64 k ∧ w10 = wx)
      case atStart => exact ⟨0, by omega, rfl, rfl⟩
      case round =>
        obtain ⟨k, hk, rfl, rfl⟩ := hrel
        by_cases hlt : k < s.size
        · obtain ⟨hp1, hp2⟩ := HPR.out k hlt
          go_wp2_with fail
          go_roundg (s.size - (k + 1))
          case measure => omega
          case rel => exact ⟨k + 1, by omega, by go_num, rfl⟩
        · obtain ⟨i, hi1, hi2⟩ := umod at_ ((s.size : Int) + 1) (by omega)
          have b0 : (0 : Int) ≤ (i : Int) := by omega
          have b1 : (i : Int) ≤ (s.size : Int) := by omega
          have hil : i ≤ s.size := by omega
          go_upto_region 22 with fail
          clear hi1 hi2
          obtain ⟨P1, hP1⟩ : ∃ p, p = s.extract 0 i := ⟨_, rfl⟩
          obtain ⟨P2, hP2⟩ : ∃ p, p = s.extract i s.size := ⟨_, rfl⟩
          have z1 : P1.size = i := by rw [hP1]; simp; omega
          have z2 : P2.size = s.size - i := by rw [hP2]; simp
          have q1 : ¬ (9223372036854775807 < P1.size + 1) := by omega
          have q2 : ¬ (9223372036854775807 < P1.size + 1 + P2.size) := by omega
          have hsl1 : ∀ W, (Instr.sliceAt 9 (.string s) none (some (.int .i64 (i : Int))) none).run Tryz.prog W = .ok (.string P1) W := fun W => by
            rw [hP1]; go_simp
          have hsl2 : ∀ W, (Instr.sliceAt 9 (.string s) (some (.int .i64 (i : Int))) none none).run Tryz.prog W = .ok (.string P2) W := fun W => by
            rw [hP2]; go_simp
          have hno : readIs (P1 ++ ⟨#[32]⟩ ++ P2) = false := by
            refine HM.out _ (s.data.toList.take i) (s.data.toList.drop i) (List.take_append_drop _ _).symm ?_
            rw [hP1, hP2]
            simp only [ByteArray.data_append, Array.toList_append, Lib.extract_data]
            have hl : s.data.toList.length = s.size := by simp
            rw [List.drop_zero, Nat.sub_zero, List.take_of_length_le (l := s.data.toList.drop i) (by rw [List.length_drop]; omega)]
            simp
          have hsz' : (P1 ++ ⟨#[32]⟩ ++ P2).size ≤ 50000 := by
            rw [ByteArray.size_append, ByteArray.size_append]
            have : (⟨#[32]⟩ : ByteArray).size = 1 := rfl
            omega
          have KR : Hid (∀ wx, Kept w10 wx → Calls Tryz.prog 21 #[.string (P1 ++ ⟨#[32]⟩ ++ P2)] wx fun e w' =>
              e = .returned (.tuple #[.agg #[.int .i64 0, .string ⟨#[]⟩, .string ⟨#[]⟩, .int .u64 0, .string ⟨#[]⟩, .string ⟨#[]⟩], .int .i64 5]) ∧ Below wx.heap.size wx w') := by
            intro wx hk
            exact Read_no _ hno hsz' wx (HL.out.below (bt H10.out.1 hk))
          have HBEL := hid H10.out.1
          have hk0 : Kept w10 w10 := Below.refl _ _
          clear z1 z2 hno hsz' HM HPR H10 hP1 hP2
          go_region_with
            (first
              | (go_at_call 21; with_reducible refine (KR.out _ ?_).mono ?_; (first | assumption | exact Kept.drew hk0 | exact Kept.drew (Kept.alloc hk0 _)); rintro e wz ⟨rfl, hbz⟩; first | (have hN := (Blk.drew (Blk.new w10 #[.int .i64 0, .string ⟨#[]⟩, .string ⟨#[]⟩, .int .u64 0, .string ⟨#[]⟩, .string ⟨#[]⟩] 37)).belowS hbz; have k0 : wz.cell? ⟨w10.heap.size, 0, none⟩ = some (.int .i64 0) := hN.at (i := 0) rfl; have f0 := hN.free (i := 0) (by simp); have k1 : wz.cell? ⟨w10.heap.size, 1, none⟩ = some (.string ⟨#[]⟩) := hN.at (i := 1) rfl; have f1 := hN.free (i := 1) (by simp); have k2 : wz.cell? ⟨w10.heap.size, 2, none⟩ = some (.string ⟨#[]⟩) := hN.at (i := 2) rfl; have f2 := hN.free (i := 2) (by simp); have k3 : wz.cell? ⟨w10.heap.size, 3, none⟩ = some (.int .u64 0) := hN.at (i := 3) rfl; have f3 := hN.free (i := 3) (by simp); have k4 : wz.cell? ⟨w10.heap.size, 4, none⟩ = some (.string ⟨#[]⟩) := hN.at (i := 4) rfl; have f4 := hN.free (i := 4) (by simp); have k5 : wz.cell? ⟨w10.heap.size, 5, none⟩ = some (.string ⟨#[]⟩) := hN.at (i := 5) rfl; have f5 := hN.free (i := 5) (by simp); have hkz : Kept w10 wz := Kept.go (Kept.drew (Kept.alloc hk0 _)) hbz; clear hN hbz) | (have hkz : Kept w10 wz := Kept.go (Kept.drew hk0) hbz; clear hbz)))
          · have HKZ := hid (bt (bt HBEL.out hkz) (below_alloc wz (.cells #[.int .i64 0, .string ⟨#[]⟩, .string ⟨#[]⟩, .int .u64 0, .string ⟨#[]⟩, .string ⟨#[]⟩] 37)))
            clear hkz
            generalize wz.alloc (.cells #[.int .i64 0, .string ⟨#[]⟩, .string ⟨#[]⟩, .int .u64 0, .string ⟨#[]⟩, .string ⟨#[]⟩] 37) = wf at HKZ ⊢
            go_wp2_with fail
            go_ret
            exact ⟨rfl, HKZ.out⟩
          · have HKZ : Hid (Below w.heap.size w ((((((wz.setCell ⟨w10.heap.size, 0, none⟩ (.int .i64 0)).setCell ⟨w10.heap.size, 1, none⟩ (.string ⟨#[]⟩)).setCell ⟨w10.heap.size, 2, none⟩ (.string ⟨#[]⟩)).setCell ⟨w10.heap.size, 3, none⟩ (.int .u64 0)).setCell ⟨w10.heap.size, 4, none⟩ (.string ⟨#[]⟩)).setCell ⟨w10.heap.size, 5, none⟩ (.string ⟨#[]⟩))) := bt HBEL.out ((((((Below.setCell hkz (Nat.le_refl _) _).setCell (Nat.le_refl _) _).setCell (Nat.le_refl _) _).setCell (Nat.le_refl _) _).setCell (Nat.le_refl _) _).setCell (Nat.le_refl _) _)
            clear hkz k0 f0 k1 f1 k2 f2 k3 f3 k4 f4 k5 f5
            generalize ((((((wz.setCell ⟨w10.heap.size, 0, none⟩ (.int .i64 0)).setCell ⟨w10.heap.size, 1, none⟩ (.string ⟨#[]⟩)).setCell ⟨w10.heap.size, 2, none⟩ (.string ⟨#[]⟩)).setCell ⟨w10.heap.size, 3, none⟩ (.int .u64 0)).setCell ⟨w10.heap.size, 4, none⟩ (.string ⟨#[]⟩)).setCell ⟨w10.heap.size, 5, none⟩ (.string ⟨#[]⟩)) = wf at HKZ ⊢
            go_wp2_with fail
            go_ret
            exact ⟨rfl, HKZ.out⟩
  | true =>
    obtain ⟨K', key', val', lo', hi', n', ho', hn', hl'⟩ := read_is hR
    have CR := hid (Read_yes ho' hn' line hl' hsz w2 (HL.out.below H2.out.1))
    have CL := hid (fun w' hw' => Line_yes ho' hn' line hl' w' hw')
    have CI := fun w' => order_Is_any K' key' val' lo' hi' n' w'
    rw [ho'] at CI
    have CIS := hid CI
    clear hR hsz CI ho' hn' hl'
    go_wp2_with fail
    refine CR.out.mono ?_; rintro e w3 ⟨rfl, hb3⟩
    go_wp2_with (with_reducible refine at_op (.load 37 (.tmp 7)) rfl ?_; refine Stopped.go ?_)
    have hN := Blk.new w3 #[.int .i64 K', .string key', .string val', .int .u64 (n' : Nat), .string lo', .string hi'] 37
    have hA := below_alloc w3 (.cells #[.int .i64 K', .string key', .string val', .int .u64 (n' : Nat), .string lo', .string hi'] 37)
    have hG := (H2.out.2.belowS hb3).belowS hA
    have hb := bt (bt H2.out.1 hb3) hA
    obtain ⟨g7, hg7⟩ : ∃ q, q = w3.heap.size := ⟨_, rfl⟩
    rw [← hg7] at hN ⊢
    clear hg7 hb3 hA CR H2
    generalize w3.alloc (.cells #[.int .i64 K', .string key', .string val', .int .u64 (n' : Nat), .string lo', .string hi'] 37) = w4 at hN hG hb ⊢
    have H4 := hid (And.intro hb hG)
    have HN := hid hN
    change Blk w4 g7 _ [.int .i64 K', .string key', .string val', .int .u64 (n' : Nat), .string lo', .string hi'] at hN
    clear hG hb
    have c0 : w4.cell? ⟨g7, 0, none⟩ = some (.int .i64 K') := hN.at (i := 0) rfl
    have c1 : w4.cell? ⟨g7, 1, none⟩ = some (.string key') := hN.at (i := 1) rfl
    have c2 : w4.cell? ⟨g7, 2, none⟩ = some (.string val') := hN.at (i := 2) rfl
    have c3 : w4.cell? ⟨g7, 3, none⟩ = some (.int .u64 (n' : Nat)) := hN.at (i := 3) rfl
    have c4 : w4.cell? ⟨g7, 4, none⟩ = some (.string lo') := hN.at (i := 4) rfl
    have c5 : w4.cell? ⟨g7, 5, none⟩ = some (.string hi') := hN.at (i := 5) rfl
    clear hN
    refine Stopped.mk ?_
    go_wp2_with fail
    refine (CL.out _ (HL.out.below H4.out.1)).mono ?_; rintro e w5 ⟨rfl, hb5⟩
    have H5 := hid (And.intro (bt H4.out.1 hb5) (H4.out.2.belowS hb5))
    have hN := HN.out.belowS hb5
    change Blk w5 g7 _ [.int .i64 K', .string key', .string val', .int .u64 (n' : Nat), .string lo', .string hi'] at hN
    clear hb5 H4 HN c0 c1 c2 c3 c4 c5
    have c0 : w5.cell? ⟨g7, 0, none⟩ = some (.int .i64 K') := hN.at (i := 0) rfl
    have c1 : w5.cell? ⟨g7, 1, none⟩ = some (.string key') := hN.at (i := 1) rfl
    have c2 : w5.cell? ⟨g7, 2, none⟩ = some (.string val') := hN.at (i := 2) rfl
    have c3 : w5.cell? ⟨g7, 3, none⟩ = some (.int .u64 (n' : Nat)) := hN.at (i := 3) rfl
    have c4 : w5.cell? ⟨g7, 4, none⟩ = some (.string lo') := hN.at (i := 4) rfl
    have c5 : w5.cell? ⟨g7, 5, none⟩ = some (.string hi') := hN.at (i := 5) rfl
    clear hN
    go_wp2_with fail
    refine (CIS.out _).mono ?_; rintro e w6 ⟨rfl, hb6⟩
    have H6 := hid (And.intro (bt H5.out.1 hb6) (H5.out.2.belowS hb6))
    clear hb6 H5 c0 c1 c2 c3 c4 c5 CL CIS
    go_upto_region 10 with fail
    have H6 : Hid (Below w.heap.size w w6 ∧ Blk w6 g 37 [.int .i64 K, .string key, .string val, .int .u64 n, .string lo, .string hi]) := H6.out
    have c0 : w6.cell? ⟨g, 0, none⟩ = some (.int .i64 K) := H6.out.2.at (i := 0) rfl
    have c1 : w6.cell? ⟨g, 1, none⟩ = some (.string key) := H6.out.2.at (i := 1) rfl
    have c2 : w6.cell? ⟨g, 2, none⟩ = some (.string val) := H6.out.2.at (i := 2) rfl
    have c3 : w6.cell? ⟨g, 3, none⟩ = some (.int .u64 n) := H6.out.2.at (i := 3) rfl
    have c4 : w6.cell? ⟨g, 4, none⟩ = some (.string lo) := H6.out.2.at (i := 4) rfl
    have c5 : w6.cell? ⟨g, 5, none⟩ = some (.string hi) := H6.out.2.at (i := 5) rfl
    have CI := fun w' => order_Is_any K key val lo hi n w'
    cases ho : ordB K key val n lo hi with
    | false =>
      rw [ho] at CI
      have CIS := hid CI
      clear CI ho
      go_wp2_with fail
      refine (CIS.out _).mono ?_; rintro e w7 ⟨rfl, hb7⟩
      have H7 := hid (bt H6.out.1 hb7)
      clear hb7 CIS H6 c0 c1 c2 c3 c4 c5
      go_wp2_with fail
      go_ret
      exact ⟨rfl, H7.out⟩
    | true =>
      rw [ho] at CI
      have CIS := hid CI
      clear CI
      obtain ⟨hk, _, s1, s2, s3, s4⟩ := ordB_parts ho
      have hls := line_len (K := K) (key := key) (val := val) (lo := lo) (hi := hi) (n := n) (by omega) (by omega) (by omega) (by omega) hn
      have hpr := line_print K key val n lo hi
      have hmore := fun s' a b h1 h2 => read_more ho s' a b h1 h2
      obtain ⟨s, hs⟩ : ∃ s, s = lineB K key val n lo hi := ⟨_, rfl⟩
      have CL := hid (fun w' hw' => Line_yes ho hn s hs w' hw')
      have CR := hid (fun w' hw' => Read_yes ho hn s hs (by rw [hs]; omega) w' hw')
      have hpr' : ∀ (k : Nat) (h : k < s.size), ¬ ((s[k]'h).toNat : Int) < 32 ∧ ¬ (126 : Int) < ((s[k]'h).toNat : Int) := by subst hs; exact hpr
      rw [← hs] at hls hmore
      have HPR := hid hpr'; have HM := hid hmore
      clear hpr hpr' hmore hs ho hk s1 s2 s3 s4
      go_wp2_with fail
      refine (CIS.out _).mono ?_; rintro e w7 ⟨rfl, hb7⟩
      have H7 := hid (And.intro (bt H6.out.1 hb7) (H6.out.2.belowS hb7))
      clear hb7 CIS H6 c0 c1 c2 c3 c4 c5
      have c0 : w7.cell? ⟨g, 0, none⟩ = some (.int .i64 K) := H7.out.2.at (i := 0) rfl
      have c1 : w7.cell? ⟨g, 1, none⟩ = some (.string key) := H7.out.2.at (i := 1) rfl
      have c2 : w7.cell? ⟨g, 2, none⟩ = some (.string val) := H7.out.2.at (i := 2) rfl
      have c3 : w7.cell? ⟨g, 3, none⟩ = some (.int .u64 n) := H7.out.2.at (i := 3) rfl
      have c4 : w7.cell? ⟨g, 4, none⟩ = some (.string lo) := H7.out.2.at (i := 4) rfl
      have c5 : w7.cell? ⟨g, 5, none⟩ = some (.string hi) := H7.out.2.at (i := 5) rfl
      go_wp2_with fail
      refine (CL.out _ (HL.out.below H7.out.1)).mono ?_; rintro e w8 ⟨rfl, hb8⟩
      have H8 := hid (And.intro (bt H7.out.1 hb8) (H7.out.2.belowS hb8))
      clear hb8 CL H7 c0 c1 c2 c3 c4 c5
      go_wp2_with fail
      refine (CR.out _ (HL.out.below H8.out.1)).mono ?_; rintro e w9 ⟨rfl, hb9⟩
      have H9 := hid (And.intro (bt H8.out.1 hb9) (H8.out.2.belowS hb9))
      clear hb9 CR H8
      go_upto_region 14 with fail
      have hN := Blk.new w9 #[.int .i64 K, .string key, .string val, .int .u64 n, .string lo, .string hi] 37
      have hA := below_alloc w9 (.cells #[.int .i64 K, .string key, .string val, .int .u64 n, .string lo, .string hi] 37)
      have H10 := hid (And.intro (bt H9.out.1 hA) (H9.out.2.belowS hA))
      obtain ⟨g13, hg13⟩ : ∃ q, q = w9.heap.size := ⟨_, rfl⟩
      rw [← hg13] at hN ⊢
      clear hg13 hA H9
      generalize w9.alloc (.cells #[.int .i64 K, .string key, .string val, .int .u64 n, .string lo, .string hi] 37) = w10 at hN H10 ⊢
      change Blk w10 g13 _ [.int .i64 K, .string key, .string val, .int .u64 n, .string lo, .string hi] at hN
      have d0 : w10.cell? ⟨g13, 0, none⟩ = some (.int .i64 K) := hN.at (i := 0) rfl
      have d1 : w10.cell? ⟨g13, 1, none⟩ = some (.string key) := hN.at (i := 1) rfl
      have d2 : w10.cell? ⟨g13, 2, none⟩ = some (.string val) := hN.at (i := 2) rfl
      have d3 : w10.cell? ⟨g13, 3, none⟩ = some (.int .u64 n) := hN.at (i := 3) rfl
      have d4 : w10.cell? ⟨g13, 4, none⟩ = some (.string lo) := hN.at (i := 4) rfl
      have d5 : w10.cell? ⟨g13, 5, none⟩ = some (.string hi) := hN.at (i := 5) rfl
      have c0 : w10.cell? ⟨g, 0, none⟩ = some (.int .i64 K) := H10.out.2.at (i := 0) rfl
      have c1 : w10.cell? ⟨g, 1, none⟩ = some (.string key) := H10.out.2.at (i := 1) rfl
      have c2 : w10.cell? ⟨g, 2, none⟩ = some (.string val) := H10.out.2.at (i := 2) rfl
      have c3 : w10.cell? ⟨g, 3, none⟩ = some (.int .u64 n) := H10.out.2.at (i := 3) rfl
      have c4 : w10.cell? ⟨g, 4, none⟩ = some (.string lo) := H10.out.2.at (i := 4) rfl
      have c5 : w10.cell? ⟨g, 5, none⟩ = some (.string hi) := H10.out.2.at (i := 5) rfl
      have hcmp : ∀ wx, (binOp .neq 37 (.agg #[.int .i64 K, .string key, .string val, .int .u64 n, .string lo, .string hi]) (.agg #[.int .i64 K, .string key, .string val, .int .u64 n, .string lo, .string hi])).run Tryz.prog wx = .ok (.bool false) wx := fun wx => by
        rw [ordSameNe_run, ordSame_self]; rfl
      clear hN
      go_wp2_with fail
      clear hcmp c0 c1 c2 c3 c4 c5 d0 d1 d2 d3 d4 d5
      go_loopg [15] s.size (fun gg j wx => ∃ k : Nat, k + gg = s.size ∧ j = .int .i64 k ∧ w10 = wx)
      case atStart => exact ⟨0, by omega, rfl, rfl⟩
      case round =>
        obtain ⟨k, hk, rfl, rfl⟩ := hrel
        by_cases hlt : k < s.size
        · obtain ⟨hp1, hp2⟩ := HPR.out k hlt
          go_wp2_with fail
          go_roundg (s.size - (k + 1))
          case measure => omega
          case rel => exact ⟨k + 1, by omega, by go_num, rfl⟩
        · obtain ⟨i, hi1, hi2⟩ := umod at_ ((s.size : Int) + 1) (by omega)
          have b0 : (0 : Int) ≤ (i : Int) := by omega
          have b1 : (i : Int) ≤ (s.size : Int) := by omega
          have hil : i ≤ s.size := by omega
          go_upto_region 22 with fail
          clear hi1 hi2
          obtain ⟨P1, hP1⟩ : ∃ p, p = s.extract 0 i := ⟨_, rfl⟩
          obtain ⟨P2, hP2⟩ : ∃ p, p = s.extract i s.size := ⟨_, rfl⟩
          have z1 : P1.size = i := by rw [hP1]; simp; omega
          have z2 : P2.size = s.size - i := by rw [hP2]; simp
          have q1 : ¬ (9223372036854775807 < P1.size + 1) := by omega
          have q2 : ¬ (9223372036854775807 < P1.size + 1 + P2.size) := by omega
          have hsl1 : ∀ W, (Instr.sliceAt 9 (.string s) none (some (.int .i64 (i : Int))) none).run Tryz.prog W = .ok (.string P1) W := fun W => by
            rw [hP1]; go_simp
          have hsl2 : ∀ W, (Instr.sliceAt 9 (.string s) (some (.int .i64 (i : Int))) none none).run Tryz.prog W = .ok (.string P2) W := fun W => by
            rw [hP2]; go_simp
          have hno : readIs (P1 ++ ⟨#[32]⟩ ++ P2) = false := by
            refine HM.out _ (s.data.toList.take i) (s.data.toList.drop i) (List.take_append_drop _ _).symm ?_
            rw [hP1, hP2]
            simp only [ByteArray.data_append, Array.toList_append, Lib.extract_data]
            have hl : s.data.toList.length = s.size := by simp
            rw [List.drop_zero, Nat.sub_zero, List.take_of_length_le (l := s.data.toList.drop i) (by rw [List.length_drop]; omega)]
            simp
          have hsz' : (P1 ++ ⟨#[32]⟩ ++ P2).size ≤ 50000 := by
            rw [ByteArray.size_append, ByteArray.size_append]
            have : (⟨#[32]⟩ : ByteArray).size = 1 := rfl
            omega
          have KR : Hid (∀ wx, Kept w10 wx → Calls Tryz.prog 21 #[.string (P1 ++ ⟨#[32]⟩ ++ P2)] wx fun e w' =>
              e = .returned (.tuple #[.agg #[.int .i64 0, .string ⟨#[]⟩, .string ⟨#[]⟩, .int .u64 0, .string ⟨#[]⟩, .string ⟨#[]⟩], .int .i64 5]) ∧ Below wx.heap.size wx w') := by
            intro wx hk
            exact Read_no _ hno hsz' wx (HL.out.below (bt H10.out.1 hk))
          have HBEL := hid H10.out.1
          have hk0 : Kept w10 w10 := Below.refl _ _
          clear z1 z2 hno hsz' HM HPR H10 hP1 hP2
          go_region_with
            (first
              | (go_at_call 21; with_reducible refine (KR.out _ ?_).mono ?_; (first | assumption | exact Kept.drew hk0 | exact Kept.drew (Kept.alloc hk0 _)); rintro e wz ⟨rfl, hbz⟩; first | (have hN := (Blk.drew (Blk.new w10 #[.int .i64 0, .string ⟨#[]⟩, .string ⟨#[]⟩, .int .u64 0, .string ⟨#[]⟩, .string ⟨#[]⟩] 37)).belowS hbz; have k0 : wz.cell? ⟨w10.heap.size, 0, none⟩ = some (.int .i64 0) := hN.at (i := 0) rfl; have f0 := hN.free (i := 0) (by simp); have k1 : wz.cell? ⟨w10.heap.size, 1, none⟩ = some (.string ⟨#[]⟩) := hN.at (i := 1) rfl; have f1 := hN.free (i := 1) (by simp); have k2 : wz.cell? ⟨w10.heap.size, 2, none⟩ = some (.string ⟨#[]⟩) := hN.at (i := 2) rfl; have f2 := hN.free (i := 2) (by simp); have k3 : wz.cell? ⟨w10.heap.size, 3, none⟩ = some (.int .u64 0) := hN.at (i := 3) rfl; have f3 := hN.free (i := 3) (by simp); have k4 : wz.cell? ⟨w10.heap.size, 4, none⟩ = some (.string ⟨#[]⟩) := hN.at (i := 4) rfl; have f4 := hN.free (i := 4) (by simp); have k5 : wz.cell? ⟨w10.heap.size, 5, none⟩ = some (.string ⟨#[]⟩) := hN.at (i := 5) rfl; have f5 := hN.free (i := 5) (by simp); have hkz : Kept w10 wz := Kept.go (Kept.drew (Kept.alloc hk0 _)) hbz; clear hN hbz) | (have hkz : Kept w10 wz := Kept.go (Kept.drew hk0) hbz; clear hbz)))
          · have HKZ := hid (bt (bt HBEL.out hkz) (below_alloc wz (.cells #[.int .i64 0, .string ⟨#[]⟩, .string ⟨#[]⟩, .int .u64 0, .string ⟨#[]⟩, .string ⟨#[]⟩] 37)))
            clear hkz
            generalize wz.alloc (.cells #[.int .i64 0, .string ⟨#[]⟩, .string ⟨#[]⟩, .int .u64 0, .string ⟨#[]⟩, .string ⟨#[]⟩] 37) = wf at HKZ ⊢
            go_wp2_with fail
            go_ret
            exact ⟨rfl, HKZ.out⟩
          · have HKZ : Hid (Below w.heap.size w ((((((wz.setCell ⟨w10.heap.size, 0, none⟩ (.int .i64 0)).setCell ⟨w10.heap.size, 1, none⟩ (.string ⟨#[]⟩)).setCell ⟨w10.heap.size, 2, none⟩ (.string ⟨#[]⟩)).setCell ⟨w10.heap.size, 3, none⟩ (.int .u64 0)).setCell ⟨w10.heap.size, 4, none⟩ (.string ⟨#[]⟩)).setCell ⟨w10.heap.size, 5, none⟩ (.string ⟨#[]⟩))) := bt HBEL.out ((((((Below.setCell hkz (Nat.le_refl _) _).setCell (Nat.le_refl _) _).setCell (Nat.le_refl _) _).setCell (Nat.le_refl _) _).setCell (Nat.le_refl _) _).setCell (Nat.le_refl _) _)
            clear hkz k0 f0 k1 f1 k2 f2 k3 f3 k4 f4 k5 f5
            generalize ((((((wz.setCell ⟨w10.heap.size, 0, none⟩ (.int .i64 0)).setCell ⟨w10.heap.size, 1, none⟩ (.string ⟨#[]⟩)).setCell ⟨w10.heap.size, 2, none⟩ (.string ⟨#[]⟩)).setCell ⟨w10.heap.size, 3, none⟩ (.int .u64 0)).setCell ⟨w10.heap.size, 4, none⟩ (.string ⟨#[]⟩)).setCell ⟨w10.heap.size, 5, none⟩ (.string ⟨#[]⟩)) = wf at HKZ ⊢
            go_wp2_with fail
            go_ret
            exact ⟨rfl, HKZ.out⟩

theorem taleBack_row (K : Int) (key val : ByteArray) (N : Int) (lo hi line : ByteArray) (at_ : Int) (w : World) (hL : Lib28 w) (_ : (Lit.int .i64 K).wf = true) (_ : key.size ≤ 140737488351232) (_ : val.size ≤ 140737488351232) (hN : (Lit.int .u64 N).wf = true) (_ : lo.size ≤ 140737488351232) (_ : hi.size ≤ 140737488351232) (_ : line.size ≤ 140737488351232) (_ : (Lit.int .i64 at_).wf = true) :
    Calls Tryz.prog 6 #[.agg #[.int .i64 K, .string key, .string val, .int .u64 N, .string lo, .string hi], .string line, .int .i64 at_] w fun e w' => e = .returned (.bool true) ∧ Below w.heap.size w w' := by
  obtain ⟨h1, h2⟩ := wf_u64 hN
  obtain ⟨n, rfl⟩ : ∃ n : Nat, N = n := ⟨N.toNat, by omega⟩
  exact taleBack_walk K key val n lo hi line at_ (by omega) w hL
end Go.Proofs.YthhmdmfbaooldaaGreatDoor
