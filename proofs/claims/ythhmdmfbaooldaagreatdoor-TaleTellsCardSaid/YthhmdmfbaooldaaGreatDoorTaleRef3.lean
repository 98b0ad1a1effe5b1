/-
  grangerref28.Tell, walked.
-/
import Derived.Test.YthhmdmfbaooldaaGreatDoorTaleRef2
namespace Go.Proofs.YthhmdmfbaooldaaGreatDoor
open Go.RowKit Go.Sort

set_option maxHeartbeats 16000000 in
set_option maxRecDepth 100000 in
theorem refTell_any (err : Int) (has : Bool) (val : ByteArray) (A : Option Addr) (cap : Nat) (items : List (ByteArray × ByteArray)) (s0 s1 s2 s3 s4 s5 s6 s7 s8 : Int) (w : World)
    (he : (Lit.int .i64 err).wf = true) (hv : val.size ≤ 1000) (hr : Row w A (items.flatMap itemCells)) (hi : items.length ≤ 100) (his : ∀ x ∈ items, x.1.size ≤ 1000 ∧ x.2.size ≤ 1000) (hst : ∀ n ∈ [s0, s1, s2, s3, s4, s5, s6, s7, s8], (Lit.int .i64 n).wf = true) :
    Calls Tryz.prog 24 #[.int .i64 err, .bool has, .string val, .slice A items.length cap, .agg #[.int .i64 s0, .int .i64 s1, .int .i64 s2, .int .i64 s3, .int .i64 s4, .int .i64 s5, .int .i64 s6, .int .i64 s7, .int .i64 s8]] w fun e w' =>
      e = .returned (.string (joinB (tellW err has val items [s0, s1, s2, s3, s4, s5, s6, s7, s8]))) ∧ Below w.heap.size w w' := by
  have hu := Tryz.underlying57
  obtain ⟨T, hT⟩ : ∃ T, T = tellW err has val items [s0, s1, s2, s3, s4, s5, s6, s7, s8] := ⟨_, rfl⟩
  rw [← hT]
  have HTT := hid hT
  have HR := hid hr; have HIS := hid his; have HST := hid hst; have HE := hid he; have HEW := hid (wf_i64 he)
  clear hr his hst hT he
  obtain ⟨N, hN⟩ : ∃ N, N = items.length := ⟨_, rfl⟩
  rw [← hN] at hi ⊢
  have HN := hid hN
  clear hN
  go_enter Tryz.func24, Tryz.ntmps24
  go_wp2_with (with_reducible refine at_op (.box 57 (.tmp 4)) rfl ?_; refine Stopped.go ?_)
  refine Stopped.mk (wpList_box rfl #[.int .i64 s0, .int .i64 s1, .int .i64 s2, .int .i64 s3, .int .i64 s4, .int .i64 s5, .int .i64 s6, .int .i64 s7, .int .i64 s8] 57 (by go_simp) ?_)
  intro g w1 hg Bg hb1 hz
  have HB1 := hid hb1
  have HBX : Hid (Blk w1 g 57 (i64s [s0, s1, s2, s3, s4, s5, s6, s7, s8])) := Bg
  have HRX := hid (HR.out.below hb1)
  clear Bg hb1 hg hz HR
  go_upto_if 15 with fail
  go_cut [11] (fun v wx => Hid (SV w1 wx v (tw1 err)))
  case first =>
    by_cases h0 : err = 0
    · subst h0
      go_wp2_with fail
      go_meet
      show SV _ _ _ _
      exact ⟨⟨okB, rfl, by rfl, by decide, by decide⟩, Below.refl _ _⟩
    · have hq : (err != 0) = true := by rw [bne_iff_ne]; exact h0
      have HSG := hid (refSigned_any err HEW.out.1 HEW.out.2 w1)
      have HT := hid (show tw1 err = [errB] ++ [iB err] by unfold tw1; rw [if_neg h0]; rfl)
      have hl := iB_len HE.out
      obtain ⟨X, hX⟩ : ∃ X, X = iB err := ⟨_, rfl⟩
      rw [← hX] at HSG HT hl
      clear h0 hX
      go_wp2_with fail
      refine HSG.out.mono ?_; rintro e w3 ⟨rfl, hb3⟩
      have H3 := hid hb3
      clear hb3 HSG
      have q1 : ¬ (9223372036854775807 < 6 + X.size) := by omega
      go_wp2_with fail
      go_meet
      show SV _ _ _ _
      rw [HT.out]
      refine ⟨⟨_, rfl, ?_⟩, H3.out⟩
      have h1 : SJ errB [errB] := ⟨by rfl, by decide, by decide⟩
      exact h1.blank hl
  case rest =>
    obtain ⟨⟨s, rfl, hs⟩, hb⟩ := hcut.out
    have HS := hid hs; have HB := hid hb
    have hsz : s.size ≤ 100000 := by have := hs.2.2; have := tw1_len err; omega
    clear hcut hs hb
    go_upto_if 19 with fail
    go_cut [11] (fun v wx => Hid (SV w1 wx v (tw1 err ++ tw2 has)))
    case first =>
      cases has with
      | false =>
        go_wp2_with fail
        go_meet
        show SV _ _ _ (tw1 err ++ [])
        rw [List.append_nil]; exact ⟨⟨s, rfl, HS.out⟩, HB.out⟩
      | true =>
        have q1 : ¬ (9223372036854775807 < s.size + 4) := by omega
        go_wp2_with fail
        go_meet
        show SV _ _ _ (tw1 err ++ [hasB])
        exact ⟨⟨_, rfl, HS.out.more (by rfl) (by decide)⟩, HB.out⟩
    case rest =>
      obtain ⟨⟨strB, rfl, hs⟩, hb⟩ := hcut.out
      have HS2 := hid hs; have HB2 := hid hb
      have hsz2 : strB.size ≤ 100000 := by have := hs.2.2; have := tw1_len err; have := tw2_len has; rw [List.length_append] at *; omega
      clear hcut hs hb HS HB hsz
      go_upto_if 23 with fail
      go_cut [11] (fun v wx => Hid (SV w1 wx v (tw1 err ++ tw2 has ++ tw3 val)))
      case first =>
        by_cases hv0 : val.toList = []
        · have HT := hid (show tw3 val = [] by unfold tw3; rw [if_pos (ba_of_empty hv0)])
          have hv1 : (!val.toList.isEmpty) = false := by rw [hv0]; rfl
          rw [hv1]
          clear hv0 hv1
          go_wp2_with fail
          go_meet
          show SV _ _ _ _
          rw [HT.out, List.append_nil]; exact ⟨⟨strB, rfl, HS2.out⟩, HB2.out⟩
        · have HT := hid (show tw3 val = [valB, wB val.data.toList] by
            unfold tw3
            rw [if_neg (fun e => hv0 (by rw [e, ByteArray.toList_eq]))])
          have hv1 : (!val.toList.isEmpty) = true := by
            cases h : val.toList with
            | nil => exact absurd h hv0
            | cons _ _ => rfl
          have HWD := hid (refWord_any val (by omega) wc)
          have hl := wB_size val hv
          obtain ⟨X, hX⟩ : ∃ X, X = wB val.data.toList := ⟨_, rfl⟩
          rw [← hX] at HWD HT hl
          rw [hv1]
          clear hv0 hv1 hX
          have q1 : ¬ (9223372036854775807 < strB.size + 5) := by omega
          have q2 : ¬ (9223372036854775807 < strB.size + 5 + X.size) := by omega
          go_wp2_with fail
          refine HWD.out.mono ?_; rintro e we ⟨rfl, hb5⟩
          have H5 := hid (bt HB2.out hb5)
          clear hb5 HWD
          go_wp2_with fail
          go_meet
          show SV _ _ _ _
          rw [HT.out]
          exact ⟨⟨_, rfl, HS2.out.two (by rfl) (by decide) hl⟩, H5.out⟩
      case rest =>
        obtain ⟨⟨strC, rfl, hs⟩, hb⟩ := hcut.out
        have HS3 := hid hs; have HB3 := hid hb
        have hsz3 : strC.size ≤ 100000 := by have := hs.2.2; have := tw1_len err; have := tw2_len has; have := tw3_len val; simp only [List.length_append] at *; omega
        clear hcut hs hb HS2 HB2 hsz2
        go_upto_if 31 with fail
        go_cut [11] (fun v wx => Hid (SV w1 wx v (tw1 err ++ tw2 has ++ tw3 val ++ tw4 items)))
        case first =>
          by_cases hn0 : N = 0
          · have HT := hid (show tw4 items = [] by unfold tw4; rw [if_pos (by rw [← HN.out]; exact hn0)])
            have hd : ¬ (0 : Int) < (N : Int) := by omega
            clear hn0
            go_wp2_with fail
            go_meet
            show SV _ _ _ _
            rw [HT.out, List.append_nil]; exact ⟨⟨strC, rfl, HS3.out⟩, HB3.out⟩
          · have HT := hid (show tw4 items = [itemsB, dB N] by
              unfold tw4; rw [if_neg (by rw [← HN.out]; exact hn0), ← HN.out]
              have : iB (N : Int) = dB N := by unfold iB; rw [Lib.itoa_nonneg]; rfl
              rw [this])
            have hd : (0 : Int) < (N : Int) := by omega
            have HDG := hid (refDigits_any N (by omega) wc)
            have hl : (dB N).size ≤ 4000 := by
              have := dec_len N (by omega)
              have e : (dB N).data.toList.length = (dB N).size := by simp
              have e2 : (dB N).data.toList = Lib.decDigits N := rfl
              rw [e2] at e; omega
            obtain ⟨X, hX⟩ : ∃ X, X = dB N := ⟨_, rfl⟩
            rw [← hX] at HDG HT hl
            clear hn0 hX
            have q1 : ¬ (9223372036854775807 < strC.size + 7) := by omega
            have q2 : ¬ (9223372036854775807 < strC.size + 7 + X.size) := by omega
            go_wp2_with fail
            refine HDG.out.mono ?_; rintro e wf ⟨rfl, hb5⟩
            have H6 := hid (bt HB3.out hb5)
            clear hb5 HDG
            go_wp2_with fail
            go_meet
            show SV _ _ _ _
            rw [HT.out]
            exact ⟨⟨_, rfl, HS3.out.two (by rfl) (by decide) hl⟩, H6.out⟩
        case rest =>
          obtain ⟨S0, hS0⟩ : ∃ S, S = tw1 err ++ tw2 has ++ tw3 val ++ tw4 items := ⟨_, rfl⟩
          rw [← hS0] at hcut
          have hlen0 : S0.length ≤ 7 := by
            have := tw1_len err; have := tw2_len has; have := tw3_len val; have := tw4_len items
            rw [hS0]; simp only [List.length_append]; omega
          have HS0 := hid hS0
          obtain ⟨⟨strD, rfl, hs⟩, hb⟩ := hcut.out
          have HS4 := hid hs; have HB4 := hid hb
          clear hcut hs hb HS3 HB3 hsz3 hS0
          go_wp2_with fail
          go_loopg [11, 12] N (fun gg v j wx => ∃ k : Nat, k + gg = N ∧ j = .int .i64 k ∧ Hid (SV w1 wx v (S0 ++ tw5 (items.take k))))
          case atStart => exact ⟨0, by omega, rfl, by show SV _ _ _ (S0 ++ []); rw [List.append_nil]; exact ⟨⟨strD, rfl, HS4.out⟩, HB4.out⟩⟩
          case round =>
            obtain ⟨k, hk, rfl, HI⟩ := hrel
            obtain ⟨⟨str, rfl, hs⟩, hb⟩ := HI.out
            have HS5 := hid hs; have HB5 := hid hb
            clear HI hs hb HS4 HB4
            by_cases hlt : k < N
            · have hkl : k < items.length := by rw [← HN.out]; exact hlt
              obtain ⟨b, off, rfl, hb, hc⟩ := row_cell HRX.out (by
                intro e
                have := (items_at items k hkl).1
                rw [e] at this; simp at this)
              obtain ⟨d1, d2⟩ := items_at items k hkl
              have e1 := hc _ _ d1
              have e2 := hc _ _ d2
              rw [← HB5.out.cell (p := ⟨b, off + k * 2, none⟩) hb] at e1
              rw [← HB5.out.cell (p := ⟨b, off + (k * 2 + 1), none⟩) hb, ← Nat.add_assoc] at e2
              have hsz := HIS.out items[k] (List.getElem_mem _)
              obtain ⟨kk, hkk⟩ : ∃ q, q = items[k].1 := ⟨_, rfl⟩
              obtain ⟨vv, hvv⟩ : ∃ q, q = items[k].2 := ⟨_, rfl⟩
              have htk := tw5_take items k hkl
              rw [← hkk, ← hvv] at htk hsz
              rw [← hkk] at e1
              rw [← hvv] at e2
              have HTK := hid htk
              have hl1 := wB_size kk hsz.1
              have hl2 := wB_size vv hsz.2
              have hstr : str.size ≤ 1000000 := by
                have h1 := HS5.out.2.2
                rw [List.length_append, tw5_len] at h1
                have : (items.take k).length ≤ 100 := by rw [List.length_take]; omega
                omega
              have F1 := fun (dd : Nat) (os : Array Obj) => refWord_any kk (by omega) (grow (redrawn wr dd) os)
              have F2 := fun (dd : Nat) (os : Array Obj) => refWord_any vv (by omega) (grow (redrawn wr dd) os)
              obtain ⟨X, hX⟩ : ∃ X, X = wB kk.data.toList := ⟨_, rfl⟩
              obtain ⟨Y, hY⟩ : ∃ X, X = wB vv.data.toList := ⟨_, rfl⟩
              rw [← hX] at F1 htk hl1 HTK
              rw [← hY] at F2 htk hl2 HTK
              have E1 := hid F1; have E2 := hid F2
              have x0 : ∀ (dd : Nat) (os : Array Obj), (grow (redrawn wr dd) os).cell? ⟨b, off + k * 2, none⟩ = some (.string kk) := fun dd os => cell_regrown e1 dd os
              have x1 : ∀ (dd : Nat) (os : Array Obj), (grow (redrawn wr dd) os).cell? ⟨b, off + k * 2 + 1, none⟩ = some (.string vv) := fun dd os => cell_regrown e2 dd os
              have q1 : ¬ (9223372036854775807 < str.size + 1) := by omega
              have q2 : ¬ (9223372036854775807 < str.size + 1 + X.size) := by omega
              have q3 : ¬ (9223372036854775807 < str.size + 1 + X.size + 1) := by omega
              have q4 : ¬ (9223372036854775807 < str.size + 1 + X.size + 1 + Y.size) := by omega
              clear hX hY F1 F2 htk hc d1 d2 hkk hvv hsz e1 e2
              go_upto_region 13 with fail
              refine wp_region_quiet_below (by kernel_rfl) (by kernel_rfl) ?_
              repeat (go_big_quiet_step (first
                | with_reducible exact Calls.regrown_of (E1.out _ _)
                | with_reducible exact Calls.regrown_of (E2.out _ _)))
              refine wpQuiet_nil ?_
              intro _ hw'
              obtain ⟨⟨dq, osq⟩, hw''⟩ := hw'
              subst hw''
              have H8 : Hid (SV w1 (grow (redrawn wr dq) osq) (.string (str ++ ⟨#[32]⟩ ++ X ++ ⟨#[32]⟩ ++ Y)) (S0 ++ tw5 (items.take (k + 1)))) := by
                show SV _ _ _ _
                refine ⟨⟨_, rfl, ?_⟩, bt HB5.out (below_regrown wr dq osq)⟩
                have := (HS5.out.blank hl1).blank hl2
                rw [HTK.out]
                simpa using this
              clear x0 x1 E1 E2 q1 q2 q3 q4
              go_wp2_with fail
              go_roundg (N - (k + 1))
              case measure => omega
              case rel => exact ⟨k + 1, by omega, by go_num, H8.out⟩
            · have hall : items.take k = items := List.take_of_length_le (by rw [← HN.out]; omega)
              rw [hall] at HS5
              obtain ⟨S1, hS1⟩ : ∃ S, S = S0 ++ tw5 items := ⟨_, rfl⟩
              have hS1l : S1.length ≤ 300 := by rw [hS1, List.length_append, tw5_len, ← HN.out]; omega
              rw [← hS1] at HS5
              have HS1 := hid hS1
              have hcmp := fun w' => statsNe2_run s0 s1 s2 s3 s4 s5 s6 s7 s8 w'
              obtain ⟨z, hz⟩ : ∃ z, z = zeroS [s0, s1, s2, s3, s4, s5, s6, s7, s8] := ⟨_, rfl⟩
              rw [← hz] at hcmp
              have HZ := hid hz
              clear hS1 hz hall
              have d0 : wr.cell? ⟨g, 0, none⟩ = some (.int .i64 s0) := (HBX.out.belowS HB5.out).at (i := 0) rfl
              have d1 : wr.cell? ⟨g, 1, none⟩ = some (.int .i64 s1) := (HBX.out.belowS HB5.out).at (i := 1) rfl
              have d2 : wr.cell? ⟨g, 2, none⟩ = some (.int .i64 s2) := (HBX.out.belowS HB5.out).at (i := 2) rfl
              have d3 : wr.cell? ⟨g, 3, none⟩ = some (.int .i64 s3) := (HBX.out.belowS HB5.out).at (i := 3) rfl
              have d4 : wr.cell? ⟨g, 4, none⟩ = some (.int .i64 s4) := (HBX.out.belowS HB5.out).at (i := 4) rfl
              have d5 : wr.cell? ⟨g, 5, none⟩ = some (.int .i64 s5) := (HBX.out.belowS HB5.out).at (i := 5) rfl
              have d6 : wr.cell? ⟨g, 6, none⟩ = some (.int .i64 s6) := (HBX.out.belowS HB5.out).at (i := 6) rfl
              have d7 : wr.cell? ⟨g, 7, none⟩ = some (.int .i64 s7) := (HBX.out.belowS HB5.out).at (i := 7) rfl
              have d8 : wr.cell? ⟨g, 8, none⟩ = some (.int .i64 s8) := (HBX.out.belowS HB5.out).at (i := 8) rfl
              go_upto_if 64 with fail
              clear d0 d1 d2 d3 d4 d5 d6 d7 d8 hcmp
              go_cut [11] (fun v wx => Hid (SV w1 wx v (S1 ++ tw6 [s0, s1, s2, s3, s4, s5, s6, s7, s8])))
              case first =>
                cases z with
                | true =>
                  have HT := hid (show tw6 [s0, s1, s2, s3, s4, s5, s6, s7, s8] = [] by unfold tw6; rw [if_pos HZ.out.symm])
                  go_wp2_with fail
                  go_meet
                  show SV _ _ _ _
                  rw [HT.out, List.append_nil]; exact ⟨⟨str, rfl, HS5.out⟩, HB5.out⟩
                | false =>
                  have HT := hid (show tw6 [s0, s1, s2, s3, s4, s5, s6, s7, s8] = statsB :: [s0, s1, s2, s3, s4, s5, s6, s7, s8].map iB by unfold tw6; rw [if_neg (by rw [← HZ.out]; decide)])
                  have hs1 : str.size ≤ 2000000 := by have := HS5.out.2.2; omega
                  have q1 : ¬ (9223372036854775807 < str.size + 6) := by omega
                  go_wp2_with fail
                  have H6 := hid (HS5.out.more (t := ⟨#[32, 115, 116, 97, 116, 115]⟩) (x := statsB) (by rfl) (by decide))
                  generalize str ++ ⟨#[32, 115, 116, 97, 116, 115]⟩ = str2 at H6 ⊢
                  go_loopg [11, 13] 9 (fun gg v j wx => ∃ k : Nat, k + gg = 9 ∧ j = .int .i64 k ∧ Hid (SV w1 wx v (S1 ++ [statsB] ++ ([s0, s1, s2, s3, s4, s5, s6, s7, s8].take k).map iB)))
                  case atStart => exact ⟨0, by omega, rfl, by show SV _ _ _ _; exact ⟨⟨str2, rfl, by simpa using H6.out⟩, HB5.out⟩⟩
                  case round =>
                    obtain ⟨k, hk, rfl, HI⟩ := hrel
                    obtain ⟨⟨str3, rfl, hs⟩, hb⟩ := HI.out
                    have HS7 := hid hs; have HB7 := hid hb
                    clear HI hs hb H6 HS5 HB5
                    by_cases hlt9 : k < 9
                    · obtain ⟨n, hn⟩ : ∃ n, [s0, s1, s2, s3, s4, s5, s6, s7, s8][k]? = some n := ⟨_, List.getElem?_eq_getElem (by simpa using hlt9)⟩
                      have hcell : wr.cell? ⟨g, k, none⟩ = some (.int .i64 n) := (HBX.out.belowS HB7.out).at (i := k) (by unfold i64s; rw [List.getElem?_map, hn]; rfl)
                      have hwf := HST.out n (List.mem_of_getElem? hn)
                      have HIT := hid (refSigned_any n (wf_i64 hwf).1 (wf_i64 hwf).2 wr)
                      have htk : ([s0, s1, s2, s3, s4, s5, s6, s7, s8].take (k + 1)).map iB = ([s0, s1, s2, s3, s4, s5, s6, s7, s8].take k).map iB ++ [iB n] := by
                        rw [List.take_add_one, hn]; simp
                      have hl := iB_len hwf
                      have hs3 : str3.size ≤ 2000000 := by
                        have h1 := HS7.out.2.2
                        simp only [List.length_append, List.length_map, List.length_take, List.length_cons, List.length_nil] at h1
                        omega
                      obtain ⟨X, hX⟩ : ∃ X, X = iB n := ⟨_, rfl⟩
                      rw [← hX] at HIT htk hl
                      have HTK := hid htk
                      have q2 : ¬ (9223372036854775807 < str3.size + 1) := by omega
                      have q3 : ¬ (9223372036854775807 < str3.size + 1 + X.size) := by omega
                      clear hn htk hwf hX
                      go_wp2_with fail
                      refine HIT.out.mono ?_; rintro e w8 ⟨rfl, hb8⟩
                      have H8 : Hid (SV w1 w8 (.string (str3 ++ ⟨#[32]⟩ ++ X)) (S1 ++ [statsB] ++ ([s0, s1, s2, s3, s4, s5, s6, s7, s8].take (k + 1)).map iB)) := by
                        show SV _ _ _ _
                        refine ⟨⟨_, rfl, ?_⟩, bt HB7.out hb8⟩
                        rw [HTK.out, ← List.append_assoc]
                        exact HS7.out.blank hl
                      clear hb8 hcell HIT HTK
                      go_wp2_with fail
                      go_roundg (9 - (k + 1))
                      case measure => omega
                      case rel => exact ⟨k + 1, by omega, by go_num, H8.out⟩
                    · have hall9 : [s0, s1, s2, s3, s4, s5, s6, s7, s8].take k = [s0, s1, s2, s3, s4, s5, s6, s7, s8] := List.take_of_length_le (by simp; omega)
                      rw [hall9] at HS7
                      clear hall9
                      go_wp2_with fail
                      go_meet
                      show SV _ _ _ _
                      rw [HT.out]
                      exact ⟨⟨str3, rfl, by simpa using HS7.out⟩, HB7.out⟩
              case rest =>
                obtain ⟨⟨str4, rfl, hs⟩, hb⟩ := hcut.out
                have HS9 := hid hs; have HB9 := hid hb
                clear hcut hs hb HS5 HB5
                go_wp2_with fail
                go_ret
                refine ⟨ret_str ?_, bt HB1.out HB9.out⟩
                have := HS9.out.eq
                rw [HS1.out, HS0.out] at this
                rw [this, HTT.out]
                rfl
end Go.Proofs.YthhmdmfbaooldaaGreatDoor
