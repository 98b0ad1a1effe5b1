/-
  KeyParts, walked.
-/
import Derived.Test.YtapmnnfnhgopcaaKeyPure
import Derived.Lib.QuietBelow
namespace Go.Proofs.Ytapmnnfnhgopcaa
open Go.RowKit Go.Sort

theorem regrown_same {P : Program} {f : FuncId} {args : Array Value} {w : World} {d : Nat} {os : Array Obj} {v : Value}
    (h : Calls P f args (grow (redrawn w d) os) fun e w' => e = .returned v ∧ grow (redrawn w d) os = w') : Calls P f args (grow (redrawn w d) os) fun e w'' => e = .returned v ∧ ∃ p : Regrown, w'' = grow (redrawn w p.d) p.os :=
  h.mono fun _ _ ⟨he, hb⟩ => ⟨he, ⟨d, os⟩, hb.symm⟩

theorem bdn {B : Nat} {a w : World} (h : Below B a w) (n : Nat) : Below B a (w.drewN n) := ⟨h.os, h.tape, h.output, h.size, h.block⟩

set_option maxHeartbeats 8000000 in
set_option maxRecDepth 100000 in
theorem keyParts_walk (lo hi lo' hi' k : ByteArray) (A : Option Addr) (cap : Nat) (ps : List ByteArray) (w : World) (hr : Row w A (strs ps)) (hm : ps.length ≤ 9223372036854775807) :
    Calls Try.prog 9 #[.agg #[.string lo, .string hi], .agg #[.string lo', .string hi'], .string k, .slice A ps.length cap] w fun e w' => e = .returned (.bool true) ∧ Below w.heap.size w w' := by
  have hu := Try.underlying58
  have HR := hid hr; clear hr
  obtain ⟨f1, hf1⟩ : ∃ f, f = rangeIs lo hi := ⟨_, rfl⟩
  obtain ⟨f2, hf2⟩ : ∃ f, f = rangeIs lo' hi' := ⟨_, rfl⟩
  have HF1 := hid hf1; have HF2 := hid hf2; clear hf1 hf2
  by_cases h20 : (20 : Int) < ps.length
  · go_enter Try.func9, Try.ntmps9
    go_wp2_with (with_reducible refine at_op (.box 58 (.tmp 0)) rfl ?_; refine Stopped.go ?_)
    refine Stopped.mk (wpList_box rfl #[.string lo, .string hi] 58 (by go_simp) ?_)
    intro g w1 hg hB hb hz
    clear hg hB hz
    go_wp2_with (with_reducible refine at_op (.box 58 (.tmp 1)) rfl ?_; refine Stopped.go ?_)
    refine Stopped.mk (wpList_box rfl #[.string lo', .string hi'] 58 (by go_simp) ?_)
    intro g' w2 hg' hB' hb' hz'
    replace hb := bt hb hb'
    clear hg' hB' hb' hz'
    go_wp2_with fail
    refine (awake07_any _).mono ?_; rintro e w3 ⟨rfl, hb3⟩
    replace hb := bt hb hb3; clear hb3
    go_wp2_with fail
    go_ret
    exact ⟨rfl, hb⟩
  cases f1 with
  | false =>
    go_enter Try.func9, Try.ntmps9
    go_wp2_with (with_reducible refine at_op (.box 58 (.tmp 0)) rfl ?_; refine Stopped.go ?_)
    refine Stopped.mk (wpList_box rfl #[.string lo, .string hi] 58 (by go_simp) ?_)
    intro g w1 hg hB hb hz
    clear hg hz
    go_wp2_with (with_reducible refine at_op (.box 58 (.tmp 1)) rfl ?_; refine Stopped.go ?_)
    refine Stopped.mk (wpList_box rfl #[.string lo', .string hi'] 58 (by go_simp) ?_)
    intro g' w2 hg' hB' hb' hz'
    replace hB := hB.belowS hb'
    replace hb := bt hb hb'
    clear hg' hB' hb' hz'
    go_wp2_with fail
    refine (awake07_any _).mono ?_; rintro e w3 ⟨rfl, hb3⟩
    replace hB := hB.belowS hb3
    replace hb := bt hb hb3; clear hb3
    have c0 : w3.cell? ⟨g, 0, none⟩ = some (.string lo) := hB.at rfl
    have c1 : w3.cell? ⟨g, 1, none⟩ = some (.string hi) := hB.at rfl
    clear hB
    go_wp2_with fail
    refine (key_rangeIs_any _ _ _).mono ?_; rintro e w4 ⟨rfl, hb4⟩; rw [← HF1.out]
    replace hb := bt hb hb4; clear hb4 c0 c1
    go_wp2_with fail
    go_ret
    exact ⟨rfl, hb⟩
  | true =>
    go_enter Try.func9, Try.ntmps9
    go_wp2_with (with_reducible refine at_op (.box 58 (.tmp 0)) rfl ?_; refine Stopped.go ?_)
    refine Stopped.mk (wpList_box rfl #[.string lo, .string hi] 58 (by go_simp) ?_)
    intro g w1 hg hB hb hz
    clear hg hz
    go_wp2_with (with_reducible refine at_op (.box 58 (.tmp 1)) rfl ?_; refine Stopped.go ?_)
    refine Stopped.mk (wpList_box rfl #[.string lo', .string hi'] 58 (by go_simp) ?_)
    intro g' w2 hg' hB' hb' hz'
    replace hB := hB.belowS hb'
    replace hb := bt hb hb'
    clear hg' hb' hz'
    go_wp2_with fail
    refine (awake07_any _).mono ?_; rintro e w3 ⟨rfl, hb3⟩
    replace hB := hB.belowS hb3
    replace hB' := hB'.belowS hb3
    replace hb := bt hb hb3; clear hb3
    have c0 : w3.cell? ⟨g, 0, none⟩ = some (.string lo) := hB.at rfl
    have c1 : w3.cell? ⟨g, 1, none⟩ = some (.string hi) := hB.at rfl
    have HB := hid hB; have HB' := hid hB'; clear hB hB'
    go_wp2_with fail
    refine (key_rangeIs_any _ _ _).mono ?_; rintro e w4 ⟨rfl, hb4⟩; rw [← HF1.out]
    have HB1 := hid (HB.out.belowS hb4)
    have HB1' := hid (HB'.out.belowS hb4)
    replace hb := bt hb hb4; clear hb4 c0 c1 HB HB'
    have c0 : w4.cell? ⟨g', 0, none⟩ = some (.string lo') := HB1'.out.at rfl
    have c1 : w4.cell? ⟨g', 1, none⟩ = some (.string hi') := HB1'.out.at rfl
    go_wp2_with fail
    refine (key_rangeIs_any _ _ _).mono ?_; rintro e w5 ⟨rfl, hb5⟩; rw [← HF2.out]
    have HB2 := hid (HB1.out.belowS hb5)
    have HB2' := hid (HB1'.out.belowS hb5)
    replace hb := bt hb hb5; clear hb5 c0 c1 HB1 HB1'
    cases f2 with
    | false =>
      go_wp2_with fail
      go_ret
      exact ⟨rfl, hb⟩
    | true =>
      have HR5 := hid (HR.out.below hb)
      clear HR
      have HBB := hid hb; clear hb
      go_wp2_with fail
      go_loopg [9] ps.length (fun g j wx => ∃ i : Nat, i + g = ps.length ∧ j = .int .i64 i ∧ Hid (∀ x, x < i → ((ps.getD x ⟨#[]⟩).toList == []) = false ∧ (0 < x → ahead (ps.getD (x - 1) ⟨#[]⟩) (ps.getD x ⟨#[]⟩) = true)) ∧ Below w5.heap.size w5 wx)
      case atStart => exact ⟨0, by omega, rfl, (fun x hx => absurd hx (by omega)), Below.refl _ _⟩
      case round =>
        obtain ⟨i, hik, rfl, HI, hbx⟩ := hrel
        by_cases hlt : i < ps.length
        · obtain ⟨b, off, rfl, hb, hc⟩ := row_cell HR5.out (by intro e; have := congrArg List.length e; simp [strs] at this; subst this; exact absurd hlt (by simp))
          have hcp := hc i (.string ps[i]) (by simp [strs, hlt])
          rw [← hbx.cell (p := ⟨b, off + i, none⟩) hb] at hcp
          obtain ⟨p, hp⟩ : ∃ p, p = ps.getD i ⟨#[]⟩ := ⟨_, rfl⟩
          rw [show ps[i] = p by rw [hp]; simp [List.getD_eq_getElem?_getD, hlt]] at hcp
          have HP := hid hp; clear hp
          have hbb := hid hbx; clear hbx
          cases h1 : (p.toList == []) with
          | true =>
            clear hc
            by_cases h0 : 0 < i
            all_goals
              go_wp2_with fail
              go_quiet (fail)
              go_wp2_with fail
              go_ret
              exact ⟨rfl, bdn (bt HBB.out hbb.out) _⟩
          | false =>
            have HH1 := hid h1
            by_cases h0 : 0 < i
            · have hcq := hc (i - 1) (.string ps[i - 1]) (by simp [strs])
              rw [← hbb.out.cell (p := ⟨b, off + (i - 1), none⟩) hb] at hcq
              obtain ⟨q, hq⟩ : ∃ q, q = ps.getD (i - 1) ⟨#[]⟩ := ⟨_, rfl⟩
              rw [show ps[i - 1] = q by rw [hq, List.getD_eq_getElem?_getD, List.getElem?_eq_getElem (by omega), Option.getD_some]] at hcq
              have hcq2 : wr.cell? ⟨b, off + ((i : Int) - 1).toNat, none⟩ = some (.string q) := by rw [show ((i : Int) - 1).toNat = i - 1 by omega]; exact hcq
              have HQ := hid hq; clear hq hc
              cases h2 : Op.bytesLess p.toList q.toList <;> cases h3 : (p.toList == q.toList)
              case false.false =>
                go_wp2_with fail
                go_quiet (fail)
                go_wp2_with fail
                go_roundg (ps.length - (i + 1))
                case measure => omega
                case rel =>
                  refine ⟨i + 1, by omega, by go_num, ?_, bdn hbb.out _⟩
                  intro x hx
                  by_cases e : x = i
                  · subst e
                    rw [← HP.out, ← HQ.out]
                    refine ⟨HH1.out, fun _ => ?_⟩
                    unfold ahead
                    cases h4 : Op.bytesLess q.toList p.toList with
                    | true => rfl
                    | false => rw [bl_tri h2 h4] at h3; simp at h3
                  · exact HI.out x (by omega)
              all_goals
                go_wp2_with fail
                go_quiet (fail)
                go_wp2_with fail
                go_ret
                exact ⟨rfl, bdn (bt HBB.out hbb.out) _⟩
            · clear hc
              obtain rfl : i = 0 := by omega
              rw [Nat.add_zero] at hcp
              go_wp2_with fail
              go_quiet (fail)
              go_wp2_with fail
              go_roundg (ps.length - 1)
              case measure => omega
              case rel =>
                refine ⟨1, by omega, by go_num, ?_, bdn hbb.out _⟩
                intro x hx
                have e : x = 0 := by omega
                subst e
                rw [← HP.out]
                exact ⟨HH1.out, fun h => absurd h (by omega)⟩
        · have hin : i = ps.length := by omega
          subst hin
          have HRISE := hid (show rise ps from HI.out)
          have HB3 := hid (HB2.out.belowS hbx)
          have HB3' := hid (HB2'.out.belowS hbx)
          have HR6 := hid (HR5.out.below hbx)
          have c0 : wr.cell? ⟨g, 0, none⟩ = some (.string lo) := HB3.out.at rfl
          have c1 : wr.cell? ⟨g, 1, none⟩ = some (.string hi) := HB3.out.at rfl
          have HBB3 := hid (bt HBB.out hbx)
          clear HB2 HB2' HR5 HBB hbx HI
          go_wp2_with fail
          refine (key_Cut_any lo hi A cap ps _ HR6.out (by omega)).mono ?_; rintro e w6 ⟨A', cap', rfl, hrow, hb6⟩
          obtain ⟨L, hL⟩ : ∃ L, L = cutK lo hi ps := ⟨_, rfl⟩
          rw [← hL] at hrow ⊢
          have hLn : L.length = ps.length + 1 := by rw [hL]; exact cutK_length _ _ _
          have HLH := hid (show hasN L k = if rangeHas lo hi k then 1 else 0 by rw [hL]; exact cutK_has lo hi ps k HRISE.out)
          have HL := hid hL
          have HROW := hid hrow
          have HB4 := hid (HB3.out.belowS hb6)
          have HB4' := hid (HB3'.out.belowS hb6)
          have HBB4 := hid (bt HBB3.out hb6)
          clear hrow hL hb6 c0 c1 HB3 HB3' HBB3
          go_wp2_with fail
          go_loopg [11, 12] L.length (fun g v11 v12 wx => ∃ i : Nat, i + g = L.length ∧ v11 = .int .i64 (hasN (L.take i) k : Int) ∧ v12 = .int .i64 i ∧ Hid (Below w6.heap.size w6 wx))
          case atStart => exact ⟨0, by omega, rfl, rfl, Below.refl _ _⟩
          case round =>
            obtain ⟨i, hik, rfl, rfl, HI⟩ := hrel
            by_cases hlt : i < L.length
            · obtain ⟨b, off, rfl, hb, hc⟩ := row_cell HROW.out (by intro e; have := congrArg List.length e; rw [rcells_length] at this; simp only [List.length_nil] at this; omega)
              obtain ⟨⟨x, y⟩, hxy⟩ : ∃ r, r = L[i] := ⟨_, rfl⟩
              have hat := rcells_at L i (x, y) (by rw [hxy]; simp [hlt])
              have c0 := hc _ _ hat.1
              have c1 := hc _ _ hat.2
              rw [← HI.out.cell (p := ⟨b, off + i * 2, none⟩) hb] at c0
              rw [← HI.out.cell (p := ⟨b, off + (i * 2 + 1), none⟩) hb, ← Nat.add_assoc] at c1
              simp only at c0 c1
              have HXY := hid hxy
              clear hxy hat hb hc
              go_wp2_with fail
              refine (key_Has_any x y k _).mono ?_; rintro e w7 ⟨rfl, hb7⟩
              obtain ⟨f, hf⟩ : ∃ f, f = rangeHas x y k := ⟨_, rfl⟩
              rw [← hf]
              have hnx : hasN (L.take (i + 1)) k = hasN (L.take i) k + (if f then 1 else 0) := by
                rw [hasN_take L k i hlt, ← HXY.out, ← hf]
              have hle : hasN (L.take i) k ≤ i := Nat.le_trans (hasN_le _ _) (by rw [List.length_take]; omega)
              obtain ⟨m, hm2⟩ : ∃ m, m = hasN (L.take i) k := ⟨_, rfl⟩
              rw [← hm2] at hnx hle ⊢
              have HNX := hid hnx
              have HI7 := hid (bt HI.out hb7)
              clear hf hnx hm2 hb7 c0 c1
              cases f with
              | true =>
                go_wp2_with fail
                go_roundg (L.length - (i + 1))
                case measure => omega
                case rel => exact ⟨i + 1, by omega, by rw [HNX.out]; go_num, by go_num, HI7.out⟩
              | false =>
                go_wp2_with fail
                go_roundg (L.length - (i + 1))
                case measure => omega
                case rel => exact ⟨i + 1, by omega, by rw [HNX.out]; rfl, by go_num, HI7.out⟩
            · have hin : i = L.length := by omega
              subst hin
              rw [List.take_length]
              obtain ⟨c, hc⟩ : ∃ c, c = rangeHas lo hi k := ⟨_, rfl⟩
              have hN : hasN L k = if c then 1 else 0 := by rw [hc]; exact HLH.out
              have HC := hid hc; clear hc
              have HB5 := hid (HB4.out.belowS HI.out)
              have HB5' := hid (HB4'.out.belowS HI.out)
              have HBB5 := hid (bt HBB4.out HI.out)
              have c0 : wr.cell? ⟨g, 0, none⟩ = some (.string lo) := HB5.out.at rfl
              have c1 : wr.cell? ⟨g, 1, none⟩ = some (.string hi) := HB5.out.at rfl
              clear HI HB4 HB4' HBB4
              have hadd : IntKind.i64.wrap ((ps.length : Int) + 1) = (ps.length : Int) + 1 := by rw [IntKind.wrap_i64]; omega
              cases c
              all_goals
                simp only [if_true, if_false, Bool.false_eq_true] at hN
                rw [hN]
                clear hN
                go_wp2_with fail
                refine (key_Has_any lo hi k _).mono ?_; rintro e w8 ⟨rfl, hb8⟩; rw [← HC.out]
                have HB8 := hid (HB5.out.belowS hb8)
                have HB8' := hid (HB5'.out.belowS hb8)
                have HBB8 := hid (bt HBB5.out hb8)
                clear hb8 c0 c1 HB5 HB5' HBB5
                have c0 : w8.cell? ⟨g, 0, none⟩ = some (.string lo) := HB8.out.at rfl
                have c1 : w8.cell? ⟨g, 1, none⟩ = some (.string hi) := HB8.out.at rfl
                have c2 : w8.cell? ⟨g', 0, none⟩ = some (.string lo') := HB8'.out.at rfl
                have c3 : w8.cell? ⟨g', 1, none⟩ = some (.string hi') := HB8'.out.at rfl
                go_wp2_with fail
                refine (key_Meet_any lo hi lo' hi' _).mono ?_; rintro e w9 ⟨rfl, hb9⟩
                obtain ⟨x, hx⟩ : ∃ x, x = meetLo lo hi lo' hi' := ⟨_, rfl⟩
                obtain ⟨y, hy⟩ : ∃ y, y = meetHi lo hi lo' hi' := ⟨_, rfl⟩
                rw [← hx, ← hy]
                have hA := below_alloc w9 (.cells #[.string x, .string y] 58)
                have hN := Blk.new w9 #[.string x, .string y] 58
                have HB9 := hid ((HB8.out.belowS hb9).belowS hA)
                have HB9' := hid ((HB8'.out.belowS hb9).belowS hA)
                have HBB9 := hid (bt (bt HBB8.out hb9) hA)
                have HX := hid hx; have HY := hid hy; have HN := hid hN
                clear hb9 hA hN hx hy c0 c1 c2 c3 HB8 HB8' HBB8
                go_wp2_with fail
                obtain ⟨gm, hgm⟩ : ∃ gm, gm = w9.heap.size := ⟨_, rfl⟩
                rw [← hgm] at HN ⊢
                clear hgm
                generalize w9.alloc (.cells #[.string x, .string y] 58) = W at HN HB9 HB9' HBB9 ⊢
                have m0 : ∀ d os, (grow (redrawn W d) os).cell? ⟨gm, 0, none⟩ = some (.string x) := fun d os => cell_regrown (HN.out.at rfl) d os
                have m1 : ∀ d os, (grow (redrawn W d) os).cell? ⟨gm, 1, none⟩ = some (.string y) := fun d os => cell_regrown (HN.out.at rfl) d os
                have c0 : ∀ d os, (grow (redrawn W d) os).cell? ⟨g, 0, none⟩ = some (.string lo) := fun d os => cell_regrown (HB9.out.at rfl) d os
                have c1 : ∀ d os, (grow (redrawn W d) os).cell? ⟨g, 1, none⟩ = some (.string hi) := fun d os => cell_regrown (HB9.out.at rfl) d os
                have c2 : ∀ d os, (grow (redrawn W d) os).cell? ⟨g', 0, none⟩ = some (.string lo') := fun d os => cell_regrown (HB9'.out.at rfl) d os
                have c3 : ∀ d os, (grow (redrawn W d) os).cell? ⟨g', 1, none⟩ = some (.string hi') := fun d os => cell_regrown (HB9'.out.at rfl) d os
                have hIs : rangeIs x y = true := by rw [HX.out, HY.out]; exact meet_is HF1.out.symm HF2.out.symm
                have hxs : x.size ≤ 8 := ((rangeIs_iff x y).1 hIs).1
                obtain ⟨o, ho⟩ : ∃ o, o = rangeHas lo' hi' k := ⟨_, rfl⟩
                obtain ⟨mh, hmh⟩ : ∃ mh, mh = rangeHas x y k := ⟨_, rfl⟩
                obtain ⟨em, hem⟩ : ∃ em, em = rangeEmpty x y := ⟨_, rfl⟩
                have hm := meet_has lo hi lo' hi' k
                rw [← HX.out, ← HY.out, ← HC.out, ← ho, ← hmh] at hm
                have he2 : mh = true → em = false := fun h => by rw [hem]; exact empty_not hxs (hmh.symm.trans h)
                have KM : Hid (∀ W', Calls Try.prog 39 #[.agg #[.string x, .string y], .string k] W' fun e w' => e = .returned (.bool mh) ∧ Below W'.heap.size W' w') := fun W' => by rw [hmh]; exact key_Has_any x y k W'
                have KR : Hid (∀ W', Calls Try.prog 39 #[.agg #[.string lo, .string hi], .string k] W' fun e w' => e = .returned (.bool _) ∧ Below W'.heap.size W' w') := fun W' => by have := key_Has_any lo hi k W'; rw [← HC.out] at this; exact this
                have KO : Hid (∀ W', Calls Try.prog 39 #[.agg #[.string lo', .string hi'], .string k] W' fun e w' => e = .returned (.bool o) ∧ Below W'.heap.size W' w') := fun W' => by rw [ho]; exact key_Has_any lo' hi' k W'
                have KI : Hid (∀ W', Calls Try.prog 37 #[.agg #[.string x, .string y]] W' fun e w' => e = .returned (.bool true) ∧ Below W'.heap.size W' w') := fun W' => by have := key_rangeIs_any x y W'; rw [hIs] at this; exact this
                have KE : Hid (∀ W', Calls Try.prog 41 #[.agg #[.string x, .string y]] W' fun e w' => e = .returned (.bool em) ∧ Below W'.heap.size W' w') := fun W' => by rw [hem]; exact key_IsEmpty_any x y (by omega) W'
                have KT : Hid (∀ W', Calls Try.prog 40 #[.agg #[.string lo', .string hi'], .agg #[.string lo, .string hi]] W' fun e w' => e = .returned (.agg #[.string x, .string y]) ∧ Below W'.heap.size W' w') := fun W' => by
                  have := key_Meet_any lo' hi' lo hi W'
                  rw [← (meet_comm lo hi lo' hi').1, ← (meet_comm lo hi lo' hi').2, ← HX.out, ← HY.out] at this
                  exact this
                clear ho hmh hem hIs hxs HL HLH hLn hadd
                cases o <;> cases mh
                all_goals first | (exact absurd hm (by decide)) | skip
                all_goals cases em
                all_goals first | (exact absurd (he2 rfl) (by decide)) | skip
                all_goals
                  clear hm he2
                  refine wp_region_quiet_below (by kernel_rfl) (by kernel_rfl) ?_
                  repeat (go_big_quiet_step (first
                    | with_reducible exact Calls.regrown_of (KM.out _)
                    | with_reducible exact Calls.regrown_of (KR.out _)
                    | with_reducible exact Calls.regrown_of (KO.out _)
                    | with_reducible exact Calls.regrown_of (KI.out _)
                    | with_reducible exact Calls.regrown_of (KE.out _)
                    | with_reducible exact Calls.regrown_of (KT.out _)))
                  refine wpQuiet_nil ?_
                  intro _ hw'
                  obtain ⟨⟨dq, osq⟩, hw''⟩ := hw'
                  subst hw''
                  clear KM KR KO KI KE KT m0 m1 c0 c1 c2 c3
                  go_wp2_with fail
                  go_ret
                  exact ⟨rfl, bt HBB9.out (below_regrown W dq osq)⟩

/-- in the row's words -/
theorem keyParts_law (lo hi lo' hi' k : ByteArray) (A : Option Addr) (cap : Nat) (ps : List ByteArray) (w : World) (_ : lo.size ≤ 140737488351232) (_ : hi.size ≤ 140737488351232) (_ : lo'.size ≤ 140737488351232) (_ : hi'.size ≤ 140737488351232) (_ : k.size ≤ 140737488351232)
    (hr : Row w A (strs ps)) (_ : ∀ s ∈ ps, s.size ≤ 140737488351232) (hu : ps.length ≤ cap) (hm : cap ≤ maxLen) :
    Calls Try.prog 9 #[.agg #[.string lo, .string hi], .agg #[.string lo', .string hi'], .string k, .slice A ps.length cap] w fun e w' => e = .returned (.bool true) ∧ Below w.heap.size w w' :=
  keyParts_walk lo hi lo' hi' k A cap ps w hr (by simp only [maxLen] at hm; omega)
end Go.Proofs.Ytapmnnfnhgopcaa
