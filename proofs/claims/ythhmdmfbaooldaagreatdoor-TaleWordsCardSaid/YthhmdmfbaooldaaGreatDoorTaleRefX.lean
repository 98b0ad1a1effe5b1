/-
  grangerref28.Text, walked.
-/
import Derived.Test.YthhmdmfbaooldaaGreatDoorTaleRef
import Derived.Test.YthhmdmfbaooldaaGreatDoorTaleText
namespace Go.Proofs.YthhmdmfbaooldaaGreatDoor
open Go.RowKit Go.Sort

theorem ownsRowF_empty28 (w : World) (e : TypeId) (size : Nat) : (w.alloc (.cells #[] e)).ownsRowF 0 e size (.slice (some ⟨w.heap.size, 0, none⟩) 0 0) 0 [] :=
  ⟨by simp, .inr ⟨w.heap.size, 0, #[], (0, 0), rfl, Nat.zero_le _, heap_alloc_new w _, Nat.zero_le _, Nat.zero_le _, Nat.zero_le _, by simp, by simp⟩⟩
theorem undig_all : ∀ n : Fin 256, undigB (UInt8.ofNat n.val) = if 48 ≤ n.val ∧ n.val ≤ 57 then some (n.val - 48) else if 97 ≤ n.val ∧ n.val ≤ 102 then some (n.val - 87) else none := by decide +kernel
theorem undig_rng (b : UInt8) : undigB b = if 48 ≤ b.toNat ∧ b.toNat ≤ 57 then some (b.toNat - 48) else if 97 ≤ b.toNat ∧ b.toNat ≤ 102 then some (b.toNat - 87) else none := by
  have := undig_all ⟨b.toNat, b.toNat_lt⟩
  simpa using this
theorem conv_row {P : Program} {w : World} (src dst e : TypeId) (A : Option Addr) (n cap : Nat) (l : List UInt8) (hn : n = l.length)
    (hs : P.underlying src = some (.slice e)) (he : P.underlying e = some (.int .u8)) (hd : P.underlying dst = some .string) (hr : Row w A (u8s l)) : (convert src dst (.slice A n cap)).run P w = .ok (.string ⟨l.toArray⟩) w := by
  subst hn
  cases l with
  | nil =>
    rw [List.length_nil, run_convert_bytes_string w src dst e _ 0 cap hs he hd]
    cases A <;> simp [Conv.bytesToString, loadCells]
    all_goals rfl
  | cons c l =>
    rcases hr with h0 | ⟨b, off, rfl, _, hc⟩
    · simp [u8s] at h0
    · refine run_convert_bytes_back w src dst e ⟨b, off, none⟩ cap (c :: l) hs he hd (fun j hj => ?_)
      have e : (⟨b, off, none⟩ : Addr).add j = ⟨b, off + j, none⟩ := by unfold Addr.add; split <;> simp_all
      rw [e]
      exact hc j _ (u8s_at hj)
/-- how far the two digits are read -/
def HexI (a b : UInt8) (t m : Nat) : Prop := (t = 0 ∧ m = 0) ∨ (t = 1 ∧ undigB a = some m) ∨ (t = 2 ∧ ∃ x y, undigB a = some x ∧ undigB b = some y ∧ m = 16 * x + y)
theorem HexI.step {a b : UInt8} {t m x : Nat} (h : HexI a b t m) (ht : t < 2) (hx : undigB (if t = 0 then a else b) = some x) : HexI a b (t + 1) (16 * m + x) := by
  rcases h with ⟨rfl, rfl⟩ | ⟨rfl, h⟩ | ⟨rfl, _⟩
  · exact .inr (.inl ⟨rfl, by rw [show 16 * 0 + x = x by omega]; exact hx⟩)
  · exact .inr (.inr ⟨rfl, m, x, h, hx, rfl⟩)
  · omega
theorem HexI.lt {a b : UInt8} {t m : Nat} (h : HexI a b t m) (ht : t < 2) : m < 16 := by
  rcases h with ⟨rfl, rfl⟩ | ⟨rfl, h⟩ | ⟨rfl, _⟩
  · decide
  · exact undig_lt h
  · omega
theorem HexI.fail {a b : UInt8} {t m : Nat} (_ : HexI a b t m) (hx : undigB (if t = 0 then a else b) = none) (r : List UInt8) : textL (37 :: a :: b :: r) = none := by
  rw [textL_esc3]
  by_cases h0 : t = 0
  · rw [if_pos h0] at hx; rw [hx]
  · rw [if_neg h0] at hx; rw [hx]; cases undigB a <;> rfl
theorem word_last (o : List UInt8) (h : o ≠ []) (p : List UInt8) : wordL o ≠ p ++ [37] := by
  obtain ⟨m, c, rfl⟩ : ∃ m c, o = m ++ [c] := ⟨o.dropLast, o.getLast h, (List.dropLast_concat_getLast h).symm⟩
  intro e
  have e1 : wordL (m ++ [c]) = wordL m ++ word1 c := by unfold wordL; simp
  rw [e1] at e
  have hd : ∀ n, n < 16 → digB n ≠ 37 := by decide
  unfold word1 at e
  split at e
  · rename_i hp
    have := (List.append_inj' e rfl).2
    injection this with h1
    exact plain_not c hp h1
  · have e3 : wordL m ++ [37, digB (c.toNat / 16), digB (c.toNat % 16)] = (wordL m ++ [37, digB (c.toNat / 16)]) ++ [digB (c.toNat % 16)] := by simp
    rw [e3] at e
    have := (List.append_inj' e rfl).2
    injection this with h1
    exact hd _ (Nat.mod_lt _ (by decide)) h1
/-- a lone '%' at the end -/
theorem text_lone {l o p : List UInt8} (h : textL l = some o) (hl : l = p ++ [37]) (hne : l ≠ [37]) : textT l = none := by
  unfold textT
  rw [h]
  simp only
  rw [if_neg]
  intro e
  unfold wordT at e
  split at e
  · exact hne e.symm
  · rename_i ho
    exact word_last o ho p (e.trans hl)
def textOkB (l : List UInt8) : Bool := (textT l).isSome
theorem textB_none {l : List UInt8} (h : textT l = none) : textOkB l = false := by unfold textOkB; rw [h]; rfl
theorem textB_some {l t : List UInt8} (h : textT l = some t) : textA l = ⟨t.toArray⟩ ∧ textOkB l = true := by unfold textA textOkB; rw [h]; exact ⟨rfl, rfl⟩

set_option maxHeartbeats 8000000 in
set_option maxRecDepth 100000 in
theorem refText_any (s : ByteArray) (hs : s.size ≤ 100000) (w : World) :
    Calls Tryz.prog 11 #[.string s] w fun e w' => (∃ t, e = .returned (.tuple #[.string t, .bool (textOkB s.data.toList)]) ∧ (textOkB s.data.toList = true → t = textA s.data.toList)) ∧ Below w.heap.size w w' := by
  obtain ⟨i0, hi0, hz0, hz1, hz2⟩ := info_parts info_byteT
  have HI0 := hid hi0; have HZ0 := hid hz0; have HZ1 := hid hz1; have HZ2 := hid hz2
  clear hi0 hz0 hz1 hz2
  have HL := hid (show s.data.toList.length = s.size by simp)
  by_cases hpc : s.data.toList = [37]
  · have hq : (s.toList == [37]) = true := by rw [ByteArray.toList_eq, hpc]; rfl
    have hA : textT s.data.toList = some [] := by rw [hpc]; rfl
    have HA := hid (textB_some hA)
    clear hA hpc
    go_enter Tryz.func11, Tryz.ntmps11
    go_wp2_with fail
    go_ret2
    rw [HA.out.1, HA.out.2]
    exact ⟨⟨_, rfl, fun _ => rfl⟩, Below.refl _ _⟩
  have hq : (s.toList == [37]) = false := by rw [beq_eq_false_iff_ne, ByteArray.toList_eq]; exact hpc
  have HPC := hid hpc; clear hpc
  have HA0 := hid (And.intro (ownsRowF_empty28 w 5 1) (below_alloc w (.cells #[] 5)))
  go_enter Tryz.func11, Tryz.ntmps11
  go_wp2_with fail
  go_loopg [4, 5] s.size (fun g V iv wx => ∃ (o : List UInt8) (i : Nat), s.size - i ≤ g ∧ iv = .int .i64 i ∧ i ≤ s.size ∧ Hid (TextI s.data.toList o (s.data.toList.drop i) ∧ RowI w wx V o))
  case atStart => exact ⟨[], 0, by omega, rfl, by omega, ⟨by simp, by simp⟩, HA0.out.1, HA0.out.2, by simp [Value.ownBlock]⟩
  case round =>
    obtain ⟨o, i, hg, rfl, hi, HI⟩ := hrel
    by_cases hlt : i < s.size
    · obtain ⟨c, r, hl⟩ : ∃ c r, s.data.toList.drop i = c :: r := by
        cases h : s.data.toList.drop i with
        | nil =>
          exfalso
          have h1 := congrArg List.length h
          rw [List.length_drop, HL.out] at h1
          simp at h1; omega
        | cons c r => exact ⟨c, r, rfl⟩
      have hrl : i + r.length + 1 = s.size := by
        have h1 := congrArg List.length hl
        rw [List.length_drop, HL.out] at h1
        simp at h1; omega
      have hgd : ∀ j, s.data.toList.getD (i + j) 0 = (c :: r).getD j 0 := fun j => by
        rw [← hl, List.getD_eq_getElem?_getD, List.getD_eq_getElem?_getD, List.getElem?_drop]
      have hdr : ∀ j, s.data.toList.drop (i + j) = (c :: r).drop j := fun j => by rw [← hl, List.drop_drop]
      have hc0 : s[i]'hlt = c := by rw [← data_getD s i hlt]; exact hgd 0
      have HI2 : Hid (TextI s.data.toList o (c :: r)) := by have := HI.out.1; rw [hl] at this; exact this
      have HGD := hid hgd; have HDR := hid hdr
      clear hl hgd hdr
      by_cases h37 : c = 37
      · have hq : (((s[i]'hlt).toNat : Int) != 37) = false := by rw [hc0, h37]; rfl
        subst h37
        clear hc0
        by_cases hend : s.size ≤ i + 2
        · have hA : textT s.data.toList = none := by
            cases r with
            | nil =>
              refine text_lone (TextI.done HI2.out rfl) (p := s.data.toList.take i) ?_ HPC.out
              have := HDR.out 0
              rw [Nat.add_zero, List.drop_zero] at this
              rw [← this, List.take_append_drop]
            | cons a r =>
              cases r with
              | nil => exact HI2.out.none (textL_esc2 a)
              | cons b r => simp only [List.length_cons] at hrl; omega
          have HB := hid (textB_none hA)
          have he : (s.size : Int) ≤ (i : Int) + 2 := by omega
          clear hA hend hrl
          go_wp2_with fail
          go_ret2
          rw [HB.out]
          exact ⟨⟨_, rfl, fun h => by cases h⟩, HI.out.2.2.1⟩
        · obtain ⟨a, b, r, rfl⟩ : ∃ a b r', r = a :: b :: r' := by
            cases r with
            | nil => simp at hrl; omega
            | cons a r =>
              cases r with
              | nil => simp at hrl; omega
              | cons b r => exact ⟨a, b, r, rfl⟩
          have he : ¬ (s.size : Int) ≤ (i : Int) + 2 := by omega
          go_wp2_with fail
          go_loopg [6, 7] 2 (fun gg n kk wx => ∃ (t m j : Nat), t + gg = 2 ∧ n = .int .i64 m ∧ kk = .int .i64 j ∧ j = i + 1 + t ∧ Hid (HexI a b t m) ∧ wr = wx)
          case atStart => exact ⟨0, 0, i + 1, by omega, rfl, by go_num, by omega, hid (.inl ⟨rfl, rfl⟩), rfl⟩
          case round =>
            obtain ⟨t, m, j, ht, rfl, rfl, hj0, HX, rfl⟩ := hrel
            have HJ := hid hj0
            have hj := HJ.out
            clear hj0
            by_cases ht2 : t < 2
            · have hjs : j < s.size := by omega
              have hle : (j : Int) ≤ (i : Int) + 2 := by omega
              have hm := HX.out.lt ht2
              obtain ⟨e, hee⟩ : ∃ e, e = (if t = 0 then a else b) := ⟨_, rfl⟩
              have hse : s[j]'hjs = e := by
                rw [← data_getD s j hjs, hj, Nat.add_assoc, HGD.out (1 + t), hee]
                rcases (show t = 0 ∨ t = 1 by omega) with rfl | rfl <;> rfl
              have hrng := undig_rng e
              have h256 := e.toNat_lt
              obtain ⟨c, hc⟩ : ∃ c : Int, c = (e.toNat : Int) := ⟨_, rfl⟩
              have hcc : ((s[j]'hjs).toNat : Int) = c := by rw [hse, hc]
              have hc1 : 0 ≤ c := by omega
              have hc2 : c ≤ 255 := by omega
              have NO : undigB e = none → Hid (textOkB s.data.toList = false) := fun h => by
                apply textB_none
                refine HI2.out.none ?_
                exact HX.out.fail (by rw [← hee]; exact h) r
              have YES : ∀ x, undigB e = some x → Hid (HexI a b (t + 1) (16 * m + x)) := fun x h => HX.out.step ht2 (by rw [← hee]; exact h)
              rcases (show (c < 48) ∨ (48 ≤ c ∧ c ≤ 57) ∨ (57 < c ∧ c < 97) ∨ (97 ≤ c ∧ c ≤ 102) ∨ 102 < c by omega) with h | ⟨h, h2⟩ | ⟨h, h2⟩ | ⟨h, h2⟩ | h
              · have hN := NO (by rw [hrng, if_neg (by omega), if_neg (by omega)])
                have x1 : ¬ (48 : Int) ≤ c := by omega
                have x2 : ¬ (97 : Int) ≤ c := by omega
                clear NO YES hrng hse hc hee h256 hj
                go_wp2_with fail
                go_ret2
                rw [hN.out]
                exact ⟨⟨_, rfl, fun h => by cases h⟩, HI.out.2.2.1⟩
              · obtain ⟨x, hx⟩ : ∃ x : Nat, c = (x : Int) + 48 := ⟨e.toNat - 48, by omega⟩
                have hY := YES x (by rw [hrng, if_pos (by omega)]; congr 1; omega)
                have HXC := hid hx
                clear hx
                clear NO YES hrng hse hc hee h256 hj
                go_wp2_with fail
                go_roundg (1 - t)
                case measure => omega
                case rel => exact ⟨t + 1, 16 * m + x, j + 1, by omega, congrArg (Value.int .i64) (by have := HXC.out; omega), by go_num, by have := HJ.out; omega, hY, rfl⟩
              · have hN := NO (by rw [hrng, if_neg (by omega), if_neg (by omega)])
                have x1 : (48 : Int) ≤ c := by omega
                have x3 : ¬ c ≤ 57 := by omega
                have x2 : ¬ (97 : Int) ≤ c := by omega
                clear NO YES hrng hse hc hee h256 hj
                go_wp2_with fail
                go_ret2
                rw [hN.out]
                exact ⟨⟨_, rfl, fun h => by cases h⟩, HI.out.2.2.1⟩
              · obtain ⟨x, hx⟩ : ∃ x : Nat, c = (x : Int) + 87 := ⟨e.toNat - 87, by omega⟩
                have hY := YES x (by rw [hrng, if_neg (by omega), if_pos (by omega)]; congr 1; omega)
                have HXC := hid hx
                clear hx
                have x1 : (48 : Int) ≤ c := by omega
                have x3 : ¬ c ≤ 57 := by omega
                clear NO YES hrng hse hc hee h256 hj
                go_wp2_with fail
                go_roundg (1 - t)
                case measure => omega
                case rel => exact ⟨t + 1, 16 * m + x, j + 1, by omega, congrArg (Value.int .i64) (by have := HXC.out; omega), by go_num, by have := HJ.out; omega, hY, rfl⟩
              · have hN := NO (by rw [hrng, if_neg (by omega), if_neg (by omega)])
                have x1 : (48 : Int) ≤ c := by omega
                have x3 : ¬ c ≤ 57 := by omega
                have x2 : (97 : Int) ≤ c := by omega
                have x4 : ¬ c ≤ 102 := by omega
                clear NO YES hrng hse hc hee h256 hj
                go_wp2_with fail
                go_ret2
                rw [hN.out]
                exact ⟨⟨_, rfl, fun h => by cases h⟩, HI.out.2.2.1⟩
            · have ht3 : t = 2 := by omega
              subst ht3
              obtain ⟨x, y, hx, hy, hm⟩ : ∃ x y, undigB a = some x ∧ undigB b = some y ∧ m = 16 * x + y := by
                rcases HX.out with ⟨h, _⟩ | ⟨h, _⟩ | ⟨_, h⟩
                · cases h
                · cases h
                · exact h
              have hx16 := undig_lt hx
              have hy16 := undig_lt hy
              have hm256 : m < 256 := by omega
              have hE : Hid (TextI s.data.toList (o ++ [UInt8.ofNat (16 * x + y)]) r) := HI2.out.esc hx hy
              have hnle : ¬ (j : Int) ≤ (i : Int) + 2 := by omega
              have hmw : (m : Int) = ((UInt8.ofNat (16 * x + y)).toNat : Int) := by
                have hq : (UInt8.ofNat (16 * x + y)).toNat = (16 * x + y) % 256 := by simp
                rw [hq]; omega
              have HMW := hid hmw
              obtain ⟨z, hz⟩ : ∃ z, z = UInt8.ofNat (16 * x + y) := ⟨_, rfl⟩
              rw [← hz] at hE HMW
              clear hx hy hm hmw hz hx16 hy16 hj
              have hol : o.length + 1 ≤ 100000 := by
                have := HI2.out.2
                simp only [List.length_cons] at this
                have := HL.out
                omega
              have HOL := hid hol; clear hol
              go_wp2_with (with_reducible refine at_op (.call { callee := .builtin .append, args := #[.tmp 68, .tmp 71], argTypes := #[64, 64] }) rfl ?_; refine Stopped.go ?_)
              refine Stopped.mk (wpList_append_one rfl (.tmp 68) (.tmp 71) 64 5 rfl i0 _ 1 1 Tryz.underlying64 HI0.out HZ0.out HZ1.out HZ2.out rfl (by decide) u4 o.length _ rfl wr #[.int .u8 (m : Int)] rfl HI.out.2.1 wr.heap.size rfl 1 rfl rfl (by simp [Value.oneCell']) (by have := HOL.out; simp only [maxLen]; omega) (by have := HOL.out; omega) ?_)
              intro V' w2 hown2 hk2 hv2
              have HN : Hid (TextI s.data.toList (o ++ [z]) (s.data.toList.drop (i + 3)) ∧ RowI w w2 V' (o ++ [z])) := by
                refine ⟨by rw [HDR.out 3]; exact hE.out, RowI.next HI.out.2 HMW.out hown2 hk2 hv2⟩
              clear hown2 hk2 hv2 hE HI HI2
              go_wp2_with fail
              go_roundg (s.size - (i + 3))
              case measure => omega
              case rel => exact ⟨o ++ [z], i + 3, by omega, congrArg (Value.int .i64) (by omega), by omega, HN.out⟩
      · have hq : (((s[i]'hlt).toNat : Int) != 37) = true := by
          rw [hc0, bne_iff_ne]
          intro e
          apply h37
          rw [← UInt8.toNat_inj]
          have : (37 : UInt8).toNat = 37 := rfl
          omega
        have HC0 := hid hc0; clear hc0
        have hol : o.length + 1 ≤ 100000 := by
          have := HI2.out.2
          simp only [List.length_cons] at this
          have := HL.out
          omega
        have HOL := hid hol; clear hol
        go_wp2_with (with_reducible refine at_op (.call { callee := .builtin .append, args := #[.tmp 22, .tmp 26], argTypes := #[64, 64] }) rfl ?_; refine Stopped.go ?_)
        refine Stopped.mk (wpList_append_one rfl (.tmp 22) (.tmp 26) 64 5 rfl i0 _ 1 1 Tryz.underlying64 HI0.out HZ0.out HZ1.out HZ2.out rfl (by decide) u4 o.length _ rfl wr #[.int .u8 _] rfl HI.out.2.1 wr.heap.size rfl 1 rfl rfl (by simp [Value.oneCell']) (by have := HOL.out; simp only [maxLen]; omega) (by have := HOL.out; omega) ?_)
        intro V' w2 hown2 hk2 hv2
        have HN : Hid (TextI s.data.toList (o ++ [c]) (s.data.toList.drop (i + 1)) ∧ RowI w w2 V' (o ++ [c])) := by
          refine ⟨by rw [HDR.out 1]; exact HI2.out.plain h37, RowI.next (x := _) HI.out.2 (by rw [← HC0.out]) hown2 hk2 hv2⟩
        clear hown2 hk2 hv2 hq HI
        go_wp2_with fail
        go_roundg (gk - 1)
        case measure => omega
        case rel => exact ⟨o ++ [c], i + 1, by omega, by go_num, by omega, HN.out⟩
    · have hdone : textL s.data.toList = some o := by
        refine TextI.done HI.out.1 ?_
        rw [List.drop_eq_nil_of_le (by rw [HL.out]; omega)]; rfl
      have hol : o.length ≤ 100000 := by
        have := HI.out.1.2
        have := HL.out
        omega
      have HD := hid hdone
      obtain ⟨A, cap, rfl, hrow⟩ := ownsRowF_row HI.out.2.1
      have HROW := hid hrow
      clear hdone hrow
      obtain ⟨N, hN⟩ : ∃ N, N = o.length := ⟨_, rfl⟩
      obtain ⟨O, hO⟩ : ∃ O : ByteArray, O = ⟨o.toArray⟩ := ⟨_, rfl⟩
      have hcv : ∀ (dd : Nat) (os : Array Obj), (convert 64 9 (.slice A N cap)).run Tryz.prog (grow (redrawn wr dd) os) = .ok (.string O) (grow (redrawn wr dd) os) := fun dd os => by
        rw [hO]
        exact conv_row _ _ 5 A N cap o hN Tryz.underlying64 Tryz.underlying5 Tryz.underlying9 (HROW.out.below (below_regrown wr dd os))
      rw [← hN]
      have HB := hid HI.out.2.2.1
      by_cases h0 : N = 0
      · have ho : o = [] := List.eq_nil_of_length_eq_zero (by rw [← hN]; exact h0)
        have hA : textT s.data.toList = none := by
          unfold textT; rw [HD.out]
          simp only
          rw [if_neg (fun e => HPC.out (by rw [← e, ho]; rfl))]
        have HNO := hid (textB_none hA)
        have hd : decide ((0 : Int) < (N : Int)) = false := by rw [decide_eq_false_iff_not]; omega
        have hd2 : decide (0 < N) = false := by rw [decide_eq_false_iff_not]; omega
        clear hA ho h0 hN hO HI HROW HD
        go_upto_region 23 with fail
        refine wp_region_quiet_below (by kernel_rfl) (by kernel_rfl) ?_
        repeat (go_big_quiet_step (fail))
        refine wpQuiet_nil ?_
        intro _ hw'
        obtain ⟨⟨dq, osq⟩, hw''⟩ := hw'
        subst hw''
        clear hcv
        go_wp2_with fail
        go_ret2
        rw [HNO.out]
        exact ⟨⟨_, rfl, fun h => by cases h⟩, bt HB.out (below_regrown wr dq osq)⟩
      · have hd : decide ((0 : Int) < (N : Int)) = true := by rw [decide_eq_true_iff]; omega
        have hd2 : decide (0 < N) = true := by rw [decide_eq_true_iff]; omega
        have hOl : O.data.toList = o := by rw [hO]
        have hOs : O.size ≤ 1000000 := by
          have e : O.data.toList.length = O.size := by simp
          rw [hOl] at e; omega
        have F1 := fun (dd : Nat) (os : Array Obj) => refWord_any O hOs (grow (redrawn wr dd) os)
        obtain ⟨X, hX⟩ : ∃ X, X = wB O.data.toList := ⟨_, rfl⟩
        rw [← hX] at F1
        have E1 := hid F1
        have hXd : X.data.toList = wordT o := by rw [hX, hOl]; rfl
        obtain ⟨q, hq2⟩ : ∃ q, q = (X.toList == s.toList) := ⟨_, rfl⟩
        have HQ := hid hq2
        have HR : Hid (textOkB s.data.toList = q ∧ (q = true → O = textA s.data.toList)) := by
          by_cases he : wordT o = s.data.toList
          · have hA : textT s.data.toList = some o := by
              unfold textT; rw [HD.out]
              simp only
              rw [if_pos he]
            have hq3 : q = true := by rw [hq2, ByteArray.toList_eq, ByteArray.toList_eq, hXd, he]; simp
            rw [hq3, (textB_some hA).2, (textB_some hA).1]
            exact ⟨rfl, fun _ => hO⟩
          · have hA : textT s.data.toList = none := by
              unfold textT; rw [HD.out]
              simp only
              rw [if_neg he]
            have hq3 : q = false := by rw [hq2, beq_eq_false_iff_ne, ByteArray.toList_eq, ByteArray.toList_eq, hXd]; exact he
            rw [hq3, textB_none hA]
            exact ⟨rfl, fun h => by cases h⟩
        clear F1 hX hXd hq2 hOl hOs hN hO h0 HI HROW HD
        go_upto_region 23 with fail
        refine wp_region_quiet_below (by kernel_rfl) (by kernel_rfl) ?_
        repeat (go_big_quiet_step (first
          | with_reducible exact Calls.regrown_of (E1.out _ _)))
        refine wpQuiet_nil ?_
        intro _ hw'
        obtain ⟨⟨dq, osq⟩, hw''⟩ := hw'
        subst hw''
        clear hcv E1
        rw [← HQ.out]
        go_wp2_with fail
        go_ret2
        rw [HR.out.1]
        exact ⟨⟨_, rfl, HR.out.2⟩, bt HB.out (below_regrown wr dq osq)⟩
end Go.Proofs.YthhmdmfbaooldaaGreatDoor
