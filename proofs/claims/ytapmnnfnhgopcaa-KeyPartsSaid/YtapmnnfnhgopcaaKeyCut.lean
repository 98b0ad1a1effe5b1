/-
  Range.Cut, walked.
-/
import Derived.Test.YtapmnnfnhgopcaaKeyMeet
import Derived.Test.YtapmnnfnhgopcaaAppend
namespace Go.Proofs.Ytapmnnfnhgopcaa
open Go.RowKit

/-- the parts ahead of the pivots -/
def cutN (lo hi : ByteArray) (ps : List ByteArray) (i : Nat) : List (ByteArray × ByteArray) :=
  (List.range i).map fun k => (meetLo lo hi ((⟨#[]⟩ :: ps).getD k ⟨#[]⟩) (ps.getD k ⟨#[]⟩), meetHi lo hi ((⟨#[]⟩ :: ps).getD k ⟨#[]⟩) (ps.getD k ⟨#[]⟩))
def cutK (lo hi : ByteArray) (ps : List ByteArray) : List (ByteArray × ByteArray) :=
  if ps = [] then [(lo, hi)] else cutN lo hi ps ps.length ++ [(meetLo lo hi ((⟨#[]⟩ :: ps).getD ps.length ⟨#[]⟩) ⟨#[]⟩, meetHi lo hi ((⟨#[]⟩ :: ps).getD ps.length ⟨#[]⟩) ⟨#[]⟩)]
def rcells (l : List (ByteArray × ByteArray)) : List Value := l.flatMap fun r => [.string r.1, .string r.2]
theorem rcells_snoc (l : List (ByteArray × ByteArray)) (a b : ByteArray) : rcells (l ++ [(a, b)]) = rcells l ++ [.string a, .string b] := by simp [rcells]
theorem rcells_length (l : List (ByteArray × ByteArray)) : (rcells l).length = l.length * 2 := by
  induction l with
  | nil => rfl
  | cons x l ih => simp only [rcells, List.flatMap_cons, List.length_append, List.length_cons, List.length_nil] at *; omega
theorem cutN_length (lo hi : ByteArray) (ps : List ByteArray) (i : Nat) : (cutN lo hi ps i).length = i := by simp [cutN]
theorem cutN_succ (lo hi : ByteArray) (ps : List ByteArray) (k : Nat) : cutN lo hi ps (k + 1) = cutN lo hi ps k ++ [(meetLo lo hi ((⟨#[]⟩ :: ps).getD k ⟨#[]⟩) (ps.getD k ⟨#[]⟩), meetHi lo hi ((⟨#[]⟩ :: ps).getD k ⟨#[]⟩) (ps.getD k ⟨#[]⟩))] := by
  simp [cutN, List.range_succ]

theorem rcells_at : ∀ (l : List (ByteArray × ByteArray)) (i : Nat) (r : ByteArray × ByteArray), l[i]? = some r → (rcells l)[i * 2]? = some (.string r.1) ∧ (rcells l)[i * 2 + 1]? = some (.string r.2)
  | x :: l, 0, r, h => by
    simp only [List.getElem?_cons_zero, Option.some.injEq] at h
    subst h
    exact ⟨rfl, rfl⟩
  | x :: l, i + 1, r, h => by
    have := rcells_at l i r (by simpa using h)
    have e : rcells (x :: l) = .string x.1 :: .string x.2 :: rcells l := rfl
    rw [e, show (i + 1) * 2 = i * 2 + 1 + 1 by omega, List.getElem?_cons_succ, List.getElem?_cons_succ, List.getElem?_cons_succ, List.getElem?_cons_succ]
    exact this

theorem info_range : (Try.prog.info? 58).map (fun i => (i.zero, i.size, i.bytes)) = some (some (.agg #[.string ⟨#[]⟩, .string ⟨#[]⟩]), 2, 32) := by kernel_rfl

set_option maxHeartbeats 8000000 in
set_option maxRecDepth 100000 in
theorem key_Cut_any (lo hi : ByteArray) (A : Option Addr) (cap : Nat) (ps : List ByteArray) (w : World) (hr : Row w A (strs ps)) (hn : ps.length ≤ 20) :
    Calls Try.prog 38 #[.agg #[.string lo, .string hi], .slice A ps.length cap] w fun e w' =>
      ∃ A' cap', e = .returned (.slice A' (cutK lo hi ps).length cap') ∧ Row w' A' (rcells (cutK lo hi ps)) ∧ Below w.heap.size w w' := by
  have hu := Try.underlying58
  have hu2 := Try.underlying60
  obtain ⟨i0, hi0, hz0, hz1, hz2⟩ := info_parts info_range
  have HI0 := hid hi0; have HZ0 := hid hz0; have HZ1 := hid hz1; have HZ2 := hid hz2; have HU2 := hid hu2
  clear hi0 hz0 hz1 hz2 hu2
  have HR := hid hr; clear hr
  go_enter Try.func38, Try.ntmps38
  go_wp2_with (with_reducible refine at_op (.box 58 (.tmp 0)) rfl ?_; refine Stopped.go ?_)
  refine Stopped.mk (wpList_box rfl #[.string lo, .string hi] 58 (by go_simp) ?_)
  intro gb w1 hg hB hb hz
  have c0 : w1.cell? ⟨gb, 0, none⟩ = some (.string lo) := hB.at rfl
  have c1 : w1.cell? ⟨gb, 1, none⟩ = some (.string hi) := hB.at rfl
  have HB := hid hB
  clear hg hB hz
  have hadd : IntKind.i64.wrap ((ps.length : Int) + 1) = ((ps.length + 1 : Nat) : Int) := by rw [IntKind.wrap_i64]; omega
  go_wp2_with (with_reducible refine at_op (.makeSlice 60 (.const (.int .i64 0)) (.tmp 14)) rfl ?_; refine Stopped.go ?_)
  refine Stopped.mk (wpList_make_0 rfl _ _ _ rfl 58 i0 _ 2 32 HU2.out HI0.out HZ0.out HZ1.out HZ2.out rfl (by decide) .i64 .i64 ((ps.length + 1 : Nat) : Int) (ps.length + 1) rfl (by go_simp) rfl (by omega) (by simp only [maxLen]; omega) ?_)
  intro v0 w2 hown hb2 hv0
  have hgb := HB.out.lt
  have hv0' : ∀ k, v0.ownBlock = some k → w.heap.size ≤ k ∧ k ≠ gb := fun k hk => ⟨Nat.le_trans hb.size (hv0 k hk), by have := hv0 k hk; omega⟩
  have hbb := bt hb hb2
  have HOWN := hid hown; have HV0 := hid hv0'; have HBB := hid hbb
  have HB2 := hid (HB.out.belowS hb2)
  clear hown hv0 hv0' hbb hb2 hb c0 c1 HB hgb
  go_wp2_with fail
  go_loopg [6, 7, 18] ps.length (fun g V lo1 j wx => ∃ (i : Nat) (p : ByteArray), i + g = ps.length ∧ lo1 = .string p ∧ j = .int .i64 i ∧
    Hid (p = (⟨#[]⟩ :: ps).getD i ⟨#[]⟩ ∧ wx.ownsRowF 0 58 2 V i (rcells (cutN lo hi ps i)) ∧ Below w.heap.size w wx ∧ (∀ k, V.ownBlock = some k → w.heap.size ≤ k ∧ k ≠ gb) ∧ Blk wx gb 58 [.string lo, .string hi]))
  case atStart => exact ⟨0, _, by omega, rfl, rfl, rfl, HOWN.out, HBB.out, HV0.out, HB2.out⟩
  case round =>
    obtain ⟨i, p, hi', rfl, rfl, HI⟩ := hrel
    by_cases hlt : i < ps.length
    · obtain ⟨b, off, rfl, hb, hc⟩ := row_cell HR.out (by intro e; have := congrArg List.length e; simp [strs] at this; subst this; exact absurd hlt (by simp))
      have hcell := hc i (.string ps[i]) (by simp [strs, hlt])
      rw [← HI.out.2.2.1.cell (p := ⟨b, off + i, none⟩) hb] at hcell
      obtain ⟨q, hq⟩ : ∃ q, q = ps.getD i ⟨#[]⟩ := ⟨_, rfl⟩
      rw [show ps[i] = q by rw [hq]; simp [List.getD_eq_getElem?_getD, hlt]] at hcell
      have HQ := hid hq
      clear hq hb hc
      go_wp2_with fail
      refine (key_Meet_any lo hi p q _).mono ?_; rintro e w3 ⟨rfl, hb3⟩
      obtain ⟨x, hx⟩ : ∃ x, x = meetLo lo hi p q := ⟨_, rfl⟩
      obtain ⟨y, hy⟩ : ∃ y, y = meetHi lo hi p q := ⟨_, rfl⟩
      rw [← hx, ← hy]
      have HX := hid hx; have HY := hid hy
      have HI3 := hid (show wr.ownsRowF 0 58 2 _ i _ ∧ Below wr.heap.size wr w3 from ⟨HI.out.2.1, hb3⟩)
      clear hx hy hb3 hcell
      go_wp2_with (with_reducible refine at_op (.call { callee := .builtin .append, args := #[.tmp 22, .tmp 28], argTypes := #[60, 60] }) rfl ?_; refine Stopped.go ?_)
      have hA := below_alloc w3 (.cells #[.string x, .string y] 58)
      have hN := Blk.new w3 #[.string x, .string y] 58
      have hown := ownsRowF_below (ownsRowF_below HI3.out.1 HI3.out.2) hA
      refine Stopped.mk (wpList_append_w rfl (.tmp 22) (.tmp 28) 60 58 rfl i0 _ 2 32 HU2.out HI0.out HZ0.out HZ1.out HZ2.out rfl (by decide) _ i _ rfl hown ⟨w3.heap.size, 0, none⟩ 1 1 [.string x, .string y] rfl rfl ?_ ?_ ?_ ?_ ?_)
      · intro j u hj
        rw [add_at]
        exact hN.at hj
      · intro u hu'
        simp only [List.mem_cons, List.not_mem_nil, or_false] at hu'
        rcases hu' with rfl | rfl <;> simp [Value.oneCell']
      · simp only [maxLen]; omega
      · omega
      intro V' w5 hown' hgr hvb
      have hbel := bt (bt HI.out.2.2.1 HI3.out.2) hA
      have HI5 := hid (show w5.ownsRowF 0 58 2 V' (i + 1) _ ∧ Below w.heap.size w w5 ∧ (∀ k, V'.ownBlock = some k → w.heap.size ≤ k ∧ k ≠ gb) ∧ Blk w5 gb 58 [.string lo, .string hi] from
        ⟨hown', grownBy_below hbel hgr (fun k hk => (HI.out.2.2.2.1 k hk).1), fun k hk => by
          rcases hvb k hk with h | h
          · exact HI.out.2.2.2.1 k h
          · refine ⟨Nat.le_trans hbel.size h, ?_⟩
            have := ((HI.out.2.2.2.2.belowS HI3.out.2).belowS hA).lt
            omega, grownBy_blk ((HI.out.2.2.2.2.belowS HI3.out.2).belowS hA) hgr (fun e => (HI.out.2.2.2.1 gb e).2 rfl)⟩)
      clear hA hN hown hown' hgr hvb hbel
      go_wp2_with fail
      go_roundg (ps.length - (i + 1))
      case measure => omega
      case rel =>
        refine ⟨i + 1, q, by omega, rfl, by go_num, ?_, ?_, HI5.out.2.1, HI5.out.2.2.1, ?_⟩
        · rw [List.getD_cons_succ]; exact HQ.out
        · rw [cutN_succ, rcells_snoc]
          have := HI5.out.1
          rw [HX.out, HY.out, HI.out.1, HQ.out] at this
          exact this
        · exact HI5.out.2.2.2
    · have hin : i = ps.length := by omega
      subst hin
      by_cases h0 : (ps.length : Int) = 0
      · have e0 : ps = [] := List.length_eq_zero_iff.1 (by omega)
        subst e0
        have c0 := HI.out.2.2.2.2.at (i := 0) rfl
        have c1 := HI.out.2.2.2.2.at (i := 1) rfl
        go_wp2_with (with_reducible refine at_op (.call { callee := .builtin .append, args := #[.tmp 35, .tmp 37], argTypes := #[60, 60] }) rfl ?_; refine Stopped.go ?_)
        have hA := below_alloc wr (.cells #[.string lo, .string hi] 58)
        have hN := Blk.new wr #[.string lo, .string hi] 58
        have hown := ownsRowF_below HI.out.2.1 hA
        refine Stopped.mk (wpList_append_w rfl _ _ 60 58 rfl i0 _ 2 32 HU2.out HI0.out HZ0.out HZ1.out HZ2.out rfl (by decide) _ _ _ rfl hown ⟨wr.heap.size, 0, none⟩ 1 1 [.string lo, .string hi] rfl rfl ?_ ?_ ?_ ?_ ?_)
        · intro j u hj
          rw [add_at]
          exact hN.at hj
        · intro u hu'
          simp only [List.mem_cons, List.not_mem_nil, or_false] at hu'
          rcases hu' with rfl | rfl <;> simp [Value.oneCell']
        · simp [maxLen]
        · simp
        intro V' w5 hown' hgr hvb
        have hbel := grownBy_below (bt HI.out.2.2.1 hA) hgr (fun k hk => (HI.out.2.2.2.1 k hk).1)
        have HO := hid hown'; have HE := hid hbel
        clear hA hN hown hown' hgr hvb hbel c0 c1
        go_wp2_with fail
        go_ret
        obtain ⟨A', cap', rfl, hrow⟩ := ownsRowF_row HO.out
        exact ⟨A', cap', rfl, hrow, HE.out⟩
      · go_wp2_with fail
        refine (key_Meet_any lo hi p ⟨#[]⟩ _).mono ?_; rintro e w3 ⟨rfl, hb3⟩
        obtain ⟨x, hx⟩ : ∃ x, x = meetLo lo hi p ⟨#[]⟩ := ⟨_, rfl⟩
        obtain ⟨y, hy⟩ : ∃ y, y = meetHi lo hi p ⟨#[]⟩ := ⟨_, rfl⟩
        rw [← hx, ← hy]
        have HX := hid hx; have HY := hid hy
        have HI3 := hid (show wr.ownsRowF 0 58 2 _ ps.length _ ∧ Below wr.heap.size wr w3 from ⟨HI.out.2.1, hb3⟩)
        clear hx hy hb3
        go_wp2_with (with_reducible refine at_op (.call { callee := .builtin .append, args := #[.tmp 39, .tmp 44], argTypes := #[60, 60] }) rfl ?_; refine Stopped.go ?_)
        have hA := below_alloc w3 (.cells #[.string x, .string y] 58)
        have hN := Blk.new w3 #[.string x, .string y] 58
        have hown := ownsRowF_below (ownsRowF_below HI3.out.1 HI3.out.2) hA
        refine Stopped.mk (wpList_append_w rfl _ _ 60 58 rfl i0 _ 2 32 HU2.out HI0.out HZ0.out HZ1.out HZ2.out rfl (by decide) _ ps.length _ rfl hown ⟨w3.heap.size, 0, none⟩ 1 1 [.string x, .string y] rfl rfl ?_ ?_ ?_ ?_ ?_)
        · intro j u hj
          rw [add_at]
          exact hN.at hj
        · intro u hu'
          simp only [List.mem_cons, List.not_mem_nil, or_false] at hu'
          rcases hu' with rfl | rfl <;> simp [Value.oneCell']
        · simp only [maxLen]; omega
        · omega
        intro V' w5 hown' hgr hvb
        have hbel := grownBy_below (bt (bt HI.out.2.2.1 HI3.out.2) hA) hgr (fun k hk => (HI.out.2.2.2.1 k hk).1)
        have HO := hid hown'; have HE := hid hbel
        clear hA hN hown hown' hgr hvb hbel
        go_wp2_with fail
        go_ret
        have hc : cutK lo hi ps = cutN lo hi ps ps.length ++ [(x, y)] := by
          unfold cutK
          rw [if_neg (by intro e; subst e; simp at h0), HX.out, HY.out, HI.out.1]
        obtain ⟨A', cap', rfl, hrow⟩ := ownsRowF_row HO.out
        refine ⟨A', cap', ?_, ?_, HE.out⟩
        · rw [hc, List.length_append, cutN_length]; rfl
        · rw [hc, rcells_snoc]; exact hrow
end Go.Proofs.Ytapmnnfnhgopcaa
