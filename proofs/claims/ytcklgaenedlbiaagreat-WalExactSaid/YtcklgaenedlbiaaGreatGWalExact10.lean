/-
  How many of the messages fit one text.
  Messages parted: as many in each as fit.
-/
import Derived.Test.YtcklgaenedlbiaaGreatGWalExact09

namespace Go.Proofs.YtcklgaenedlbiaaGreat
open Go.RowKit

theorem drop_cons {l : List Msg3} {k : Nat} (h : k < l.length) : l.drop k = l[k] :: l.drop (k + 1) := List.drop_eq_getElem_cons h

set_option maxHeartbeats 4000000 in
set_option maxRecDepth 100000 in
theorem rec_fill_any (A : Option Addr) (cap : Nat) (l : List Msg3) (hlen : l.length ≤ 1000) (hsz : ∀ x ∈ l, x.2.1.size ≤ 1000 ∧ x.2.2.size ≤ 1000) (w : World) (hr : Row w A (l.flatMap msgCells)) :
    Calls Tryz.prog 81 #[.slice A l.length cap] w fun e w' => e = .returned (.int .i64 (fillF 1 l : Nat)) ∧ Below w.heap.size w w' := by
  have HR := hid hr; have HSZ := hid hsz; clear hr hsz
  obtain ⟨n, hn⟩ : ∃ n, n = fillF 1 l := ⟨_, rfl⟩
  rw [← hn]
  have HN := hid hn; clear hn
  go_enter Tryz.func81, Tryz.ntmps81
  go_wp2_with fail
  go_loopg [3, 4] l.length (fun g i s wx => ∃ (k t : Nat), k + g = l.length ∧ i = .int .i64 k ∧ s = .int .i64 t ∧ t ≤ 218 ∧ Hid (Below w.heap.size w wx ∧ n = k + fillF t (l.drop k)))
  case atStart => exact ⟨0, 1, by omega, rfl, rfl, by omega, Below.refl _ _, by rw [HN.out]; simp⟩
  case round =>
    obtain ⟨k, t, hk, rfl, rfl, ht, HB⟩ := hrel
    by_cases hlt : k < l.length
    · obtain ⟨b, off, rfl, hb, hc⟩ := row_cell HR.out (by intro e; have h := msg_at l k 0 l[k] (.int .i64 l[k].1) (by simp [hlt]) rfl; rw [e] at h; cases h)
      have hs1 := HSZ.out _ (List.getElem_mem hlt)
      have hd := HB.out.2
      rw [drop_cons hlt, fillF_cons] at hd
      obtain ⟨⟨K, kk, v⟩, hx⟩ : ∃ x, x = l[k] := ⟨_, rfl⟩
      have hxi : l[k]? = some (K, kk, v) := by rw [hx]; simp [hlt]
      rw [← hx] at hs1 hd
      have c0 := hc _ _ (msg_at l k 0 _ (.int .i64 K) hxi rfl)
      rw [← HB.out.1.cell (p := ⟨b, off + (k * 3 + 0), none⟩) hb, ← Nat.add_assoc, Nat.add_zero] at c0
      have c1 := hc _ _ (msg_at l k 1 _ (.string kk) hxi rfl)
      rw [← HB.out.1.cell (p := ⟨b, off + (k * 3 + 1), none⟩) hb, ← Nat.add_assoc] at c1
      have c2 := hc _ _ (msg_at l k 2 _ (.string v) hxi rfl)
      rw [← HB.out.1.cell (p := ⟨b, off + (k * 3 + 2), none⟩) hb, ← Nat.add_assoc] at c2
      clear hc hb hx hxi
      simp only at hs1
      obtain ⟨q, hq⟩ : ∃ q : Nat, q = t + wt (K, kk, v) := ⟨_, rfl⟩
      rw [← hq] at hd
      have hqq : q = t + (3 + kk.size + v.size) := hq
      have hw : IntKind.i64.wrap ((t : Int) + (3 + (kk.size : Int) + (v.size : Int))) = (q : Int) := by rw [IntKind.wrap_i64]; omega
      have HD := hid hd; have HQ := hid hqq
      have hm1 : kk.size ≤ 140737488351232 := by omega
      have hm2 : v.size ≤ 140737488351232 := by omega
      clear hd hq hqq
      go_wp2_with fail
      refine (msg_Weight_any K kk v hm1 hm2 _).mono ?_; rintro e w1 ⟨rfl, hb1⟩
      have HB1 := hid (bt HB.out.1 hb1)
      clear hb1 c0 c1 c2
      by_cases hg : 218 < q
      · have hg' : (218 : Int) < (q : Int) := by omega
        go_wp2_with fail
        go_ret
        have h := HD.out
        rw [if_pos hg] at h
        exact ⟨by rw [h]; rfl, HB1.out⟩
      · have hg' : ¬ (218 : Int) < (q : Int) := by omega
        go_wp2_with fail
        go_roundg (l.length - (k + 1))
        case measure => omega
        case rel =>
          have h := HD.out
          rw [if_neg hg] at h
          exact ⟨k + 1, q, by omega, by go_num, rfl, by omega, HB1.out, by omega⟩
    · go_wp2_with fail
      go_ret
      have h := HB.out.2
      rw [List.drop_eq_nil_of_le (by omega)] at h
      exact ⟨by rw [h]; rfl, HB.out.1⟩
end Go.Proofs.YtcklgaenedlbiaaGreat

namespace Go.Proofs.YtcklgaenedlbiaaGreat
open Go.RowKit

theorem isB_wt {x : Msg3} (h : isB x = true) : wt x ≤ 27 := by
  have h2 := msg_keysz h; have h3 := msg_valsz h
  simp only [wt]; omega
theorem g2_len : ∀ (l cur : List Msg3), (g2 cur l).length ≤ l.length + 1
  | [], cur => by simp only [g2]; split <;> simp
  | x :: l, cur => by
    rw [g2_cons]
    split
    · have := g2_len l [x]; simp only [List.length_cons]; omega
    · have := g2_len l (cur ++ [x]); simp only [List.length_cons]; omega
theorem fillF_pos {x : Msg3} {l : List Msg3} (h : wt x ≤ 217) : fillF 1 (x :: l) = fillF (1 + wt x) l + 1 := by
  rw [fillF_cons, if_neg (by omega), Nat.add_comm]
theorem g2_split {x : Msg3} {l : List Msg3} (h : wt x ≤ 217) : g2 [] (x :: l) = (x :: l).take (fillF 1 (x :: l)) :: g2 [] ((x :: l).drop (fillF 1 (x :: l))) := by
  rw [fillF_pos h, List.take_succ_cons, List.drop_succ_cons, g2_cons, if_neg (by simp), List.nil_append, g2_fill l [x] (by simp)]
  have e : 1 + sw [x] = 1 + wt x := by simp [sw]
  rw [e]
  rfl

/-- a cut of a row: the slice holds these messages -/
def Cut (w : World) (g : List Msg3) (c : Value) : Prop := ∃ (A : Option Addr) (cap : Nat), c = .slice A g.length cap ∧ g.length ≤ cap ∧ Row w A (g.flatMap msgCells)
def Cuts (w : World) (gs : List (List Msg3)) (cs : List Value) : Prop := cs.length = gs.length ∧ ∀ (i : Nat) (g : List Msg3), gs[i]? = some g → ∃ c, cs[i]? = some c ∧ Cut w g c
theorem Cut.below {w w' : World} {g : List Msg3} {c : Value} (h : Cut w g c) (hb : Below w.heap.size w w') : Cut w' g c := by
  obtain ⟨A, cap, h1, h2, h3⟩ := h
  exact ⟨A, cap, h1, h2, h3.below hb⟩
theorem Cuts.below {w w' : World} {gs : List (List Msg3)} {cs : List Value} (h : Cuts w gs cs) (hb : Below w.heap.size w w') : Cuts w' gs cs :=
  ⟨h.1, fun i g hg => by obtain ⟨c, h1, h2⟩ := h.2 i g hg; exact ⟨c, h1, h2.below hb⟩⟩
theorem Cuts.snoc {w : World} {gs : List (List Msg3)} {cs : List Value} (h : Cuts w gs cs) {g : List Msg3} {c : Value} (hc : Cut w g c) : Cuts w (gs ++ [g]) (cs ++ [c]) := by
  refine ⟨by simp [h.1], fun i x hx => ?_⟩
  rw [List.getElem?_append] at hx ⊢
  rw [h.1]
  split
  · rename_i hi
    rw [if_pos hi] at hx
    exact h.2 i x hx
  · rename_i hi
    rw [if_neg hi] at hx
    have : i - gs.length = 0 := by
      rcases Nat.eq_zero_or_pos (i - gs.length) with h | h
      · exact h
      · rw [List.getElem?_eq_none (by simp; omega)] at hx; cases hx
    rw [this] at hx ⊢
    simp only [List.getElem?_cons_zero, Option.some.injEq] at hx
    subst hx
    exact ⟨c, rfl, hc⟩
theorem flat_len (l : List Msg3) : (l.flatMap msgCells).length = l.length * 3 := by
  induction l with
  | nil => rfl
  | cons x l ih => rw [List.flatMap_cons, List.length_append, ih, List.length_cons]; simp [msgCells]; omega
theorem flat_take (l : List Msg3) (n : Nat) : (l.take n).flatMap msgCells = (l.flatMap msgCells).take (n * 3) := by
  by_cases h : n ≤ l.length
  · have e : l.flatMap msgCells = (l.take n).flatMap msgCells ++ (l.drop n).flatMap msgCells := by rw [← List.flatMap_append, List.take_append_drop]
    have hl : ((l.take n).flatMap msgCells).length = n * 3 := by rw [flat_len, List.length_take]; omega
    rw [e, ← hl, List.take_left']
    rfl
  · rw [List.take_of_length_le (by omega), List.take_of_length_le (by rw [flat_len]; omega)]
theorem flat_drop (l : List Msg3) (n : Nat) : (l.drop n).flatMap msgCells = (l.flatMap msgCells).drop (n * 3) := by
  by_cases h : n ≤ l.length
  · have e : l.flatMap msgCells = (l.take n).flatMap msgCells ++ (l.drop n).flatMap msgCells := by rw [← List.flatMap_append, List.take_append_drop]
    have hl : ((l.take n).flatMap msgCells).length = n * 3 := by rw [flat_len, List.length_take]; omega
    rw [e, ← hl, List.drop_left']
    rfl
  · rw [List.drop_of_length_le (by omega), List.drop_of_length_le (by rw [flat_len]; omega)]; rfl
theorem Row.drop {w : World} {b off : Nat} {vs : List Value} (h : Row w (some ⟨b, off, none⟩) vs) (n : Nat) : Row w (some ⟨b, off + n, none⟩) (vs.drop n) := by
  rcases h with rfl | ⟨b', off', h1, hlt, h⟩
  · exact .inl (by simp)
  · injection h1 with h1
    injection h1 with h1 h2 _
    subst h1 h2
    refine .inr ⟨b, off + n, rfl, hlt, fun i v hv => ?_⟩
    rw [List.getElem?_drop] at hv
    rw [Nat.add_assoc]
    exact h _ _ hv

theorem info_msgs : (Tryz.prog.info? 32).map (fun i => (i.zero, i.size, i.bytes)) = some (some (.slice none 0 0), 1, 24) := by kernel_rfl

def SplitI (w wx : World) (l : List Msg3) (k : Nat) (A : Option Addr) (v : Value) (done : List (List Msg3)) (cs : List Value) : Prop :=
  Row w A ((l.drop k).flatMap msgCells) ∧ Below w.heap.size w wx ∧ wx.ownsRowF 0 32 1 v done.length cs ∧ done ++ g2 [] (l.drop k) = g2 [] l ∧ Cuts w done cs ∧ ∀ b, v.ownBlock = some b → w.heap.size ≤ b

set_option maxHeartbeats 8000000 in
set_option maxRecDepth 100000 in
theorem rec_split_yes (A : Option Addr) (cap : Nat) (l : List Msg3) (hlen : l.length ≤ 1000) (hcap : l.length ≤ cap) (hall : ∀ x ∈ l, isB x = true) (w : World) (hr : Row w A (l.flatMap msgCells)) :
    Calls Tryz.prog 52 #[.slice A l.length cap] w fun e w' => ∃ v cs, e = .returned v ∧ w'.ownsRowF 0 32 1 v (g2 [] l).length cs ∧ Cuts w (g2 [] l) cs ∧ Below w.heap.size w w' := by
  obtain ⟨i0, hi0, hz0, hz1, hz2⟩ := info_parts info_msgs
  have HI0 := hid hi0; have HZ0 := hid hz0; have HZ1 := hid hz1; have HZ2 := hid hz2
  clear hi0 hz0 hz1 hz2
  have HR := hid hr; have HALL := hid hall; clear hr hall
  go_enter Tryz.func52, Tryz.ntmps52
  go_wp2_with fail
  go_loopg [0, 3] l.length (fun g x y wx => ∃ (k : Nat) (A' : Option Addr) (cap' : Nat) (done : List (List Msg3)) (cs : List Value), k + g = l.length ∧ g ≤ cap' ∧ x = .slice A' g cap' ∧ Hid (SplitI w wx l k A' y done cs))
  case atStart => exact ⟨0, A, cap, [], [], by omega, hcap, rfl, HR.out, Below.refl _ _, World.ownsRowF_nil _ _ _ _, rfl, ⟨rfl, by intro i g h; simp at h⟩, by intro b h; cases h⟩
  case round =>
    obtain ⟨k, A', cap', done, cs, hk, hmc, rfl, HS⟩ := hrel
    obtain ⟨m, hm⟩ : ∃ m, m = gk := ⟨_, rfl⟩
    rw [← hm] at hk hmc ⊢
    have HM := hid hm; clear hm
    by_cases hlt : k < l.length
    · have hpos : 0 < m := by omega
      have hdl : (l.drop k).length = m := by rw [List.length_drop]; omega
      obtain ⟨n, hn⟩ : ∃ n, n = fillF 1 (l.drop k) := ⟨_, rfl⟩
      have hcall := rec_fill_any A' cap' (l.drop k) (by omega) (fun x hx => by
        have hB := HALL.out x (List.mem_of_mem_drop hx)
        have h2 := msg_keysz hB; have h3 := msg_valsz hB
        exact ⟨by omega, by omega⟩) wr (HS.out.1.below HS.out.2.1)
      rw [hdl, ← hn] at hcall
      have hn1 : 1 ≤ n := by
        rw [hn, drop_cons hlt, fillF_pos (by have := isB_wt (HALL.out _ (List.getElem_mem hlt)); omega)]
        omega
      have hnm : n ≤ m := by rw [hn, ← hdl]; exact fillF_le _ _
      have HN := hid hn; have HC := hid hcall; have HDL := hid hdl
      clear hn hcall hdl
      obtain ⟨b, off, rfl, hb, hc⟩ := row_cell HS.out.1 (by intro e; have := congrArg List.length e; rw [flat_len, List.length_drop, List.length_nil] at this; omega)
      clear hb hc
      go_wp2_with fail
      refine HC.out.mono ?_; rintro e w1 ⟨rfl, hb1⟩
      have HB1 := hid hb1
      clear hb1
      go_wp2_with (with_reducible refine at_op (.call { callee := .builtin .append, args := #[.tmp 10, .tmp 14], argTypes := #[100, 100] }) rfl ?_; refine Stopped.go ?_)
      refine Stopped.mk ?_
      obtain ⟨s1, s2, s3, s4, s5, s6⟩ := HS.out
      have hdn : done.length ≤ 1001 := by
        have := congrArg List.length s4
        have h2 := g2_len l []
        rw [List.length_append] at this
        omega
      refine wpList_append_one rfl _ _ 100 32 rfl i0 _ 1 24 Tryz.underlying100 HI0.out HZ0.out HZ1.out HZ2.out rfl (by decide) u3 done.length cs rfl w1 #[.slice (some ⟨b, off, none⟩) n cap'] rfl (ownsRowF_below s3 HB1.out) w1.heap.size rfl 1 rfl rfl (by simp [Value.oneCell']) (by simp only [maxLen]; omega) (by omega) ?_
      intro V w5 hown hkp hvb
      have hln : ((l.drop k).take n).length = n := by rw [List.length_take, HDL.out]; omega
      have hcut : Cut w ((l.drop k).take n) (.slice (some ⟨b, off, none⟩) n cap') := ⟨some ⟨b, off, none⟩, cap', by rw [hln], by rw [hln]; omega, by rw [flat_take]; exact s1.take _⟩
      have hb5 : Below w.heap.size w w5 := Keeps.below (bt s2 HB1.out) hkp (fun x hx => s6 x (Option.mem_toList.1 hx))
      have HN5 : Hid (SplitI w w5 l (k + n) (if cap' = n then some ⟨b, off, none⟩ else some ⟨b, off + n * 3, none⟩) V (done ++ [(l.drop k).take n]) (cs ++ [.slice (some ⟨b, off, none⟩) n cap'])) := by
        refine ⟨?_, hb5, by rw [List.length_append]; exact hown, ?_, s5.snoc hcut, fun x hx => ?_⟩
        · rw [← List.drop_drop, flat_drop]
          split
          · rename_i hcn
            rw [List.drop_of_length_le (by rw [flat_len, HDL.out]; omega)]
            exact Row.nil _ _
          · exact s1.drop _
        · rw [List.append_assoc, ← s4, ← List.drop_drop]
          congr 1
          rw [drop_cons hlt] at HN ⊢
          rw [g2_split (by have := isB_wt (HALL.out _ (List.getElem_mem hlt)); omega), ← HN.out]
          rfl
        · rcases hvb x hx with h | h
          · exact s6 x h
          · have := s2.size; have := HB1.out.size; omega
      clear s1 s2 s3 s4 s5 s6 hdn hown hkp hvb hln hcut hb5 HS HB1
      by_cases hcn : cap' = n
      · rw [if_pos hcn] at HN5
        go_wp2_with fail
        go_roundg (l.length - (k + n))
        case measure => have := HM.out; omega
        case rel =>
          have e1 : l.length - (k + n) = m - n := by omega
          rw [e1]
          exact ⟨k + n, some ⟨b, off, none⟩, 0, done ++ [(l.drop k).take n], cs ++ [.slice (some ⟨b, off, none⟩) n cap'], by omega, by omega, rfl, HN5⟩
      · rw [if_neg hcn] at HN5
        go_wp2_with fail
        go_roundg (l.length - (k + n))
        case measure => have := HM.out; omega
        case rel =>
          have e1 : l.length - (k + n) = m - n := by omega
          rw [e1]
          exact ⟨k + n, some ⟨b, off + n * 3, none⟩, cap' - n, done ++ [(l.drop k).take n], cs ++ [.slice (some ⟨b, off, none⟩) n cap'], by omega, by omega, rfl, HN5⟩
    · have hm0 : m = 0 := by omega
      go_wp2_with fail
      go_ret
      have h := HS.out
      obtain ⟨s1, s2, s3, s4, s5, s6⟩ := h
      rw [List.drop_eq_nil_of_le (by omega)] at s4
      have e : done = g2 [] l := by rw [← s4]; simp [g2]
      rw [← e]
      exact ⟨_, cs, rfl, s3, s5, s2⟩
end Go.Proofs.YtcklgaenedlbiaaGreat
