/-
  How many texts a row has; a text read.
-/
import Derived.Test.YtjeoelhenlckaaaRecClone
import Derived.Test.YtjeoelhenlckaaaMsgAnyF
namespace Go.Proofs.Ytjeoelhenlckaaa
open Go.RowKit

set_option maxHeartbeats 4000000 in
set_option maxRecDepth 100000 in
theorem rec_Count_any (A : Option Addr) (cap : Nat) (l : List Msg3) (hlen : l.length ≤ 1000) (w : World) (hr : Row w A (l.flatMap msgCells)) :
    Calls Try.prog 16 #[.slice A l.length cap] w fun e w' => e = .returned (.int .i64 ((g2 [] (l.filter isB)).length : Nat)) ∧ Below w.heap.size w w' := by
  have HR := hid hr; clear hr
  obtain ⟨n, hn⟩ : ∃ n, n = (g2 [] (l.filter isB)).length := ⟨_, rfl⟩
  rw [← hn]
  have HN := hid hn; clear hn
  go_enter Try.func16, Try.ntmps16
  go_wp2_with fail
  refine (Clone_msgs A cap l hlen w HR.out).mono ?_; rintro e w1 ⟨v, rfl, hown, hb1⟩
  have HOWN := hid hown; have HB1 := hid hb1
  clear hown hb1
  go_wp2_with fail
  refine (Delete_recs v w.heap.size l hlen w1 HOWN.out).mono ?_; rintro e w2 ⟨A2, cap2, rfl, hc2, hr2, hb2⟩
  have hb2' := hb2 w.heap.size (Nat.le_refl _) HB1.out.size
  have hfl : (l.filter isB).length ≤ 1000 := Nat.le_trans (List.length_filter_le _ _) hlen
  have H2 := hid (And.intro hc2 (And.intro hr2 (Below.trans HB1.out hb2')))
  have hcall := rec_split_yes A2 cap2 (l.filter isB) hfl hc2 (fun x hx => (List.mem_filter.1 hx).2) w2 hr2
  obtain ⟨m, hm⟩ : ∃ m, m = (l.filter isB).length := ⟨_, rfl⟩
  rw [← hm] at hcall ⊢
  have HC := hid hcall
  clear hc2 hr2 hb2 hb2' hfl hcall hm HOWN HB1
  go_wp2_with fail
  refine HC.out.mono ?_; rintro e w3 ⟨v3, cs, rfl, ho3, hc3, hb3⟩
  rw [← HN.out] at ho3
  obtain ⟨B, bcap, rfl, hrow⟩ := ownsRowF_row ho3
  have HB := hid (bt H2.out.2.2 hb3)
  clear ho3 hc3 hb3 hrow H2 HC
  go_wp2_with fail
  go_ret
  exact ⟨rfl, HB.out⟩

/-- so many messages read -/
def readN : Nat → ByteArray → Bool → List Msg3 × ByteArray × Bool
  | 0, r, b => ([], r, b)
  | n + 1, r, b => ((readN n r b).1 ++ [(readT (readN n r b).2.1 (readN n r b).2.2).1], (readT (readN n r b).2.1 (readN n r b).2.2).2.1, (readT (readN n r b).2.1 (readN n r b).2.2).2.2)
theorem readN_len : ∀ (n : Nat) (r : ByteArray) (b : Bool), (readN n r b).1.length = n
  | 0, _, _ => rfl
  | n + 1, r, b => by
    show ((readN n r b).1 ++ [_]).length = _
    rw [List.length_append, readN_len n r b]; rfl
theorem num1 (r : ByteArray) (b : Bool) : ∃ n : Nat, (numT r b 1).1 = (n : Int) ∧ n ≤ 255 := by
  unfold numT
  split
  · have h : be (r.data.toList.take (1 : Int).toNat) ≤ 255 := by
      rcases r.data.toList with _ | ⟨x, l⟩
      · decide
      · show (0 * 256 + x.toNat) ≤ 255
        have := x.toNat_lt; omega
    rw [if_neg (by omega)]
    exact ⟨_, rfl, h⟩
  · exact ⟨0, rfl, by omega⟩
/-- a text's messages -/
def parseR (s : ByteArray) : Option (List Msg3) :=
  if 218 < s.size then none
  else if endE (readN (numT s false 1).1.toNat (numT s false 1).2.1 (numT s false 1).2.2).2.1 (readN (numT s false 1).1.toNat (numT s false 1).2.1 (numT s false 1).2.2).2.2 = 0 ∧ (numT s false 1).1 ≠ 0 then some (readN (numT s false 1).1.toNat (numT s false 1).2.1 (numT s false 1).2.2).1
  else none
theorem ownsRowF_keeps {w w' : World} {G : List Nat} {e : TypeId} {size n : Nat} {v : Value} {xs : List Value} (h : w.ownsRowF 0 e size v n xs) (hk : Keeps G w w') (hd : ∀ k, v.ownBlock = some k → k ∉ G) : w'.ownsRowF 0 e size v n xs := by
  refine ⟨h.1, ?_⟩
  rcases h.2 with hn | ⟨g, cap, cur, fz, hv, h0, hg, r⟩
  · exact .inl hn
  · refine .inr ⟨g, cap, cur, fz, hv, h0, ?_, r⟩
    rw [hk.block g (Array.getElem?_eq_some_iff.1 hg).1 (hd g (by rw [hv]; rfl))]; exact hg
theorem ownsRowF_cap {w : World} {e : TypeId} {size n : Nat} {v : Value} {xs : List Value} (h : w.ownsRowF 0 e size v n xs) : ∃ A cap, v = .slice A n cap ∧ n ≤ cap ∧ Row w A xs := by
  obtain ⟨A, cap, rfl, hr⟩ := ownsRowF_row h
  refine ⟨A, cap, rfl, ?_, hr⟩
  rcases h.2 with ⟨h, rfl⟩ | ⟨g, cap', cur, fz, h, _, _, _, hnc, _⟩
  · exact Nat.zero_le _
  · injection h with _ _ h; omega

def ParseOut (w w' : World) (s : ByteArray) (e : Ending) : Prop :=
  (parseR s = none → e = .returned (.tuple #[.slice none 0 0, .int .i64 5])) ∧ (∀ l, parseR s = some l → ∃ A cap, e = .returned (.tuple #[.slice A l.length cap, .int .i64 0]) ∧ l.length ≤ cap ∧ Row w' A (l.flatMap msgCells)) ∧ Below w.heap.size w w'

def ParseI (w wx : World) (p k : Nat) (r : ByteArray) (b : Bool) (y : Value) : Prop :=
  Below w.heap.size w wx ∧ InAt wx p (readN k r b).2.1 (readN k r b).2.2 ∧ wx.ownsRowF 0 39 3 y k ((readN k r b).1.flatMap msgCells) ∧ ∀ g, y.ownBlock = some g → w.heap.size ≤ g ∧ g ≠ p

set_option maxHeartbeats 8000000 in
set_option maxRecDepth 100000 in
theorem rec_Parse_any (s : ByteArray) (w : World) :
    Calls Try.prog 17 #[.string s] w fun e w' => ParseOut w w' s e := by
  obtain ⟨i0, hi0, hz0, hz1, hz2⟩ := info_parts info_msg
  have HI0 := hid hi0; have HZ0 := hid hz0; have HZ1 := hid hz1; have HZ2 := hid hz2
  clear hi0 hz0 hz1 hz2
  by_cases hs : 218 < s.size
  · have hs' : (218 : Int) < (s.size : Int) := by omega
    go_enter Try.func17, Try.ntmps17
    go_wp2_with fail
    go_ret2
    refine ⟨fun _ => rfl, fun l h => ?_, Below.refl _ _⟩
    unfold parseR at h
    rw [if_pos hs] at h
    cases h
  · have hs' : ¬ (218 : Int) < (s.size : Int) := by omega
    obtain ⟨⟨N, r, b⟩, ht⟩ : ∃ t, t = numT s false 1 := ⟨_, rfl⟩
    obtain ⟨n, hn, hn255⟩ := num1 s false
    rw [← ht] at hn
    simp only at hn
    subst hn
    have hP : parseR s = if endE (readN n r b).2.1 (readN n r b).2.2 = 0 ∧ (n : Int) ≠ 0 then some (readN n r b).1 else none := by
      unfold parseR
      rw [if_neg hs, ← ht]
      rfl
    have HT := hid ht; have HP := hid hP; clear ht hP
    go_enter Try.func17, Try.ntmps17
    go_wp2_with fail
    refine (pen_Of_any s _).mono ?_; rintro e w1 ⟨rfl, hb1, hi1, hsz1⟩
    obtain ⟨p, hp⟩ : ∃ p, p = w.heap.size := ⟨_, rfl⟩
    rw [← hp] at hi1 ⊢
    have H1 := hid (And.intro hb1 (And.intro hi1 hp))
    clear hb1 hi1 hsz1 hp
    go_wp2_with fail
    refine (In_Num_all p s false 1 _ H1.out.2.1).mono ?_; rintro e w2 ⟨rfl, hk2, hi2⟩
    rw [← HT.out] at hi2 ⊢
    have H2 := hid (show Below w.heap.size w w2 ∧ InAt w2 p r b ∧ p = w.heap.size from ⟨Keeps.below H1.out.1 hk2 (fun x hx => by simp at hx; rw [hx, H1.out.2.2]; exact Nat.le_refl _), hi2, H1.out.2.2⟩)
    clear hk2 hi2 H1 HT
    go_wp2_with fail
    go_loopg [13, 5] n (fun g x y wx => ∃ k : Nat, k + g = n ∧ x = .int .i64 k ∧ Hid (ParseI w wx p k r b y))
    case atStart => exact ⟨0, by omega, rfl, H2.out.1, H2.out.2.1, World.ownsRowF_nil _ _ _ _, by intro g h; cases h⟩
    case round =>
      obtain ⟨k, hk, rfl, HS⟩ := hrel
      by_cases hlt : k < n
      · obtain ⟨⟨x, r', b'⟩, hx⟩ : ∃ t, t = readT (readN k r b).2.1 (readN k r b).2.2 := ⟨_, rfl⟩
        have hcall := msg_Read_any p _ _ wr HS.out.2.1
        have hst : readN (k + 1) r b = ((readN k r b).1 ++ [x], r', b') := by
          show (_ ++ [_], _, _) = _
          rw [← hx]
        rw [← hx] at hcall
        obtain ⟨K, kk, v⟩ := x
        have HC := hid hcall; have HST := hid hst
        clear hcall hst hx
        go_wp2_with fail
        refine HC.out.mono ?_; rintro e w3 ⟨rfl, hk3, hi3⟩
        have H3 := hid (And.intro hk3 hi3)
        clear hk3 hi3
        go_wp2_with (with_reducible refine at_op (.call { callee := .builtin .append, args := #[.tmp 15, .tmp 18], argTypes := #[22, 22] }) rfl ?_; refine Stopped.go ?_)
        refine Stopped.mk ?_
        obtain ⟨s1, s2, s3, s4⟩ := HS.out
        have s3' := ownsRowF_keeps s3 H3.out.1 (fun g hg => by simp; exact (s4 g hg).2)
        refine wpList_append_one rfl _ _ 22 39 rfl i0 _ 3 40 Try.underlying22 HI0.out HZ0.out HZ1.out HZ2.out rfl (by decide) _ k _ rfl w3 #[.int .i64 K, .string kk, .string v] rfl s3' w3.heap.size rfl 1 rfl rfl (by simp [Value.oneCell']) (by simp only [maxLen]; omega) (by omega) ?_
        intro V w5 hown hkp hvb
        have H5 : Hid (ParseI w w5 p (k + 1) r b V) := by
          have hpw : p < w3.heap.size := Blk.lt H3.out.2
          have b3 : Below w.heap.size w w3 := Keeps.below s1 H3.out.1 (fun x hx => by simp at hx; rw [hx, H2.out.2.2]; exact Nat.le_refl _)
          refine ⟨Keeps.below b3 hkp (fun x hx => (s4 x (Option.mem_toList.1 hx)).1), ?_, ?_, fun g hg => ?_⟩
          · rw [HST.out]
            exact Blk.keeps H3.out.2 hkp (fun h => (s4 p (Option.mem_toList.1 h)).2 rfl)
          · rw [HST.out, List.flatMap_append]
            simpa [msgCells] using hown
          · rcases hvb g hg with h | h
            · exact s4 g h
            · have := b3.size; exact ⟨by omega, by omega⟩
        clear s1 s2 s3 s4 s3' hown hkp hvb HS H3 HC HST
        go_wp2_with fail
        go_roundg (n - (k + 1))
        case measure => omega
        case rel => exact ⟨k + 1, by omega, by go_num, H5⟩
      · have hkn : k = n := by omega
        subst hkn
        clear hlt hk
        obtain ⟨V, vcap, rfl, hvc, hvr⟩ := ownsRowF_cap HS.out.2.2.1
        have HV := hid (And.intro hvc hvr)
        clear hvc hvr
        go_wp2_with fail
        refine (In_End_any p _ _ _ HS.out.2.1).mono ?_; rintro e w4 ⟨rfl, rfl⟩
        obtain ⟨ee, hee⟩ : ∃ ee, ee = endE (readN k r b).2.1 (readN k r b).2.2 := ⟨_, rfl⟩
        rw [← hee] at HP ⊢
        have he : ee = 0 ∨ ee = 5 := by rw [hee]; unfold endE; split <;> simp
        clear hee
        rcases he with rfl | rfl
        · by_cases h0 : k = 0
          · subst h0
            go_wp2_with fail
            go_ret2
            refine ⟨fun _ => rfl, fun l h => ?_, HS.out.1⟩
            rw [HP.out, if_neg (by simp)] at h
            cases h
          · have h0' : ¬ (k : Int) = 0 := by omega
            go_wp2_with fail
            go_ret2
            refine ⟨fun h => ?_, fun l h => ?_, HS.out.1⟩
            · rw [HP.out, if_pos (by first | exact ⟨rfl, h0'⟩ | exact ⟨trivial, h0'⟩ | simp [h0])] at h; cases h
            · rw [HP.out, if_pos (by first | exact ⟨rfl, h0'⟩ | exact ⟨trivial, h0'⟩ | simp [h0])] at h
              injection h with h
              subst h
              rw [readN_len]
              exact ⟨V, vcap, rfl, HV.out.1, HV.out.2⟩
        · go_wp2_with fail
          go_ret2
          refine ⟨fun _ => rfl, fun l h => ?_, HS.out.1⟩
          rw [HP.out, if_neg (by simp)] at h
          cases h
end Go.Proofs.Ytjeoelhenlckaaa
