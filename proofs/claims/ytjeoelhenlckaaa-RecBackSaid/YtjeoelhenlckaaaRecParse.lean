/-
  The document's Parse; Same; RecParse, walked.
-/
import Derived.Test.YtjeoelhenlckaaaRecBytes
import Derived.Test.YtjeoelhenlckaaaRecRef
import Derived.Test.YtjeoelhenlckaaaMsgWriteF
namespace Go.Proofs.Ytjeoelhenlckaaa
open Go.RowKit

theorem parseR_none0 : parseR ⟨#[]⟩ = none := by kernel_rfl
theorem parseR_big {s : ByteArray} (h : 218 < s.size) : parseR s = none := by unfold parseR; rw [if_pos h]
theorem parseR_cons (y : UInt8) (l : List UInt8) (h : ¬ 218 < (⟨(y :: l).toArray⟩ : ByteArray).size) : parseR ⟨(y :: l).toArray⟩ =
    if endE (readN y.toNat ⟨l.toArray⟩ false).2.1 (readN y.toNat ⟨l.toArray⟩ false).2.2 = 0 ∧ (y.toNat : Int) ≠ 0 then some (readN y.toNat ⟨l.toArray⟩ false).1 else none := by
  unfold parseR
  rw [if_neg h, numT_cons]
  rfl
/-- the document's reader, behind some of the messages -/
def RefPI (w wx : World) (p k : Nat) (r : ByteArray) (y : Value) : Prop :=
  Below w.heap.size w wx ∧ RefAt wx p (readN k r false).2.1 (readN k r false).2.2 ∧ wx.ownsRowF 0 39 3 y k ((readN k r false).1.flatMap msgCells) ∧ ∀ g, y.ownBlock = some g → w.heap.size ≤ g ∧ g ≠ p
def RefPOut (w w' : World) (s : ByteArray) (e : Ending) : Prop :=
  (parseR s = none → e = .returned (.tuple #[.slice none 0 0, .bool false])) ∧ (∀ l, parseR s = some l → ∃ A cap, e = .returned (.tuple #[.slice A l.length cap, .bool true]) ∧ Row w' A (l.flatMap msgCells)) ∧ Below w.heap.size w w'

set_option maxHeartbeats 8000000 in
set_option maxRecDepth 100000 in
theorem ref22_Parse (s : ByteArray) (w : World) :
    Calls Try.prog 18 #[.string s] w fun e w' => RefPOut w w' s e := by
  obtain ⟨i0, hi0, hz0, hz1, hz2⟩ := info_parts info_msg
  have HI0 := hid hi0; have HZ0 := hid hz0; have HZ1 := hid hz1; have HZ2 := hid hz2
  clear hi0 hz0 hz1 hz2
  by_cases h0 : s.size = 0
  · have e : s = ⟨#[]⟩ := by
      obtain ⟨l, rfl⟩ := ba_list s
      rw [list_size] at h0
      obtain rfl := List.length_eq_zero_iff.1 h0
      rfl
    subst e
    clear h0
    go_enter Try.func18, Try.ntmps18
    go_wp2_with fail
    go_ret2
    exact ⟨fun _ => rfl, fun l h => (by rw [parseR_none0] at h; cases h), Below.refl _ _⟩
  by_cases hs : 218 < s.size
  · have hs' : (218 : Int) < (s.size : Int) := by omega
    go_enter Try.func18, Try.ntmps18
    go_wp2_with fail
    go_ret2
    exact ⟨fun _ => rfl, fun l h => (by rw [parseR_big hs] at h; cases h), Below.refl _ _⟩
  have hs' : ¬ (218 : Int) < (s.size : Int) := by omega
  obtain ⟨l, hl⟩ := ba_list s
  cases l with
  | nil => subst hl; exact absurd rfl h0
  | cons y l =>
    have hP : parseR s = if endE (readN y.toNat ⟨l.toArray⟩ false).2.1 (readN y.toNat ⟨l.toArray⟩ false).2.2 = 0 ∧ (y.toNat : Int) ≠ 0 then some (readN y.toNat ⟨l.toArray⟩ false).1 else none := by rw [hl]; exact parseR_cons y l (by rw [← hl]; exact hs)
    have hx : ∀ h : 0 < s.size, s[0]'h = y := by intro h; subst hl; rfl
    have hex : s.extract 1 s.size = ⟨l.toArray⟩ := by rw [hl, list_size, ext_list]; simp
    have h1s : (1 : Int) ≤ (s.size : Int) := by omega
    by_cases hy0 : y = 0
    · subst hy0
      have hp : parseR s = none := by rw [hP, if_neg (by simp)]
      have HP := hid hp
      clear hp hP hl hex
      go_enter Try.func18, Try.ntmps18
      go_wp2_with fail
      go_ret2
      exact ⟨fun _ => rfl, fun l h => (by rw [HP.out] at h; cases h), Below.refl _ _⟩
    have hyb : (y == 0) = false := by simpa using hy0
    have hy1 : (y.toNat : Int) ≠ 0 := by intro e; exact hy0 (UInt8.toNat_inj.1 (by simpa using e))
    have hyl : y.toNat < 256 := y.toNat_lt
    obtain ⟨r, hr⟩ : ∃ r : ByteArray, r = ⟨l.toArray⟩ := ⟨_, rfl⟩
    rw [← hr] at hex hP
    have HP := hid hP; have HY := hid hy1; have HR := hid hr
    have hA := below_alloc w (.cells #[.string r, .bool false] 90)
    have hI := Blk.new w #[.string r, .bool false] 90
    obtain ⟨p, hp⟩ : ∃ p, p = w.heap.size := ⟨_, rfl⟩
    have HPP := hid hp
    have hA2 := below_alloc (w.alloc (.cells #[.string r, .bool false] 90)) (.cells #[] 39)
    have hO := ownsRowF_empty' (w.alloc (.cells #[.string r, .bool false] 90)) 39 3
    have H0 := hid (show RefPI w ((w.alloc (.cells #[.string r, .bool false] 90)).alloc (.cells #[] 39)) p 0 r (.slice (some ⟨w.heap.size + 1, 0, none⟩) 0 0) from by
      refine ⟨bt hA hA2, ?_, ?_, ?_⟩
      · rw [hp]; exact Blk.belowS hI hA2
      · have e : (w.alloc (.cells #[.string r, .bool false] 90)).heap.size = w.heap.size + 1 := by simp
        rw [e] at hO; exact hO
      · intro g hg; simp [Value.ownBlock] at hg; omega)
    obtain ⟨n, hn⟩ : ∃ n, n = y.toNat := ⟨_, rfl⟩
    have HN := hid hn
    have hyn : (y.toNat : Int) = (n : Int) := by rw [hn]
    rw [← hn] at HP HY hyl
    have hb0 : ((s.size : Int) == 0) = false := by rw [beq_eq_false_iff_ne]; omega
    have hbn : ((n : Int) == 0) = false := by rw [beq_eq_false_iff_ne]; exact HY.out
    clear hP hy1 hr hA hI hA2 hO hl hy0 hs hn hp
    go_enter Try.func18, Try.ntmps18
    go_wp2_with fail
    go_loopg [6, 5] n (fun g x z wx => ∃ k : Nat, k + g = n ∧ x = .int .i64 k ∧ Hid (RefPI w wx p k r z))
    case atStart => exact ⟨0, by omega, rfl, H0.out⟩
    case round =>
      obtain ⟨k, hk, rfl, HS⟩ := hrel
      by_cases hlt : k < n
      · obtain ⟨⟨x, r', b'⟩, hxx⟩ : ∃ t, t = readT (readN k r false).2.1 (readN k r false).2.2 := ⟨_, rfl⟩
        have hcall := ref08_Read_any p _ _ wr HS.out.2.1
        have hst : readN (k + 1) r false = ((readN k r false).1 ++ [x], r', b') := by
          show (_ ++ [_], _, _) = _
          rw [← hxx]
        rw [← hxx] at hcall
        rw [HPP.out] at hcall
        obtain ⟨K, kk, v⟩ := x
        have HC := hid hcall; have HST := hid hst
        clear hcall hst hxx
        go_wp2_with fail
        refine HC.out.mono ?_; rintro e w3 ⟨rfl, hk3, hi3⟩
        rw [← HPP.out] at hk3 hi3
        have H3 := hid (And.intro hk3 hi3)
        clear hk3 hi3
        go_wp2_with (with_reducible refine at_op (.call { callee := .builtin .append, args := #[.tmp 32, .tmp 35], argTypes := #[22, 22] }) rfl ?_; refine Stopped.go ?_)
        refine Stopped.mk ?_
        obtain ⟨s1, s2, s3, s4⟩ := HS.out
        have s3' := ownsRowF_keeps s3 H3.out.1 (fun g hg => by simp; exact (s4 g hg).2)
        refine wpList_append_one rfl _ _ 22 39 rfl i0 _ 3 40 Try.underlying22 HI0.out HZ0.out HZ1.out HZ2.out rfl (by decide) _ k _ rfl w3 #[.int .i64 K, .string kk, .string v] rfl s3' w3.heap.size rfl 1 rfl rfl (by simp [Value.oneCell']) (by simp only [maxLen]; omega) (by omega) ?_
        intro V w5 hown hkp hvb
        have H5 : Hid (RefPI w w5 p (k + 1) r V) := by
          have hpw : p < w3.heap.size := Blk.lt H3.out.2
          have b3 : Below w.heap.size w w3 := Keeps.below s1 H3.out.1 (fun x hx => by simp at hx; rw [hx, HPP.out]; exact Nat.le_refl _)
          refine ⟨Keeps.below b3 hkp (fun x hx => (s4 x (Option.mem_toList.1 hx)).1), ?_, ?_, fun g hg => ?_⟩
          · rw [HST.out]
            exact Blk.keeps H3.out.2 hkp (fun h => (s4 p (Option.mem_toList.1 h)).2 rfl)
          · rw [HST.out, List.flatMap_append]
            simpa [msgCells] using hown
          · rcases hvb g hg with h | h
            · exact s4 g h
            · have := b3.size; exact ⟨by omega, by omega⟩
        clear s1 s2 s3 s4 s3' hown hkp hvb HS H3 HC HST
        go_wp2_with fail
        go_roundg (n - (k + 1))
        case measure => omega
        case rel => exact ⟨k + 1, by omega, by go_num, H5⟩
      · have hkn : k = n := by omega
        subst hkn
        obtain ⟨⟨xs, r', b'⟩, hxx⟩ : ∃ t, t = readN k r false := ⟨_, rfl⟩
        have hrl := readN_len k r false
        obtain ⟨s1, s2, s3, s4⟩ := HS.out
        rw [← hxx] at HP s2 s3 hrl
        simp only at HP s2 s3 hrl
        obtain ⟨V, vcap, rfl, hvr⟩ := ownsRowF_row s3
        rw [HPP.out] at s2
        have c0 := s2.c0; have c1 := s2.c1
        have HV := hid hvr; have HB := hid s1; have HRL := hid hrl
        clear s1 s2 s3 s4 hvr hrl hxx HS hlt hk
        cases b' with
        | true =>
          go_wp2_with fail
          go_ret2
          exact ⟨fun _ => rfl, fun l h => (by rw [HP.out] at h; simp [endE] at h), HB.out⟩
        | false =>
          by_cases hr0 : r'.size = 0
          · have e : r' = ⟨#[]⟩ := by
              obtain ⟨q, rfl⟩ := ba_list r'
              rw [list_size] at hr0
              obtain rfl := List.length_eq_zero_iff.1 hr0
              rfl
            subst e
            clear hr0
            have hp : parseR s = some xs := by rw [HP.out, if_pos ⟨endE_zero.2 ⟨rfl, rfl⟩, HY.out⟩]
            have HP2 := hid hp
            clear hp
            go_wp2_with fail
            go_ret2
            refine ⟨fun h => (by rw [HP2.out] at h; cases h), fun l h => ?_, HB.out⟩
            rw [HP2.out] at h
            injection h with h
            subst h
            rw [HRL.out]
            exact ⟨V, vcap, rfl, HV.out⟩
          · have hne : (r'.toList == ([] : List UInt8)) = false := by
              obtain ⟨q, rfl⟩ := ba_list r'
              rw [list_size] at hr0
              rw [beq_eq_false_iff_ne, ByteArray.toList_eq]
              intro e; simp at e; exact hr0 (by rw [e]; rfl)
            have hp : parseR s = none := by rw [HP.out, if_neg (by intro h; exact hr0 (endE_zero.1 h.1).2)]
            have HP2 := hid hp
            clear hp hr0
            go_wp2_with fail
            go_ret2
            exact ⟨fun _ => rfl, fun l h => (by rw [HP2.out] at h; cases h), HB.out⟩

set_option maxHeartbeats 8000000 in
set_option maxRecDepth 100000 in
theorem ref10_Same (A B : Option Addr) (cap bcap : Nat) (l : List Msg3) (hlen : l.length ≤ 1000) (w : World) (hr : Row w A (l.flatMap msgCells)) (hr2 : Row w B (l.flatMap msgCells)) :
    Calls Try.prog 19 #[.slice A l.length cap, .slice B l.length bcap] w fun e w' => e = .returned (.bool true) ∧ Below w.heap.size w w' := by
  have HR := hid hr; have HR2 := hid hr2; clear hr hr2
  obtain ⟨L, hL⟩ : ∃ L, L = l.length := ⟨_, rfl⟩
  rw [← hL] at hlen ⊢
  have HL := hid hL; clear hL
  go_enter Try.func19, Try.ntmps19
  go_wp2_with fail
  go_loopg [5] L (fun g x wx => ∃ k : Nat, k + g = L ∧ x = .int .i64 k ∧ Hid (Below w.heap.size w wx))
  case atStart => exact ⟨0, by omega, rfl, Below.refl _ _⟩
  case round =>
    obtain ⟨k, hk, rfl, HS⟩ := hrel
    by_cases hlt : k < L
    · have hltl : k < l.length := by have := HL.out; omega
      obtain ⟨b, off, rfl, hb, hc⟩ := row_cell HR.out (by intro e; have h := msg_at l k 0 l[k] (.int .i64 l[k].1) (by simp [hltl]) rfl; rw [e] at h; cases h)
      obtain ⟨b', off', rfl, hb', hc'⟩ := row_cell HR2.out (by intro e; have h := msg_at l k 0 l[k] (.int .i64 l[k].1) (by simp [hltl]) rfl; rw [e] at h; cases h)
      obtain ⟨⟨K, kk, v⟩, hx⟩ : ∃ x, x = l[k] := ⟨_, rfl⟩
      have hxi : l[k]? = some (K, kk, v) := by rw [hx]; simp [hltl]
      have c0 := hc _ _ (msg_at l k 0 _ (.int .i64 K) hxi rfl)
      rw [← HS.out.cell (p := ⟨b, off + (k * 3 + 0), none⟩) hb, ← Nat.add_assoc, Nat.add_zero] at c0
      have c1 := hc _ _ (msg_at l k 1 _ (.string kk) hxi rfl)
      rw [← HS.out.cell (p := ⟨b, off + (k * 3 + 1), none⟩) hb, ← Nat.add_assoc] at c1
      have c2 := hc _ _ (msg_at l k 2 _ (.string v) hxi rfl)
      rw [← HS.out.cell (p := ⟨b, off + (k * 3 + 2), none⟩) hb, ← Nat.add_assoc] at c2
      have d0 := hc' _ _ (msg_at l k 0 _ (.int .i64 K) hxi rfl)
      rw [← HS.out.cell (p := ⟨b', off' + (k * 3 + 0), none⟩) hb', ← Nat.add_assoc, Nat.add_zero] at d0
      have d1 := hc' _ _ (msg_at l k 1 _ (.string kk) hxi rfl)
      rw [← HS.out.cell (p := ⟨b', off' + (k * 3 + 1), none⟩) hb', ← Nat.add_assoc] at d1
      have d2 := hc' _ _ (msg_at l k 2 _ (.string v) hxi rfl)
      rw [← HS.out.cell (p := ⟨b', off' + (k * 3 + 2), none⟩) hb', ← Nat.add_assoc] at d2
      clear hc hb hc' hb' hx hxi hltl
      go_wp2_with fail
      go_quiet (fail)
      go_wp2_with fail
      go_roundg (L - (k + 1))
      case measure => omega
      case rel => exact ⟨k + 1, by omega, by go_num, bdn HS.out _⟩
    · go_wp2_with fail
      go_ret
      exact ⟨rfl, HS.out⟩

set_option maxHeartbeats 8000000 in
set_option maxRecDepth 100000 in
theorem recParse_walk (s : ByteArray) (w : World) :
    Calls Try.prog 4 #[.string s] w fun e w' => e = .returned (.bool true) ∧ Below w.heap.size w w' := by
  go_enter Try.func4, Try.ntmps4
  go_wp2_with fail
  refine (awake22_any _).mono ?_; rintro e w1 ⟨rfl, hb_⟩
  have H1 := hid hb_; clear hb_
  by_cases h3 : (300 : Int) < (s.size : Int)
  · go_wp2_with fail
    go_ret
    exact ⟨rfl, H1.out⟩
  · have HP1 := hid (rec_Parse_any s w1)
    obtain ⟨o, ho⟩ : ∃ o, o = parseR s := ⟨_, rfl⟩
    have HO := hid ho; clear ho
    cases o with
    | none =>
      go_wp2_with fail
      refine HP1.out.mono ?_; rintro e w2 ⟨h1, _, hb_⟩
      obtain rfl := h1 HO.out.symm
      have H2 := hid (bt H1.out hb_); clear hb_ h1 H1 HP1
      have HP2 := hid (ref22_Parse s w2)
      go_wp2_with fail
      refine HP2.out.mono ?_; rintro e w3 ⟨h1, _, hb_⟩
      obtain rfl := h1 HO.out.symm
      have H3 := hid (bt H2.out hb_); clear hb_ h1 H2 HP2
      go_wp2_with fail
      go_ret
      exact ⟨rfl, H3.out⟩
    | some l =>
      have hln : l.length ≤ 1000 := by
        obtain ⟨_, _, _, h⟩ := parseR_inv HO.out.symm
        have := sw_ge l; omega
      go_wp2_with fail
      refine HP1.out.mono ?_; rintro e w2 ⟨_, h1, hb_⟩
      obtain ⟨A1, cap1, rfl, _, hr1⟩ := h1 _ HO.out.symm
      have H2 := hid (And.intro (bt H1.out hb_) hr1); clear hb_ h1 hr1 H1 HP1
      have HP2 := hid (ref22_Parse s w2)
      go_wp2_with fail
      refine HP2.out.mono ?_; rintro e w3 ⟨_, h1, hb_⟩
      obtain ⟨A2, cap2, rfl, hr2⟩ := h1 _ HO.out.symm
      have HSM := hid (ref10_Same A1 A2 cap1 cap2 l hln w3 (H2.out.2.below hb_) hr2)
      have H3 := hid (bt H2.out.1 hb_); clear hb_ h1 hr2 H2 HP2
      go_wp2_with fail
      refine HSM.out.mono ?_; rintro e w4 ⟨rfl, hb_⟩
      have H4 := hid (bt H3.out hb_); clear hb_ H3 HSM
      go_wp2_with fail
      go_ret
      exact ⟨rfl, H4.out⟩
theorem recParse_row (s : ByteArray) (w : World) (_ : s.size ≤ 140737488351232) :
    Calls Try.prog 4 #[.string s] w fun e w' => e = .returned (.bool true) ∧ Below w.heap.size w w' := recParse_walk s w
end Go.Proofs.Ytjeoelhenlckaaa
