/-
  The document's rows of messages: Good, Texts.
  The document's Parse; Same; RecParse, walked.
-/
import Derived.Test.YtcklgaenedlbiaaGreatGWalExact31
import Derived.Test.YtcklgaenedlbiaaGreatGWalExact25
import Derived.Test.YtcklgaenedlbiaaGreatGWalExact09

namespace Go.Proofs.YtcklgaenedlbiaaGreat
open Go.RowKit

theorem ownsRowF_empty' (w : World) (e : TypeId) (size : Nat) : (w.alloc (.cells #[] e)).ownsRowF 0 e size (.slice (some ⟨w.heap.size, 0, none⟩) 0 0) 0 [] :=
  ⟨by simp, .inr ⟨w.heap.size, 0, #[], (0, 0), rfl, Nat.zero_le _, heap_alloc_new w _, Nat.zero_le _, Nat.zero_le _, Nat.zero_le _, by simp, by simp⟩⟩

theorem flatB_len (l : List Msg3) : (l.flatMap msgB).length = sw l := by
  induction l with
  | nil => rfl
  | cons x l ih => rw [List.flatMap_cons, List.length_append, ih, msgB_len, sw_cons]; rfl
theorem cat_bytes (a b : List UInt8) : (⟨a.toArray⟩ : ByteArray) ++ ⟨b.toArray⟩ = ⟨(a ++ b).toArray⟩ := by
  apply ba_ext1
  rw [ByteArray.toList_eq, ByteArray.toList_eq]
  simp

def RefTI (w wx : World) (l : List Msg3) (k : Nat) (y : Value) (done : List (List Msg3)) (cur : List Msg3) (s : ByteArray) : Prop :=
  Below w.heap.size w wx ∧ wx.ownsRowF 0 9 1 y done.length (strs (done.map bytesG)) ∧ (∀ b, y.ownBlock = some b → w.heap.size ≤ b) ∧ done ++ g2 cur (l.drop k) = g2 [] l ∧ cur.length ≤ k ∧ (∀ x ∈ cur, isB x = true) ∧ s = ⟨(cur.flatMap msgB).toArray⟩

set_option maxHeartbeats 8000000 in
set_option maxRecDepth 100000 in
theorem ref22_Texts_own (A : Option Addr) (cap : Nat) (l : List Msg3) (hlen : l.length ≤ 200) (hall : ∀ x ∈ l, isB x = true) (w : World) (hr : Row w A (l.flatMap msgCells)) :
    Calls Tryz.prog 35 #[.slice A l.length cap] w fun e w' => ∃ v, e = .returned v ∧ w'.ownsRowF 0 9 1 v (g2 [] l).length (strs ((g2 [] l).map bytesG)) ∧ (∀ b, v.ownBlock = some b → w.heap.size ≤ b) ∧ Below w.heap.size w w' := by
  obtain ⟨i0, hi0, hz0, hz1, hz2⟩ := info_parts info_strs
  have HI0 := hid hi0; have HZ0 := hid hz0; have HZ1 := hid hz1; have HZ2 := hid hz2
  clear hi0 hz0 hz1 hz2
  have HR := hid hr; have HALL := hid hall; clear hr hall
  obtain ⟨L, hL⟩ : ∃ L, L = l.length := ⟨_, rfl⟩
  rw [← hL] at hlen ⊢
  have HL := hid hL; clear hL
  have H0 := hid (show Below w.heap.size w (w.alloc (.cells #[] 9)) ∧ (w.alloc (.cells #[] 9)).ownsRowF 0 9 1 (.slice (some ⟨w.heap.size, 0, none⟩) 0 0) 0 [] from ⟨below_alloc _ _, ownsRowF_empty' _ _ _⟩)
  go_enter Tryz.func35, Tryz.ntmps35
  go_wp2_with fail
  go_loopg [6, 3, 4, 5] L (fun g x y z c wx => ∃ (k : Nat) (done : List (List Msg3)) (cur : List Msg3) (s : ByteArray) (n : Nat), k + g = L ∧ x = .int .i64 k ∧ z = .string s ∧ c = .int .i64 n ∧ n = cur.length ∧ Hid (RefTI w wx l k y done cur s))
  case atStart => exact ⟨0, [], [], ⟨#[]⟩, 0, by omega, rfl, rfl, rfl, rfl, H0.out.1, H0.out.2, fun b hb => by simp [Value.ownBlock] at hb; omega, rfl, Nat.le_refl _, (by intro x hx; cases hx), rfl⟩
  case round =>
    obtain ⟨k, done, cur, s, n, hk, rfl, rfl, rfl, hn, HS⟩ := hrel
    have HN := hid hn; clear hn
    by_cases hlt : k < L
    · have hltl : k < l.length := by have := HL.out; omega
      obtain ⟨b, off, rfl, hb, hc⟩ := row_cell HR.out (by intro e; have h := msg_at l k 0 l[k] (.int .i64 l[k].1) (by simp [hltl]) rfl; rw [e] at h; cases h)
      have hB := HALL.out _ (List.getElem_mem hltl)
      have hd := HS.out.2.2.2.1
      rw [drop_cons hltl, g2_cons] at hd
      obtain ⟨⟨K, kk, v⟩, hx⟩ : ∃ x, x = l[k] := ⟨_, rfl⟩
      have hxi : l[k]? = some (K, kk, v) := by rw [hx]; simp [hltl]
      rw [← hx] at hB hd
      have c0 := hc _ _ (msg_at l k 0 _ (.int .i64 K) hxi rfl)
      rw [← HS.out.1.cell (p := ⟨b, off + (k * 3 + 0), none⟩) hb, ← Nat.add_assoc, Nat.add_zero] at c0
      have c1 := hc _ _ (msg_at l k 1 _ (.string kk) hxi rfl)
      rw [← HS.out.1.cell (p := ⟨b, off + (k * 3 + 1), none⟩) hb, ← Nat.add_assoc] at c1
      have c2 := hc _ _ (msg_at l k 2 _ (.string v) hxi rfl)
      rw [← HS.out.1.cell (p := ⟨b, off + (k * 3 + 2), none⟩) hb, ← Nat.add_assoc] at c2
      obtain ⟨t, ht⟩ : ∃ t : ByteArray, t = ⟨(msgB (K, kk, v)).toArray⟩ := ⟨_, rfl⟩
      have hcall := ref08_Bytes_yes K kk v hB wr
      rw [← ht] at hcall
      have hts : t.size = wt (K, kk, v) := by rw [ht, list_size, msgB_len]; rfl
      have hss : s.size = sw cur := by rw [HS.out.2.2.2.2.2.2, list_size, flatB_len]
      have hsw := sw_le cur (fun x hx => isB_wt (HS.out.2.2.2.2.2.1 x hx))
      have hck := HS.out.2.2.2.2.1
      have hw27 := isB_wt hB
      have HC := hid hcall; have HT := hid ht; have HD := hid hd; have HBB := hid hB
      have HSS := hid (And.intro hts hss)
      have e1 : IntKind.i64.wrap (1 + (s.size : Int)) = 1 + (s.size : Int) := by rw [IntKind.wrap_i64]; omega
      have e2 : IntKind.i64.wrap (1 + (s.size : Int) + (t.size : Int)) = 1 + (s.size : Int) + (t.size : Int) := by rw [IntKind.wrap_i64]; omega
      have q1 : ¬ 9223372036854775807 < s.size + t.size := by omega
      have HHB := hid hb
      have hs6 : s.size ≤ 6000 := by omega
      clear hc hb hx hxi hB hd hcall ht hck hsw hw27 hts hss
      by_cases h0 : n = 0
      · subst h0
        have hcur : cur = [] := List.length_eq_zero_iff.1 HN.out.symm
        subst hcur
        have hs0 : s = ⟨#[]⟩ := HS.out.2.2.2.2.2.2
        subst hs0
        go_wp2_with fail
        refine HC.out.mono ?_; rintro e w1 ⟨rfl, hb1⟩
        have H5 : Hid (RefTI w w1 l (k + 1) u3 done [(K, kk, v)] (⟨#[]⟩ ++ t)) := by
          obtain ⟨s1, s2, s3, s4, s5, s6, s7⟩ := HS.out
          refine ⟨bt s1 hb1, ownsRowF_below s2 hb1, s3, ?_, ?_, ?_, ?_⟩
          · have hd := HD.out
            rw [if_neg (by simp)] at hd
            exact hd
          · simp
          · intro y hy; simp at hy; subst hy; exact HBB.out
          · rw [HT.out, cat_bytes]; simp
        clear hb1 HS HD HC c0 c1 c2
        go_wp2_with fail
        go_roundg (L - (k + 1))
        case measure => omega
        case rel => exact ⟨k + 1, done, [(K, kk, v)], _, 1, by omega, by go_num, rfl, by go_num, rfl, H5⟩
      · have h0' : (0 : Int) < (n : Int) := by omega
        have hn200 : (n : Int) ≤ 200 := by have := HS.out.2.2.2.2.1; have := HN.out; omega
        have e0 : IntKind.i64.wrap ((n : Int) + 1) = (n : Int) + 1 := by rw [IntKind.wrap_i64]; omega
        have hcne : cur ≠ [] := by intro e; rw [e] at HN; exact h0 HN.out
        have HCN := hid hcne; clear hcne
        by_cases hbig : 218 < 1 + s.size + t.size
        · have hbig' : (218 : Int) < 1 + (s.size : Int) + (t.size : Int) := by omega
          have HBG := hid hbig
          clear hbig
          have hc : (( UInt8.ofNat n).toNat : Int) = (n : Int) := by rw [ofNat_toNat_le (by omega)]
          obtain ⟨c, hc'⟩ : ∃ c, c = UInt8.ofNat n := ⟨_, rfl⟩
          rw [← hc'] at hc
          have HC1 := hid hc
          obtain ⟨q, hq⟩ : ∃ q : ByteArray, q = ⟨[c].toArray⟩ := ⟨_, rfl⟩
          have hqs : q.size = 1 := by rw [hq]; rfl
          have q2 : ¬ 9223372036854775807 < q.size + s.size := by omega
          have hqq : q ++ s = bytesG cur := by rw [hq, HS.out.2.2.2.2.2.2, cat_bytes, hc', HN.out]; rfl
          have HQ := hid (And.intro hq.symm hqq)
          have hdl : done.length ≤ 201 := by
            have h := congrArg List.length HS.out.2.2.2.1
            have h2 := g2_len l []
            have := HL.out
            rw [List.length_append] at h; omega
          have HDL := hid hdl
          clear hc hc' hq hqs hqq hdl
          go_wp2_with fail
          refine HC.out.mono ?_; rintro e w1 ⟨rfl, hb1⟩
          have HB1 := hid hb1; clear hb1 c0 c1 c2
          go_wp2_with (with_reducible refine at_op (.convert 62 9 (.tmp 34)) rfl ?_; refine Stopped.go ?_)
          have hN : Blk (w1.alloc (.cells #[.int .u8 (n : Int)] 5)) w1.heap.size 5 (u8s [c]) := by
            have h := Blk.new w1 #[.int .u8 (n : Int)] 5
            rw [← HC1.out] at h ⊢
            exact h
          have HN1 := hid hN; clear hN
          refine Stopped.mk (wpList_string rfl _ _ 5 _ rfl ⟨w1.heap.size, 0, none⟩ 1 1 [c] rfl rfl Tryz.underlying62 Tryz.underlying5 Tryz.underlying9 (fun j hj => HN1.out.bytes' j hj) ?_)
          rw [HQ.out.1]
          clear HN1
          go_wp2_with (with_reducible refine at_op (.call { callee := .builtin .append, args := #[.tmp 31, .tmp 38], argTypes := #[22, 22] }) rfl ?_; refine Stopped.go ?_)
          refine Stopped.mk ?_
          obtain ⟨s1, s2, s3, s4, s5, s6, s7⟩ := HS.out
          have hA := below_alloc w1 (.cells #[.int .u8 (n : Int)] 5)
          have hdl : done.length ≤ 1000 := by have := HDL.out; omega
          refine wpList_append_one rfl _ _ 22 9 rfl i0 _ 1 16 Tryz.underlying22 HI0.out HZ0.out HZ1.out HZ2.out rfl (by decide) _ done.length _ rfl (w1.alloc (.cells #[.int .u8 (n : Int)] 5)) #[.string (q ++ s)] rfl (ownsRowF_below s2 (bt HB1.out hA)) (w1.heap.size + 1) (by simp) 1 rfl rfl (by simp [Value.oneCell']) (by simp only [maxLen]; omega) (by omega) ?_
          intro V w5 hown hkp hvb
          have H5 : Hid (RefTI w w5 l (k + 1) V (done ++ [cur]) [(K, kk, v)] (⟨#[]⟩ ++ t)) := by
            have b2 : Below w.heap.size w (w1.alloc (.cells #[.int .u8 (n : Int)] 5)) := bt (bt s1 HB1.out) hA
            refine ⟨Keeps.below b2 hkp (fun x hx => s3 x (Option.mem_toList.1 hx)), ?_, fun x hx => ?_, ?_, ?_, ?_, ?_⟩
            · rw [HQ.out.2] at hown
              rw [List.length_append, List.map_append]
              simpa [strs] using hown
            · rcases hvb x hx with h | h
              · exact s3 x h
              · have := b2.size; omega
            · have hd := HD.out
              have hz := HSS.out
              rw [if_pos ⟨HCN.out, by have := HBG.out; omega⟩] at hd
              rw [← hd]; simp
            · simp
            · intro y hy; simp at hy; subst hy; exact HBB.out
            · rw [HT.out, cat_bytes]; simp
          clear s1 s2 s3 s4 s5 s6 s7 hA hdl hown hkp hvb HS HB1 HD HC HQ HDL HC1 HN HCN HBG q2
          go_wp2_with fail
          go_roundg (L - (k + 1))
          case measure => omega
          case rel => exact ⟨k + 1, done ++ [cur], [(K, kk, v)], _, 1, by omega, by go_num, rfl, by go_num, rfl, H5⟩
        · have hbig' : ¬ (218 : Int) < 1 + (s.size : Int) + (t.size : Int) := by omega
          have HBG := hid hbig
          clear hbig
          go_wp2_with fail
          refine HC.out.mono ?_; rintro e w1 ⟨rfl, hb1⟩
          have H5 : Hid (RefTI w w1 l (k + 1) u3 done (cur ++ [(K, kk, v)]) (s ++ t)) := by
            obtain ⟨s1, s2, s3, s4, s5, s6, s7⟩ := HS.out
            refine ⟨bt s1 hb1, ownsRowF_below s2 hb1, s3, ?_, ?_, ?_, ?_⟩
            · have hd := HD.out
              have hz := HSS.out
              rw [if_neg (by intro h; have := h.2; have := HBG.out; omega)] at hd
              exact hd
            · simp; omega
            · intro y hy
              rcases List.mem_append.1 hy with hy | hy
              · exact s6 y hy
              · simp at hy; subst hy; exact HBB.out
            · rw [HT.out, s7, cat_bytes]; simp
          have HN2 : Hid (n + 1 = (cur ++ [(K, kk, v)]).length) := by have := HN.out; rw [List.length_append, ← this]; rfl
          clear hb1 HS HD HC c0 c1 c2 HN
          go_wp2_with fail
          go_roundg (L - (k + 1))
          case measure => omega
          case rel => exact ⟨k + 1, done, cur ++ [(K, kk, v)], _, n + 1, by omega, by go_num, rfl, by go_num, HN2.out, H5⟩
    · have hkl : k = L := by omega
      subst hkl
      have hd := HS.out.2.2.2.1
      rw [show l.drop k = [] by rw [HL.out]; simp] at hd
      by_cases h0 : n = 0
      · subst h0
        have hcur : cur = [] := List.length_eq_zero_iff.1 HN.out.symm
        subst hcur
        have hdone : done = g2 [] l := by rw [← hd]; simp [g2]
        have HDN := hid hdone
        clear hd hdone
        go_wp2_with fail
        go_ret
        exact ⟨_, rfl, by rw [← HDN.out]; exact HS.out.2.1, HS.out.2.2.1, HS.out.1⟩
      · have h0' : (0 : Int) < (n : Int) := by omega
        have hcne : cur ≠ [] := by intro e; rw [e] at HN; exact h0 HN.out
        have hdone : done ++ [cur] = g2 [] l := by rw [← hd]; simp [g2, hcne]
        have hn200 : (n : Int) ≤ 200 := by have := HS.out.2.2.2.2.1; have := HN.out; omega
        have hss : s.size = sw cur := by rw [HS.out.2.2.2.2.2.2, list_size, flatB_len]
        have hsw := sw_le cur (fun x hx => isB_wt (HS.out.2.2.2.2.2.1 x hx))
        have HDN := hid hdone; have hcl := HN.out
        have hc : (( UInt8.ofNat n).toNat : Int) = (n : Int) := by rw [ofNat_toNat_le (by omega)]
        obtain ⟨c, hc'⟩ : ∃ c, c = UInt8.ofNat n := ⟨_, rfl⟩
        rw [← hc'] at hc
        have HC1 := hid hc
        obtain ⟨q, hq⟩ : ∃ q : ByteArray, q = ⟨[c].toArray⟩ := ⟨_, rfl⟩
        have hqs : q.size = 1 := by rw [hq]; rfl
        have q2 : ¬ 9223372036854775807 < q.size + s.size := by omega
        have hqq : q ++ s = bytesG cur := by rw [hq, HS.out.2.2.2.2.2.2, cat_bytes, hc', HN.out]; rfl
        have HQ := hid (And.intro hq.symm hqq)
        have hdl : done.length ≤ 201 := by
          have h := congrArg List.length hdone
          have h2 := g2_len l []
          have := HL.out
          rw [List.length_append] at h; simp only [List.length_singleton] at h; omega
        have HDL := hid hdl
        clear hc hc' hq hqs hqq hdl
        clear hd hcne hdone hss hsw hcl
        go_wp2_with (with_reducible refine at_op (.convert 62 9 (.tmp 50)) rfl ?_; refine Stopped.go ?_)
        have hN : Blk (wr.alloc (.cells #[.int .u8 (n : Int)] 5)) wr.heap.size 5 (u8s [c]) := by
          have h := Blk.new wr #[.int .u8 (n : Int)] 5
          rw [← HC1.out] at h ⊢
          exact h
        have HN1 := hid hN; clear hN
        refine Stopped.mk (wpList_string rfl _ _ 5 _ rfl ⟨wr.heap.size, 0, none⟩ 1 1 [c] rfl rfl Tryz.underlying62 Tryz.underlying5 Tryz.underlying9 (fun j hj => HN1.out.bytes' j hj) ?_)
        rw [HQ.out.1]
        clear HN1
        go_wp2_with (with_reducible refine at_op (.call { callee := .builtin .append, args := #[.tmp 47, .tmp 54], argTypes := #[22, 22] }) rfl ?_; refine Stopped.go ?_)
        refine Stopped.mk ?_
        obtain ⟨s1, s2, s3, s4, s5, s6, s7⟩ := HS.out
        have hA := below_alloc wr (.cells #[.int .u8 (n : Int)] 5)
        have hdl : done.length ≤ 1000 := by have := HDL.out; omega
        refine wpList_append_one rfl _ _ 22 9 rfl i0 _ 1 16 Tryz.underlying22 HI0.out HZ0.out HZ1.out HZ2.out rfl (by decide) _ done.length _ rfl (wr.alloc (.cells #[.int .u8 (n : Int)] 5)) #[.string (q ++ s)] rfl (ownsRowF_below s2 hA) (wr.heap.size + 1) (by simp) 1 rfl rfl (by simp [Value.oneCell']) (by simp only [maxLen]; omega) (by omega) ?_
        intro V w5 hown hkp hvb
        have H5 : Hid (w5.ownsRowF 0 9 1 V (g2 [] l).length (strs ((g2 [] l).map bytesG)) ∧ (∀ b, V.ownBlock = some b → w.heap.size ≤ b) ∧ Below w.heap.size w w5) := by
          have b2 : Below w.heap.size w (wr.alloc (.cells #[.int .u8 (n : Int)] 5)) := bt s1 hA
          refine ⟨?_, fun x hx => (hvb x hx).elim (fun h => s3 x h) (fun h => by have := b2.size; omega), Keeps.below b2 hkp (fun x hx => s3 x (Option.mem_toList.1 hx))⟩
          rw [HQ.out.2] at hown
          rw [← HDN.out, List.length_append, List.map_append]
          simpa [strs] using hown
        clear s1 s2 s3 s4 s5 s6 s7 hA hdl hown hkp hvb HS HQ HDL HC1 HN HDN q2
        go_wp2_with fail
        go_ret
        exact ⟨V, rfl, H5.out⟩
theorem ref22_Texts (A : Option Addr) (cap : Nat) (l : List Msg3) (hlen : l.length ≤ 200) (hall : ∀ x ∈ l, isB x = true) (w : World) (hr : Row w A (l.flatMap msgCells)) :
    Calls Tryz.prog 35 #[.slice A l.length cap] w fun e w' => ∃ v, e = .returned v ∧ w'.ownsRowF 0 9 1 v (g2 [] l).length (strs ((g2 [] l).map bytesG)) ∧ Below w.heap.size w w' :=
  (ref22_Texts_own A cap l hlen hall w hr).mono fun _ _ ⟨v, h1, h2, _, h3⟩ => ⟨v, h1, h2, h3⟩
end Go.Proofs.YtcklgaenedlbiaaGreat

namespace Go.Proofs.YtcklgaenedlbiaaGreat
open Go.RowKit

theorem parseR_none0 : parseR ⟨#[]⟩ = none := by kernel_rfl
theorem parseR_big {s : ByteArray} (h : 218 < s.size) : parseR s = none := by unfold parseR; rw [if_pos h]
theorem parseR_cons (y : UInt8) (l : List UInt8) (h : ¬ 218 < (⟨(y :: l).toArray⟩ : ByteArray).size) : parseR ⟨(y :: l).toArray⟩ =
    if endE (readN y.toNat ⟨l.toArray⟩ false).2.1 (readN y.toNat ⟨l.toArray⟩ false).2.2 = 0 ∧ (y.toNat : Int) ≠ 0 then some (readN y.toNat ⟨l.toArray⟩ false).1 else none := by
  unfold parseR
  rw [if_neg h, numT_cons]
  rfl
/-- the document's reader, behind some of the messages -/
def RefPI (w wx : World) (p k : Nat) (r : ByteArray) (y : Value) : Prop :=
  Below w.heap.size w wx ∧ RefAt wx p (readN k r false).2.1 (readN k r false).2.2 ∧ wx.ownsRowF 0 39 3 y k ((readN k r false).1.flatMap msgCells) ∧ ∀ g, y.ownBlock = some g → w.heap.size ≤ g ∧ g ≠ p
def RefPOut (w w' : World) (s : ByteArray) (e : Ending) : Prop :=
  (parseR s = none → e = .returned (.tuple #[.slice none 0 0, .bool false])) ∧ (∀ l, parseR s = some l → ∃ A cap, e = .returned (.tuple #[.slice A l.length cap, .bool true]) ∧ Row w' A (l.flatMap msgCells)) ∧ Below w.heap.size w w'

set_option maxHeartbeats 8000000 in
set_option maxRecDepth 100000 in
theorem ref22_Parse (s : ByteArray) (w : World) :
    Calls Tryz.prog 43 #[.string s] w fun e w' => RefPOut w w' s e := by
  obtain ⟨i0, hi0, hz0, hz1, hz2⟩ := info_parts info_msg
  have HI0 := hid hi0; have HZ0 := hid hz0; have HZ1 := hid hz1; have HZ2 := hid hz2
  clear hi0 hz0 hz1 hz2
  by_cases h0 : s.size = 0
  · have e : s = ⟨#[]⟩ := by
      obtain ⟨l, rfl⟩ := ba_list s
      rw [list_size] at h0
      obtain rfl := List.length_eq_zero_iff.1 h0
      rfl
    subst e
    clear h0
    go_enter Tryz.func43, Tryz.ntmps43
    go_wp2_with fail
    go_ret2
    exact ⟨fun _ => rfl, fun l h => (by rw [parseR_none0] at h; cases h), Below.refl _ _⟩
  by_cases hs : 218 < s.size
  · have hs' : (218 : Int) < (s.size : Int) := by omega
    go_enter Tryz.func43, Tryz.ntmps43
    go_wp2_with fail
    go_ret2
    exact ⟨fun _ => rfl, fun l h => (by rw [parseR_big hs] at h; cases h), Below.refl _ _⟩
  have hs' : ¬ (218 : Int) < (s.size : Int) := by omega
  obtain ⟨l, hl⟩ := ba_list s
  cases l with
  | nil => subst hl; exact absurd rfl h0
  | cons y l =>
    have hP : parseR s = if endE (readN y.toNat ⟨l.toArray⟩ false).2.1 (readN y.toNat ⟨l.toArray⟩ false).2.2 = 0 ∧ (y.toNat : Int) ≠ 0 then some (readN y.toNat ⟨l.toArray⟩ false).1 else none := by rw [hl]; exact parseR_cons y l (by rw [← hl]; exact hs)
    have hx : ∀ h : 0 < s.size, s[0]'h = y := by intro h; subst hl; rfl
    have hex : s.extract 1 s.size = ⟨l.toArray⟩ := by rw [hl, list_size, ext_list]; simp
    have h1s : (1 : Int) ≤ (s.size : Int) := by omega
    by_cases hy0 : y = 0
    · subst hy0
      have hp : parseR s = none := by rw [hP, if_neg (by simp)]
      have HP := hid hp
      clear hp hP hl hex
      go_enter Tryz.func43, Tryz.ntmps43
      go_wp2_with fail
      go_ret2
      exact ⟨fun _ => rfl, fun l h => (by rw [HP.out] at h; cases h), Below.refl _ _⟩
    have hyb : (y == 0) = false := by simpa using hy0
    have hy1 : (y.toNat : Int) ≠ 0 := by intro e; exact hy0 (UInt8.toNat_inj.1 (by simpa using e))
    have hyl : y.toNat < 256 := y.toNat_lt
    obtain ⟨r, hr⟩ : ∃ r : ByteArray, r = ⟨l.toArray⟩ := ⟨_, rfl⟩
    rw [← hr] at hex hP
    have HP := hid hP; have HY := hid hy1; have HR := hid hr
    have hA := below_alloc w (.cells #[.string r, .bool false] 120)
    have hI := Blk.new w #[.string r, .bool false] 120
    obtain ⟨p, hp⟩ : ∃ p, p = w.heap.size := ⟨_, rfl⟩
    have HPP := hid hp
    have hA2 := below_alloc (w.alloc (.cells #[.string r, .bool false] 120)) (.cells #[] 39)
    have hO := ownsRowF_empty' (w.alloc (.cells #[.string r, .bool false] 120)) 39 3
    have H0 := hid (show RefPI w ((w.alloc (.cells #[.string r, .bool false] 120)).alloc (.cells #[] 39)) p 0 r (.slice (some ⟨w.heap.size + 1, 0, none⟩) 0 0) from by
      refine ⟨bt hA hA2, ?_, ?_, ?_⟩
      · rw [hp]; exact Blk.belowS hI hA2
      · have e : (w.alloc (.cells #[.string r, .bool false] 120)).heap.size = w.heap.size + 1 := by simp
        rw [e] at hO; exact hO
      · intro g hg; simp [Value.ownBlock] at hg; omega)
    obtain ⟨n, hn⟩ : ∃ n, n = y.toNat := ⟨_, rfl⟩
    have HN := hid hn
    have hyn : (y.toNat : Int) = (n : Int) := by rw [hn]
    rw [← hn] at HP HY hyl
    have hb0 : ((s.size : Int) == 0) = false := by rw [beq_eq_false_iff_ne]; omega
    have hbn : ((n : Int) == 0) = false := by rw [beq_eq_false_iff_ne]; exact HY.out
    clear hP hy1 hr hA hI hA2 hO hl hy0 hs hn hp
    go_enter Tryz.func43, Tryz.ntmps43
    go_wp2_with fail
    go_loopg [6, 5] n (fun g x z wx => ∃ k : Nat, k + g = n ∧ x = .int .i64 k ∧ Hid (RefPI w wx p k r z))
    case atStart => exact ⟨0, by omega, rfl, H0.out⟩
    case round =>
      obtain ⟨k, hk, rfl, HS⟩ := hrel
      by_cases hlt : k < n
      · obtain ⟨⟨x, r', b'⟩, hxx⟩ : ∃ t, t = readT (readN k r false).2.1 (readN k r false).2.2 := ⟨_, rfl⟩
        have hcall := ref08_Read_any p _ _ wr HS.out.2.1
        have hst : readN (k + 1) r false = ((readN k r false).1 ++ [x], r', b') := by
          show (_ ++ [_], _, _) = _
          rw [← hxx]
        rw [← hxx] at hcall
        rw [HPP.out] at hcall
        obtain ⟨K, kk, v⟩ := x
        have HC := hid hcall; have HST := hid hst
        clear hcall hst hxx
        go_wp2_with fail
        refine HC.out.mono ?_; rintro e w3 ⟨rfl, hk3, hi3⟩
        rw [← HPP.out] at hk3 hi3
        have H3 := hid (And.intro hk3 hi3)
        clear hk3 hi3
        go_wp2_with (with_reducible refine at_op (.call { callee := .builtin .append, args := #[.tmp 32, .tmp 35], argTypes := #[32, 32] }) rfl ?_; refine Stopped.go ?_)
        refine Stopped.mk ?_
        obtain ⟨s1, s2, s3, s4⟩ := HS.out
        have s3' := ownsRowF_keepsR s3 H3.out.1 (fun g hg => by simp; exact (s4 g hg).2)
        refine wpList_append_one rfl _ _ 32 39 rfl i0 _ 3 40 Tryz.underlying32 HI0.out HZ0.out HZ1.out HZ2.out rfl (by decide) _ k _ rfl w3 #[.int .i64 K, .string kk, .string v] rfl s3' w3.heap.size rfl 1 rfl rfl (by simp [Value.oneCell']) (by simp only [maxLen]; omega) (by omega) ?_
        intro V w5 hown hkp hvb
        have H5 : Hid (RefPI w w5 p (k + 1) r V) := by
          have hpw : p < w3.heap.size := Blk.lt H3.out.2
          have b3 : Below w.heap.size w w3 := Keeps.below s1 H3.out.1 (fun x hx => by simp at hx; rw [hx, HPP.out]; exact Nat.le_refl _)
          refine ⟨Keeps.below b3 hkp (fun x hx => (s4 x (Option.mem_toList.1 hx)).1), ?_, ?_, fun g hg => ?_⟩
          · rw [HST.out]
            exact Blk.keeps H3.out.2 hkp (fun h => (s4 p (Option.mem_toList.1 h)).2 rfl)
          · rw [HST.out, List.flatMap_append]
            simpa [msgCells] using hown
          · rcases hvb g hg with h | h
            · exact s4 g h
            · have := b3.size; exact ⟨by omega, by omega⟩
        clear s1 s2 s3 s4 s3' hown hkp hvb HS H3 HC HST
        go_wp2_with fail
        go_roundg (n - (k + 1))
        case measure => omega
        case rel => exact ⟨k + 1, by omega, by go_num, H5⟩
      · have hkn : k = n := by omega
        subst hkn
        obtain ⟨⟨xs, r', b'⟩, hxx⟩ : ∃ t, t = readN k r false := ⟨_, rfl⟩
        have hrl := readN_len k r false
        obtain ⟨s1, s2, s3, s4⟩ := HS.out
        rw [← hxx] at HP s2 s3 hrl
        simp only at HP s2 s3 hrl
        obtain ⟨V, vcap, rfl, hvr⟩ := ownsRowF_row s3
        rw [HPP.out] at s2
        have c0 := s2.c0; have c1 := s2.c1
        have HV := hid hvr; have HB := hid s1; have HRL := hid hrl
        clear s1 s2 s3 s4 hvr hrl hxx HS hlt hk
        cases b' with
        | true =>
          go_wp2_with fail
          go_ret2
          exact ⟨fun _ => rfl, fun l h => (by rw [HP.out] at h; simp [endE] at h), HB.out⟩
        | false =>
          by_cases hr0 : r'.size = 0
          · have e : r' = ⟨#[]⟩ := by
              obtain ⟨q, rfl⟩ := ba_list r'
              rw [list_size] at hr0
              obtain rfl := List.length_eq_zero_iff.1 hr0
              rfl
            subst e
            clear hr0
            have hp : parseR s = some xs := by rw [HP.out, if_pos ⟨endE_zero.2 ⟨rfl, rfl⟩, HY.out⟩]
            have HP2 := hid hp
            clear hp
            go_wp2_with fail
            go_ret2
            refine ⟨fun h => (by rw [HP2.out] at h; cases h), fun l h => ?_, HB.out⟩
            rw [HP2.out] at h
            injection h with h
            subst h
            rw [HRL.out]
            exact ⟨V, vcap, rfl, HV.out⟩
          · have hne : (r'.toList == ([] : List UInt8)) = false := by
              obtain ⟨q, rfl⟩ := ba_list r'
              rw [list_size] at hr0
              rw [beq_eq_false_iff_ne, ByteArray.toList_eq]
              intro e; simp at e; exact hr0 (by rw [e]; rfl)
            have hp : parseR s = none := by rw [HP.out, if_neg (by intro h; exact hr0 (endE_zero.1 h.1).2)]
            have HP2 := hid hp
            clear hp hr0
            go_wp2_with fail
            go_ret2
            exact ⟨fun _ => rfl, fun l h => (by rw [HP2.out] at h; cases h), HB.out⟩

set_option maxHeartbeats 8000000 in
set_option maxRecDepth 100000 in
theorem ref10_Same (A B : Option Addr) (cap bcap : Nat) (l : List Msg3) (hlen : l.length ≤ 1000) (w : World) (hr : Row w A (l.flatMap msgCells)) (hr2 : Row w B (l.flatMap msgCells)) :
    Calls Tryz.prog 17 #[.slice A l.length cap, .slice B l.length bcap] w fun e w' => e = .returned (.bool true) ∧ Below w.heap.size w w' := by
  have HR := hid hr; have HR2 := hid hr2; clear hr hr2
  obtain ⟨L, hL⟩ : ∃ L, L = l.length := ⟨_, rfl⟩
  rw [← hL] at hlen ⊢
  have HL := hid hL; clear hL
  go_enter Tryz.func17, Tryz.ntmps17
  go_wp2_with fail
  go_loopg [5] L (fun g x wx => ∃ k : Nat, k + g = L ∧ x = .int .i64 k ∧ Hid (Below w.heap.size w wx))
  case atStart => exact ⟨0, by omega, rfl, Below.refl _ _⟩
  case round =>
    obtain ⟨k, hk, rfl, HS⟩ := hrel
    by_cases hlt : k < L
    · have hltl : k < l.length := by have := HL.out; omega
      obtain ⟨b, off, rfl, hb, hc⟩ := row_cell HR.out (by intro e; have h := msg_at l k 0 l[k] (.int .i64 l[k].1) (by simp [hltl]) rfl; rw [e] at h; cases h)
      obtain ⟨b', off', rfl, hb', hc'⟩ := row_cell HR2.out (by intro e; have h := msg_at l k 0 l[k] (.int .i64 l[k].1) (by simp [hltl]) rfl; rw [e] at h; cases h)
      obtain ⟨⟨K, kk, v⟩, hx⟩ : ∃ x, x = l[k] := ⟨_, rfl⟩
      have hxi : l[k]? = some (K, kk, v) := by rw [hx]; simp [hltl]
      have c0 := hc _ _ (msg_at l k 0 _ (.int .i64 K) hxi rfl)
      rw [← HS.out.cell (p := ⟨b, off + (k * 3 + 0), none⟩) hb, ← Nat.add_assoc, Nat.add_zero] at c0
      have c1 := hc _ _ (msg_at l k 1 _ (.string kk) hxi rfl)
      rw [← HS.out.cell (p := ⟨b, off + (k * 3 + 1), none⟩) hb, ← Nat.add_assoc] at c1
      have c2 := hc _ _ (msg_at l k 2 _ (.string v) hxi rfl)
      rw [← HS.out.cell (p := ⟨b, off + (k * 3 + 2), none⟩) hb, ← Nat.add_assoc] at c2
      have d0 := hc' _ _ (msg_at l k 0 _ (.int .i64 K) hxi rfl)
      rw [← HS.out.cell (p := ⟨b', off' + (k * 3 + 0), none⟩) hb', ← Nat.add_assoc, Nat.add_zero] at d0
      have d1 := hc' _ _ (msg_at l k 1 _ (.string kk) hxi rfl)
      rw [← HS.out.cell (p := ⟨b', off' + (k * 3 + 1), none⟩) hb', ← Nat.add_assoc] at d1
      have d2 := hc' _ _ (msg_at l k 2 _ (.string v) hxi rfl)
      rw [← HS.out.cell (p := ⟨b', off' + (k * 3 + 2), none⟩) hb', ← Nat.add_assoc] at d2
      clear hc hb hc' hb' hx hxi hltl
      go_wp2_with fail
      go_quiet (fail)
      go_wp2_with fail
      go_roundg (L - (k + 1))
      case measure => omega
      case rel => exact ⟨k + 1, by omega, by go_num, bdn HS.out _⟩
    · go_wp2_with fail
      go_ret
      exact ⟨rfl, HS.out⟩

end Go.Proofs.YtcklgaenedlbiaaGreat
