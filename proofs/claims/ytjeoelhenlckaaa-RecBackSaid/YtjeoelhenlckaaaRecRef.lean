/-
  The document's rows of messages: Good, Texts.
-/
import Derived.Test.YtjeoelhenlckaaaRecAwake
import Derived.Test.YtjeoelhenlckaaaRecBytes
namespace Go.Proofs.Ytjeoelhenlckaaa
open Go.RowKit

theorem ownsRowF_empty' (w : World) (e : TypeId) (size : Nat) : (w.alloc (.cells #[] e)).ownsRowF 0 e size (.slice (some ⟨w.heap.size, 0, none⟩) 0 0) 0 [] :=
  ⟨by simp, .inr ⟨w.heap.size, 0, #[], (0, 0), rfl, Nat.zero_le _, heap_alloc_new w _, Nat.zero_le _, Nat.zero_le _, Nat.zero_le _, by simp, by simp⟩⟩

set_option maxHeartbeats 8000000 in
set_option maxRecDepth 100000 in
theorem ref22_Good (A : Option Addr) (cap : Nat) (l : List Msg3) (hlen : l.length ≤ 1000) (w : World) (hr : Row w A (l.flatMap msgCells)) :
    Calls Try.prog 14 #[.slice A l.length cap] w fun e w' => ∃ v, e = .returned v ∧ w'.ownsRowF 0 39 3 v (l.filter isB).length ((l.filter isB).flatMap msgCells) ∧ Below w.heap.size w w' := by
  obtain ⟨i0, hi0, hz0, hz1, hz2⟩ := info_parts info_msg
  have HI0 := hid hi0; have HZ0 := hid hz0; have HZ1 := hid hz1; have HZ2 := hid hz2
  clear hi0 hz0 hz1 hz2
  have HR := hid hr; clear hr
  obtain ⟨L, hL⟩ : ∃ L, L = l.length := ⟨_, rfl⟩
  rw [← hL] at hlen ⊢
  have HL := hid hL; clear hL
  have H0 := hid (show Below w.heap.size w (w.alloc (.cells #[] 39)) ∧ (w.alloc (.cells #[] 39)).ownsRowF 0 39 3 (.slice (some ⟨w.heap.size, 0, none⟩) 0 0) 0 [] from ⟨below_alloc _ _, ownsRowF_empty' _ _ _⟩)
  go_enter Try.func14, Try.ntmps14
  go_wp2_with fail
  go_loopg [4, 3] L (fun g x y wx => ∃ k : Nat, k + g = L ∧ x = .int .i64 k ∧ Hid (Below w.heap.size w wx ∧ wx.ownsRowF 0 39 3 y ((l.take k).filter isB).length (((l.take k).filter isB).flatMap msgCells) ∧ ∀ b, y.ownBlock = some b → w.heap.size ≤ b))
  case atStart => exact ⟨0, by omega, rfl, H0.out.1, H0.out.2, fun b hb => by simp [Value.ownBlock] at hb; omega⟩
  case round =>
    obtain ⟨k, hk, rfl, HS⟩ := hrel
    by_cases hlt : k < L
    · have hltl : k < l.length := by have := HL.out; omega
      obtain ⟨b, off, rfl, hb, hc⟩ := row_cell HR.out (by intro e; have h := msg_at l k 0 l[k] (.int .i64 l[k].1) (by simp [hltl]) rfl; rw [e] at h; cases h)
      have hsn := filter_snoc hltl
      obtain ⟨⟨K, kk, v⟩, hx⟩ : ∃ x, x = l[k] := ⟨_, rfl⟩
      have hxi : l[k]? = some (K, kk, v) := by rw [hx]; simp [hltl]
      rw [← hx] at hsn
      have d0 := hc _ _ (msg_at l k 0 _ (.int .i64 K) hxi rfl)
      have d1 := hc _ _ (msg_at l k 1 _ (.string kk) hxi rfl)
      have d2 := hc _ _ (msg_at l k 2 _ (.string v) hxi rfl)
      rw [← Nat.add_assoc] at d0 d1 d2
      rw [Nat.add_zero] at d0
      have HCELL : Hid (∀ wx, Below w.heap.size w wx → wx.cell? ⟨b, off + k * 3, none⟩ = some (.int .i64 K) ∧ wx.cell? ⟨b, off + k * 3 + 1, none⟩ = some (.string kk) ∧ wx.cell? ⟨b, off + k * 3 + 2, none⟩ = some (.string v)) := fun wx hw =>
        ⟨by rw [hw.cell (p := ⟨b, off + k * 3, none⟩) hb]; exact d0, by rw [hw.cell (p := ⟨b, off + k * 3 + 1, none⟩) hb]; exact d1, by rw [hw.cell (p := ⟨b, off + k * 3 + 2, none⟩) hb]; exact d2⟩
      have HSN := hid hsn
      clear hc hb hx hxi d0 d1 d2 hsn hltl
      obtain ⟨c0, c1, c2⟩ := HCELL.out wr HS.out.1
      go_wp2_with fail
      refine (ref_Is_any K kk v _).mono ?_; rintro e w1 ⟨rfl, hb1⟩
      obtain ⟨f, hf⟩ : ∃ f, f = msgIs K kk v := ⟨_, rfl⟩
      rw [← hf]
      have hsn := HSN.out
      rw [show isB (K, kk, v) = f from hf.symm] at hsn
      have H1 := hid (show Below w.heap.size w w1 ∧ w1.ownsRowF 0 39 3 u3 ((l.take k).filter isB).length (((l.take k).filter isB).flatMap msgCells) ∧ ∀ b, u3.ownBlock = some b → w.heap.size ≤ b from ⟨bt HS.out.1 hb1, ownsRowF_below HS.out.2.1 hb1, HS.out.2.2⟩)
      have HSN2 := hid hsn
      clear hb1 hf hsn HSN HS c0 c1 c2
      cases f with
      | true =>
        obtain ⟨c0, c1, c2⟩ := HCELL.out w1 H1.out.1
        go_wp2_with (with_reducible refine at_op (.call { callee := .builtin .append, args := #[.tmp 17, .tmp 22], argTypes := #[22, 22] }) rfl ?_; refine Stopped.go ?_)
        refine Stopped.mk ?_
        obtain ⟨s1, s2, s3⟩ := H1.out
        have hfl : ((l.take k).filter isB).length ≤ 1000 := Nat.le_trans (List.length_filter_le _ _) (by rw [List.length_take]; omega)
        refine wpList_append_one rfl _ _ 22 39 rfl i0 _ 3 40 Try.underlying22 HI0.out HZ0.out HZ1.out HZ2.out rfl (by decide) u3 _ _ rfl w1 #[.int .i64 K, .string kk, .string v] rfl s2 w1.heap.size rfl 1 rfl rfl (by simp [Value.oneCell']) (by simp only [maxLen]; omega) (by omega) ?_
        intro V w5 hown hkp hvb
        have H5 : Hid (Below w.heap.size w w5 ∧ w5.ownsRowF 0 39 3 V ((l.take (k + 1)).filter isB).length (((l.take (k + 1)).filter isB).flatMap msgCells) ∧ ∀ b, V.ownBlock = some b → w.heap.size ≤ b) := by
          have hsn := HSN2.out
          simp only [if_true] at hsn
          refine ⟨Keeps.below s1 hkp (fun x hx => s3 x (Option.mem_toList.1 hx)), ?_, fun x hx => ?_⟩
          · rw [hsn, List.length_append, List.flatMap_append]
            simpa [msgCells] using hown
          · rcases hvb x hx with h | h
            · exact s3 x h
            · have := s1.size; omega
        clear s1 s2 s3 hfl hown hkp hvb H1 c0 c1 c2
        go_wp2_with fail
        go_roundg (L - (k + 1))
        case measure => omega
        case rel => exact ⟨k + 1, by omega, by go_num, H5⟩
      | false =>
        have H5 : Hid (Below w.heap.size w w1 ∧ w1.ownsRowF 0 39 3 u3 ((l.take (k + 1)).filter isB).length (((l.take (k + 1)).filter isB).flatMap msgCells) ∧ ∀ b, u3.ownBlock = some b → w.heap.size ≤ b) := by
          have hsn := HSN2.out
          simp only [Bool.false_eq_true, if_false, List.append_nil] at hsn
          rw [hsn]
          exact H1.out
        clear H1 HSN2
        go_wp2_with fail
        go_roundg (L - (k + 1))
        case measure => omega
        case rel => exact ⟨k + 1, by omega, by go_num, H5⟩
    · go_wp2_with fail
      go_ret
      obtain ⟨s1, s2, s3⟩ := HS.out
      rw [List.take_of_length_le (by have := HL.out; omega)] at s2
      exact ⟨_, rfl, s2, s1⟩

theorem flatB_len (l : List Msg3) : (l.flatMap msgB).length = sw l := by
  induction l with
  | nil => rfl
  | cons x l ih => rw [List.flatMap_cons, List.length_append, ih, msgB_len, sw_cons]; rfl
theorem cat_bytes (a b : List UInt8) : (⟨a.toArray⟩ : ByteArray) ++ ⟨b.toArray⟩ = ⟨(a ++ b).toArray⟩ := by
  apply ba_ext1
  rw [ByteArray.toList_eq, ByteArray.toList_eq]
  simp

def RefTI (w wx : World) (l : List Msg3) (k : Nat) (y : Value) (done : List (List Msg3)) (cur : List Msg3) (s : ByteArray) : Prop :=
  Below w.heap.size w wx ∧ wx.ownsRowF 0 9 1 y done.length (strs (done.map bytesG)) ∧ (∀ b, y.ownBlock = some b → w.heap.size ≤ b) ∧ done ++ g2 cur (l.drop k) = g2 [] l ∧ cur.length ≤ k ∧ (∀ x ∈ cur, isB x = true) ∧ s = ⟨(cur.flatMap msgB).toArray⟩

set_option maxHeartbeats 8000000 in
set_option maxRecDepth 100000 in
theorem ref22_Texts (A : Option Addr) (cap : Nat) (l : List Msg3) (hlen : l.length ≤ 200) (hall : ∀ x ∈ l, isB x = true) (w : World) (hr : Row w A (l.flatMap msgCells)) :
    Calls Try.prog 15 #[.slice A l.length cap] w fun e w' => ∃ v, e = .returned v ∧ w'.ownsRowF 0 9 1 v (g2 [] l).length (strs ((g2 [] l).map bytesG)) ∧ Below w.heap.size w w' := by
  obtain ⟨i0, hi0, hz0, hz1, hz2⟩ := info_parts info_strs
  have HI0 := hid hi0; have HZ0 := hid hz0; have HZ1 := hid hz1; have HZ2 := hid hz2
  clear hi0 hz0 hz1 hz2
  have HR := hid hr; have HALL := hid hall; clear hr hall
  obtain ⟨L, hL⟩ : ∃ L, L = l.length := ⟨_, rfl⟩
  rw [← hL] at hlen ⊢
  have HL := hid hL; clear hL
  have H0 := hid (show Below w.heap.size w (w.alloc (.cells #[] 9)) ∧ (w.alloc (.cells #[] 9)).ownsRowF 0 9 1 (.slice (some ⟨w.heap.size, 0, none⟩) 0 0) 0 [] from ⟨below_alloc _ _, ownsRowF_empty' _ _ _⟩)
  go_enter Try.func15, Try.ntmps15
  go_wp2_with fail
  go_loopg [6, 3, 4, 5] L (fun g x y z c wx => ∃ (k : Nat) (done : List (List Msg3)) (cur : List Msg3) (s : ByteArray) (n : Nat), k + g = L ∧ x = .int .i64 k ∧ z = .string s ∧ c = .int .i64 n ∧ n = cur.length ∧ Hid (RefTI w wx l k y done cur s))
  case atStart => exact ⟨0, [], [], ⟨#[]⟩, 0, by omega, rfl, rfl, rfl, rfl, H0.out.1, H0.out.2, fun b hb => by simp [Value.ownBlock] at hb; omega, rfl, Nat.le_refl _, (by intro x hx; cases hx), rfl⟩
  case round =>
    obtain ⟨k, done, cur, s, n, hk, rfl, rfl, rfl, hn, HS⟩ := hrel
    have HN := hid hn; clear hn
    by_cases hlt : k < L
    · have hltl : k < l.length := by have := HL.out; omega
      obtain ⟨b, off, rfl, hb, hc⟩ := row_cell HR.out (by intro e; have h := msg_at l k 0 l[k] (.int .i64 l[k].1) (by simp [hltl]) rfl; rw [e] at h; cases h)
      have hB := HALL.out _ (List.getElem_mem hltl)
      have hd := HS.out.2.2.2.1
      rw [drop_cons hltl, g2_cons] at hd
      obtain ⟨⟨K, kk, v⟩, hx⟩ : ∃ x, x = l[k] := ⟨_, rfl⟩
      have hxi : l[k]? = some (K, kk, v) := by rw [hx]; simp [hltl]
      rw [← hx] at hB hd
      have c0 := hc _ _ (msg_at l k 0 _ (.int .i64 K) hxi rfl)
      rw [← HS.out.1.cell (p := ⟨b, off + (k * 3 + 0), none⟩) hb, ← Nat.add_assoc, Nat.add_zero] at c0
      have c1 := hc _ _ (msg_at l k 1 _ (.string kk) hxi rfl)
      rw [← HS.out.1.cell (p := ⟨b, off + (k * 3 + 1), none⟩) hb, ← Nat.add_assoc] at c1
      have c2 := hc _ _ (msg_at l k 2 _ (.string v) hxi rfl)
      rw [← HS.out.1.cell (p := ⟨b, off + (k * 3 + 2), none⟩) hb, ← Nat.add_assoc] at c2
      obtain ⟨t, ht⟩ : ∃ t : ByteArray, t = ⟨(msgB (K, kk, v)).toArray⟩ := ⟨_, rfl⟩
      have hcall := ref08_Bytes_yes K kk v hB wr
      rw [← ht] at hcall
      have hts : t.size = wt (K, kk, v) := by rw [ht, list_size, msgB_len]; rfl
      have hss : s.size = sw cur := by rw [HS.out.2.2.2.2.2.2, list_size, flatB_len]
      have hsw := sw_le cur (fun x hx => isB_wt (HS.out.2.2.2.2.2.1 x hx))
      have hck := HS.out.2.2.2.2.1
      have hw27 := isB_wt hB
      have HC := hid hcall; have HT := hid ht; have HD := hid hd; have HBB := hid hB
      have HSS := hid (And.intro hts hss)
      have e1 : IntKind.i64.wrap (1 + (s.size : Int)) = 1 + (s.size : Int) := by rw [IntKind.wrap_i64]; omega
      have e2 : IntKind.i64.wrap (1 + (s.size : Int) + (t.size : Int)) = 1 + (s.size : Int) + (t.size : Int) := by rw [IntKind.wrap_i64]; omega
      have q1 : ¬ 9223372036854775807 < s.size + t.size := by omega
      have HHB := hid hb
      have hs6 : s.size ≤ 6000 := by omega
      clear hc hb hx hxi hB hd hcall ht hck hsw hw27 hts hss
      by_cases h0 : n = 0
      · subst h0
        have hcur : cur = [] := List.length_eq_zero_iff.1 HN.out.symm
        subst hcur
        have hs0 : s = ⟨#[]⟩ := HS.out.2.2.2.2.2.2
        subst hs0
        go_wp2_with fail
        refine HC.out.mono ?_; rintro e w1 ⟨rfl, hb1⟩
        have H5 : Hid (RefTI w w1 l (k + 1) u3 done [(K, kk, v)] (⟨#[]⟩ ++ t)) := by
          obtain ⟨s1, s2, s3, s4, s5, s6, s7⟩ := HS.out
          refine ⟨bt s1 hb1, ownsRowF_below s2 hb1, s3, ?_, ?_, ?_, ?_⟩
          · have hd := HD.out
            rw [if_neg (by simp)] at hd
            exact hd
          · simp
          · intro y hy; simp at hy; subst hy; exact HBB.out
          · rw [HT.out, cat_bytes]; simp
        clear hb1 HS HD HC c0 c1 c2
        go_wp2_with fail
        go_roundg (L - (k + 1))
        case measure => omega
        case rel => exact ⟨k + 1, done, [(K, kk, v)], _, 1, by omega, by go_num, rfl, by go_num, rfl, H5⟩
      · have h0' : (0 : Int) < (n : Int) := by omega
        have hn200 : (n : Int) ≤ 200 := by have := HS.out.2.2.2.2.1; have := HN.out; omega
        have e0 : IntKind.i64.wrap ((n : Int) + 1) = (n : Int) + 1 := by rw [IntKind.wrap_i64]; omega
        have hcne : cur ≠ [] := by intro e; rw [e] at HN; exact h0 HN.out
        have HCN := hid hcne; clear hcne
        by_cases hbig : 218 < 1 + s.size + t.size
        · have hbig' : (218 : Int) < 1 + (s.size : Int) + (t.size : Int) := by omega
          have HBG := hid hbig
          clear hbig
          have hc : (( UInt8.ofNat n).toNat : Int) = (n : Int) := by rw [ofNat_toNat_le (by omega)]
          obtain ⟨c, hc'⟩ : ∃ c, c = UInt8.ofNat n := ⟨_, rfl⟩
          rw [← hc'] at hc
          have HC1 := hid hc
          obtain ⟨q, hq⟩ : ∃ q : ByteArray, q = ⟨[c].toArray⟩ := ⟨_, rfl⟩
          have hqs : q.size = 1 := by rw [hq]; rfl
          have q2 : ¬ 9223372036854775807 < q.size + s.size := by omega
          have hqq : q ++ s = bytesG cur := by rw [hq, HS.out.2.2.2.2.2.2, cat_bytes, hc', HN.out]; rfl
          have HQ := hid (And.intro hq.symm hqq)
          have hdl : done.length ≤ 201 := by
            have h := congrArg List.length HS.out.2.2.2.1
            have h2 := g2_len l []
            have := HL.out
            rw [List.length_append] at h; omega
          have HDL := hid hdl
          clear hc hc' hq hqs hqq hdl
          go_wp2_with fail
          refine HC.out.mono ?_; rintro e w1 ⟨rfl, hb1⟩
          have HB1 := hid hb1; clear hb1 c0 c1 c2
          go_wp2_with (with_reducible refine at_op (.convert 64 9 (.tmp 34)) rfl ?_; refine Stopped.go ?_)
          have hN : Blk (w1.alloc (.cells #[.int .u8 (n : Int)] 5)) w1.heap.size 5 (u8s [c]) := by
            have h := Blk.new w1 #[.int .u8 (n : Int)] 5
            rw [← HC1.out] at h ⊢
            exact h
          have HN1 := hid hN; clear hN
          refine Stopped.mk (wpList_string rfl _ _ 5 _ rfl ⟨w1.heap.size, 0, none⟩ 1 1 [c] rfl rfl Try.underlying64 Try.underlying5 Try.underlying9 (fun j hj => HN1.out.bytes' j hj) ?_)
          rw [HQ.out.1]
          clear HN1
          go_wp2_with (with_reducible refine at_op (.call { callee := .builtin .append, args := #[.tmp 31, .tmp 38], argTypes := #[25, 25] }) rfl ?_; refine Stopped.go ?_)
          refine Stopped.mk ?_
          obtain ⟨s1, s2, s3, s4, s5, s6, s7⟩ := HS.out
          have hA := below_alloc w1 (.cells #[.int .u8 (n : Int)] 5)
          have hdl : done.length ≤ 1000 := by have := HDL.out; omega
          refine wpList_append_one rfl _ _ 25 9 rfl i0 _ 1 16 Try.underlying25 HI0.out HZ0.out HZ1.out HZ2.out rfl (by decide) _ done.length _ rfl (w1.alloc (.cells #[.int .u8 (n : Int)] 5)) #[.string (q ++ s)] rfl (ownsRowF_below s2 (bt HB1.out hA)) (w1.heap.size + 1) (by simp) 1 rfl rfl (by simp [Value.oneCell']) (by simp only [maxLen]; omega) (by omega) ?_
          intro V w5 hown hkp hvb
          have H5 : Hid (RefTI w w5 l (k + 1) V (done ++ [cur]) [(K, kk, v)] (⟨#[]⟩ ++ t)) := by
            have b2 : Below w.heap.size w (w1.alloc (.cells #[.int .u8 (n : Int)] 5)) := bt (bt s1 HB1.out) hA
            refine ⟨Keeps.below b2 hkp (fun x hx => s3 x (Option.mem_toList.1 hx)), ?_, fun x hx => ?_, ?_, ?_, ?_, ?_⟩
            · rw [HQ.out.2] at hown
              rw [List.length_append, List.map_append]
              simpa [strs] using hown
            · rcases hvb x hx with h | h
              · exact s3 x h
              · have := b2.size; omega
            · have hd := HD.out
              have hz := HSS.out
              rw [if_pos ⟨HCN.out, by have := HBG.out; omega⟩] at hd
              rw [← hd]; simp
            · simp
            · intro y hy; simp at hy; subst hy; exact HBB.out
            · rw [HT.out, cat_bytes]; simp
          clear s1 s2 s3 s4 s5 s6 s7 hA hdl hown hkp hvb HS HB1 HD HC HQ HDL HC1 HN HCN HBG q2
          go_wp2_with fail
          go_roundg (L - (k + 1))
          case measure => omega
          case rel => exact ⟨k + 1, done ++ [cur], [(K, kk, v)], _, 1, by omega, by go_num, rfl, by go_num, rfl, H5⟩
        · have hbig' : ¬ (218 : Int) < 1 + (s.size : Int) + (t.size : Int) := by omega
          have HBG := hid hbig
          clear hbig
          go_wp2_with fail
          refine HC.out.mono ?_; rintro e w1 ⟨rfl, hb1⟩
          have H5 : Hid (RefTI w w1 l (k + 1) u3 done (cur ++ [(K, kk, v)]) (s ++ t)) := by
            obtain ⟨s1, s2, s3, s4, s5, s6, s7⟩ := HS.out
            refine ⟨bt s1 hb1, ownsRowF_below s2 hb1, s3, ?_, ?_, ?_, ?_⟩
            · have hd := HD.out
              have hz := HSS.out
              rw [if_neg (by intro h; have := h.2; have := HBG.out; omega)] at hd
              exact hd
            · simp; omega
            · intro y hy
              rcases List.mem_append.1 hy with hy | hy
              · exact s6 y hy
              · simp at hy; subst hy; exact HBB.out
            · rw [HT.out, s7, cat_bytes]; simp
          have HN2 : Hid (n + 1 = (cur ++ [(K, kk, v)]).length) := by have := HN.out; rw [List.length_append, ← this]; rfl
          clear hb1 HS HD HC c0 c1 c2 HN
          go_wp2_with fail
          go_roundg (L - (k + 1))
          case measure => omega
          case rel => exact ⟨k + 1, done, cur ++ [(K, kk, v)], _, n + 1, by omega, by go_num, rfl, by go_num, HN2.out, H5⟩
    · have hkl : k = L := by omega
      subst hkl
      have hd := HS.out.2.2.2.1
      rw [show l.drop k = [] by rw [HL.out]; simp] at hd
      by_cases h0 : n = 0
      · subst h0
        have hcur : cur = [] := List.length_eq_zero_iff.1 HN.out.symm
        subst hcur
        have hdone : done = g2 [] l := by rw [← hd]; simp [g2]
        have HDN := hid hdone
        clear hd hdone
        go_wp2_with fail
        go_ret
        exact ⟨_, rfl, by rw [← HDN.out]; exact HS.out.2.1, HS.out.1⟩
      · have h0' : (0 : Int) < (n : Int) := by omega
        have hcne : cur ≠ [] := by intro e; rw [e] at HN; exact h0 HN.out
        have hdone : done ++ [cur] = g2 [] l := by rw [← hd]; simp [g2, hcne]
        have hn200 : (n : Int) ≤ 200 := by have := HS.out.2.2.2.2.1; have := HN.out; omega
        have hss : s.size = sw cur := by rw [HS.out.2.2.2.2.2.2, list_size, flatB_len]
        have hsw := sw_le cur (fun x hx => isB_wt (HS.out.2.2.2.2.2.1 x hx))
        have HDN := hid hdone; have hcl := HN.out
        have hc : (( UInt8.ofNat n).toNat : Int) = (n : Int) := by rw [ofNat_toNat_le (by omega)]
        obtain ⟨c, hc'⟩ : ∃ c, c = UInt8.ofNat n := ⟨_, rfl⟩
        rw [← hc'] at hc
        have HC1 := hid hc
        obtain ⟨q, hq⟩ : ∃ q : ByteArray, q = ⟨[c].toArray⟩ := ⟨_, rfl⟩
        have hqs : q.size = 1 := by rw [hq]; rfl
        have q2 : ¬ 9223372036854775807 < q.size + s.size := by omega
        have hqq : q ++ s = bytesG cur := by rw [hq, HS.out.2.2.2.2.2.2, cat_bytes, hc', HN.out]; rfl
        have HQ := hid (And.intro hq.symm hqq)
        have hdl : done.length ≤ 201 := by
          have h := congrArg List.length hdone
          have h2 := g2_len l []
          have := HL.out
          rw [List.length_append] at h; simp only [List.length_singleton] at h; omega
        have HDL := hid hdl
        clear hc hc' hq hqs hqq hdl
        clear hd hcne hdone hss hsw hcl
        go_wp2_with (with_reducible refine at_op (.convert 64 9 (.tmp 50)) rfl ?_; refine Stopped.go ?_)
        have hN : Blk (wr.alloc (.cells #[.int .u8 (n : Int)] 5)) wr.heap.size 5 (u8s [c]) := by
          have h := Blk.new wr #[.int .u8 (n : Int)] 5
          rw [← HC1.out] at h ⊢
          exact h
        have HN1 := hid hN; clear hN
        refine Stopped.mk (wpList_string rfl _ _ 5 _ rfl ⟨wr.heap.size, 0, none⟩ 1 1 [c] rfl rfl Try.underlying64 Try.underlying5 Try.underlying9 (fun j hj => HN1.out.bytes' j hj) ?_)
        rw [HQ.out.1]
        clear HN1
        go_wp2_with (with_reducible refine at_op (.call { callee := .builtin .append, args := #[.tmp 47, .tmp 54], argTypes := #[25, 25] }) rfl ?_; refine Stopped.go ?_)
        refine Stopped.mk ?_
        obtain ⟨s1, s2, s3, s4, s5, s6, s7⟩ := HS.out
        have hA := below_alloc wr (.cells #[.int .u8 (n : Int)] 5)
        have hdl : done.length ≤ 1000 := by have := HDL.out; omega
        refine wpList_append_one rfl _ _ 25 9 rfl i0 _ 1 16 Try.underlying25 HI0.out HZ0.out HZ1.out HZ2.out rfl (by decide) _ done.length _ rfl (wr.alloc (.cells #[.int .u8 (n : Int)] 5)) #[.string (q ++ s)] rfl (ownsRowF_below s2 hA) (wr.heap.size + 1) (by simp) 1 rfl rfl (by simp [Value.oneCell']) (by simp only [maxLen]; omega) (by omega) ?_
        intro V w5 hown hkp hvb
        have H5 : Hid (w5.ownsRowF 0 9 1 V (g2 [] l).length (strs ((g2 [] l).map bytesG)) ∧ Below w.heap.size w w5) := by
          have b2 : Below w.heap.size w (wr.alloc (.cells #[.int .u8 (n : Int)] 5)) := bt s1 hA
          refine ⟨?_, Keeps.below b2 hkp (fun x hx => s3 x (Option.mem_toList.1 hx))⟩
          rw [HQ.out.2] at hown
          rw [← HDN.out, List.length_append, List.map_append]
          simpa [strs] using hown
        clear s1 s2 s3 s4 s5 s6 s7 hA hdl hown hkp hvb HS HQ HDL HC1 HN HDN q2
        go_wp2_with fail
        go_ret
        exact ⟨V, rfl, H5.out⟩
end Go.Proofs.Ytjeoelhenlckaaa
