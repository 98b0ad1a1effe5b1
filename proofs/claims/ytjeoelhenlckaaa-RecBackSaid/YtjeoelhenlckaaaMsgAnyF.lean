/-
  msg.Read and the document's, of whatever bytes.
-/
import Derived.Test.YtjeoelhenlckaaaMsgReadF
import Derived.Test.YtjeoelhenlckaaaPenRefIn
namespace Go.Proofs.Ytjeoelhenlckaaa
open Go.RowKit


/-- what is read: a message; what is left; whether something was wrong -/
def readT (r : ByteArray) (b : Bool) : Msg3 × ByteArray × Bool :=
  if isB ((numT r b 1).1, (textT (numT r b 1).2.1 (numT r b 1).2.2 8).1, (textT (textT (numT r b 1).2.1 (numT r b 1).2.2 8).2.1 (textT (numT r b 1).2.1 (numT r b 1).2.2 8).2.2 16).1) then
    (((numT r b 1).1, (textT (numT r b 1).2.1 (numT r b 1).2.2 8).1, (textT (textT (numT r b 1).2.1 (numT r b 1).2.2 8).2.1 (textT (numT r b 1).2.1 (numT r b 1).2.2 8).2.2 16).1),
      (textT (textT (numT r b 1).2.1 (numT r b 1).2.2 8).2.1 (textT (numT r b 1).2.1 (numT r b 1).2.2 8).2.2 16).2)
  else ((0, ⟨#[]⟩, ⟨#[]⟩), emptyB, true)

theorem readT_parts (r : ByteArray) (b : Bool) : ∃ (K : Int) (r1 : ByteArray) (b1 : Bool) (k r2 : ByteArray) (b2 : Bool) (v r3 : ByteArray) (b3 : Bool),
    numT r b 1 = (K, r1, b1) ∧ textT r1 b1 8 = (k, r2, b2) ∧ textT r2 b2 16 = (v, r3, b3) ∧ readT r b = if msgIs K k v then ((K, k, v), r3, b3) else ((0, ⟨#[]⟩, ⟨#[]⟩), emptyB, true) := by
  obtain ⟨⟨K, r1, b1⟩, h1⟩ : ∃ x, x = numT r b 1 := ⟨_, rfl⟩
  obtain ⟨⟨k, r2, b2⟩, h2⟩ : ∃ x, x = textT r1 b1 8 := ⟨_, rfl⟩
  obtain ⟨⟨v, r3, b3⟩, h3⟩ : ∃ x, x = textT r2 b2 16 := ⟨_, rfl⟩
  refine ⟨K, r1, b1, k, r2, b2, v, r3, b3, h1.symm, h2.symm, h3.symm, ?_⟩
  unfold readT
  simp only [← h1, ← h2, ← h3]
  rfl
theorem rawT_neg (r : ByteArray) (b : Bool) : rawT r b (-1) = (emptyB, emptyB, true) := by
  unfold rawT
  rw [if_neg (by omega)]

set_option maxHeartbeats 8000000 in
set_option maxRecDepth 100000 in
theorem msg_Read_any (p : Nat) (r : ByteArray) (b : Bool) (w : World) (h : InAt w p r b) :
    Calls Try.prog 49 #[.pointer (some ⟨p, 0, none⟩)] w fun e w' => e = .returned (.agg #[.int .i64 (readT r b).1.1, .string (readT r b).1.2.1, .string (readT r b).1.2.2]) ∧ Keeps [p] w w' ∧ InAt w' p (readT r b).2.1 (readT r b).2.2 := by
  obtain ⟨K, r1, b1, k, r2, b2, v, r3, b3, t1, t2, t3, t4⟩ := readT_parts r b
  rw [t4]
  obtain ⟨f, hf⟩ : ∃ f, f = msgIs K k v := ⟨_, rfl⟩
  rw [← hf]
  have T1 := hid t1; have T2 := hid t2; have T3 := hid t3; have HF := hid hf
  clear t1 t2 t3 t4 hf
  have hu := Try.underlying39
  have hA := below_alloc w (.cells #[.int .i64 0, .string ⟨#[]⟩, .string ⟨#[]⟩] 39)
  have FA := MsgAt.new w 0 ⟨#[]⟩ ⟨#[]⟩
  obtain ⟨g2, hg⟩ : ∃ g, g = w.heap.size := ⟨_, rfl⟩
  rw [← hg] at FA
  have hgp : g2 ≠ p := by have := Blk.lt h; omega
  have H1 := hid (show MsgAt (w.alloc (.cells #[.int .i64 0, .string ⟨#[]⟩, .string ⟨#[]⟩] 39)) g2 0 ⟨#[]⟩ ⟨#[]⟩ ∧ InAt (w.alloc (.cells #[.int .i64 0, .string ⟨#[]⟩, .string ⟨#[]⟩] 39)) p r b ∧ Keeps [p] w (w.alloc (.cells #[.int .i64 0, .string ⟨#[]⟩, .string ⟨#[]⟩] 39)) ∧ w.heap.size ≤ g2 ∧ g2 ≠ p from
    ⟨FA, Blk.belowS h hA, Keeps.of hA, Nat.le_of_eq hg.symm, hgp⟩)
  have HG := hid hg
  clear hA FA h hg hgp
  cases f
  all_goals
    go_enter Try.func49, Try.ntmps49
    go_wp2_with fail
    rw [← HG.out]
    clear HG
    generalize w.alloc (.cells #[.int .i64 0, .string ⟨#[]⟩, .string ⟨#[]⟩] 39) = w1 at H1 ⊢
    refine (In_Num_all p r b 1 _ H1.out.2.1).mono ?_; rintro e w2 ⟨rfl, k1, i1⟩
    rw [T1.out] at i1 ⊢
    have HI2 := hid i1
    have H2 := hid (show MsgAt w2 g2 0 ⟨#[]⟩ ⟨#[]⟩ ∧ Keeps [p] w w2 from ⟨H1.out.1.keeps k1 (by simp; exact H1.out.2.2.2.2), H1.out.2.2.1.trans k1⟩)
    clear k1 i1
    go_wp2_with fail
    refine (In_Text_all p r1 b1 8 _ HI2.out).mono ?_; rintro e w3 ⟨rfl, k1, i1⟩
    rw [T2.out] at i1 ⊢
    have HI3 := hid i1
    have H3 := hid (show MsgAt w3 g2 0 ⟨#[]⟩ ⟨#[]⟩ ∧ Keeps [p] w w3 from ⟨H2.out.1.keeps k1 (by simp; exact H1.out.2.2.2.2), H2.out.2.trans k1⟩)
    clear k1 i1 HI2 H2
    go_wp2_with fail
    refine (In_Text_all p r2 b2 16 _ HI3.out).mono ?_; rintro e w4 ⟨rfl, k1, i1⟩
    rw [T3.out] at i1 ⊢
    have HI4 := hid i1
    have H4 := hid (show MsgAt w4 g2 0 ⟨#[]⟩ ⟨#[]⟩ ∧ Keeps [p] w w4 from ⟨H3.out.1.keeps k1 (by simp; exact H1.out.2.2.2.2), H3.out.2.trans k1⟩)
    clear k1 i1 HI3 H3
    have hA := below_alloc w4 (.cells #[.int .i64 K, .string k, .string v] 39)
    have FB := MsgAt.new w4 K k v
    obtain ⟨g3, hg3⟩ : ∃ g, g = w4.heap.size := ⟨_, rfl⟩
    rw [← hg3] at FB
    have x0 := FB.at0; have x1 := FB.at1; have x2 := FB.at2
    have H5 := hid (show MsgAt (w4.alloc (.cells #[.int .i64 K, .string k, .string v] 39)) g2 0 ⟨#[]⟩ ⟨#[]⟩ ∧ Keeps [p] w (w4.alloc (.cells #[.int .i64 K, .string k, .string v] 39)) ∧ InAt (w4.alloc (.cells #[.int .i64 K, .string k, .string v] 39)) p r3 b3 ∧ MsgAt (w4.alloc (.cells #[.int .i64 K, .string k, .string v] 39)) g3 K k v from
      ⟨H4.out.1.below hA, H4.out.2.trans (Keeps.of hA), Blk.belowS HI4.out hA, FB⟩)
    have HG3 := hid hg3
    clear hA FB hg3 H4 HI4
    go_wp2_with fail
    clear x0 x1 x2
    rw [← HG3.out]
    clear HG3
    generalize w4.alloc (.cells #[.int .i64 K, .string k, .string v] 39) = w5 at H5 ⊢
    refine (msg_isNot_any K k v _).mono ?_; rintro e w6 ⟨rfl, hb_⟩
    rw [← HF.out]
    have H6 := hid (show MsgAt w6 g2 0 ⟨#[]⟩ ⟨#[]⟩ ∧ Keeps [p] w w6 ∧ InAt w6 p r3 b3 from ⟨H5.out.1.below hb_, H5.out.2.1.trans (Keeps.of hb_), Blk.belowS H5.out.2.2.1 hb_⟩)
    have FB := H5.out.2.2.2.below hb_
    have x0 := FB.at0; have x1 := FB.at1; have x2 := FB.at2
    clear FB hb_ H5
  · go_wp2_with fail
    clear x0 x1 x2
    refine (In_Raw_all p r3 b3 (-1) _ H6.out.2.2).mono ?_; rintro e w7 ⟨rfl, k1, i1⟩
    rw [rawT_neg] at i1 ⊢
    have H7 := hid (show MsgAt w7 g2 0 ⟨#[]⟩ ⟨#[]⟩ ∧ Keeps [p] w w7 ∧ InAt w7 p emptyB true from ⟨H6.out.1.keeps k1 (by simp; exact H1.out.2.2.2.2), H6.out.2.1.trans k1, i1⟩)
    clear k1 i1 H6
    go_wp2_with (with_reducible refine at_op (.store 39 (.tmp 2) (.tmp 15)) rfl ?_; refine Stopped.go ?_)
    refine Stopped.mk (wpList_store_row_keeps rfl _ _ _ rfl g2 #[.int .i64 0, .string ⟨#[]⟩, .string ⟨#[]⟩] rfl rfl _ _ H7.out.1 (by kernel_rfl) rfl (by simp [Value.oneCell']) ?_)
    intro w8 F8 k8
    have H8 := hid (show MsgAt w8 g2 0 ⟨#[]⟩ ⟨#[]⟩ ∧ Keeps [p] w w8 ∧ InAt w8 p emptyB true from
      ⟨F8, H7.out.2.1.go k8 (fun x hx => by simp at hx; rw [hx]; exact .inr H1.out.2.2.2.1), Blk.keeps H7.out.2.2 k8 (by simp; exact Ne.symm H1.out.2.2.2.2)⟩)
    clear F8 k8 H7
    go_wp2_with fail
    (try simp only [Exit.inBlock, Exit.then])
    exact bodyPost_ret (results_cell_row rfl _ _ g2 _ _ (0, 0) _ rfl H8.out.1 hu rfl (by kernel_rfl)) rfl ⟨rfl, H8.out.2.1, H8.out.2.2⟩
  · go_wp2_with (with_reducible refine at_op (.store 39 (.tmp 2) (.tmp 16)) rfl ?_; refine Stopped.go ?_)
    refine Stopped.mk (wpList_store_row_keeps rfl _ _ _ rfl g2 #[.int .i64 K, .string k, .string v] rfl rfl _ _ H6.out.1 (by kernel_rfl) rfl (by simp [Value.oneCell']) ?_)
    intro w7 F7 k7
    have H7 := hid (show MsgAt w7 g2 K k v ∧ Keeps [p] w w7 ∧ InAt w7 p r3 b3 from
      ⟨F7, H6.out.2.1.go k7 (fun x hx => by simp at hx; rw [hx]; exact .inr H1.out.2.2.2.1), Blk.keeps H6.out.2.2 k7 (by simp; exact Ne.symm H1.out.2.2.2.2)⟩)
    clear F7 k7 x0 x1 x2 H6
    go_wp2_with fail
    (try simp only [Exit.inBlock, Exit.then])
    exact bodyPost_ret (results_cell_row rfl _ _ g2 _ _ (0, 0) _ rfl H7.out.1 hu rfl (by kernel_rfl)) rfl ⟨rfl, H7.out.2.1, H7.out.2.2⟩
end Go.Proofs.Ytjeoelhenlckaaa
