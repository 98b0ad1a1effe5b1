/-
  msg.Read, walked.
-/
import Derived.Test.YtjeoelhenlckaaaMsgF
namespace Go.Proofs.Ytjeoelhenlckaaa
open Go.RowKit


set_option maxHeartbeats 8000000 in
set_option maxRecDepth 100000 in
theorem msg_Read_yes (p : Nat) (K : Int) (k v : ByteArray) (l : List UInt8) (w : World) (h : InAt w p ⟨(msgB (K, k, v) ++ l).toArray⟩ false) (hx : isB (K, k, v) = true) :
    Calls Try.prog 49 #[.pointer (some ⟨p, 0, none⟩)] w fun e w' => e = .returned (.agg #[.int .i64 K, .string k, .string v]) ∧ Keeps [p] w w' ∧ InAt w' p ⟨l.toArray⟩ false := by
  have hu := Try.underlying39
  have HX := hid hx; clear hx
  have hA := below_alloc w (.cells #[.int .i64 0, .string ⟨#[]⟩, .string ⟨#[]⟩] 39)
  have FA := MsgAt.new w 0 ⟨#[]⟩ ⟨#[]⟩
  obtain ⟨g2, hg⟩ : ∃ g, g = w.heap.size := ⟨_, rfl⟩
  rw [← hg] at FA
  have hgp : g2 ≠ p := by have := Blk.lt h; omega
  have H1 := hid (show MsgAt (w.alloc (.cells #[.int .i64 0, .string ⟨#[]⟩, .string ⟨#[]⟩] 39)) g2 0 ⟨#[]⟩ ⟨#[]⟩ ∧ InAt (w.alloc (.cells #[.int .i64 0, .string ⟨#[]⟩, .string ⟨#[]⟩] 39)) p ⟨(msgB (K, k, v) ++ l).toArray⟩ false ∧ Keeps [p] w (w.alloc (.cells #[.int .i64 0, .string ⟨#[]⟩, .string ⟨#[]⟩] 39)) ∧ w.heap.size ≤ g2 ∧ g2 ≠ p from
    ⟨FA, Blk.belowS h hA, Keeps.of hA, Nat.le_of_eq hg.symm, hgp⟩)
  have HG := hid hg
  clear hA FA h hg hgp
  go_enter Try.func49, Try.ntmps49
  go_wp2_with fail
  rw [← HG.out]
  clear HG
  generalize w.alloc (.cells #[.int .i64 0, .string ⟨#[]⟩, .string ⟨#[]⟩] 39) = w1 at H1 ⊢
  have hkb : ((UInt8.ofNat K.toNat).toNat : Int) = K := by
    rcases msg_kind8 HX.out with e | e | e <;> simp only at e <;> subst e <;> rfl
  have hb1 : msgB (K, k, v) ++ l = UInt8.ofNat K.toNat :: (textB k ++ (textB v ++ l)) := by simp [msgB]
  have HKB := hid hkb
  have hks := msg_keysz HX.out
  have hvs := msg_valsz HX.out
  simp only at hks hvs
  have HKS := hid hks; have HVS := hid hvs
  have HI := hid (show InAt w1 p ⟨(UInt8.ofNat K.toNat :: (textB k ++ (textB v ++ l))).toArray⟩ false by rw [← hb1]; exact H1.out.2.1)
  clear hkb hb1 hks hvs
  refine (In_Byte p _ _ _ HI.out).mono ?_; rintro e w2 ⟨rfl, k1, i1⟩
  rw [HKB.out]
  have HI2 := hid i1
  have H2 := hid (show MsgAt w2 g2 0 ⟨#[]⟩ ⟨#[]⟩ ∧ Keeps [p] w w2 from ⟨H1.out.1.keeps k1 (by simp; exact H1.out.2.2.2.2), H1.out.2.2.1.trans k1⟩)
  clear k1 i1 HI
  go_wp2_with fail
  refine (In_TextL p k _ 8 _ HI2.out (by have := HKS.out; omega) (by have := HKS.out; omega)).mono ?_; rintro e w3 ⟨rfl, k1, i1⟩
  have HI3 := hid i1
  have H3 := hid (show MsgAt w3 g2 0 ⟨#[]⟩ ⟨#[]⟩ ∧ Keeps [p] w w3 from ⟨H2.out.1.keeps k1 (by simp; exact H1.out.2.2.2.2), H2.out.2.trans k1⟩)
  clear k1 i1 HI2 H2
  go_wp2_with fail
  refine (In_TextL p v _ 16 _ HI3.out (by have := HVS.out; omega) (by have := HVS.out; omega)).mono ?_; rintro e w4 ⟨rfl, k1, i1⟩
  have HI4 := hid i1
  have H4 := hid (show MsgAt w4 g2 0 ⟨#[]⟩ ⟨#[]⟩ ∧ Keeps [p] w w4 from ⟨H3.out.1.keeps k1 (by simp; exact H1.out.2.2.2.2), H3.out.2.trans k1⟩)
  clear k1 i1 HI3 H3
  have hA := below_alloc w4 (.cells #[.int .i64 K, .string k, .string v] 39)
  have FB := MsgAt.new w4 K k v
  obtain ⟨g3, hg3⟩ : ∃ g, g = w4.heap.size := ⟨_, rfl⟩
  rw [← hg3] at FB
  have x0 := FB.at0; have x1 := FB.at1; have x2 := FB.at2
  have H5 := hid (show MsgAt (w4.alloc (.cells #[.int .i64 K, .string k, .string v] 39)) g2 0 ⟨#[]⟩ ⟨#[]⟩ ∧ Keeps [p] w (w4.alloc (.cells #[.int .i64 K, .string k, .string v] 39)) ∧ InAt (w4.alloc (.cells #[.int .i64 K, .string k, .string v] 39)) p ⟨l.toArray⟩ false ∧ MsgAt (w4.alloc (.cells #[.int .i64 K, .string k, .string v] 39)) g3 K k v from
    ⟨H4.out.1.below hA, H4.out.2.trans (Keeps.of hA), Blk.belowS HI4.out hA, FB⟩)
  have HG3 := hid hg3
  clear hA FB hg3 H4 HI4
  go_wp2_with fail
  clear x0 x1 x2
  rw [← HG3.out]
  clear HG3
  generalize w4.alloc (.cells #[.int .i64 K, .string k, .string v] 39) = w5 at H5 ⊢
  refine (msg_isNot_any K k v _).mono ?_; rintro e w6 ⟨rfl, hb_⟩
  rw [show msgIs K k v = true from HX.out]
  have H6 := hid (show MsgAt w6 g2 0 ⟨#[]⟩ ⟨#[]⟩ ∧ Keeps [p] w w6 ∧ InAt w6 p ⟨l.toArray⟩ false from ⟨H5.out.1.below hb_, H5.out.2.1.trans (Keeps.of hb_), Blk.belowS H5.out.2.2.1 hb_⟩)
  have FB := H5.out.2.2.2.below hb_
  have x0 := FB.at0; have x1 := FB.at1; have x2 := FB.at2
  clear FB hb_ H5
  go_wp2_with (with_reducible refine at_op (.store 39 (.tmp 2) (.tmp 16)) rfl ?_; refine Stopped.go ?_)
  refine Stopped.mk (wpList_store_row_keeps rfl _ _ _ rfl g2 #[.int .i64 K, .string k, .string v] rfl rfl _ _ H6.out.1 (by kernel_rfl) rfl (by simp [Value.oneCell']) ?_)
  intro w7 F7 k7
  have H7 := hid (show MsgAt w7 g2 K k v ∧ Keeps [p] w w7 ∧ InAt w7 p ⟨l.toArray⟩ false from
    ⟨F7, H6.out.2.1.go k7 (fun x hx => by simp at hx; rw [hx]; exact .inr H1.out.2.2.2.1), Blk.keeps H6.out.2.2 k7 (by simp; exact Ne.symm H1.out.2.2.2.2)⟩)
  clear F7 k7 x0 x1 x2 H6
  go_wp2_with fail
  (try simp only [Exit.inBlock, Exit.then])
  exact bodyPost_ret (results_cell_row rfl _ _ g2 _ _ (0, 0) _ rfl H7.out.1 hu rfl (by kernel_rfl)) rfl ⟨rfl, H7.out.2.1, H7.out.2.2⟩
end Go.Proofs.Ytjeoelhenlckaaa
