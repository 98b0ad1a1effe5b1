/-
  The document's reader of layer 1: Raw, Num, Text.
  msg.Read and the document's, of whatever bytes.
-/
import Derived.Test.YtcklgaenedlbiaaGWalRound03
import Derived.Test.YtcklgaenedlbiaaGWalRound06

namespace Go.Proofs.Ytcklgaenedlbiaa
open Go.RowKit

theorem be_up (l : List UInt8) (k n : Nat) (hk : k < n) (hn : n ≤ l.length) : be (l.take k) * 256 ≤ be (l.take n) := by
  obtain ⟨d, rfl⟩ : ∃ d, n = k + 1 + d := ⟨n - (k + 1), by omega⟩
  have step : ∀ m, m < l.length → be (l.take m) * 256 ≤ be (l.take (m + 1)) := fun m hm => by
    rw [List.take_succ_eq_append_getElem hm, be_snoc]; omega
  clear hk
  induction d with
  | zero => exact step k (by omega)
  | succ d ih =>
    have h1 := ih (by omega)
    have h2 := step (k + 1 + d) (by omega)
    have h3 : k + 1 + (d + 1) = k + 1 + d + 1 := by omega
    rw [h3]
    exact Nat.le_trans (Nat.le_trans h1 (Nat.le_mul_of_pos_right _ (by decide))) h2

/-! What a deed reads, and what is left -/
def rawT (r : ByteArray) (b : Bool) (n : Int) : ByteArray × ByteArray × Bool :=
  if b = false ∧ 0 ≤ n ∧ n ≤ r.size then (r.extract 0 n.toNat, r.extract n.toNat r.size, false) else (emptyB, emptyB, true)
def numT (r : ByteArray) (b : Bool) (n : Int) : Int × ByteArray × Bool :=
  if b = false ∧ isW n = true ∧ n ≤ r.size then
    (if 9223372036854775808 ≤ be (r.data.toList.take n.toNat) then (0, emptyB, true) else ((be (r.data.toList.take n.toNat) : Int), r.extract n.toNat r.size, false))
  else (0, emptyB, true)
def textT (r : ByteArray) (b : Bool) (most : Int) : ByteArray × ByteArray × Bool :=
  match r.data.toList[0]? with
  | none => (emptyB, emptyB, true)
  | some x => if b = false ∧ (x.toNat : Int) ≤ most ∧ x.toNat + 1 ≤ r.size then ((r.extract 1 r.size).extract 0 x.toNat, (r.extract 1 r.size).extract x.toNat (r.extract 1 r.size).size, false) else (emptyB, emptyB, true)

section
variable (F : FuncId) (At : World → Nat → ByteArray → Bool → Prop)
theorem raw_spec (no : ∀ p r b n w, At w p r b → (b = true ∨ n < 0 ∨ (r.size : Int) < n) → Calls Try.prog F #[.pointer (some ⟨p, 0, none⟩), .int .i64 n] w fun e w' => e = .returned (.string emptyB) ∧ Keeps [p] w w' ∧ At w' p emptyB true)
    (yes : ∀ p r (n : Nat) w, At w p r false → n ≤ r.size → Calls Try.prog F #[.pointer (some ⟨p, 0, none⟩), .int .i64 n] w fun e w' => e = .returned (.string (r.extract 0 n)) ∧ Keeps [p] w w' ∧ At w' p (r.extract n r.size) false)
    (p : Nat) (r : ByteArray) (b : Bool) (n : Int) (w : World) (h : At w p r b) :
    Calls Try.prog F #[.pointer (some ⟨p, 0, none⟩), .int .i64 n] w fun e w' => e = .returned (.string (rawT r b n).1) ∧ Keeps [p] w w' ∧ At w' p (rawT r b n).2.1 (rawT r b n).2.2 := by
  unfold rawT
  by_cases hc : b = false ∧ 0 ≤ n ∧ n ≤ r.size
  · rw [if_pos hc]
    obtain ⟨rfl, h0, h1⟩ := hc
    obtain ⟨m, rfl⟩ : ∃ m : Nat, n = (m : Int) := ⟨n.toNat, by omega⟩
    exact yes p r m w h (by omega)
  · rw [if_neg hc]
    refine no p r b n w h ?_
    cases b with
    | true => exact .inl rfl
    | false =>
      right
      by_cases h0 : n < 0
      · exact .inl h0
      · right
        have : ¬ (n ≤ r.size) := fun h1 => hc ⟨rfl, by omega, h1⟩
        omega
theorem num_spec (no : ∀ p r b n w, At w p r b → (isW n = false ∨ b = true ∨ (r.size : Int) < n) → Calls Try.prog F #[.pointer (some ⟨p, 0, none⟩), .int .i64 n] w fun e w' => e = .returned (.int .i64 0) ∧ Keeps [p] w w' ∧ At w' p emptyB true)
    (yes : ∀ p r (n : Nat) w, At w p r false → isW (n : Int) = true → n ≤ r.size → ∀ N, N = be (r.data.toList.take n) → ∀ big, big = decide (9223372036854775808 ≤ N) → Calls Try.prog F #[.pointer (some ⟨p, 0, none⟩), .int .i64 n] w fun e w' => e = .returned (.int .i64 (if big then 0 else (N : Int))) ∧ Keeps [p] w w' ∧ At w' p (if big then emptyB else r.extract n r.size) big)
    (p : Nat) (r : ByteArray) (b : Bool) (n : Int) (w : World) (h : At w p r b) :
    Calls Try.prog F #[.pointer (some ⟨p, 0, none⟩), .int .i64 n] w fun e w' => e = .returned (.int .i64 (numT r b n).1) ∧ Keeps [p] w w' ∧ At w' p (numT r b n).2.1 (numT r b n).2.2 := by
  unfold numT
  by_cases hc : b = false ∧ isW n = true ∧ n ≤ r.size
  · rw [if_pos hc]
    obtain ⟨rfl, h0, h1⟩ := hc
    obtain ⟨m, rfl⟩ : ∃ m : Nat, n = (m : Int) := ⟨n.toNat, by rcases isW_cases h0 with e | e | e | e <;> omega⟩
    have hy := yes p r m w h h0 (by omega) _ rfl _ rfl
    rw [Int.toNat_natCast]
    cases hb : decide (9223372036854775808 ≤ be (r.data.toList.take m)) with
    | true => rw [hb] at hy; rw [if_pos (of_decide_eq_true hb)]; exact hy
    | false => rw [hb] at hy; rw [if_neg (of_decide_eq_false hb)]; exact hy
  · rw [if_neg hc]
    refine no p r b n w h ?_
    cases b with
    | true => exact .inr (.inl rfl)
    | false =>
      cases hw : isW n with
      | false => exact .inl rfl
      | true =>
        right; right
        have : ¬ (n ≤ r.size) := fun h1 => hc ⟨rfl, hw, h1⟩
        omega
theorem text_spec (no : ∀ p r b most w, At w p r b → (b = true ∨ r.size = 0 ∨ ∃ x : UInt8, r.data.toList[0]? = some x ∧ (most < (x.toNat : Int) ∨ (r.size : Int) < x.toNat + 1)) → Calls Try.prog F #[.pointer (some ⟨p, 0, none⟩), .int .i64 most] w fun e w' => e = .returned (.string emptyB) ∧ Keeps [p] w w' ∧ At w' p emptyB true)
    (yes : ∀ p r most w, At w p r false → ∀ x : UInt8, r.data.toList[0]? = some x → (x.toNat : Int) ≤ most → x.toNat + 1 ≤ r.size → Calls Try.prog F #[.pointer (some ⟨p, 0, none⟩), .int .i64 most] w fun e w' => e = .returned (.string ((r.extract 1 r.size).extract 0 x.toNat)) ∧ Keeps [p] w w' ∧ At w' p ((r.extract 1 r.size).extract x.toNat (r.extract 1 r.size).size) false)
    (p : Nat) (r : ByteArray) (b : Bool) (most : Int) (w : World) (h : At w p r b) :
    Calls Try.prog F #[.pointer (some ⟨p, 0, none⟩), .int .i64 most] w fun e w' => e = .returned (.string (textT r b most).1) ∧ Keeps [p] w w' ∧ At w' p (textT r b most).2.1 (textT r b most).2.2 := by
  unfold textT
  cases hx : r.data.toList[0]? with
  | none =>
    refine no p r b most w h (.inr (.inl ?_))
    have h1 := List.getElem?_eq_none_iff.1 hx
    have h2 : r.data.toList.length = r.size := by simp
    omega
  | some x =>
    by_cases hc : b = false ∧ (x.toNat : Int) ≤ most ∧ x.toNat + 1 ≤ r.size
    · simp only [if_pos hc]
      obtain ⟨rfl, h0, h1⟩ := hc
      exact yes p r most w h x hx h0 h1
    · simp only [if_neg hc]
      refine no p r b most w h ?_
      cases b with
      | true => exact .inl rfl
      | false =>
        right; right
        refine ⟨x, hx, ?_⟩
        by_cases h0 : most < (x.toNat : Int)
        · exact .inl h0
        · right
          have : ¬ (x.toNat + 1 ≤ r.size) := fun h1 => hc ⟨rfl, by omega, h1⟩
          omega
end
theorem In_Raw_all (p : Nat) (r : ByteArray) (b : Bool) (n : Int) (w : World) (h : InAt w p r b) :
    Calls Try.prog 87 #[.pointer (some ⟨p, 0, none⟩), .int .i64 n] w fun e w' => e = .returned (.string (rawT r b n).1) ∧ Keeps [p] w w' ∧ InAt w' p (rawT r b n).2.1 (rawT r b n).2.2 :=
  raw_spec 87 InAt In_Raw_no In_Raw_yes p r b n w h
theorem In_Num_all (p : Nat) (r : ByteArray) (b : Bool) (n : Int) (w : World) (h : InAt w p r b) :
    Calls Try.prog 88 #[.pointer (some ⟨p, 0, none⟩), .int .i64 n] w fun e w' => e = .returned (.int .i64 (numT r b n).1) ∧ Keeps [p] w w' ∧ InAt w' p (numT r b n).2.1 (numT r b n).2.2 :=
  num_spec 88 InAt In_Num_no (fun p r n w h hw hc N hN big hb => In_Num_walk p r n w h hw hc N hN big hb) p r b n w h
theorem In_Text_all (p : Nat) (r : ByteArray) (b : Bool) (n : Int) (w : World) (h : InAt w p r b) :
    Calls Try.prog 124 #[.pointer (some ⟨p, 0, none⟩), .int .i64 n] w fun e w' => e = .returned (.string (textT r b n).1) ∧ Keeps [p] w w' ∧ InAt w' p (textT r b n).2.1 (textT r b n).2.2 :=
  text_spec 124 InAt In_Text_no (fun p r most w h x hx hm hs => In_Text_yes p r most w h x hx hm hs) p r b n w h
end Go.Proofs.Ytcklgaenedlbiaa

namespace Go.Proofs.Ytcklgaenedlbiaa
open Go.RowKit


/-- what is read: a message; what is left; whether something was wrong -/
def readT (r : ByteArray) (b : Bool) : Msg3 × ByteArray × Bool :=
  if isB ((numT r b 1).1, (textT (numT r b 1).2.1 (numT r b 1).2.2 8).1, (textT (textT (numT r b 1).2.1 (numT r b 1).2.2 8).2.1 (textT (numT r b 1).2.1 (numT r b 1).2.2 8).2.2 16).1) then
    (((numT r b 1).1, (textT (numT r b 1).2.1 (numT r b 1).2.2 8).1, (textT (textT (numT r b 1).2.1 (numT r b 1).2.2 8).2.1 (textT (numT r b 1).2.1 (numT r b 1).2.2 8).2.2 16).1),
      (textT (textT (numT r b 1).2.1 (numT r b 1).2.2 8).2.1 (textT (numT r b 1).2.1 (numT r b 1).2.2 8).2.2 16).2)
  else ((0, ⟨#[]⟩, ⟨#[]⟩), emptyB, true)

theorem readT_parts (r : ByteArray) (b : Bool) : ∃ (K : Int) (r1 : ByteArray) (b1 : Bool) (k r2 : ByteArray) (b2 : Bool) (v r3 : ByteArray) (b3 : Bool),
    numT r b 1 = (K, r1, b1) ∧ textT r1 b1 8 = (k, r2, b2) ∧ textT r2 b2 16 = (v, r3, b3) ∧ readT r b = if msgIs K k v then ((K, k, v), r3, b3) else ((0, ⟨#[]⟩, ⟨#[]⟩), emptyB, true) := by
  obtain ⟨⟨K, r1, b1⟩, h1⟩ : ∃ x, x = numT r b 1 := ⟨_, rfl⟩
  obtain ⟨⟨k, r2, b2⟩, h2⟩ : ∃ x, x = textT r1 b1 8 := ⟨_, rfl⟩
  obtain ⟨⟨v, r3, b3⟩, h3⟩ : ∃ x, x = textT r2 b2 16 := ⟨_, rfl⟩
  refine ⟨K, r1, b1, k, r2, b2, v, r3, b3, h1.symm, h2.symm, h3.symm, ?_⟩
  unfold readT
  simp only [← h1, ← h2, ← h3]
  rfl
theorem rawT_neg (r : ByteArray) (b : Bool) : rawT r b (-1) = (emptyB, emptyB, true) := by
  unfold rawT
  rw [if_neg (by omega)]

set_option maxHeartbeats 8000000 in
set_option maxRecDepth 100000 in
theorem msg_Read_any (p : Nat) (r : ByteArray) (b : Bool) (w : World) (h : InAt w p r b) :
    Calls Try.prog 114 #[.pointer (some ⟨p, 0, none⟩)] w fun e w' => e = .returned (.agg #[.int .i64 (readT r b).1.1, .string (readT r b).1.2.1, .string (readT r b).1.2.2]) ∧ Keeps [p] w w' ∧ InAt w' p (readT r b).2.1 (readT r b).2.2 := by
  obtain ⟨K, r1, b1, k, r2, b2, v, r3, b3, t1, t2, t3, t4⟩ := readT_parts r b
  rw [t4]
  obtain ⟨f, hf⟩ : ∃ f, f = msgIs K k v := ⟨_, rfl⟩
  rw [← hf]
  have T1 := hid t1; have T2 := hid t2; have T3 := hid t3; have HF := hid hf
  clear t1 t2 t3 t4 hf
  have hu := Try.underlying70
  have hA := below_alloc w (.cells #[.int .i64 0, .string ⟨#[]⟩, .string ⟨#[]⟩] 70)
  have FA := MsgAt.new w 0 ⟨#[]⟩ ⟨#[]⟩
  obtain ⟨g2, hg⟩ : ∃ g, g = w.heap.size := ⟨_, rfl⟩
  rw [← hg] at FA
  have hgp : g2 ≠ p := by have := Blk.lt h; omega
  have H1 := hid (show MsgAt (w.alloc (.cells #[.int .i64 0, .string ⟨#[]⟩, .string ⟨#[]⟩] 70)) g2 0 ⟨#[]⟩ ⟨#[]⟩ ∧ InAt (w.alloc (.cells #[.int .i64 0, .string ⟨#[]⟩, .string ⟨#[]⟩] 70)) p r b ∧ Keeps [p] w (w.alloc (.cells #[.int .i64 0, .string ⟨#[]⟩, .string ⟨#[]⟩] 70)) ∧ w.heap.size ≤ g2 ∧ g2 ≠ p from
    ⟨FA, Blk.belowS h hA, Keeps.of hA, Nat.le_of_eq hg.symm, hgp⟩)
  have HG := hid hg
  clear hA FA h hg hgp
  cases f
  all_goals
    go_enter Try.func114, Try.ntmps114
    go_wp2_with fail
    rw [← HG.out]
    clear HG
    generalize w.alloc (.cells #[.int .i64 0, .string ⟨#[]⟩, .string ⟨#[]⟩] 70) = w1 at H1 ⊢
    refine (In_Num_all p r b 1 _ H1.out.2.1).mono ?_; rintro e w2 ⟨rfl, k1, i1⟩
    rw [T1.out] at i1 ⊢
    have HI2 := hid i1
    have H2 := hid (show MsgAt w2 g2 0 ⟨#[]⟩ ⟨#[]⟩ ∧ Keeps [p] w w2 from ⟨H1.out.1.keeps k1 (by simp; exact H1.out.2.2.2.2), H1.out.2.2.1.trans k1⟩)
    clear k1 i1
    go_wp2_with fail
    refine (In_Text_all p r1 b1 8 _ HI2.out).mono ?_; rintro e w3 ⟨rfl, k1, i1⟩
    rw [T2.out] at i1 ⊢
    have HI3 := hid i1
    have H3 := hid (show MsgAt w3 g2 0 ⟨#[]⟩ ⟨#[]⟩ ∧ Keeps [p] w w3 from ⟨H2.out.1.keeps k1 (by simp; exact H1.out.2.2.2.2), H2.out.2.trans k1⟩)
    clear k1 i1 HI2 H2
    go_wp2_with fail
    refine (In_Text_all p r2 b2 16 _ HI3.out).mono ?_; rintro e w4 ⟨rfl, k1, i1⟩
    rw [T3.out] at i1 ⊢
    have HI4 := hid i1
    have H4 := hid (show MsgAt w4 g2 0 ⟨#[]⟩ ⟨#[]⟩ ∧ Keeps [p] w w4 from ⟨H3.out.1.keeps k1 (by simp; exact H1.out.2.2.2.2), H3.out.2.trans k1⟩)
    clear k1 i1 HI3 H3
    have hA := below_alloc w4 (.cells #[.int .i64 K, .string k, .string v] 70)
    have FB := MsgAt.new w4 K k v
    obtain ⟨g3, hg3⟩ : ∃ g, g = w4.heap.size := ⟨_, rfl⟩
    rw [← hg3] at FB
    have x0 := FB.at0; have x1 := FB.at1; have x2 := FB.at2
    have H5 := hid (show MsgAt (w4.alloc (.cells #[.int .i64 K, .string k, .string v] 70)) g2 0 ⟨#[]⟩ ⟨#[]⟩ ∧ Keeps [p] w (w4.alloc (.cells #[.int .i64 K, .string k, .string v] 70)) ∧ InAt (w4.alloc (.cells #[.int .i64 K, .string k, .string v] 70)) p r3 b3 ∧ MsgAt (w4.alloc (.cells #[.int .i64 K, .string k, .string v] 70)) g3 K k v from
      ⟨H4.out.1.below hA, H4.out.2.trans (Keeps.of hA), Blk.belowS HI4.out hA, FB⟩)
    have HG3 := hid hg3
    clear hA FB hg3 H4 HI4
    go_wp2_with fail
    clear x0 x1 x2
    rw [← HG3.out]
    clear HG3
    generalize w4.alloc (.cells #[.int .i64 K, .string k, .string v] 70) = w5 at H5 ⊢
    refine (msg_isNot_any K k v _).mono ?_; rintro e w6 ⟨rfl, hb_⟩
    rw [← HF.out]
    have H6 := hid (show MsgAt w6 g2 0 ⟨#[]⟩ ⟨#[]⟩ ∧ Keeps [p] w w6 ∧ InAt w6 p r3 b3 from ⟨H5.out.1.below hb_, H5.out.2.1.trans (Keeps.of hb_), Blk.belowS H5.out.2.2.1 hb_⟩)
    have FB := H5.out.2.2.2.below hb_
    have x0 := FB.at0; have x1 := FB.at1; have x2 := FB.at2
    clear FB hb_ H5
  · go_wp2_with fail
    clear x0 x1 x2
    refine (In_Raw_all p r3 b3 (-1) _ H6.out.2.2).mono ?_; rintro e w7 ⟨rfl, k1, i1⟩
    rw [rawT_neg] at i1 ⊢
    have H7 := hid (show MsgAt w7 g2 0 ⟨#[]⟩ ⟨#[]⟩ ∧ Keeps [p] w w7 ∧ InAt w7 p emptyB true from ⟨H6.out.1.keeps k1 (by simp; exact H1.out.2.2.2.2), H6.out.2.1.trans k1, i1⟩)
    clear k1 i1 H6
    go_wp2_with (with_reducible refine at_op (.store 70 (.tmp 2) (.tmp 15)) rfl ?_; refine Stopped.go ?_)
    refine Stopped.mk (wpList_store_row_keeps rfl _ _ _ rfl g2 #[.int .i64 0, .string ⟨#[]⟩, .string ⟨#[]⟩] rfl rfl _ _ H7.out.1 (by kernel_rfl) rfl (by simp [Value.oneCell']) ?_)
    intro w8 F8 k8
    have H8 := hid (show MsgAt w8 g2 0 ⟨#[]⟩ ⟨#[]⟩ ∧ Keeps [p] w w8 ∧ InAt w8 p emptyB true from
      ⟨F8, H7.out.2.1.go k8 (fun x hx => by simp at hx; rw [hx]; exact .inr H1.out.2.2.2.1), Blk.keeps H7.out.2.2 k8 (by simp; exact Ne.symm H1.out.2.2.2.2)⟩)
    clear F8 k8 H7
    go_wp2_with fail
    (try simp only [Exit.inBlock, Exit.then])
    exact bodyPost_ret (results_cell_row rfl _ _ g2 _ _ (0, 0) _ rfl H8.out.1 hu rfl (by kernel_rfl)) rfl ⟨rfl, H8.out.2.1, H8.out.2.2⟩
  · go_wp2_with (with_reducible refine at_op (.store 70 (.tmp 2) (.tmp 16)) rfl ?_; refine Stopped.go ?_)
    refine Stopped.mk (wpList_store_row_keeps rfl _ _ _ rfl g2 #[.int .i64 K, .string k, .string v] rfl rfl _ _ H6.out.1 (by kernel_rfl) rfl (by simp [Value.oneCell']) ?_)
    intro w7 F7 k7
    have H7 := hid (show MsgAt w7 g2 K k v ∧ Keeps [p] w w7 ∧ InAt w7 p r3 b3 from
      ⟨F7, H6.out.2.1.go k7 (fun x hx => by simp at hx; rw [hx]; exact .inr H1.out.2.2.2.1), Blk.keeps H6.out.2.2 k7 (by simp; exact Ne.symm H1.out.2.2.2.2)⟩)
    clear F7 k7 x0 x1 x2 H6
    go_wp2_with fail
    (try simp only [Exit.inBlock, Exit.then])
    exact bodyPost_ret (results_cell_row rfl _ _ g2 _ _ (0, 0) _ rfl H7.out.1 hu rfl (by kernel_rfl)) rfl ⟨rfl, H7.out.2.1, H7.out.2.2⟩
end Go.Proofs.Ytcklgaenedlbiaa
