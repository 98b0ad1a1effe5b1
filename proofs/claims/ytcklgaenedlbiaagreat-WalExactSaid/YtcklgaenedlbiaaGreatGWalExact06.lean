/-
  Messages as texts: how they are parted: plain laws.
  msg.Read, walked.
-/
import Derived.Test.YtcklgaenedlbiaaGreatGWalExact05

namespace Go.Proofs.YtcklgaenedlbiaaGreat
open Go.RowKit

/-- a message's weight -/
def wt (x : Msg3) : Nat := 3 + x.2.1.size + x.2.2.size
def sw (l : List Msg3) : Nat := (l.map wt).sum
theorem sw_cons (x : Msg3) (l : List Msg3) : sw (x :: l) = wt x + sw l := by simp [sw]
theorem sw_append (l m : List Msg3) : sw (l ++ m) = sw l + sw m := by simp [sw]
/-- how many fit behind so many bytes -/
def fillF : Nat → List Msg3 → Nat
  | _, [] => 0
  | s, x :: l => if 218 < s + wt x then 0 else 1 + fillF (s + wt x) l
theorem fillF_le : ∀ (s : Nat) (l : List Msg3), fillF s l ≤ l.length
  | _, [] => Nat.le_refl _
  | s, x :: l => by
    unfold fillF
    split
    · exact Nat.zero_le _
    · have := fillF_le (s + wt x) l; simp only [List.length_cons]; omega
/-- as many in each as fit -/
def groupsF : Nat → List Msg3 → List (List Msg3)
  | 0, _ => []
  | _ + 1, [] => []
  | f + 1, x :: l => (x :: l).take (fillF 1 (x :: l)) :: groupsF f ((x :: l).drop (fillF 1 (x :: l)))
/-- one by one -/
def g2 : List Msg3 → List Msg3 → List (List Msg3)
  | cur, [] => if cur = [] then [] else [cur]
  | cur, x :: l => if cur ≠ [] ∧ 218 < 1 + sw cur + wt x then cur :: g2 [x] l else g2 (cur ++ [x]) l
theorem g2_cons (cur : List Msg3) (x : Msg3) (l : List Msg3) : g2 cur (x :: l) = if cur ≠ [] ∧ 218 < 1 + sw cur + wt x then cur :: g2 [x] l else g2 (cur ++ [x]) l := rfl
theorem fillF_cons (s : Nat) (x : Msg3) (l : List Msg3) : fillF s (x :: l) = if 218 < s + wt x then 0 else 1 + fillF (s + wt x) l := rfl
theorem g2_fill : ∀ (l cur : List Msg3), cur ≠ [] → g2 cur l = (cur ++ l.take (fillF (1 + sw cur) l)) :: g2 [] (l.drop (fillF (1 + sw cur) l))
  | [], cur, h => by simp [g2, h, fillF]
  | x :: l, cur, h => by
    rw [g2_cons, fillF_cons]
    by_cases hc : 218 < 1 + sw cur + wt x
    · rw [if_pos ⟨h, hc⟩, if_pos hc, List.take_zero, List.append_nil, List.drop_zero, g2_cons, if_neg (by simp)]
      rfl
    · rw [if_neg (fun hh => hc hh.2), if_neg hc, g2_fill l (cur ++ [x]) (by simp), sw_append, sw_cons]
      have e : sw ([] : List Msg3) = 0 := rfl
      rw [e, Nat.add_zero, ← Nat.add_assoc, Nat.add_comm 1 (fillF _ l), List.take_succ_cons, List.drop_succ_cons, List.append_assoc]
      rfl
theorem groups_g2 : ∀ (f : Nat) (l : List Msg3), l.length ≤ f → (∀ x ∈ l, wt x ≤ 217) → groupsF f l = g2 [] l
  | 0, l, h, _ => by
    obtain rfl : l = [] := List.length_eq_zero_iff.1 (by omega)
    rfl
  | f + 1, [], _, _ => rfl
  | f + 1, x :: l, h, hw => by
    have hx := hw x (List.mem_cons_self ..)
    have e1 : fillF 1 (x :: l) = fillF (1 + wt x) l + 1 := by
      conv => lhs; unfold fillF
      rw [if_neg (by omega), Nat.add_comm]
    have hle := fillF_le (1 + wt x) l
    unfold groupsF
    rw [e1, List.take_succ_cons, List.drop_succ_cons]
    rw [groups_g2 f _ (by rw [List.length_drop]; simp only [List.length_cons] at h; omega) (fun y hy => hw y (List.mem_cons_of_mem _ (List.mem_of_mem_drop hy)))]
    have e2 : g2 [] (x :: l) = g2 [x] l := by
      conv => lhs; unfold g2
      rw [if_neg (by simp)]
      rfl
    rw [e2, g2_fill l [x] (by simp)]
    simp [sw]
/-- a message more -/
theorem g2_snoc : ∀ (l cur : List Msg3) (m : Msg3), (g2 cur (l ++ [m])).length = (g2 cur l).length ∨ (g2 cur (l ++ [m])).length = (g2 cur l).length + 1
  | [], cur, m => by
    simp only [List.nil_append, g2]
    by_cases h : cur = []
    · subst h; simp
    · by_cases h2 : 218 < 1 + sw cur + wt m
      · rw [if_pos ⟨h, h2⟩, if_neg h]; simp
      · rw [if_neg (fun hh => h2 hh.2), if_neg h]; simp
  | x :: l, cur, m => by
    simp only [List.cons_append, g2]
    split
    · have := g2_snoc l [x] m
      simp only [List.length_cons]; omega
    · exact g2_snoc l (cur ++ [x]) m
theorem sw_le : ∀ (l : List Msg3), (∀ x ∈ l, wt x ≤ 27) → sw l ≤ 27 * l.length
  | [], _ => by simp [sw]
  | x :: l, h => by
    have := sw_le l (fun y hy => h y (List.mem_cons_of_mem _ hy))
    have := h x (List.mem_cons_self ..)
    rw [sw_cons, List.length_cons]; omega
theorem g2_bound : ∀ (l cur : List Msg3), (∀ x ∈ cur, wt x ≤ 27) → (∀ x ∈ l, wt x ≤ 27) → cur ++ l ≠ [] → 8 * ((g2 cur l).length - 1) + 1 ≤ cur.length + l.length ∧ 1 ≤ (g2 cur l).length
  | [], cur, hc, _, hne => by
    have : cur ≠ [] := by simpa using hne
    have h1 := List.length_pos_iff.2 this
    simp [g2, this]; omega
  | x :: l, cur, hc, hl, _ => by
    simp only [g2]
    have hx := hl x (List.mem_cons_self ..)
    split
    · rename_i h
      have h1 := g2_bound l [x] (by intro y hy; simp at hy; subst hy; exact hx) (fun y hy => hl y (List.mem_cons_of_mem _ hy)) (by simp)
      have h2 := sw_le cur hc
      simp only [List.length_cons, List.length_nil] at h1 ⊢
      omega
    · have h1 := g2_bound l (cur ++ [x]) (by intro y hy; rcases List.mem_append.1 hy with hy | hy; exact hc y hy; simp at hy; subst hy; exact hx) (fun y hy => hl y (List.mem_cons_of_mem _ hy)) (by simp)
      simp only [List.length_append, List.length_cons, List.length_nil] at h1 ⊢
      omega
theorem g2_flat : ∀ (l cur : List Msg3), (g2 cur l).flatten = cur ++ l
  | [], cur => by
    simp only [g2]
    split
    · rename_i h; subst h; rfl
    · simp
  | x :: l, cur => by
    simp only [g2]
    split
    · rw [List.flatten_cons, g2_flat l [x]]; rfl
    · rw [g2_flat l (cur ++ [x])]; simp
end Go.Proofs.YtcklgaenedlbiaaGreat

namespace Go.Proofs.YtcklgaenedlbiaaGreat
open Go.RowKit


set_option maxHeartbeats 8000000 in
set_option maxRecDepth 100000 in
theorem msg_Read_yes (p : Nat) (K : Int) (k v : ByteArray) (l : List UInt8) (w : World) (h : InAt w p ⟨(msgB (K, k, v) ++ l).toArray⟩ false) (hx : isB (K, k, v) = true) :
    Calls Tryz.prog 79 #[.pointer (some ⟨p, 0, none⟩)] w fun e w' => e = .returned (.agg #[.int .i64 K, .string k, .string v]) ∧ Keeps [p] w w' ∧ InAt w' p ⟨l.toArray⟩ false := by
  have hu := Tryz.underlying39
  have HX := hid hx; clear hx
  have hA := below_alloc w (.cells #[.int .i64 0, .string ⟨#[]⟩, .string ⟨#[]⟩] 39)
  have FA := MsgAt.new w 0 ⟨#[]⟩ ⟨#[]⟩
  obtain ⟨g2, hg⟩ : ∃ g, g = w.heap.size := ⟨_, rfl⟩
  rw [← hg] at FA
  have hgp : g2 ≠ p := by have := Blk.lt h; omega
  have H1 := hid (show MsgAt (w.alloc (.cells #[.int .i64 0, .string ⟨#[]⟩, .string ⟨#[]⟩] 39)) g2 0 ⟨#[]⟩ ⟨#[]⟩ ∧ InAt (w.alloc (.cells #[.int .i64 0, .string ⟨#[]⟩, .string ⟨#[]⟩] 39)) p ⟨(msgB (K, k, v) ++ l).toArray⟩ false ∧ Keeps [p] w (w.alloc (.cells #[.int .i64 0, .string ⟨#[]⟩, .string ⟨#[]⟩] 39)) ∧ w.heap.size ≤ g2 ∧ g2 ≠ p from
    ⟨FA, Blk.belowS h hA, Keeps.of hA, Nat.le_of_eq hg.symm, hgp⟩)
  have HG := hid hg
  clear hA FA h hg hgp
  go_enter Tryz.func79, Tryz.ntmps79
  go_wp2_with fail
  rw [← HG.out]
  clear HG
  generalize w.alloc (.cells #[.int .i64 0, .string ⟨#[]⟩, .string ⟨#[]⟩] 39) = w1 at H1 ⊢
  have hkb : ((UInt8.ofNat K.toNat).toNat : Int) = K := by
    rcases msg_kind8 HX.out with e | e | e <;> simp only at e <;> subst e <;> rfl
  have hb1 : msgB (K, k, v) ++ l = UInt8.ofNat K.toNat :: (textB k ++ (textB v ++ l)) := by simp [msgB]
  have HKB := hid hkb
  have hks := msg_keysz HX.out
  have hvs := msg_valsz HX.out
  simp only at hks hvs
  have HKS := hid hks; have HVS := hid hvs
  have HI := hid (show InAt w1 p ⟨(UInt8.ofNat K.toNat :: (textB k ++ (textB v ++ l))).toArray⟩ false by rw [← hb1]; exact H1.out.2.1)
  clear hkb hb1 hks hvs
  refine (In_Byte p _ _ _ HI.out).mono ?_; rintro e w2 ⟨rfl, k1, i1⟩
  rw [HKB.out]
  have HI2 := hid i1
  have H2 := hid (show MsgAt w2 g2 0 ⟨#[]⟩ ⟨#[]⟩ ∧ Keeps [p] w w2 from ⟨H1.out.1.keeps k1 (by simp; exact H1.out.2.2.2.2), H1.out.2.2.1.trans k1⟩)
  clear k1 i1 HI
  go_wp2_with fail
  refine (In_TextL p k _ 8 _ HI2.out (by have := HKS.out; omega) (by have := HKS.out; omega)).mono ?_; rintro e w3 ⟨rfl, k1, i1⟩
  have HI3 := hid i1
  have H3 := hid (show MsgAt w3 g2 0 ⟨#[]⟩ ⟨#[]⟩ ∧ Keeps [p] w w3 from ⟨H2.out.1.keeps k1 (by simp; exact H1.out.2.2.2.2), H2.out.2.trans k1⟩)
  clear k1 i1 HI2 H2
  go_wp2_with fail
  refine (In_TextL p v _ 16 _ HI3.out (by have := HVS.out; omega) (by have := HVS.out; omega)).mono ?_; rintro e w4 ⟨rfl, k1, i1⟩
  have HI4 := hid i1
  have H4 := hid (show MsgAt w4 g2 0 ⟨#[]⟩ ⟨#[]⟩ ∧ Keeps [p] w w4 from ⟨H3.out.1.keeps k1 (by simp; exact H1.out.2.2.2.2), H3.out.2.trans k1⟩)
  clear k1 i1 HI3 H3
  have hA := below_alloc w4 (.cells #[.int .i64 K, .string k, .string v] 39)
  have FB := MsgAt.new w4 K k v
  obtain ⟨g3, hg3⟩ : ∃ g, g = w4.heap.size := ⟨_, rfl⟩
  rw [← hg3] at FB
  have x0 := FB.at0; have x1 := FB.at1; have x2 := FB.at2
  have H5 := hid (show MsgAt (w4.alloc (.cells #[.int .i64 K, .string k, .string v] 39)) g2 0 ⟨#[]⟩ ⟨#[]⟩ ∧ Keeps [p] w (w4.alloc (.cells #[.int .i64 K, .string k, .string v] 39)) ∧ InAt (w4.alloc (.cells #[.int .i64 K, .string k, .string v] 39)) p ⟨l.toArray⟩ false ∧ MsgAt (w4.alloc (.cells #[.int .i64 K, .string k, .string v] 39)) g3 K k v from
    ⟨H4.out.1.below hA, H4.out.2.trans (Keeps.of hA), Blk.belowS HI4.out hA, FB⟩)
  have HG3 := hid hg3
  clear hA FB hg3 H4 HI4
  go_wp2_with fail
  clear x0 x1 x2
  rw [← HG3.out]
  clear HG3
  generalize w4.alloc (.cells #[.int .i64 K, .string k, .string v] 39) = w5 at H5 ⊢
  refine (msg_isNot_any K k v _).mono ?_; rintro e w6 ⟨rfl, hb_⟩
  rw [show msgIs K k v = true from HX.out]
  have H6 := hid (show MsgAt w6 g2 0 ⟨#[]⟩ ⟨#[]⟩ ∧ Keeps [p] w w6 ∧ InAt w6 p ⟨l.toArray⟩ false from ⟨H5.out.1.below hb_, H5.out.2.1.trans (Keeps.of hb_), Blk.belowS H5.out.2.2.1 hb_⟩)
  have FB := H5.out.2.2.2.below hb_
  have x0 := FB.at0; have x1 := FB.at1; have x2 := FB.at2
  clear FB hb_ H5
  go_wp2_with (with_reducible refine at_op (.store 39 (.tmp 2) (.tmp 16)) rfl ?_; refine Stopped.go ?_)
  refine Stopped.mk (wpList_store_row_keeps rfl _ _ _ rfl g2 #[.int .i64 K, .string k, .string v] rfl rfl _ _ H6.out.1 (by kernel_rfl) rfl (by simp [Value.oneCell']) ?_)
  intro w7 F7 k7
  have H7 := hid (show MsgAt w7 g2 K k v ∧ Keeps [p] w w7 ∧ InAt w7 p ⟨l.toArray⟩ false from
    ⟨F7, H6.out.2.1.go k7 (fun x hx => by simp at hx; rw [hx]; exact .inr H1.out.2.2.2.1), Blk.keeps H6.out.2.2 k7 (by simp; exact Ne.symm H1.out.2.2.2.2)⟩)
  clear F7 k7 x0 x1 x2 H6
  go_wp2_with fail
  (try simp only [Exit.inBlock, Exit.then])
  exact bodyPost_ret (results_cell_row rfl _ _ g2 _ _ (0, 0) _ rfl H7.out.1 hu rfl (by kernel_rfl)) rfl ⟨rfl, H7.out.2.1, H7.out.2.2⟩
end Go.Proofs.YtcklgaenedlbiaaGreat
