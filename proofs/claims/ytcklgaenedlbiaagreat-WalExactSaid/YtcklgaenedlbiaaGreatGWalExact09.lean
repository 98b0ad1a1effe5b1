/-
  The document's Bytes; msg.Write where it refuses.
  Rows of messages: whether one can't be.
-/
import Derived.Test.YtcklgaenedlbiaaGreatGWalExact08
import Derived.Test.YtcklgaenedlbiaaGreatGWalExact06

namespace Go.Proofs.YtcklgaenedlbiaaGreat
open Go.RowKit


theorem bytes_app3 (a b c : List UInt8) : (⟨a.toArray⟩ : ByteArray) ++ ⟨b.toArray⟩ ++ ⟨c.toArray⟩ = ⟨(a ++ (b ++ c)).toArray⟩ := by
  apply ba_ext1
  rw [ByteArray.toList_eq, ByteArray.toList_eq]
  simp

set_option maxHeartbeats 8000000 in
set_option maxRecDepth 100000 in
theorem ref08_Bytes_yes (K : Int) (k v : ByteArray) (h : isB (K, k, v) = true) (w : World) :
    Calls Tryz.prog 55 #[.agg #[.int .i64 K, .string k, .string v]] w fun e w' => e = .returned (.string ⟨(msgB (K, k, v)).toArray⟩) ∧ Below w.heap.size w w' := by
  have hk := msg_keysz h
  have hv := msg_valsz h
  simp only at hk hv
  have HK := hid hk; have HV := hid hv
  obtain ⟨tk, htk⟩ : ∃ t, t = textS k := ⟨_, rfl⟩
  obtain ⟨tv, htv⟩ : ∃ t, t = textS v := ⟨_, rfl⟩
  have hs1 : tk.size ≤ 9 := by rw [htk]; show (textB k).toArray.size ≤ 9; simp [textB]; omega
  have hs2 : tv.size ≤ 17 := by rw [htv]; show (textB v).toArray.size ≤ 17; simp [textB]; omega
  have HTK := hid htk; have HTV := hid htv; have HSZ := hid (And.intro hs1 hs2)
  obtain ⟨R, hR⟩ : ∃ R : ByteArray, R = ⟨(msgB (K, k, v)).toArray⟩ := ⟨_, rfl⟩
  rw [← hR]
  obtain ⟨c, hc⟩ : ∃ c, c = UInt8.ofNat K.toNat := ⟨_, rfl⟩
  have hcK : (c.toNat : Int) = K := by
    rcases msg_kind8 h with e | e | e <;> simp only at e <;> subst e <;> rw [hc] <;> rfl
  have hK1 : (1 : Int) ≤ K := by rcases msg_kind8 h with e | e | e <;> simp only at e <;> omega
  have hK3 : K ≤ 3 := by rcases msg_kind8 h with e | e | e <;> simp only at e <;> omega
  have hR2 : (⟨[c].toArray⟩ : ByteArray) ++ tk ++ tv = R := by
    rw [hR, htk, htv]
    unfold textS
    rw [bytes_app3]
    simp [msgB, hc]
  have HR := hid hR2; have HC := hid hcK
  clear hk hv htk htv hs1 hs2 hR hR2 hc hcK h
  go_enter Tryz.func55, Tryz.ntmps55
  go_wp2_with (with_reducible refine at_op (.box 39 (.tmp 0)) rfl ?_; refine Stopped.go ?_)
  refine Stopped.mk (wpList_box rfl #[.int .i64 K, .string k, .string v] 39 (by go_simp) ?_)
  intro g w1 hg_ BX hb hz_
  clear hg_ hz_
  have x1 : w1.cell? ⟨g, 1, none⟩ = some (.string k) := BX.at rfl
  have HBX := hid BX; clear BX
  go_wp2_with fail
  refine (ref01_Text_yes k (by have := HK.out; omega) _).mono ?_; rintro e w2 ⟨rfl, hb_⟩; rw [← HTK.out]
  replace hb := bt hb hb_
  have BX := HBX.out.belowS hb_
  have x2 : w2.cell? ⟨g, 2, none⟩ = some (.string v) := BX.at rfl
  clear hb_ x1 HBX
  have HBX := hid BX; clear BX
  go_wp2_with fail
  refine (ref01_Text_yes v (by have := HV.out; omega) _).mono ?_; rintro e w3 ⟨rfl, hb_⟩; rw [← HTV.out]
  replace hb := bt hb hb_
  have BX := HBX.out.belowS hb_
  have x0 : w3.cell? ⟨g, 0, none⟩ = some (.int .i64 K) := BX.at rfl
  clear hb_ x2 HBX BX
  have HBB := hid (bt hb (below_alloc w3 (.cells #[.int .u8 K] 5))); clear hb
  have hN : Blk (w3.alloc (.cells #[.int .u8 K] 5)) w3.heap.size 5 (u8s [c]) := by
    have h := Blk.new w3 #[.int .u8 K] 5
    rw [← HC.out] at h ⊢
    exact h
  have HN := hid hN; clear hN
  go_wp2_with (with_reducible refine at_op (.convert 62 9 (.tmp 22)) rfl ?_; refine Stopped.go ?_)
  refine Stopped.mk (wpList_string rfl _ _ 5 _ rfl ⟨w3.heap.size, 0, none⟩ 1 1 [c] rfl rfl Tryz.underlying62 Tryz.underlying5 Tryz.underlying9 (fun j hj => HN.out.bytes' j hj) ?_)
  obtain ⟨q, hq⟩ : ∃ q : ByteArray, q = ⟨[c].toArray⟩ := ⟨_, rfl⟩
  have hqs : q.size = 1 := by rw [hq]; rfl
  have hqq := HR.out
  rw [← hq] at hqq ⊢
  have q1 : ¬ 9223372036854775807 < q.size + tk.size := by have := HSZ.out; omega
  have q2 : ¬ 9223372036854775807 < (q ++ tk).size + tv.size := by rw [show (q ++ tk).size = q.size + tk.size by simp]; have := HSZ.out; omega
  have q3 : ¬ 9223372036854775807 < q.size + tk.size + tv.size := by have := HSZ.out; omega
  have HQ := hid hqq
  clear x0 hq hqs hqq
  go_wp2_with fail
  go_ret
  exact ⟨by rw [← HQ.out]; rfl, HBB.out⟩

set_option maxHeartbeats 4000000 in
set_option maxRecDepth 100000 in
theorem IndexFunc_msgs_any (A : Option Addr) (cap : Nat) (l : List Msg3) (hlen : l.length ≤ 9223372036854775807) (w : World) (hr : Row w A (l.flatMap msgCells)) :
    Calls Tryz.prog 82 #[.slice A l.length cap, .func (.func 103) #[] #[]] w fun e w' => (∃ i : Int, e = .returned (.int .i64 i) ∧ (0 ≤ i ↔ (l.any fun x => !isB x) = true)) ∧ Below w.heap.size w w' := by
  have eg := isNot_enters
  have HR := hid hr; clear hr
  go_enter Tryz.func82, Tryz.ntmps82
  go_wp2_with fail
  go_loopg [8] l.length (fun g j wx => ∃ k : Nat, k + g = l.length ∧ j = .int .i64 k ∧ Hid (Below w.heap.size w wx ∧ ∀ i (h : i < l.length), i < k → isB l[i] = true))
  case atStart => exact ⟨0, by omega, rfl, Below.refl _ _, fun i _ h => absurd h (by omega)⟩
  case round =>
    obtain ⟨k, hk, rfl, HB⟩ := hrel
    by_cases hlt : k < l.length
    · obtain ⟨b, off, rfl, hb, hc⟩ := row_cell HR.out (by intro e; have h := msg_at l k 0 l[k] (.int .i64 l[k].1) (by simp [hlt]) rfl; rw [e] at h; cases h)
      obtain ⟨⟨K, kk, v⟩, hx⟩ : ∃ x, x = l[k] := ⟨_, rfl⟩
      have hxi : l[k]? = some (K, kk, v) := by rw [hx]; simp [hlt]
      have c0 := hc _ _ (msg_at l k 0 _ (.int .i64 K) hxi rfl)
      rw [← HB.out.1.cell (p := ⟨b, off + (k * 3 + 0), none⟩) hb, ← Nat.add_assoc, Nat.add_zero] at c0
      have c1 := hc _ _ (msg_at l k 1 _ (.string kk) hxi rfl)
      rw [← HB.out.1.cell (p := ⟨b, off + (k * 3 + 1), none⟩) hb, ← Nat.add_assoc] at c1
      have c2 := hc _ _ (msg_at l k 2 _ (.string v) hxi rfl)
      rw [← HB.out.1.cell (p := ⟨b, off + (k * 3 + 2), none⟩) hb, ← Nat.add_assoc] at c2
      have HX := hid hx
      clear hc hb hx hxi
      go_wp2_with fail
      refine (msg_isNot_any K kk v _).mono ?_; rintro e w1 ⟨rfl, hb1⟩
      obtain ⟨f, hf⟩ : ∃ f, f = msgIs K kk v := ⟨_, rfl⟩
      rw [← hf]
      have HB1 := hid (bt HB.out.1 hb1)
      have HF := hid (show f = isB (K, kk, v) from hf)
      clear hb1 c0 c1 c2 hf
      cases f with
      | true =>
        go_wp2_with fail
        go_roundg (l.length - (k + 1))
        case measure => omega
        case rel =>
          refine ⟨k + 1, by omega, by go_num, HB1.out, fun i h hi => ?_⟩
          by_cases e : i = k
          · subst e; rw [← HX.out]; exact HF.out.symm
          · exact HB.out.2 i h (by omega)
      | false =>
        go_wp2_with fail
        go_ret
        refine ⟨⟨_, rfl, ?_⟩, HB1.out⟩
        rw [List.any_eq_true]
        exact ⟨fun _ => ⟨(K, kk, v), by rw [HX.out]; exact List.getElem_mem _, by rw [← HF.out]; rfl⟩, fun _ => by omega⟩
    · go_wp2_with fail
      go_ret
      refine ⟨⟨_, rfl, ?_⟩, HB.out.1⟩
      rw [List.any_eq_true]
      constructor
      · intro h; exact absurd h (by decide)
      · rintro ⟨y, hy, hpy⟩
        obtain ⟨i, hi, rfl⟩ := List.getElem_of_mem hy
        rw [HB.out.2 i hi (by omega)] at hpy
        cases hpy

set_option maxHeartbeats 1000000 in
theorem ContainsFunc_msgs_no (A : Option Addr) (cap : Nat) (l : List Msg3) (hlen : l.length ≤ 9223372036854775807) (w : World) (hr : Row w A (l.flatMap msgCells)) (hno : (l.any fun x => !isB x) = true) :
    Calls Tryz.prog 58 #[.slice A l.length cap, .func (.func 103) #[] #[]] w fun e w' => e = .returned (.bool true) ∧ Below w.heap.size w w' := by
  have HNO := hid hno; clear hno
  have HR := hid hr; clear hr
  go_enter Tryz.func58, Tryz.ntmps58
  go_wp2_with fail
  refine (IndexFunc_msgs_any A cap l hlen _ HR.out).mono ?_; rintro e w1 ⟨⟨i, rfl, hi⟩, hb⟩
  have h0 : 0 ≤ i := hi.2 HNO.out
  have HB := hid hb
  clear hi hb
  go_wp2_with fail
  go_ret
  exact ⟨rfl, HB.out⟩

set_option maxHeartbeats 1000000 in
theorem msg_Write_no (p : Nat) (A : Option Addr) (cap : Nat) (xs : List Msg3) (w : World) (hr : Row w A (xs.flatMap msgCells)) (hlen : xs.length ≤ 9223372036854775807) (hno : (xs.any fun x => !isB x) = true) :
    Calls Tryz.prog 85 #[.pointer (some ⟨p, 0, none⟩), .slice A xs.length cap] w fun e w' => e = .returned (.int .i64 1) ∧ Below w.heap.size w w' := by
  have HNO := hid hno; have HR := hid hr
  clear hno hr
  go_enter Tryz.func85, Tryz.ntmps85
  go_wp2_with fail
  refine (ContainsFunc_msgs_no A cap xs hlen _ HR.out HNO.out).mono ?_; rintro e w1 ⟨rfl, hb⟩
  go_wp2_with fail
  go_ret
  exact ⟨rfl, hb⟩
set_option maxHeartbeats 1000000 in
theorem msg_Write_nil (v : Value) (w : World) :
    Calls Tryz.prog 85 #[.pointer none, v] w fun e w' => e = .returned (.int .i64 2) ∧ w = w' := by
  go_enter Tryz.func85, Tryz.ntmps85
  go_wp2_with fail
  go_ret
  exact ⟨rfl, rfl⟩

set_option maxHeartbeats 4000000 in
set_option maxRecDepth 100000 in
theorem msg_Read_nil (w : World) :
    Calls Tryz.prog 79 #[.pointer none] w fun e w' => e = .returned (.agg #[.int .i64 0, .string ⟨#[]⟩, .string ⟨#[]⟩]) ∧ Below w.heap.size w w' := by
  have hu := Tryz.underlying39
  have hA := below_alloc w (.cells #[.int .i64 0, .string ⟨#[]⟩, .string ⟨#[]⟩] 39)
  have FA := MsgAt.new w 0 ⟨#[]⟩ ⟨#[]⟩
  obtain ⟨g2, hg⟩ : ∃ g, g = w.heap.size := ⟨_, rfl⟩
  rw [← hg] at FA
  have H1 := hid (And.intro FA (And.intro hA (Nat.le_of_eq hg.symm)))
  have HG := hid hg
  have NI := hid (show msgIs 0 emptyB emptyB = false by kernel_rfl)
  clear hA FA hg
  go_enter Tryz.func79, Tryz.ntmps79
  go_wp2_with fail
  rw [← HG.out]
  clear HG
  generalize w.alloc (.cells #[.int .i64 0, .string ⟨#[]⟩, .string ⟨#[]⟩] 39) = w1 at H1 ⊢
  refine (In_Num_nil 1 _).mono ?_; rintro e w2 ⟨rfl, hb2⟩
  have H2 := hid (And.intro (H1.out.1.below hb2) (bt H1.out.2.1 hb2))
  clear hb2
  go_wp2_with fail
  refine (In_Text_nil 8 _).mono ?_; rintro e w3 ⟨rfl, hb3⟩
  have H3 := hid (And.intro (H2.out.1.below hb3) (bt H2.out.2 hb3))
  clear hb3 H2
  go_wp2_with fail
  refine (In_Text_nil 16 _).mono ?_; rintro e w4 ⟨rfl, hb4⟩
  have H4 := hid (And.intro (H3.out.1.below hb4) (bt H3.out.2 hb4))
  clear hb4 H3
  have hA := below_alloc w4 (.cells #[.int .i64 0, .string emptyB, .string emptyB] 39)
  have FB := MsgAt.new w4 0 emptyB emptyB
  obtain ⟨g3, hg3⟩ : ∃ g, g = w4.heap.size := ⟨_, rfl⟩
  rw [← hg3] at FB
  have x0 := FB.at0; have x1 := FB.at1; have x2 := FB.at2
  have H5 := hid (And.intro (H4.out.1.below hA) (bt H4.out.2 hA))
  have HG3 := hid hg3
  clear hA FB hg3 H4
  go_wp2_with fail
  clear x0 x1 x2
  rw [← HG3.out]
  clear HG3
  generalize w4.alloc (.cells #[.int .i64 0, .string emptyB, .string emptyB] 39) = w5 at H5 ⊢
  refine (msg_isNot_any 0 emptyB emptyB _).mono ?_; rintro e w6 ⟨rfl, hb_⟩
  rw [NI.out]
  have H6 := hid (And.intro (H5.out.1.below hb_) (bt H5.out.2 hb_))
  clear hb_ H5
  go_wp2_with fail
  refine (In_Raw_nil (-1) _).mono ?_; rintro e w7 ⟨rfl, rfl⟩
  go_wp2_with (with_reducible refine at_op (.store 39 (.tmp 2) (.tmp 15)) rfl ?_; refine Stopped.go ?_)
  refine Stopped.mk (wpList_store_row_k rfl _ _ _ rfl g2 #[.int .i64 0, .string ⟨#[]⟩, .string ⟨#[]⟩] rfl rfl _ _ H6.out.1 (by kernel_rfl) rfl (by simp [Value.oneCell']) ?_)
  intro w8 F8 b8 _
  have HB := hid (H6.out.2.trans (b8 _ H1.out.2.2))
  have H8 := hid F8
  clear F8 b8 H6
  go_wp2_with fail
  (try simp only [Exit.inBlock, Exit.then])
  exact bodyPost_ret (results_cell_row rfl _ _ g2 _ _ (0, 0) _ rfl H8.out hu rfl (by kernel_rfl)) rfl ⟨rfl, HB.out⟩
end Go.Proofs.YtcklgaenedlbiaaGreat

namespace Go.Proofs.YtcklgaenedlbiaaGreat
open Go.RowKit

set_option maxHeartbeats 4000000 in
set_option maxRecDepth 100000 in
theorem rec_isNot_any (K : Int) (k v : ByteArray) (w : World) :
    Calls Tryz.prog 54 #[.agg #[.int .i64 K, .string k, .string v]] w fun e w' => e = .returned (.bool (!msgIs K k v)) ∧ Below w.heap.size w w' := by
  obtain ⟨f, hf⟩ : ∃ f, f = msgIs K k v := ⟨_, rfl⟩
  rw [← hf]
  have HF := hid hf; clear hf
  go_enter Tryz.func54, Tryz.ntmps54
  go_wp2_with (with_reducible refine at_op (.box 39 (.tmp 0)) rfl ?_; refine Stopped.go ?_)
  refine Stopped.mk (wpList_box rfl #[.int .i64 K, .string k, .string v] 39 (by go_simp) ?_)
  intro g w1 hg_ Bg hb_ hz_
  have hb := hb_
  clear hg_ hz_ hb_
  have cg_0 : w1.cell? ⟨g, 0, none⟩ = some (.int .i64 K) := Bg.at rfl
  have cg_1 : w1.cell? ⟨g, 1, none⟩ = some (.string k) := Bg.at rfl
  have cg_2 : w1.cell? ⟨g, 2, none⟩ = some (.string v) := Bg.at rfl
  clear Bg
  go_wp2_with fail
  refine (msg_Is_any K k v _).mono ?_; rintro e w2 ⟨rfl, hb_⟩; rw [← HF.out]
  replace hb := bt hb hb_; clear hb_ cg_0 cg_1 cg_2
  cases f
  all_goals
    go_wp2_with fail
    go_ret
    exact ⟨rfl, hb⟩


theorem rnot_enters : ∀ args w, (callFunc 54 args).run Tryz.prog w = .ok (.enter 54 args) w := enters_of Tryz.func54 (by kernel_rfl) rfl

/-- the first that can't be, or -1 -/
def Idx (l : List Msg3) (i : Int) : Prop := (i = -1 ∧ ∀ x ∈ l, isB x = true) ∨ ∃ n : Nat, i = n ∧ ∃ h : n < l.length, (∀ k (hk : k < l.length), k < n → isB l[k] = true) ∧ isB l[n] = false
theorem Idx.any {l : List Msg3} {i : Int} (h : Idx l i) : 0 ≤ i ↔ (l.any fun x => !isB x) = true := by
  rw [List.any_eq_true]
  rcases h with ⟨rfl, h⟩ | ⟨n, rfl, hn, _, h⟩
  · constructor
    · intro h; exact absurd h (by decide)
    · rintro ⟨x, hx, hp⟩; rw [h x hx] at hp; cases hp
  · exact ⟨fun _ => ⟨l[n], List.getElem_mem _, by rw [h]; rfl⟩, fun _ => by omega⟩

set_option maxHeartbeats 4000000 in
set_option maxRecDepth 100000 in
theorem IndexFunc_recs_any (A : Option Addr) (cap : Nat) (l : List Msg3) (hlen : l.length ≤ 9223372036854775807) (w : World) (hr : Row w A (l.flatMap msgCells)) :
    Calls Tryz.prog 82 #[.slice A l.length cap, .func (.func 54) #[] #[]] w fun e w' => (∃ i : Int, e = .returned (.int .i64 i) ∧ Idx l i) ∧ Below w.heap.size w w' := by
  have eg := rnot_enters
  have HR := hid hr; clear hr
  go_enter Tryz.func82, Tryz.ntmps82
  go_wp2_with fail
  go_loopg [8] l.length (fun g j wx => ∃ k : Nat, k + g = l.length ∧ j = .int .i64 k ∧ Hid (Below w.heap.size w wx ∧ ∀ i (h : i < l.length), i < k → isB l[i] = true))
  case atStart => exact ⟨0, by omega, rfl, Below.refl _ _, fun i _ h => absurd h (by omega)⟩
  case round =>
    obtain ⟨k, hk, rfl, HB⟩ := hrel
    by_cases hlt : k < l.length
    · obtain ⟨b, off, rfl, hb, hc⟩ := row_cell HR.out (by intro e; have h := msg_at l k 0 l[k] (.int .i64 l[k].1) (by simp [hlt]) rfl; rw [e] at h; cases h)
      obtain ⟨⟨K, kk, v⟩, hx⟩ : ∃ x, x = l[k] := ⟨_, rfl⟩
      have hxi : l[k]? = some (K, kk, v) := by rw [hx]; simp [hlt]
      have c0 := hc _ _ (msg_at l k 0 _ (.int .i64 K) hxi rfl)
      rw [← HB.out.1.cell (p := ⟨b, off + (k * 3 + 0), none⟩) hb, ← Nat.add_assoc, Nat.add_zero] at c0
      have c1 := hc _ _ (msg_at l k 1 _ (.string kk) hxi rfl)
      rw [← HB.out.1.cell (p := ⟨b, off + (k * 3 + 1), none⟩) hb, ← Nat.add_assoc] at c1
      have c2 := hc _ _ (msg_at l k 2 _ (.string v) hxi rfl)
      rw [← HB.out.1.cell (p := ⟨b, off + (k * 3 + 2), none⟩) hb, ← Nat.add_assoc] at c2
      have HX := hid hx
      clear hc hb hx hxi
      go_wp2_with fail
      refine (rec_isNot_any K kk v _).mono ?_; rintro e w1 ⟨rfl, hb1⟩
      obtain ⟨f, hf⟩ : ∃ f, f = msgIs K kk v := ⟨_, rfl⟩
      rw [← hf]
      have HB1 := hid (bt HB.out.1 hb1)
      have HF := hid (show f = isB (K, kk, v) from hf)
      clear hb1 c0 c1 c2 hf
      cases f with
      | true =>
        go_wp2_with fail
        go_roundg (l.length - (k + 1))
        case measure => omega
        case rel =>
          refine ⟨k + 1, by omega, by go_num, HB1.out, fun i h hi => ?_⟩
          by_cases e : i = k
          · subst e; rw [← HX.out]; exact HF.out.symm
          · exact HB.out.2 i h (by omega)
      | false =>
        go_wp2_with fail
        go_ret
        exact ⟨⟨_, rfl, .inr ⟨k, rfl, hlt, fun i h hi => HB.out.2 i h hi, by rw [← HX.out]; exact HF.out.symm⟩⟩, HB1.out⟩
    · go_wp2_with fail
      go_ret
      exact ⟨⟨_, rfl, .inl ⟨rfl, fun x hx => by obtain ⟨i, hi, rfl⟩ := List.getElem_of_mem hx; exact HB.out.2 i hi (by omega)⟩⟩, HB.out.1⟩

set_option maxHeartbeats 1000000 in
theorem ContainsFunc_recs_any (A : Option Addr) (cap : Nat) (l : List Msg3) (hlen : l.length ≤ 9223372036854775807) (w : World) (hr : Row w A (l.flatMap msgCells)) :
    Calls Tryz.prog 58 #[.slice A l.length cap, .func (.func 54) #[] #[]] w fun e w' => e = .returned (.bool (l.any fun x => !isB x)) ∧ Below w.heap.size w w' := by
  have HR := hid hr; clear hr
  obtain ⟨f, hf⟩ : ∃ f, f = (l.any fun x => !isB x) := ⟨_, rfl⟩
  rw [← hf]
  have HF := hid hf; clear hf
  go_enter Tryz.func58, Tryz.ntmps58
  go_wp2_with fail
  refine (IndexFunc_recs_any A cap l hlen _ HR.out).mono ?_; rintro e w1 ⟨⟨i, rfl, hi⟩, hb⟩
  replace hi := hi.any
  rw [← HF.out] at hi
  have HB := hid hb
  clear hb
  cases f with
  | true =>
    have h0 : 0 ≤ i := hi.2 rfl
    clear hi
    go_wp2_with fail
    go_ret
    exact ⟨rfl, HB.out⟩
  | false =>
    have h0 : ¬ 0 ≤ i := fun h => by have := hi.1 h; cases this
    clear hi
    go_wp2_with fail
    go_ret
    exact ⟨by show Ending.returned (.bool (decide (0 ≤ i))) = _; simp [h0], HB.out⟩
end Go.Proofs.YtcklgaenedlbiaaGreat
