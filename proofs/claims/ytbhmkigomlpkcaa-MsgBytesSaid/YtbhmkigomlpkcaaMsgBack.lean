/-
  MsgBack, walked.
-/
import Derived.Test.YtbhmkigomlpkcaaMsgRead
namespace Go.Proofs.Ytbhmkigomlpkcaa
open Go.RowKit

def allB (l : List Msg3) : List UInt8 := l.flatMap msgB
theorem allB_take (xs : List Msg3) (k : Nat) (h : k < xs.length) : allB (xs.take (k + 1)) = allB (xs.take k) ++ msgB xs[k] := by
  unfold allB; rw [List.take_succ_eq_append_getElem h, List.flatMap_append]; simp
theorem allB_drop (xs : List Msg3) (k : Nat) (h : k < xs.length) : allB (xs.drop k) = msgB xs[k] ++ allB (xs.drop (k + 1)) := by
  unfold allB; rw [List.drop_eq_getElem_cons h, List.flatMap_cons]

set_option maxHeartbeats 16000000 in
set_option maxRecDepth 100000 in
theorem msgBack_walk (A : Option Addr) (cap : Nat) (xs : List Msg3) (w : World) (hr : Row w A (xs.flatMap msgCells)) (hm : xs.length ≤ 9223372036854775807) :
    Calls Try.prog 8 #[.slice A xs.length cap] w fun e w' => e = .returned (.bool true) ∧ Below w.heap.size w w' := by
  have HR := hid hr; clear hr
  by_cases h20 : (20 : Int) < xs.length
  · go_enter Try.func8, Try.ntmps8
    go_wp2_with fail
    refine (awake08_any _).mono ?_; rintro e w1 ⟨rfl, hb⟩
    go_wp2_with fail
    go_ret
    exact ⟨rfl, hb⟩
  go_enter Try.func8, Try.ntmps8
  go_wp2_with fail
  refine (awake08_any _).mono ?_; rintro e w1 ⟨rfl, hb⟩
  have HB := hid hb; clear hb
  go_wp2_with fail
  go_loopg [3, 4] xs.length (fun g v3 v4 wx => ∃ (i : Nat) (W : Nat), i + g = xs.length ∧ v3 = .int .i64 W ∧ v4 = .int .i64 i ∧ W ≤ 100 * i ∧ Hid (W = (allB (xs.take i)).length ∧ (∀ j (h : j < xs.length), j < i → isB xs[j] = true) ∧ Below w.heap.size w wx))
  case atStart => exact ⟨0, 0, by omega, rfl, rfl, by omega, by simp [allB], fun j _ h => absurd h (by omega), HB.out⟩
  case round =>
    clear HB
    obtain ⟨i, W, hik, rfl, rfl, hW, HS⟩ := hrel
    by_cases hlt : i < xs.length
    · obtain ⟨b, off, rfl, hbl, hc⟩ := row_cell HR.out (by intro e; have h := msg_at xs i 0 xs[i] (.int .i64 xs[i].1) (by simp [hlt]) rfl; rw [e] at h; cases h)
      obtain ⟨⟨K, k, v⟩, hx⟩ : ∃ x, x = xs[i] := ⟨_, rfl⟩
      have hxi : xs[i]? = some (K, k, v) := by rw [hx]; simp [hlt]
      have hcl : Hid (∀ wx, Below w.heap.size w wx → wx.cell? ⟨b, off + i * 3, none⟩ = some (.int .i64 K) ∧ wx.cell? ⟨b, off + i * 3 + 1, none⟩ = some (.string k) ∧ wx.cell? ⟨b, off + i * 3 + 2, none⟩ = some (.string v)) := by
        intro wx hbx
        have c0 := hc _ _ (msg_at xs i 0 _ (.int .i64 K) hxi rfl)
        rw [← hbx.cell (p := ⟨b, off + (i * 3 + 0), none⟩) hbl, ← Nat.add_assoc, Nat.add_zero] at c0
        have c1 := hc _ _ (msg_at xs i 1 _ (.string k) hxi rfl)
        rw [← hbx.cell (p := ⟨b, off + (i * 3 + 1), none⟩) hbl, ← Nat.add_assoc] at c1
        have c2 := hc _ _ (msg_at xs i 2 _ (.string v) hxi rfl)
        rw [← hbx.cell (p := ⟨b, off + (i * 3 + 2), none⟩) hbl, ← Nat.add_assoc] at c2
        exact ⟨c0, c1, c2⟩
      have HX := hid hx
      clear hc hbl hx hxi
      obtain ⟨c0, c1, c2⟩ := hcl.out _ HS.out.2.2
      go_wp2_with fail
      refine (msg_Is_any K k v _).mono ?_; rintro e w2 ⟨rfl, hb2⟩
      obtain ⟨f, hf⟩ : ∃ f, f = msgIs K k v := ⟨_, rfl⟩
      rw [← hf]
      have HB2 := hid (bt HS.out.2.2 hb2)
      clear hb2 c0 c1 c2
      cases f with
      | false =>
        clear hf
        go_wp2_with fail
        go_ret
        exact ⟨rfl, HB2.out⟩
      | true =>
        have hi : isB (K, k, v) = true := hf.symm
        have hks := msg_keysz hi
        have hvs := msg_valsz hi
        simp only at hks hvs
        have hW2 : (W + (3 + k.size + v.size) : Nat) = (allB (xs.take (i + 1))).length := by
          rw [allB_take xs i hlt, List.length_append, ← HX.out, msgB_len, ← HS.out.1]
        have e1 : wrap64 ((W : Int) + (3 + (k.size : Int) + (v.size : Int))) = ((W + (3 + k.size + v.size) : Nat) : Int) := by unfold wrap64; omega
        have HI := hid hi; have HW2 := hid hW2; have HE := hid e1; have HKS := hid (And.intro hks hvs)
        clear hf hi hks hvs hW2 e1
        obtain ⟨c0, c1, c2⟩ := hcl.out _ HB2.out
        go_wp2_with fail
        refine (msg_Weight_any K k v (by have := HKS.out; omega) (by have := HKS.out; omega) _).mono ?_; rintro e w3 ⟨rfl, hb3⟩
        have HB3 := hid (bt HB2.out hb3)
        clear hb3 c0 c1 c2 HB2
        have e1 := HE.out
        go_wp2_with fail
        clear e1
        go_roundg (xs.length - (i + 1))
        case measure => omega
        case rel =>
          refine ⟨i + 1, W + (3 + k.size + v.size), by omega, by first | rfl | (rw [HE.out]) | (simp; omega), by go_num, by have := HKS.out; omega, HW2.out, ?_, HB3.out⟩
          intro j hj hji
          by_cases e : j = i
          · subst e; rw [← HX.out]; exact HI.out
          · exact HS.out.2.1 j hj (by omega)
    · have hin : i = xs.length := by omega
      subst hin
      have hall : ∀ x ∈ xs, isB x = true := fun x hx => by
        obtain ⟨j, hj, rfl⟩ := List.getElem_of_mem hx
        exact HS.out.2.1 j hj hj
      have hWl : W = (allB xs).length := by have := HS.out.1; rwa [List.take_length] at this
      have HALL := hid hall; have HW := hid hWl
      have P0 := hid (Pen.new HS.out.2.2)
      obtain ⟨p, hp⟩ : ∃ p, p = wr.heap.size := ⟨_, rfl⟩
      have HPP := hid hp
      clear hall hWl hp HS
      go_wp2_with fail
      rw [← HPP.out] at P0 ⊢
      clear HPP
      generalize wr.alloc (.cells #[.pointer none, .slice none 0 0] 52) = w2 at P0 ⊢
      refine (msg_Write_yes w p [] A cap xs _ P0.out HR.out HALL.out (by omega) (by simp)).mono ?_; rintro e w3 ⟨rfl, P3⟩
      rw [List.nil_append] at P3
      have HP3 := hid P3
      clear P3 P0
      go_wp2_with fail
      refine (pen_Len HP3.out).mono ?_; rintro e w4 ⟨rfl, P4⟩
      rw [show ((List.flatMap msgB xs).length : Int) = (W : Int) from by rw [HW.out]; rfl]
      have HP4 := hid P4
      clear P4 HP3
      go_wp2_with fail
      refine (pen_Bytes HP4.out).mono ?_; rintro e w5 ⟨rfl, P5⟩
      have HB5 := hid P5.bel
      clear P5 HP4
      go_wp2_with fail
      refine (pen_Of_any _ _).mono ?_; rintro e w6 ⟨rfl, hb6, hi6, hz6⟩
      clear hz6
      obtain ⟨q, hq⟩ : ∃ q, q = w5.heap.size := ⟨_, rfl⟩
      have hqg : w.heap.size ≤ q := by rw [hq]; exact HB5.out.size
      rw [← hq] at hi6 ⊢
      have H6 := hid (show InAt w6 q ⟨(allB (xs.drop 0)).toArray⟩ false ∧ Below w.heap.size w w6 from ⟨hi6, bt HB5.out hb6⟩)
      have HQG := hid hqg
      clear hb6 hi6 hq hqg HB5
      go_wp2_with fail
      go_loopg [7] xs.length (fun g v7 wx => ∃ i : Nat, i + g = xs.length ∧ v7 = .int .i64 i ∧ Hid (InAt wx q ⟨(allB (xs.drop i)).toArray⟩ false ∧ Below w.heap.size w wx))
      case atStart => exact ⟨0, by omega, rfl, H6.out⟩
      case round =>
        clear H6
        obtain ⟨i, hik, rfl, HS⟩ := hrel
        by_cases hlt : i < xs.length
        · obtain ⟨b, off, rfl, hbl, hc⟩ := row_cell HR.out (by intro e; have h := msg_at xs i 0 xs[i] (.int .i64 xs[i].1) (by simp [hlt]) rfl; rw [e] at h; cases h)
          have hi1 := HALL.out _ (List.getElem_mem hlt)
          have hdr := allB_drop xs i hlt
          obtain ⟨⟨K, k, v⟩, hx⟩ : ∃ x, x = xs[i] := ⟨_, rfl⟩
          have hxi : xs[i]? = some (K, k, v) := by rw [hx]; simp [hlt]
          rw [← hx] at hi1 hdr
          have hcl : Hid (∀ wx, Below w.heap.size w wx → wx.cell? ⟨b, off + i * 3, none⟩ = some (.int .i64 K) ∧ wx.cell? ⟨b, off + i * 3 + 1, none⟩ = some (.string k) ∧ wx.cell? ⟨b, off + i * 3 + 2, none⟩ = some (.string v)) := by
            intro wx hbx
            have c0 := hc _ _ (msg_at xs i 0 _ (.int .i64 K) hxi rfl)
            rw [← hbx.cell (p := ⟨b, off + (i * 3 + 0), none⟩) hbl, ← Nat.add_assoc, Nat.add_zero] at c0
            have c1 := hc _ _ (msg_at xs i 1 _ (.string k) hxi rfl)
            rw [← hbx.cell (p := ⟨b, off + (i * 3 + 1), none⟩) hbl, ← Nat.add_assoc] at c1
            have c2 := hc _ _ (msg_at xs i 2 _ (.string v) hxi rfl)
            rw [← hbx.cell (p := ⟨b, off + (i * 3 + 2), none⟩) hbl, ← Nat.add_assoc] at c2
            exact ⟨c0, c1, c2⟩
          have HI1 := hid hi1
          have HIN : Hid (InAt wr q ⟨(msgB (K, k, v) ++ allB (xs.drop (i + 1))).toArray⟩ false) := by have := HS.out.1; rw [hdr] at this; exact this
          clear hc hbl hx hxi hi1 hdr
          obtain ⟨c0, c1, c2⟩ := hcl.out _ (HS.out.2.drew)
          have KR : Hid (Calls Try.prog 30 #[.pointer (some ⟨q, 0, none⟩)] wr.drew fun e w' => e = .returned (.agg #[.int .i64 K, .string k, .string v]) ∧ InAt w' q ⟨(allB (xs.drop (i + 1))).toArray⟩ false ∧ Below w.heap.size w w' ∧ (w'.cell? ⟨b, off + i * 3, none⟩ = some (.int .i64 K) ∧ w'.cell? ⟨b, off + i * 3 + 1, none⟩ = some (.string k) ∧ w'.cell? ⟨b, off + i * 3 + 2, none⟩ = some (.string v))) := by
            refine (msg_Read_yes q K k v _ wr.drew HIN.out HI1.out).mono ?_
            rintro e w' ⟨rfl, hk, hi⟩
            have hbb := Keeps.below1 HS.out.2.drew hk HQG.out
            exact ⟨rfl, hi, hbb, hcl.out _ hbb⟩
          have H0 := hid (And.intro c0 (And.intro c1 c2))
          clear c0 c1 c2
          go_wp2_with fail
          go_region_held3 (fun wx => wx.cell? ⟨b, off + i * 3, none⟩ = some (.int .i64 K) ∧ wx.cell? ⟨b, off + i * 3 + 1, none⟩ = some (.string k) ∧ wx.cell? ⟨b, off + i * 3 + 2, none⟩ = some (.string v))
            ((first | exact H0.out | assumption | exact HC7))
            (first
              | (go_at_call 30; with_reducible refine KR.out.mono ?_; rintro e w7 ⟨rfl, HI7, HB7, HC7⟩))
          all_goals
            have H7 := hid (And.intro HI7 HB7)
            clear HI7 HB7 HC7 KR H0
            go_wp2_with fail
            go_roundg (xs.length - (i + 1))
            case measure => omega
            case rel => exact ⟨i + 1, by omega, by go_num, H7.out⟩
        · have hin : i = xs.length := by omega
          subst hin
          have hi := HS.out.1
          rw [List.drop_length] at hi
          have HI := hid hi; have HBB := hid HS.out.2
          clear hi HS
          go_wp2_with fail
          refine (In_End_any q _ _ _ HI.out).mono ?_; rintro e w8 ⟨rfl, rfl⟩
          rw [show endE ⟨(allB []).toArray⟩ false = 0 by kernel_rfl]
          go_wp2_with fail
          go_ret
          exact ⟨rfl, HBB.out⟩

/-- in the row's words -/
theorem msgBack_law (A : Option Addr) (cap : Nat) (xs : List Msg3) (w : World) (hr : Row w A (xs.flatMap msgCells))
    (_ : ∀ x ∈ xs, (Lit.int .i64 x.1).wf = true ∧ x.2.1.size ≤ 140737488351232 ∧ x.2.2.size ≤ 140737488351232) (hu : xs.length ≤ cap) (hm : cap ≤ maxLen) :
    Calls Try.prog 8 #[.slice A xs.length cap] w fun e w' => e = .returned (.bool true) ∧ Below w.heap.size w w' :=
  msgBack_walk A cap xs w hr (by simp only [maxLen] at hm; omega)
end Go.Proofs.Ytbhmkigomlpkcaa
