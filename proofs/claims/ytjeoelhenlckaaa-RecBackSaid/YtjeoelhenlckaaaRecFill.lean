/-
  How many of the messages fit one text.
-/
import Derived.Test.YtjeoelhenlckaaaRecIs
namespace Go.Proofs.Ytjeoelhenlckaaa
open Go.RowKit

theorem drop_cons {l : List Msg3} {k : Nat} (h : k < l.length) : l.drop k = l[k] :: l.drop (k + 1) := List.drop_eq_getElem_cons h

set_option maxHeartbeats 4000000 in
set_option maxRecDepth 100000 in
theorem rec_fill_any (A : Option Addr) (cap : Nat) (l : List Msg3) (hlen : l.length ≤ 1000) (hsz : ∀ x ∈ l, x.2.1.size ≤ 1000 ∧ x.2.2.size ≤ 1000) (w : World) (hr : Row w A (l.flatMap msgCells)) :
    Calls Try.prog 78 #[.slice A l.length cap] w fun e w' => e = .returned (.int .i64 (fillF 1 l : Nat)) ∧ Below w.heap.size w w' := by
  have HR := hid hr; have HSZ := hid hsz; clear hr hsz
  obtain ⟨n, hn⟩ : ∃ n, n = fillF 1 l := ⟨_, rfl⟩
  rw [← hn]
  have HN := hid hn; clear hn
  go_enter Try.func78, Try.ntmps78
  go_wp2_with fail
  go_loopg [3, 4] l.length (fun g i s wx => ∃ (k t : Nat), k + g = l.length ∧ i = .int .i64 k ∧ s = .int .i64 t ∧ t ≤ 218 ∧ Hid (Below w.heap.size w wx ∧ n = k + fillF t (l.drop k)))
  case atStart => exact ⟨0, 1, by omega, rfl, rfl, by omega, Below.refl _ _, by rw [HN.out]; simp⟩
  case round =>
    obtain ⟨k, t, hk, rfl, rfl, ht, HB⟩ := hrel
    by_cases hlt : k < l.length
    · obtain ⟨b, off, rfl, hb, hc⟩ := row_cell HR.out (by intro e; have h := msg_at l k 0 l[k] (.int .i64 l[k].1) (by simp [hlt]) rfl; rw [e] at h; cases h)
      have hs1 := HSZ.out _ (List.getElem_mem hlt)
      have hd := HB.out.2
      rw [drop_cons hlt, fillF_cons] at hd
      obtain ⟨⟨K, kk, v⟩, hx⟩ : ∃ x, x = l[k] := ⟨_, rfl⟩
      have hxi : l[k]? = some (K, kk, v) := by rw [hx]; simp [hlt]
      rw [← hx] at hs1 hd
      have c0 := hc _ _ (msg_at l k 0 _ (.int .i64 K) hxi rfl)
      rw [← HB.out.1.cell (p := ⟨b, off + (k * 3 + 0), none⟩) hb, ← Nat.add_assoc, Nat.add_zero] at c0
      have c1 := hc _ _ (msg_at l k 1 _ (.string kk) hxi rfl)
      rw [← HB.out.1.cell (p := ⟨b, off + (k * 3 + 1), none⟩) hb, ← Nat.add_assoc] at c1
      have c2 := hc _ _ (msg_at l k 2 _ (.string v) hxi rfl)
      rw [← HB.out.1.cell (p := ⟨b, off + (k * 3 + 2), none⟩) hb, ← Nat.add_assoc] at c2
      clear hc hb hx hxi
      simp only at hs1
      obtain ⟨q, hq⟩ : ∃ q : Nat, q = t + wt (K, kk, v) := ⟨_, rfl⟩
      rw [← hq] at hd
      have hqq : q = t + (3 + kk.size + v.size) := hq
      have hw : IntKind.i64.wrap ((t : Int) + (3 + (kk.size : Int) + (v.size : Int))) = (q : Int) := by rw [IntKind.wrap_i64]; omega
      have HD := hid hd; have HQ := hid hqq
      have hm1 : kk.size ≤ 140737488351232 := by omega
      have hm2 : v.size ≤ 140737488351232 := by omega
      clear hd hq hqq
      go_wp2_with fail
      refine (msg_Weight_any K kk v hm1 hm2 _).mono ?_; rintro e w1 ⟨rfl, hb1⟩
      have HB1 := hid (bt HB.out.1 hb1)
      clear hb1 c0 c1 c2
      by_cases hg : 218 < q
      · have hg' : (218 : Int) < (q : Int) := by omega
        go_wp2_with fail
        go_ret
        have h := HD.out
        rw [if_pos hg] at h
        exact ⟨by rw [h]; rfl, HB1.out⟩
      · have hg' : ¬ (218 : Int) < (q : Int) := by omega
        go_wp2_with fail
        go_roundg (l.length - (k + 1))
        case measure => omega
        case rel =>
          have h := HD.out
          rw [if_neg hg] at h
          exact ⟨k + 1, q, by omega, by go_num, rfl, by omega, HB1.out, by omega⟩
    · go_wp2_with fail
      go_ret
      have h := HB.out.2
      rw [List.drop_eq_nil_of_le (by omega)] at h
      exact ⟨by rw [h]; rfl, HB.out.1⟩
end Go.Proofs.Ytjeoelhenlckaaa
