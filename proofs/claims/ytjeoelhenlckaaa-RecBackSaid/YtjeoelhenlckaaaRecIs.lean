/-
  Rows of messages: whether one can't be.
-/
import Derived.Test.YtjeoelhenlckaaaRecPure
import Derived.Test.YtjeoelhenlckaaaMsgWriteF
namespace Go.Proofs.Ytjeoelhenlckaaa
open Go.RowKit

set_option maxHeartbeats 4000000 in
set_option maxRecDepth 100000 in
theorem rec_isNot_any (K : Int) (k v : ByteArray) (w : World) :
    Calls Try.prog 40 #[.agg #[.int .i64 K, .string k, .string v]] w fun e w' => e = .returned (.bool (!msgIs K k v)) ∧ Below w.heap.size w w' := by
  obtain ⟨f, hf⟩ : ∃ f, f = msgIs K k v := ⟨_, rfl⟩
  rw [← hf]
  have HF := hid hf; clear hf
  go_enter Try.func40, Try.ntmps40
  go_wp2_with (with_reducible refine at_op (.box 39 (.tmp 0)) rfl ?_; refine Stopped.go ?_)
  refine Stopped.mk (wpList_box rfl #[.int .i64 K, .string k, .string v] 39 (by go_simp) ?_)
  intro g w1 hg_ Bg hb_ hz_
  have hb := hb_
  clear hg_ hz_ hb_
  have cg_0 : w1.cell? ⟨g, 0, none⟩ = some (.int .i64 K) := Bg.at rfl
  have cg_1 : w1.cell? ⟨g, 1, none⟩ = some (.string k) := Bg.at rfl
  have cg_2 : w1.cell? ⟨g, 2, none⟩ = some (.string v) := Bg.at rfl
  clear Bg
  go_wp2_with fail
  refine (msg_Is_any K k v _).mono ?_; rintro e w2 ⟨rfl, hb_⟩; rw [← HF.out]
  replace hb := bt hb hb_; clear hb_ cg_0 cg_1 cg_2
  cases f
  all_goals
    go_wp2_with fail
    go_ret
    exact ⟨rfl, hb⟩


theorem rnot_enters : ∀ args w, (callFunc 40 args).run Try.prog w = .ok (.enter 40 args) w := enters_of Try.func40 (by kernel_rfl) rfl

/-- the first that can't be, or -1 -/
def Idx (l : List Msg3) (i : Int) : Prop := (i = -1 ∧ ∀ x ∈ l, isB x = true) ∨ ∃ n : Nat, i = n ∧ ∃ h : n < l.length, (∀ k (hk : k < l.length), k < n → isB l[k] = true) ∧ isB l[n] = false
theorem Idx.any {l : List Msg3} {i : Int} (h : Idx l i) : 0 ≤ i ↔ (l.any fun x => !isB x) = true := by
  rw [List.any_eq_true]
  rcases h with ⟨rfl, h⟩ | ⟨n, rfl, hn, _, h⟩
  · constructor
    · intro h; exact absurd h (by decide)
    · rintro ⟨x, hx, hp⟩; rw [h x hx] at hp; cases hp
  · exact ⟨fun _ => ⟨l[n], List.getElem_mem _, by rw [h]; rfl⟩, fun _ => by omega⟩

set_option maxHeartbeats 4000000 in
set_option maxRecDepth 100000 in
theorem IndexFunc_recs_any (A : Option Addr) (cap : Nat) (l : List Msg3) (hlen : l.length ≤ 9223372036854775807) (w : World) (hr : Row w A (l.flatMap msgCells)) :
    Calls Try.prog 77 #[.slice A l.length cap, .func (.func 40) #[] #[]] w fun e w' => (∃ i : Int, e = .returned (.int .i64 i) ∧ Idx l i) ∧ Below w.heap.size w w' := by
  have eg := rnot_enters
  have HR := hid hr; clear hr
  go_enter Try.func77, Try.ntmps77
  go_wp2_with fail
  go_loopg [8] l.length (fun g j wx => ∃ k : Nat, k + g = l.length ∧ j = .int .i64 k ∧ Hid (Below w.heap.size w wx ∧ ∀ i (h : i < l.length), i < k → isB l[i] = true))
  case atStart => exact ⟨0, by omega, rfl, Below.refl _ _, fun i _ h => absurd h (by omega)⟩
  case round =>
    obtain ⟨k, hk, rfl, HB⟩ := hrel
    by_cases hlt : k < l.length
    · obtain ⟨b, off, rfl, hb, hc⟩ := row_cell HR.out (by intro e; have h := msg_at l k 0 l[k] (.int .i64 l[k].1) (by simp [hlt]) rfl; rw [e] at h; cases h)
      obtain ⟨⟨K, kk, v⟩, hx⟩ : ∃ x, x = l[k] := ⟨_, rfl⟩
      have hxi : l[k]? = some (K, kk, v) := by rw [hx]; simp [hlt]
      have c0 := hc _ _ (msg_at l k 0 _ (.int .i64 K) hxi rfl)
      rw [← HB.out.1.cell (p := ⟨b, off + (k * 3 + 0), none⟩) hb, ← Nat.add_assoc, Nat.add_zero] at c0
      have c1 := hc _ _ (msg_at l k 1 _ (.string kk) hxi rfl)
      rw [← HB.out.1.cell (p := ⟨b, off + (k * 3 + 1), none⟩) hb, ← Nat.add_assoc] at c1
      have c2 := hc _ _ (msg_at l k 2 _ (.string v) hxi rfl)
      rw [← HB.out.1.cell (p := ⟨b, off + (k * 3 + 2), none⟩) hb, ← Nat.add_assoc] at c2
      have HX := hid hx
      clear hc hb hx hxi
      go_wp2_with fail
      refine (rec_isNot_any K kk v _).mono ?_; rintro e w1 ⟨rfl, hb1⟩
      obtain ⟨f, hf⟩ : ∃ f, f = msgIs K kk v := ⟨_, rfl⟩
      rw [← hf]
      have HB1 := hid (bt HB.out.1 hb1)
      have HF := hid (show f = isB (K, kk, v) from hf)
      clear hb1 c0 c1 c2 hf
      cases f with
      | true =>
        go_wp2_with fail
        go_roundg (l.length - (k + 1))
        case measure => omega
        case rel =>
          refine ⟨k + 1, by omega, by go_num, HB1.out, fun i h hi => ?_⟩
          by_cases e : i = k
          · subst e; rw [← HX.out]; exact HF.out.symm
          · exact HB.out.2 i h (by omega)
      | false =>
        go_wp2_with fail
        go_ret
        exact ⟨⟨_, rfl, .inr ⟨k, rfl, hlt, fun i h hi => HB.out.2 i h hi, by rw [← HX.out]; exact HF.out.symm⟩⟩, HB1.out⟩
    · go_wp2_with fail
      go_ret
      exact ⟨⟨_, rfl, .inl ⟨rfl, fun x hx => by obtain ⟨i, hi, rfl⟩ := List.getElem_of_mem hx; exact HB.out.2 i hi (by omega)⟩⟩, HB.out.1⟩

set_option maxHeartbeats 1000000 in
theorem ContainsFunc_recs_any (A : Option Addr) (cap : Nat) (l : List Msg3) (hlen : l.length ≤ 9223372036854775807) (w : World) (hr : Row w A (l.flatMap msgCells)) :
    Calls Try.prog 39 #[.slice A l.length cap, .func (.func 40) #[] #[]] w fun e w' => e = .returned (.bool (l.any fun x => !isB x)) ∧ Below w.heap.size w w' := by
  have HR := hid hr; clear hr
  obtain ⟨f, hf⟩ : ∃ f, f = (l.any fun x => !isB x) := ⟨_, rfl⟩
  rw [← hf]
  have HF := hid hf; clear hf
  go_enter Try.func39, Try.ntmps39
  go_wp2_with fail
  refine (IndexFunc_recs_any A cap l hlen _ HR.out).mono ?_; rintro e w1 ⟨⟨i, rfl, hi⟩, hb⟩
  replace hi := hi.any
  rw [← HF.out] at hi
  have HB := hid hb
  clear hb
  cases f with
  | true =>
    have h0 : 0 ≤ i := hi.2 rfl
    clear hi
    go_wp2_with fail
    go_ret
    exact ⟨rfl, HB.out⟩
  | false =>
    have h0 : ¬ 0 ≤ i := fun h => by have := hi.1 h; cases this
    clear hi
    go_wp2_with fail
    go_ret
    exact ⟨by show Ending.returned (.bool (decide (0 ≤ i))) = _; simp [h0], HB.out⟩
end Go.Proofs.Ytjeoelhenlckaaa
