/-
  A log, its device and the row of what was added: from deed to deed.
  The document's Same of layer 10: of rows that are the same.
-/
import Derived.Test.YtcklgaenedlbiaaGWalRound31
import Derived.Test.YtcklgaenedlbiaaGWalRound25

namespace Go.Proofs.Ytcklgaenedlbiaa
open Go.RowKit Go.Sort

structure RoundI (w wx : World) (p r c : Nat) (e : Int) (fr j : Nat) (mv : Value) (mine more : List Msg3) (d : Dv) (v : Wl) (F G : List Nat) (f : Nat → ByteArray) (gs : List (List Msg3)) : Prop where
  room : RoomI w wx p r c d v F G
  dl : DL d f
  has : Has f fr e gs
  ep : v.epoch = e
  fro : v.from_ = fr
  us : v.used = gs.length
  pl : v.pend.length ≤ j
  ml : mine.length + more.length ≤ j
  eq : mine ++ more = gs.flatten ++ v.pend
  own : wx.ownsRowF 0 70 3 mv mine.length (mine.flatMap msgCells)
  sep : ∀ k, mv.ownBlock = some k → w.heap.size ≤ k ∧ k ∉ F ∧ k ∉ G
theorem own_lt {w : World} {e : TypeId} {size n : Nat} {v : Value} {xs : List Value} (h : w.ownsRowF 0 e size v n xs) {k : Nat} (hk : v.ownBlock = some k) : k < w.heap.size := (h.lt k hk).2
section
variable {w wx : World} {p r c : Nat} {e : Int} {fr j : Nat} {mv : Value} {mine more : List Msg3} {d : Dv} {v : Wl} {F G : List Nat} {f : Nat → ByteArray} {gs : List (List Msg3)}
theorem RoundI.below {wy : World} (h : RoundI w wx p r c e fr j mv mine more d v F G f gs) (hb : Below wx.heap.size wx wy) : RoundI w wy p r c e fr j mv mine more d v F G f gs :=
  ⟨h.room.below hb, h.dl, h.has, h.ep, h.fro, h.us, h.pl, h.ml, h.eq, ownsRowF_below h.own hb, h.sep⟩
theorem RoundI.up (h : RoundI w wx p r c e fr j mv mine more d v F G f gs) : RoundI w wx p r c e fr (j + 1) mv mine more d v F G f gs :=
  ⟨h.room, h.dl, h.has, h.ep, h.fro, h.us, by have := h.pl; omega, by have := h.ml; omega, h.eq, h.own, h.sep⟩
theorem RoundI.add (h : RoundI w wx p r c e fr j mv mine [] d v F G f gs) (m : Msg3) (hj : j ≤ 240) :
    Calls Try.prog 42 #[.pointer (some ⟨r, 0, none⟩), .agg #[.int .i64 m.1, .string m.2.1, .string m.2.2]] wx fun e' w' => ∃ code, e' = .returned (.int .i64 code) ∧
      ((code = 0 ∧ ∃ v' G', RoundI w w' p r c e fr (j + 1) mv mine [m] d v' F G' f gs) ∨ (code ≠ 0 ∧ ∃ v' G', RoundI w w' p r c e fr (j + 1) mv mine [] d v' F G' f gs)) := by
  have hpl := h.pl
  refine (h.room.addK m (by omega)).mono ?_
  rintro e' w' ⟨rfl, G', hr, hk, hn⟩
  refine ⟨_, rfl, ?_⟩
  have hown : w'.ownsRowF 0 70 3 mv mine.length (mine.flatMap msgCells) := ownsRowF_keeps h.own hk (fun k hk => (h.sep k hk).2.2)
  have hsep : ∀ k, mv.ownBlock = some k → w.heap.size ≤ k ∧ k ∉ F ∧ k ∉ G' := fun k hk => by
    obtain ⟨a, b, cc⟩ := h.sep k hk
    refine ⟨a, b, fun hg => ?_⟩
    rcases hn k hg with h1 | h1
    · exact cc h1
    · have := own_lt h.own hk; omega
  have hml := h.ml
  unfold Wl.add at hr ⊢
  by_cases h1 : isB m = true
  · rw [if_pos h1] at hr ⊢
    by_cases h2 : v.fits m = true
    · rw [if_pos h2] at hr ⊢
      refine .inl ⟨rfl, _, G', hr, h.dl, h.has, h.ep, h.fro, h.us, ?_, ?_, ?_, hown, hsep⟩
      · simp only [List.length_append, List.length_singleton]; omega
      · simp only [List.length_singleton, List.length_nil] at hml ⊢; omega
      · have := h.eq
        rw [List.append_nil] at this
        simp only
        rw [this, List.append_assoc]
    · rw [if_neg h2] at hr ⊢
      exact .inr ⟨by show (8 : Int) ≠ 0; decide, _, G', hr, h.dl, h.has, h.ep, h.fro, h.us, by show v.pend.length ≤ j + 1; omega, by omega, h.eq, hown, hsep⟩
  · rw [if_neg h1] at hr ⊢
    exact .inr ⟨by show (1 : Int) ≠ 0; decide, _, G', hr, h.dl, h.has, h.ep, h.fro, h.us, by show v.pend.length ≤ j + 1; omega, by omega, h.eq, hown, hsep⟩
theorem RoundI.sync (h : RoundI w wx p r c e fr j mv mine [] d v F G f gs) :
    Calls Try.prog 43 #[.pointer (some ⟨r, 0, none⟩)] wx fun e' w' => e' = .returned (.int .i64 0) ∧ ∃ d' v' F' G' f' gs', RoundI w w' p r c e fr j mv mine [] d' v' F' G' f' gs' ∧ v'.pend = [] := by
  refine h.room.syncK.mono ?_
  rintro e' w' ⟨rfl, F', G', hr, hk, hn⟩
  have hhas := h.has.sync h.room.ok h.fro h.ep h.us
  obtain ⟨s1, s2, s3⟩ := sync_same v
  refine ⟨rfl, _, _, F', G', _, gs ++ g2 [] v.pend, ⟨hr, h.dl.sync h.room.ok, hhas, by rw [s2]; exact h.ep, by rw [s3]; exact h.fro, ?_, ?_, h.ml, ?_, ?_, fun k hk' => ?_⟩, sync_pend v⟩
  · rw [sync_used, h.us, List.length_append, texts_length]
  · rw [sync_pend]; exact Nat.zero_le _
  · rw [h.eq, sync_pend, List.append_nil, List.flatten_append, g2_flat]; rfl
  · exact ownsRowF_keeps h.own hk (fun k hk' hm => by
      rcases List.mem_append.1 hm with hm | hm
      · exact (h.sep k hk').2.1 hm
      · exact (h.sep k hk').2.2 hm)
  · obtain ⟨a, b, cc⟩ := h.sep k hk'
    have hlt := own_lt h.own hk'
    refine ⟨a, fun hg => ?_, fun hg => ?_⟩
    · rcases hn k (List.mem_append.2 (.inl hg)) with h1 | h1
      · rcases List.mem_append.1 h1 with h1 | h1
        · exact b h1
        · exact cc h1
      · omega
    · rcases hn k (List.mem_append.2 (.inr hg)) with h1 | h1
      · rcases List.mem_append.1 h1 with h1 | h1
        · exact b h1
        · exact cc h1
      · omega
theorem RoundI.push {m : Msg3} {wy : World} {mv' : Value} (h : RoundI w wx p r c e fr j mv mine [m] d v F G f gs) (ho : wy.ownsRowF 0 70 3 mv' (mine.length + 1) (mine.flatMap msgCells ++ msgCells m)) (hk : Keeps mv.ownBlock.toList wx wy)
    (hn : ∀ k, mv'.ownBlock = some k → mv.ownBlock = some k ∨ wx.heap.size ≤ k) : RoundI w wy p r c e fr j mv' (mine ++ [m]) [] d v F G f gs := by
  have hml := h.ml
  have hd := h.room.lw.dev.at_.sizes
  refine ⟨h.room.other hk (fun k hk' => (h.sep k (Option.mem_toList.1 hk')).1) (fun k hF hm => (h.sep k (Option.mem_toList.1 hm)).2.1 hF) (fun k hG hm => (h.sep k (Option.mem_toList.1 hm)).2.2 hG), h.dl, h.has, h.ep, h.fro, h.us, h.pl, ?_, ?_, ?_, fun k hk' => ?_⟩
  · simp only [List.length_append, List.length_singleton, List.length_nil] at hml ⊢; omega
  · rw [List.append_nil]; exact h.eq
  · rw [List.length_append, List.flatMap_append]
    simpa using ho
  · rcases hn k hk' with h1 | h1
    · exact h.sep k h1
    · have h2 := h.room.lw.dev.bel.size
      refine ⟨by omega, fun hF => ?_, fun hG => ?_⟩
      · have := hd k hF; omega
      · have := (h.room.lw.wal.own k hG).2; omega
end
end Go.Proofs.Ytcklgaenedlbiaa

namespace Go.Proofs.Ytcklgaenedlbiaa
open Go.RowKit

set_option maxHeartbeats 4000000 in
set_option maxRecDepth 100000 in
theorem same10 (A B : Option Addr) (cap bcap : Nat) (l : List Msg3) (hlen : l.length ≤ 1000) (w : World) (hr : Row w A (l.flatMap msgCells)) (hr2 : Row w B (l.flatMap msgCells)) :
    Calls Try.prog 50 #[.slice A l.length cap, .slice B l.length bcap] w fun e w' => e = .returned (.bool true) ∧ Below w.heap.size w w' := by
  have HR := hid hr; have HR2 := hid hr2; clear hr hr2
  obtain ⟨L, hL⟩ : ∃ L, L = l.length := ⟨_, rfl⟩
  rw [← hL] at hlen ⊢
  have HL := hid hL; clear hL
  go_enter Try.func50, Try.ntmps50
  go_wp2_with fail
  go_loopg [5] L (fun g x wx => ∃ k : Nat, k + g = L ∧ x = .int .i64 k ∧ Hid (Below w.heap.size w wx))
  case atStart => exact ⟨0, by omega, rfl, Below.refl _ _⟩
  case round =>
    obtain ⟨k, hk, rfl, HS⟩ := hrel
    by_cases hlt : k < L
    · have hltl : k < l.length := by have := HL.out; omega
      obtain ⟨b, off, rfl, hb, hc⟩ := row_cell HR.out (by intro e; have h := msg_at l k 0 l[k] (.int .i64 l[k].1) (by simp [hltl]) rfl; rw [e] at h; cases h)
      obtain ⟨b', off', rfl, hb', hc'⟩ := row_cell HR2.out (by intro e; have h := msg_at l k 0 l[k] (.int .i64 l[k].1) (by simp [hltl]) rfl; rw [e] at h; cases h)
      obtain ⟨⟨K, kk, v⟩, hx⟩ : ∃ x, x = l[k] := ⟨_, rfl⟩
      have hxi : l[k]? = some (K, kk, v) := by rw [hx]; simp [hltl]
      have c0 := hc _ _ (msg_at l k 0 _ (.int .i64 K) hxi rfl)
      rw [← HS.out.cell (p := ⟨b, off + (k * 3 + 0), none⟩) hb, ← Nat.add_assoc, Nat.add_zero] at c0
      have c1 := hc _ _ (msg_at l k 1 _ (.string kk) hxi rfl)
      rw [← HS.out.cell (p := ⟨b, off + (k * 3 + 1), none⟩) hb, ← Nat.add_assoc] at c1
      have c2 := hc _ _ (msg_at l k 2 _ (.string v) hxi rfl)
      rw [← HS.out.cell (p := ⟨b, off + (k * 3 + 2), none⟩) hb, ← Nat.add_assoc] at c2
      have d0 := hc' _ _ (msg_at l k 0 _ (.int .i64 K) hxi rfl)
      rw [← HS.out.cell (p := ⟨b', off' + (k * 3 + 0), none⟩) hb', ← Nat.add_assoc, Nat.add_zero] at d0
      have d1 := hc' _ _ (msg_at l k 1 _ (.string kk) hxi rfl)
      rw [← HS.out.cell (p := ⟨b', off' + (k * 3 + 1), none⟩) hb', ← Nat.add_assoc] at d1
      have d2 := hc' _ _ (msg_at l k 2 _ (.string v) hxi rfl)
      rw [← HS.out.cell (p := ⟨b', off' + (k * 3 + 2), none⟩) hb', ← Nat.add_assoc] at d2
      clear hc hb hc' hb' hx hxi hltl
      go_wp2_with fail
      go_quiet (fail)
      go_wp2_with fail
      go_roundg (L - (k + 1))
      case measure => omega
      case rel => exact ⟨k + 1, by omega, by go_num, bdn HS.out _⟩
    · go_wp2_with fail
      go_ret
      exact ⟨rfl, HS.out⟩
end Go.Proofs.Ytcklgaenedlbiaa
