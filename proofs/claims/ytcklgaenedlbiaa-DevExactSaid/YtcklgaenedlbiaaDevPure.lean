/-
  A device's sectors: plain laws, without a program.
-/
import Derived.Test.YtcklgaenedlbiaaDevAt
namespace Go.Proofs.Ytcklgaenedlbiaa
open Go.RowKit

/-- sector j of all -/
def secAt (s : List UInt8) (j : Nat) : List UInt8 := (s.drop (64 * j)).take 64
theorem secAt_get (s : List UInt8) (j i : Nat) : (secAt s j)[i]? = if i < 64 then s[64 * j + i]? else none := by
  unfold secAt
  rw [List.getElem?_take]
  split
  · rw [List.getElem?_drop]
  · rfl
theorem over_get (l : List UInt8) (o : Nat) (m : List UInt8) (h : o + m.length ≤ l.length) (q : Nat) : (over l o m)[q]? = if q < o then l[q]? else if q < o + m.length then m[q - o]? else l[q]? := by
  unfold over
  have h1 : (l.take o).length = o := by rw [List.length_take]; omega
  split
  · rw [List.append_assoc, List.getElem?_append_left (by omega), List.getElem?_take, if_pos (by omega)]
  · rw [List.append_assoc, List.getElem?_append_right (by omega), h1]
    split
    · rw [List.getElem?_append_left (by omega)]
    · rw [List.getElem?_append_right (by omega), List.getElem?_drop]
      congr 1
      omega
theorem secAt_over (s : List UInt8) (j0 : Nat) (m : List UInt8) (hm : m.length = 64) (h : 64 * j0 + 64 ≤ s.length) (j : Nat) : secAt (over s (64 * j0) m) j = if j = j0 then m else secAt s j := by
  apply List.ext_getElem?
  intro i
  rw [secAt_get, over_get _ _ _ (by omega), hm]
  by_cases hi : i < 64
  · rw [if_pos hi]
    by_cases hj : j = j0
    · subst hj
      rw [if_pos rfl, if_neg (by omega), if_pos (by omega)]
      congr 1
      omega
    · rw [if_neg hj, secAt_get, if_pos hi]
      by_cases h1 : 64 * j + i < 64 * j0
      · rw [if_pos h1]
      · rw [if_neg h1, if_neg (by omega)]
  · rw [if_neg hi]
    by_cases hj : j = j0
    · rw [if_pos hj, List.getElem?_eq_none (by omega)]
    · rw [if_neg hj, secAt_get, if_neg hi]
theorem secAt_lay1 {n : Nat} (s : List UInt8) (x : Nat × ByteArray) (k : Nat) (hs : s.length = 256 * n) (hx : x.1 < n ∧ x.2.size = 256) (hk : k < 4) (j : Nat) : secAt (lay1 s x k) j = if j = 4 * x.1 + k then sect x.2 k else secAt s j := by
  unfold lay1
  rw [show 256 * x.1 + 64 * k = 64 * (4 * x.1 + k) by omega]
  exact secAt_over s _ _ (sect_length _ _ hx.2 hk) (by have := hx.1; omega) j

/-- a block of a byte alone -/
def oneB (b : UInt8) : ByteArray := ⟨(List.replicate 256 b).toArray⟩
theorem oneB_size (b : UInt8) : (oneB b).size = 256 := (List.size_toArray ..).trans List.length_replicate
theorem sect_one (b : UInt8) (k : Nat) (hk : k < 4) : sect (oneB b) k = List.replicate 64 b := by
  unfold sect oneB
  rw [List.drop_replicate, List.take_replicate]
  congr 1
  omega

/-- each sector is of one byte, of those that may be there -/
structure Good (ok : Nat → List UInt8) (d : Dv) : Prop where
  size : d.safe.length = 1024
  sec : ∀ at_ k, at_ < 4 → k < 4 → ∃ b ∈ ok at_, secAt d.safe (4 * at_ + k) = List.replicate 64 b
  loose : ∀ x ∈ d.loose, x.1 < 4 ∧ ∃ b ∈ ok x.1, x.2 = oneB b

theorem Good.mono {ok ok' : Nat → List UInt8} {d : Dv} (h : Good ok d) (hs : ∀ at_ b, b ∈ ok at_ → b ∈ ok' at_) : Good ok' d :=
  ⟨h.size, fun at_ k h1 h2 => by obtain ⟨b, hb, e⟩ := h.sec at_ k h1 h2; exact ⟨b, hs _ _ hb, e⟩, fun x hx => by obtain ⟨h1, b, hb, e⟩ := h.loose x hx; exact ⟨h1, b, hs _ _ hb, e⟩⟩

/-- what a row of bytes is, in sectors -/
def Secs (ok : Nat → List UInt8) (s : List UInt8) : Prop := s.length = 1024 ∧ ∀ at_ k, at_ < 4 → k < 4 → ∃ b ∈ ok at_, secAt s (4 * at_ + k) = List.replicate 64 b
theorem Secs.lay1 {ok : Nat → List UInt8} {s : List UInt8} (h : Secs ok s) {x : Nat × ByteArray} (hx : x.1 < 4 ∧ ∃ b ∈ ok x.1, x.2 = oneB b) (k : Nat) (hk : k < 4) : Secs ok (lay1 s x k) := by
  obtain ⟨h1, b, hb, e⟩ := hx
  have hx2 : x.1 < 4 ∧ x.2.size = 256 := ⟨h1, by rw [e]; exact oneB_size b⟩
  refine ⟨lay1_length (n := 4) s x k h.1 hx2 hk, fun at_ k' h3 h4 => ?_⟩
  rw [secAt_lay1 (n := 4) s x k h.1 hx2 hk]
  by_cases hj : 4 * at_ + k' = 4 * x.1 + k
  · rw [if_pos hj]
    have h5 : at_ = x.1 := by omega
    subst h5
    exact ⟨b, hb, by rw [e]; exact sect_one b k hk⟩
  · rw [if_neg hj]
    exact h.2 at_ k' h3 h4
theorem Secs.cutK {ok : Nat → List UInt8} {s : List UInt8} (h : Secs ok s) (keep : List Bool) (i : Nat) {x : Nat × ByteArray} (hx : x.1 < 4 ∧ ∃ b ∈ ok x.1, x.2 = oneB b) : ∀ k, k ≤ 4 → Secs ok (cutK keep i s x k)
  | 0, _ => h
  | k + 1, hk => by
    rw [cutK_succ]
    split
    · exact (Secs.cutK h keep i hx k (by omega)).lay1 hx k (by omega)
    · exact Secs.cutK h keep i hx k (by omega)
theorem Secs.cutN {ok : Nat → List UInt8} {s : List UInt8} (h : Secs ok s) (keep : List Bool) (l : List (Nat × ByteArray)) (hl : ∀ x ∈ l, x.1 < 4 ∧ ∃ b ∈ ok x.1, x.2 = oneB b) : ∀ n, n ≤ l.length → Secs ok (cutN keep l s n)
  | 0, _ => h
  | n + 1, hn => by
    rw [cutN_succ]
    refine (Secs.cutN h keep l hl n (by omega)).cutK keep n ?_ 4 (by omega)
    rw [List.getD_eq_getElem?_getD, List.getElem?_eq_getElem (by omega)]
    exact hl _ (List.getElem_mem _)
theorem Good.cut {ok : Nat → List UInt8} {d : Dv} (h : Good ok d) (keep : List Bool) : Good ok (d.cut keep) := by
  unfold Dv.cut
  split
  · exact h
  · have := Secs.cutN (ok := ok) ⟨h.size, h.sec⟩ keep d.loose h.loose _ (Nat.le_refl _)
    exact ⟨this.1, this.2, by simp⟩
theorem Good.burn {ok : Nat → List UInt8} {d : Dv} (h : Good ok d) : Good ok d.burn := by
  have h1 : Good ok (if d.fuse = 0 then d.cut d.keep else d) := by split; exact h.cut _; exact h
  unfold Dv.burn
  simp only
  generalize (if d.fuse = 0 then d.cut d.keep else d) = c at *
  split
  · exact ⟨h1.size, h1.sec, h1.loose⟩
  · exact h1
theorem Good.write {ok : Nat → List UInt8} {d : Dv} (h : Good ok d) (x : Nat × ByteArray) (hx : x.1 < 4 ∧ ∃ b ∈ ok x.1, x.2 = oneB b) : Good ok (d.write x) := by
  unfold Dv.write
  split
  · exact h.burn
  · refine ⟨h.burn.size, h.burn.sec, fun y hy => ?_⟩
    rcases List.mem_append.1 hy with hy | hy
    · exact h.burn.loose y hy
    · simp at hy; subst hy; exact hx
theorem Good.come {ok : Nat → List UInt8} {d : Dv} (h : Good ok d) : Good ok d.come := by
  unfold Dv.come
  split
  · exact ⟨h.size, h.sec, h.loose⟩
  · exact h
theorem Good.fuse {ok : Nat → List UInt8} {d : Dv} (h : Good ok d) (n : Int) (keep : List Bool) : Good ok { d with fuse := n, keep := keep } := ⟨h.size, h.sec, h.loose⟩

/-- flushed: the last one of each block -/
theorem flushN_snoc (s : List UInt8) (l : List (Nat × ByteArray)) (x : Nat × ByteArray) : flushN s (l ++ [x]) = layN (flushN s l) x 4 := by
  unfold flushN; rw [List.foldl_append]; rfl
theorem layN_sec (s : List UInt8) (x : Nat × ByteArray) (hs : s.length = 1024) (hx : x.1 < 4 ∧ x.2.size = 256) : ∀ (k : Nat), k ≤ 4 → ∀ j, secAt (layN s x k) j = if 4 * x.1 ≤ j ∧ j < 4 * x.1 + k then sect x.2 (j - 4 * x.1) else secAt s j
  | 0, _, j => by rw [if_neg (by omega)]; rfl
  | k + 1, hk, j => by
    rw [layN_succ, secAt_lay1 (n := 4) _ x k (layN_length (n := 4) x hx k s (by omega) hs) hx (by omega), layN_sec s x hs hx k (by omega)]
    by_cases h1 : j = 4 * x.1 + k
    · rw [if_pos h1, if_pos (by omega)]; congr 1; omega
    · rw [if_neg h1]
      by_cases h2 : 4 * x.1 ≤ j ∧ j < 4 * x.1 + k
      · rw [if_pos h2, if_pos (by omega)]
      · rw [if_neg h2, if_neg (by omega)]
/-- with all kept it is as flushed -/
theorem cutK_all (keep : List Bool) (i : Nat) (x : Nat × ByteArray) (hk : ∀ j, j < 4 * i + 4 → keep.getD j false = true) (s : List UInt8) : ∀ k, k ≤ 4 → cutK keep i s x k = layN s x k
  | 0, _ => rfl
  | k + 1, h => by rw [cutK_succ, layN_succ, if_pos (hk _ (by omega)), cutK_all keep i x hk s k (by omega)]
theorem cutN_all (keep : List Bool) (l : List (Nat × ByteArray)) (s : List UInt8) (hk : ∀ j, j < 4 * l.length → keep.getD j false = true) : ∀ n, n ≤ l.length → cutN keep l s n = flushN s (l.take n)
  | 0, _ => rfl
  | n + 1, h => by
    rw [cutN_succ, cutN_all keep l s hk n (by omega), cutK_all keep n _ (fun j hj => hk j (by omega)) _ 4 (by omega), List.take_succ_eq_append_getElem (by omega), flushN_snoc]
    rw [List.getD_eq_getElem?_getD, List.getElem?_eq_getElem (by omega)]; rfl
theorem cutK_none (i : Nat) (s : List UInt8) (x : Nat × ByteArray) : ∀ k, cutK [] i s x k = s
  | 0 => rfl
  | k + 1 => by rw [cutK_succ, if_neg (by simp), cutK_none i s x k]
theorem cutN_none (l : List (Nat × ByteArray)) (s : List UInt8) : ∀ n, cutN [] l s n = s
  | 0 => rfl
  | n + 1 => by rw [cutN_succ, cutN_none l s n, cutK_none]
end Go.Proofs.Ytcklgaenedlbiaa
