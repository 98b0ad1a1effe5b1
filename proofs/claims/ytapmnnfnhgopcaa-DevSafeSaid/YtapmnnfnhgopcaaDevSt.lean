/-
  What DevSafe's loop knows: a device, four bytes, four rows of bytes.
-/
import Derived.Test.YtapmnnfnhgopcaaDevAll
namespace Go.Proofs.Ytapmnnfnhgopcaa
open Go.RowKit

structure SafeSt (w wx : World) (p gs gl : Nat) (d : Dv) (F : List Nat) (S : List UInt8) (vs : List Value) (T : List (List UInt8)) : Prop where
  dev : Dev w wx p 4 d F
  bs : Blk wx gs 41 (u8s S)
  bl : Blk wx gl 42 vs
  ls : S.length = 4
  lv : vs.length = 4
  lt : T.length = 4
  own : ∀ (k : Nat) (v : Value) (t : List UInt8), vs[k]? = some v → T[k]? = some t → wx.ownsRowF 0 5 1 v t.length (u8s t)
  apart : ∀ (i j : Nat) (v v' : Value), vs[i]? = some v → vs[j]? = some v' → i ≠ j → ∀ k, v.ownBlock = some k → v'.ownBlock ≠ some k
  new : ∀ (i : Nat) (v : Value) (k : Nat), vs[i]? = some v → v.ownBlock = some k → w.heap.size ≤ k ∧ k < wx.heap.size ∧ k ∉ F ∧ k ≠ gs ∧ k ≠ gl
  sF : gs ∉ F
  lF : gl ∉ F
  sl : gs ≠ gl
  gsn : w.heap.size ≤ gs
  gln : w.heap.size ≤ gl

section
variable {w wx w' : World} {p gs gl : Nat} {d d' : Dv} {F F' : List Nat} {S : List UInt8} {vs : List Value} {T : List (List UInt8)}

theorem SafeSt.below (h : SafeSt w wx p gs gl d F S vs T) (hb : Below wx.heap.size wx w') : SafeSt w w' p gs gl d F S vs T :=
  ⟨h.dev.below hb, h.bs.belowS hb, h.bl.belowS hb, h.ls, h.lv, h.lt, fun k v t h1 h2 => ownsRowF_below (h.own k v t h1 h2) hb, h.apart, fun i v k h1 h2 => by obtain ⟨a, b, c⟩ := h.new i v k h1 h2; exact ⟨a, Nat.lt_of_lt_of_le b hb.size, c⟩, h.sF, h.lF, h.sl, h.gsn, h.gln⟩
/-- a deed of the device -/
theorem SafeSt.deed (h : SafeSt w wx p gs gl d F S vs T) (hd : Dev w w' p 4 d' F') (hk : Keeps F wx w') (hF : ∀ k, k ∈ F' → k ∈ F ∨ wx.heap.size ≤ k) : SafeSt w w' p gs gl d' F' S vs T := by
  have hn : ∀ k, k < wx.heap.size → k ∉ F → k ∉ F' := fun k h1 h2 hm => by rcases hF k hm with h3 | h3; exact h2 h3; omega
  refine ⟨hd, h.bs.keeps hk h.sF, h.bl.keeps hk h.lF, h.ls, h.lv, h.lt, fun k v t h1 h2 => ownsRowF_keeps (h.own k v t h1 h2) hk (fun x hx => (h.new k v x h1 hx).2.2.1), h.apart, fun i v k h1 h2 => ?_, hn _ h.bs.lt h.sF, hn _ h.bl.lt h.lF, h.sl, h.gsn, h.gln⟩
  obtain ⟨a, b, c, e⟩ := h.new i v k h1 h2
  exact ⟨a, Nat.lt_of_lt_of_le b hk.size, hn k b c, e⟩
/-- a byte is laid -/
theorem SafeSt.setS (h : SafeSt w wx p gs gl d F S vs T) (i : Nat) (hi : i < 4) (b : UInt8) : SafeSt w (wx.setCell ⟨gs, i, none⟩ (.int .u8 b.toNat)) p gs gl d F (S.set i b) vs T := by
  have hk := keeps_setCell wx ⟨gs, i, none⟩ (.int .u8 (b.toNat : Int))
  have hs := h.bs.set i (.int .u8 b.toNat)
  have e := u8s_set S [] i b (by rw [h.ls]; exact hi)
  rw [List.append_nil, List.append_nil] at e
  rw [e] at hs
  have hz : (wx.setCell ⟨gs, i, none⟩ (.int .u8 b.toNat)).heap.size = wx.heap.size := by simp [World.setCell]
  refine ⟨h.dev.keeps hk (fun k hk => by simp at hk; rw [hk]; exact h.gsn) (fun k hk hm => by simp at hm; rw [hm] at hk; exact h.sF hk), hs, h.bl.other _ _ h.sl.symm, by rw [List.length_set]; exact h.ls, h.lv, h.lt, fun k v t h1 h2 => ownsRowF_keeps (h.own k v t h1 h2) hk (fun x hx hm => (h.new k v x h1 hx).2.2.2.1 (by simpa using hm)), h.apart, fun i v k h1 h2 => ?_, h.sF, h.lF, h.sl, h.gsn, h.gln⟩
  obtain ⟨a, b, c⟩ := h.new i v k h1 h2
  exact ⟨a, by rw [hz]; exact b, c⟩
/-- a byte more in a row -/
theorem SafeSt.push (h : SafeSt w wx p gs gl d F S vs T) {w5 : World} {V V' : Value} {t : List UInt8} (i : Nat) (b : UInt8) (hV : vs[i]? = some V) (hT : T[i]? = some t) (hown : w5.ownsRowF 0 5 1 V' (t ++ [b]).length (u8s (t ++ [b]))) (hk : Keeps V.ownBlock.toList wx w5) (hV' : ∀ k, V'.ownBlock = some k → V.ownBlock = some k ∨ wx.heap.size ≤ k) :
    SafeSt w (w5.setCell ⟨gl, i, none⟩ V') p gs gl d F S (vs.set i V') (T.set i (t ++ [b])) := by
  have hi : i < vs.length := by
    rcases Nat.lt_or_ge i vs.length with h1 | h1
    · exact h1
    · rw [List.getElem?_eq_none h1] at hV; cases hV
  have hnew := fun k hk => h.new i V k hV hk
  have g1 := h.dev.keeps (G := V.ownBlock.toList) hk (fun k hk => (hnew k (Option.mem_toList.1 hk)).1) (fun k h1 h2 => (hnew k (Option.mem_toList.1 h2)).2.2.1 h1)
  have g2 := h.bs.keeps hk (fun hm => (hnew _ (Option.mem_toList.1 hm)).2.2.2.1 rfl)
  have g3 := h.bl.keeps hk (fun hm => (hnew _ (Option.mem_toList.1 hm)).2.2.2.2 rfl)
  have hk2 := keeps_setCell w5 ⟨gl, i, none⟩ V'
  have hz : (w5.setCell ⟨gl, i, none⟩ V').heap.size = w5.heap.size := by simp [World.setCell]
  have hbV' : ∀ k, V'.ownBlock = some k → w.heap.size ≤ k ∧ k < w5.heap.size ∧ k ∉ F ∧ k ≠ gs ∧ k ≠ gl := by
    intro k hk'
    rcases hV' k hk' with h1 | h1
    · obtain ⟨a, b, c⟩ := hnew k h1
      exact ⟨a, Nat.lt_of_lt_of_le b hk.size, c⟩
    · have h2 := (hown.lt k hk').2
      have h3 := h.dev.bel.size
      have h4 := h.bs.lt
      have h5 := h.bl.lt
      exact ⟨by omega, h2, fun hm => by have := h.dev.at_.sizes k hm; omega, by omega, by omega⟩
  refine ⟨g1.keeps hk2 (fun k hk => by simp at hk; rw [hk]; exact h.gln) (fun k hk hm => by simp at hm; rw [hm] at hk; exact h.lF hk), g2.other _ _ h.sl, g3.set i V', h.ls, by rw [List.length_set]; exact h.lv, by rw [List.length_set]; exact h.lt, ?_, ?_, ?_, h.sF, h.lF, h.sl, h.gsn, h.gln⟩
  · intro k v t' h1 h2
    rw [List.getElem?_set] at h1 h2
    by_cases e : i = k
    · subst e
      simp only [if_true, hi] at h1
      rw [if_pos rfl, if_pos (by rw [h.lt, ← h.lv]; exact hi)] at h2
      injection h1 with h1
      injection h2 with h2
      subst h1 h2
      exact ownsRowF_keeps hown hk2 (fun x hx hm => (hbV' x hx).2.2.2.2 (by simpa using hm))
    · rw [if_neg e] at h1 h2
      exact ownsRowF_keeps (ownsRowF_keeps (h.own k v t' h1 h2) hk (fun x hx hm => h.apart k i v V h1 hV (fun e' => e e'.symm) x hx (Option.mem_toList.1 hm))) hk2 (fun x hx hm => (h.new k v x h1 hx).2.2.2.2 (by simpa using hm))
  · intro a c v v' h1 h2 hne x hx
    rw [List.getElem?_set] at h1 h2
    by_cases e1 : i = a
    · subst e1
      simp only [if_true, hi] at h1
      injection h1 with h1
      subst h1
      rw [if_neg hne] at h2
      rcases hV' x hx with h3 | h3
      · exact h.apart i c V v' hV h2 hne x h3
      · intro h4
        have := (h.new c v' x h2 h4).2.1
        omega
    · rw [if_neg e1] at h1
      by_cases e2 : i = c
      · subst e2
        simp only [if_true, hi] at h2
        injection h2 with h2
        subst h2
        intro h4
        rcases hV' x h4 with h3 | h3
        · exact h.apart a i v V h1 hV hne x hx h3
        · have := (h.new a v x h1 hx).2.1
          omega
      · rw [if_neg e2] at h2
        exact h.apart a c v v' h1 h2 hne x hx
  · intro a v k h1 h2
    rw [hz]
    rw [List.getElem?_set] at h1
    by_cases e : i = a
    · subst e
      simp only [if_true, hi] at h1
      injection h1 with h1
      subst h1
      exact hbV' k h2
    · rw [if_neg e] at h1
      obtain ⟨a', b', c'⟩ := h.new a v k h1 h2
      exact ⟨a', Nat.lt_of_lt_of_le b' hk.size, c'⟩
end

/-- of all bytes each sector is of what may be there -/
def okOf (S : List UInt8) (T : List (List UInt8)) (at_ : Nat) : List UInt8 := S.getD at_ 0 :: T.getD at_ []

/-- ahead of the flush: what a flush would lay -/
def Ahead (L : List (Nat × ByteArray)) (S : List UInt8) : Prop := (∀ x ∈ L, x.1 < 4 ∧ x.2.size = 256) ∧ ∀ at_ k, at_ < 4 → k < 4 → secAt (flushN (List.replicate 1024 0) L) (4 * at_ + k) = List.replicate 64 (S.getD at_ 0)
theorem secAt_zero (j : Nat) (hj : j < 16) : secAt (List.replicate 1024 0) j = List.replicate 64 0 := by
  unfold secAt
  rw [List.drop_replicate, List.take_replicate]
  congr 1
  omega
theorem Ahead.nil : Ahead [] [0, 0, 0, 0] := by
  refine ⟨by simp, fun at_ k h1 h2 => ?_⟩
  have e : ([0, 0, 0, 0] : List UInt8).getD at_ 0 = 0 := by
    have : at_ = 0 ∨ at_ = 1 ∨ at_ = 2 ∨ at_ = 3 := by omega
    rcases this with rfl | rfl | rfl | rfl <;> rfl
  rw [e]
  exact secAt_zero _ (by omega)
theorem Ahead.snoc {L : List (Nat × ByteArray)} {S : List UInt8} (h : Ahead L S) (hS : S.length = 4) (i : Nat) (hi : i < 4) (b : UInt8) : Ahead (L ++ [(i, oneB b)]) (S.set i b) := by
  have hx : i < 4 ∧ (oneB b).size = 256 := ⟨hi, oneB_size b⟩
  refine ⟨fun x hm => ?_, fun at_ k h1 h2 => ?_⟩
  · rcases List.mem_append.1 hm with hm | hm
    · exact h.1 x hm
    · simp at hm; subst hm; exact hx
  · have hl : (flushN (List.replicate 1024 0) L).length = 1024 := flushN_length (n := 4) L _ h.1 (by rw [List.length_replicate])
    rw [flushN_snoc, layN_sec _ _ hl hx 4 (Nat.le_refl _)]
    simp only
    rw [List.getD_eq_getElem?_getD, List.getElem?_set]
    by_cases e : i = at_
    · subst e
      rw [if_pos (by omega), if_pos rfl, if_pos (by omega)]
      rw [sect_one b _ (by omega)]
      rfl
    · rw [if_neg (by omega), if_neg e, h.2 at_ k h1 h2, List.getD_eq_getElem?_getD]
theorem Ahead.good {L : List (Nat × ByteArray)} {S : List UInt8} (h : Ahead L S) (T : List (List UInt8)) (d : Dv) (hd : d.safe = flushN (List.replicate 1024 0) L) (hl : d.loose = []) : Good (okOf S T) d := by
  refine ⟨?_, fun at_ k h1 h2 => ⟨S.getD at_ 0, by simp [okOf], ?_⟩, by rw [hl]; simp⟩
  · rw [hd]; exact flushN_length (n := 4) L _ h.1 (by rw [List.length_replicate])
  · rw [hd]; exact h.2 at_ k h1 h2
theorem okOf_push (S : List UInt8) (T : List (List UInt8)) (i : Nat) (t : List UInt8) (b : UInt8) (hT : T[i]? = some t) : (∀ at_ x, x ∈ okOf S T at_ → x ∈ okOf S (T.set i (t ++ [b])) at_) ∧ b ∈ okOf S (T.set i (t ++ [b])) i := by
  have hi : i < T.length := by
    rcases Nat.lt_or_ge i T.length with h1 | h1
    · exact h1
    · rw [List.getElem?_eq_none h1] at hT; cases hT
  refine ⟨fun at_ x hx => ?_, ?_⟩
  · unfold okOf at *
    rcases List.mem_cons.1 hx with h | h
    · rw [h]; exact List.mem_cons_self ..
    · refine List.mem_cons_of_mem _ ?_
      rw [List.getD_eq_getElem?_getD] at h ⊢
      rw [List.getElem?_set]
      by_cases e : i = at_
      · subst e
        rw [if_pos rfl, if_pos hi]
        rw [hT] at h
        exact List.mem_append_left _ h
      · rw [if_neg e]; exact h
  · unfold okOf
    refine List.mem_cons_of_mem _ ?_
    rw [List.getD_eq_getElem?_getD, List.getElem?_set, if_pos rfl, if_pos hi]
    simp
/-- no power: no write waits -/
def Dry (d : Dv) : Prop := d.off = true → d.loose = []
theorem Dry.cut {d : Dv} (h : Dry d) (keep : List Bool) : (d.cut keep).loose = [] := by
  unfold Dv.cut
  split
  · exact h (by assumption)
  · rfl
theorem Dry.burn {d : Dv} (h : Dry d) : Dry d.burn := by
  intro ho
  have h1 : Dry (if d.fuse = 0 then d.cut d.keep else d) := by split; exact fun _ => h.cut _; exact h
  unfold Dv.burn at ho ⊢
  simp only at ho ⊢
  generalize (if d.fuse = 0 then d.cut d.keep else d) = c at *
  split
  · rename_i h2
    rw [if_pos h2] at ho
    exact h1 ho
  · rename_i h2
    rw [if_neg h2] at ho
    exact h1 ho
theorem Dry.write {d : Dv} (h : Dry d) (x : Nat × ByteArray) : Dry (d.write x) := by
  intro ho
  unfold Dv.write at ho ⊢
  split
  · exact h.burn (by assumption)
  · rename_i h2
    rw [if_neg h2] at ho
    exact absurd ho h2
end Go.Proofs.Ytapmnnfnhgopcaa
