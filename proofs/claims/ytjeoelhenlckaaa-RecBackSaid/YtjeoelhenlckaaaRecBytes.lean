/-
  Texts of messages, read again: plain laws.
-/
import Derived.Test.YtjeoelhenlckaaaRecCount
import Derived.Test.YtjeoelhenlckaaaPenRefT
namespace Go.Proofs.Ytjeoelhenlckaaa
open Go.RowKit

theorem bdn {B : Nat} {a w : World} (h : Below B a w) (n : Nat) : Below B a (w.drewN n) := ⟨h.os, h.tape, h.output, h.size, h.block⟩
theorem ba_list (r : ByteArray) : ∃ l : List UInt8, r = ⟨l.toArray⟩ := ⟨r.data.toList, by cases r; simp⟩
theorem numT_cons (x : UInt8) (l : List UInt8) : numT ⟨(x :: l).toArray⟩ false 1 = ((x.toNat : Int), ⟨l.toArray⟩, false) := by
  unfold numT
  rw [if_pos ⟨rfl, by decide, by rw [list_size]; simp only [List.length_cons]; omega⟩]
  have e : ((⟨(x :: l).toArray⟩ : ByteArray).data.toList.take (1 : Int).toNat) = [x] := by simp
  have hb : be [x] = x.toNat := by simp [be]
  have := x.toNat_lt
  rw [e, hb, if_neg (by omega), list_size, ext_list]
  simp
theorem numT_nil (b : Bool) : numT ⟨#[]⟩ b 1 = (0, emptyB, true) := by
  unfold numT
  rw [if_neg (by rintro ⟨_, _, h⟩; exact absurd h (by decide))]
theorem numT_bad (r : ByteArray) : numT r true 1 = (0, emptyB, true) := by unfold numT; rw [if_neg (by simp)]
theorem textT_bad (r : ByteArray) (m : Int) : textT r true m = (emptyB, emptyB, true) := by
  unfold textT
  split
  · rfl
  · rw [if_neg (by simp)]
theorem ofNat_toNat_le {n : Nat} (h : n ≤ 255) : (UInt8.ofNat n).toNat = n := by simp; omega
theorem textT_yes (k : ByteArray) (l : List UInt8) (m : Int) (h : (k.size : Int) ≤ m) (hm : m ≤ 255) : textT ⟨(textB k ++ l).toArray⟩ false m = (k, ⟨l.toArray⟩, false) := by
  unfold textT
  have e : (⟨(textB k ++ l).toArray⟩ : ByteArray).data.toList[0]? = some (UInt8.ofNat k.size) := by simp [textB]
  have hx : (UInt8.ofNat k.size).toNat = k.size := ofNat_toNat_le (by omega)
  rw [e]
  simp only [hx]
  have hz : (⟨(textB k ++ l).toArray⟩ : ByteArray).size = k.size + 1 + l.length := by rw [list_size, List.length_append, textB_length]
  rw [if_pos ⟨trivial, h, by omega⟩]
  obtain ⟨kl, rfl⟩ := ba_list k
  rw [list_size, ext_list, list_size, ext_list, ext_list, list_size]
  have e1 : (List.take (textB ⟨kl.toArray⟩ ++ l).length (textB ⟨kl.toArray⟩ ++ l)).drop 1 = kl ++ l := by
    rw [List.take_length]; simp [textB]
  rw [e1]
  simp
  rw [List.take_of_length_le (l := kl ++ l) (by simp)]
  simp
theorem textT_inv {r r' k : ByteArray} {m : Int} (h : textT r false m = (k, r', false)) : ∃ l', r' = ⟨l'.toArray⟩ ∧ r = ⟨(textB k ++ l').toArray⟩ := by
  obtain ⟨l, rfl⟩ := ba_list r
  unfold textT at h
  cases l with
  | nil => cases h
  | cons x l =>
    have e : (⟨(x :: l).toArray⟩ : ByteArray).data.toList[0]? = some x := rfl
    rw [e] at h
    simp only at h
    split at h
    · rename_i hc
      obtain ⟨_, h1, h2⟩ := hc
      rw [list_size, List.length_cons] at h2
      have hx := x.toNat_lt
      rw [list_size, ext_list, list_size, ext_list, ext_list] at h
      simp only [Prod.mk.injEq, and_true] at h
      obtain ⟨h3, h4⟩ := h
      refine ⟨_, h4.symm, ?_⟩
      have e1 : (List.take (x :: l).length (x :: l)).drop 1 = l := by simp
      rw [e1] at h3 ⊢
      rw [← h3]
      have e2 : UInt8.ofNat ((l.take x.toNat).length) = x := by
        rw [List.length_take, Nat.min_eq_left (by omega)]; simp
      have e3 : textB ⟨((l.take x.toNat).drop 0).toArray⟩ = x :: l.take x.toNat := by
        unfold textB
        rw [list_size, List.drop_zero, e2]
      rw [e3]
      simp
    · cases h
set_option maxHeartbeats 1000000 in
theorem readT_yes (x : Msg3) (l : List UInt8) (hx : isB x = true) : readT ⟨(msgB x ++ l).toArray⟩ false = (x, ⟨l.toArray⟩, false) := by
  obtain ⟨K, k, v⟩ := x
  have hk := msg_keysz hx; have hv := msg_valsz hx
  simp only at hk hv
  have hkb : ((UInt8.ofNat K.toNat).toNat : Int) = K := by
    rcases msg_kind8 hx with e | e | e <;> simp only at e <;> subst e <;> rfl
  have hb1 : msgB (K, k, v) ++ l = UInt8.ofNat K.toNat :: (textB k ++ (textB v ++ l)) := by simp [msgB]
  obtain ⟨K', r1, b1, k', r2, b2, v', r3, b3, t1, t2, t3, t4⟩ := readT_parts ⟨(msgB (K, k, v) ++ l).toArray⟩ false
  rw [hb1, numT_cons, hkb] at t1
  simp only [Prod.mk.injEq] at t1
  obtain ⟨rfl, rfl, rfl⟩ := t1
  rw [textT_yes k _ 8 (by omega) (by omega)] at t2
  simp only [Prod.mk.injEq] at t2
  obtain ⟨rfl, rfl, rfl⟩ := t2
  rw [textT_yes v _ 16 (by omega) (by omega)] at t3
  simp only [Prod.mk.injEq] at t3
  obtain ⟨rfl, rfl, rfl⟩ := t3
  rw [t4, if_pos (show msgIs K k v = true from hx)]
theorem readT_inv {r r' : ByteArray} {b : Bool} {x : Msg3} (h : readT r b = (x, r', false)) : b = false ∧ isB x = true ∧ ∃ l', r' = ⟨l'.toArray⟩ ∧ r = ⟨(msgB x ++ l').toArray⟩ := by
  obtain ⟨K, r1, b1, k, r2, b2, v, r3, b3, t1, t2, t3, t4⟩ := readT_parts r b
  rw [t4] at h
  split at h
  · rename_i hm
    injection h with q1 h; injection h with q2 q3
    subst q1; subst q2; subst q3
    have hb2 : b2 = false := by
      cases b2 with
      | false => rfl
      | true => rw [textT_bad] at t3; cases t3
    subst hb2
    have hb1 : b1 = false := by
      cases b1 with
      | false => rfl
      | true => rw [textT_bad] at t2; cases t2
    subst hb1
    have hb0 : b = false := by
      cases b with
      | false => rfl
      | true => rw [numT_bad] at t1; cases t1
    subst hb0
    obtain ⟨l3, e3, e3'⟩ := textT_inv t3
    obtain ⟨l2, e2, e2'⟩ := textT_inv t2
    refine ⟨rfl, hm, l3, e3, ?_⟩
    obtain ⟨l, rfl⟩ := ba_list r
    cases l with
    | nil => rw [numT_nil] at t1; cases t1
    | cons y l =>
      rw [numT_cons] at t1
      injection t1 with q1 t1; injection t1 with q2 q3
      subst q1
      have hy : UInt8.ofNat ((y.toNat : Int)).toNat = y := by simp
      have e4 : l = textB k ++ (textB v ++ l3) := by
        rw [← q2] at e2'
        rw [e2] at e3'
        have a1 := congrArg (fun z : ByteArray => z.data.toList) e2'
        have a2 := congrArg (fun z : ByteArray => z.data.toList) e3'
        simp only at a1 a2
        rw [a1, a2]
      rw [e4]
      unfold msgB
      simp only [hy, List.cons_append, List.append_assoc]
  · cases h
theorem readN_yes (xs : List Msg3) (hall : ∀ x ∈ xs, isB x = true) : ∀ k, k ≤ xs.length → readN k ⟨(xs.flatMap msgB).toArray⟩ false = (xs.take k, ⟨((xs.drop k).flatMap msgB).toArray⟩, false)
  | 0, _ => rfl
  | k + 1, h => by
    have ih := readN_yes xs hall k (by omega)
    unfold readN
    rw [ih]
    simp only
    rw [List.drop_eq_getElem_cons (show k < xs.length by omega), List.flatMap_cons, readT_yes _ _ (hall _ (List.getElem_mem _)), List.take_succ_eq_append_getElem (show k < xs.length by omega)]
theorem readN_inv : ∀ (n : Nat) {r r' : ByteArray} {xs : List Msg3}, readN n r false = (xs, r', false) → (∀ x ∈ xs, isB x = true) ∧ ∃ l', r' = ⟨l'.toArray⟩ ∧ r = ⟨(xs.flatMap msgB ++ l').toArray⟩
  | 0, r, r', xs, h => by
    injection h with q1 h; injection h with q2 q3
    subst q1; subst q2
    obtain ⟨l, hl⟩ := ba_list r
    exact ⟨(by intro x hx; cases hx), l, hl, by simpa using hl⟩
  | n + 1, r, r', xs, h => by
    obtain ⟨⟨xs0, r0, b0⟩, h0⟩ : ∃ t, t = readN n r false := ⟨_, rfl⟩
    unfold readN at h
    rw [← h0] at h
    simp only at h
    obtain ⟨⟨x, r1, b1⟩, h1⟩ : ∃ t, t = readT r0 b0 := ⟨_, rfl⟩
    rw [← h1] at h
    simp only at h
    injection h with q1 h; injection h with q2 q3
    subst q1; subst q2; subst q3
    obtain ⟨e0, e1, l1, e2, e3⟩ := readT_inv h1.symm
    subst e0
    obtain ⟨i1, l0, i2, i3⟩ := readN_inv n h0.symm
    refine ⟨fun y hy => ?_, l1, e2, ?_⟩
    · rcases List.mem_append.1 hy with hy | hy
      · exact i1 y hy
      · simp at hy; subst hy; exact e1
    · rw [i3]
      rw [i2] at e3
      have a := congrArg (fun z : ByteArray => z.data.toList) e3
      simp only at a
      rw [a]
      simp
theorem textG_len (g : List Msg3) : (textG g).length = 1 + sw g := by
  have : ∀ l : List Msg3, (l.flatMap msgB).length = sw l := by
    intro l
    induction l with
    | nil => rfl
    | cons x l ih => rw [List.flatMap_cons, List.length_append, ih, msgB_len, sw_cons]; rfl
  rw [textG, List.length_cons, this]; omega
theorem sw_ge : ∀ (l : List Msg3), 3 * l.length ≤ sw l
  | [] => by simp [sw]
  | x :: l => by
    have := sw_ge l
    rw [sw_cons, List.length_cons]; unfold wt; omega
theorem endE_zero {r : ByteArray} {b : Bool} : endE r b = 0 ↔ b = false ∧ r.size = 0 := by
  unfold endE
  cases b <;> simp
theorem parseR_yes (g : List Msg3) (h0 : g ≠ []) (hall : ∀ x ∈ g, isB x = true) (hl : 1 + sw g ≤ 218) : parseR (bytesG g) = some g := by
  have hlen := sw_ge g
  have h1 := List.length_pos_iff.2 h0
  have hn : numT (bytesG g) false 1 = ((g.length : Int), ⟨(g.flatMap msgB).toArray⟩, false) := by
    unfold bytesG textG
    rw [numT_cons, ofNat_toNat_le (by omega)]
  unfold parseR
  rw [hn]
  simp only [Int.toNat_natCast]
  rw [readN_yes g hall g.length (Nat.le_refl _), if_neg (by unfold bytesG; rw [list_size, textG_len]; omega)]
  rw [if_pos ⟨endE_zero.2 ⟨rfl, by simp [list_size]⟩, by omega⟩, List.take_length]
theorem parseR_inv {s : ByteArray} {l : List Msg3} (h : parseR s = some l) : l ≠ [] ∧ (∀ x ∈ l, isB x = true) ∧ s = bytesG l ∧ 1 + sw l ≤ 218 := by
  unfold parseR at h
  split at h
  · cases h
  · rename_i hs
    obtain ⟨sl, rfl⟩ := ba_list s
    cases sl with
    | nil => rw [numT_nil] at h; simp [readN, endE] at h
    | cons y sl =>
      rw [numT_cons] at h
      simp only [Int.toNat_natCast] at h
      split at h
      · rename_i hc
        obtain ⟨h1, h2⟩ := hc
        obtain ⟨⟨xs, r, b⟩, hx⟩ : ∃ t, t = readN y.toNat ⟨sl.toArray⟩ false := ⟨_, rfl⟩
        have hlen := readN_len y.toNat ⟨sl.toArray⟩ false
        rw [← hx] at h h1 hlen
        simp only at h h1 hlen
        injection h with h
        subst h
        obtain ⟨rfl, hr⟩ := endE_zero.1 h1
        obtain ⟨i1, l', i2, i3⟩ := readN_inv _ hx.symm
        subst i2
        rw [list_size] at hr
        obtain rfl := List.length_eq_zero_iff.1 hr
        have a := congrArg (fun z : ByteArray => z.data.toList) i3
        simp only [List.append_nil] at a
        subst a
        have e : UInt8.ofNat xs.length = y := by rw [hlen]; simp
        refine ⟨?_, i1, ?_, ?_⟩
        · intro e0; rw [e0] at hlen; simp at hlen; omega
        · unfold bytesG textG; rw [e]
        · have := textG_len xs
          unfold textG at this
          rw [list_size] at hs
          simp only [List.length_cons] at this hs
          omega
      · cases h
theorem g2_one : ∀ (l cur : List Msg3), cur ++ l ≠ [] → 1 + sw cur + sw l ≤ 218 → g2 cur l = [cur ++ l]
  | [], cur, h, _ => by
    have : cur ≠ [] := by simpa using h
    simp [g2, this]
  | x :: l, cur, _, hs => by
    rw [sw_cons] at hs
    rw [g2_cons, if_neg (by omega), g2_one l (cur ++ [x]) (by simp) (by rw [sw_append, sw_cons]; have e : sw ([] : List Msg3) = 0 := rfl; omega)]
    simp
/-- a row, cut: each as long as can be -/
def Cutting : List (List Msg3) → List Msg3 → Prop
  | [], l => l = []
  | g :: gs, l => g ≠ [] ∧ 1 + sw g ≤ 218 ∧ ∃ l', l = g ++ l' ∧ (∀ x t, l' = x :: t → 218 < 1 + sw g + wt x) ∧ Cutting gs l'
theorem g2_cutting : ∀ (l cur : List Msg3), (∀ x ∈ l, wt x ≤ 27) → 1 + sw cur ≤ 218 → Cutting (g2 cur l) (cur ++ l)
  | [], cur, _, hc => by
    by_cases h : cur = []
    · subst h; exact rfl
    · simp only [g2, if_neg h]
      exact ⟨h, hc, [], rfl, (by intro x t e; cases e), rfl⟩
  | x :: l, cur, hl, hc => by
    have hx := hl x (List.mem_cons_self ..)
    have hl' := fun y hy => hl y (List.mem_cons_of_mem _ hy)
    have e : sw ([] : List Msg3) = 0 := rfl
    rw [g2_cons]
    split
    · rename_i h
      refine ⟨h.1, hc, x :: l, rfl, ?_, ?_⟩
      · intro y t ht
        injection ht with h1 h2
        subst h1
        exact h.2
      · exact g2_cutting l [x] hl' (by rw [sw_cons, e]; omega)
    · rename_i h
      have := g2_cutting l (cur ++ [x]) hl' (by
        rw [sw_append, sw_cons, e]
        by_cases h0 : cur = []
        · subst h0; rw [e]; omega
        · have : ¬ 218 < 1 + sw cur + wt x := fun hh => h ⟨h0, hh⟩
          omega)
      simpa using this
end Go.Proofs.Ytjeoelhenlckaaa
