/-
  Texts of messages, read again: plain laws.
  A log of layer 23: what is pending is written and flushed.
-/
import Derived.Test.YtcklgaenedlbiaaGreatGWalExact12
import Derived.Test.YtcklgaenedlbiaaGreatGWalExact08
import Derived.Test.YtcklgaenedlbiaaGreatGWalExact19
import Derived.Test.YtcklgaenedlbiaaGreatGWalExact23
import Derived.Test.YtcklgaenedlbiaaGreatGWalExact24

namespace Go.Proofs.YtcklgaenedlbiaaGreat
open Go.RowKit

theorem bdn {B : Nat} {a w : World} (h : Below B a w) (n : Nat) : Below B a (w.drewN n) := ⟨h.os, h.tape, h.output, h.size, h.block⟩
theorem ba_list (r : ByteArray) : ∃ l : List UInt8, r = ⟨l.toArray⟩ := ⟨r.data.toList, by cases r; simp⟩
theorem numT_cons (x : UInt8) (l : List UInt8) : numT ⟨(x :: l).toArray⟩ false 1 = ((x.toNat : Int), ⟨l.toArray⟩, false) := by
  unfold numT
  rw [if_pos ⟨rfl, by decide, by rw [list_size]; simp only [List.length_cons]; omega⟩]
  have e : ((⟨(x :: l).toArray⟩ : ByteArray).data.toList.take (1 : Int).toNat) = [x] := by simp
  have hb : be [x] = x.toNat := by simp [be]
  have := x.toNat_lt
  rw [e, hb, if_neg (by omega), list_size, ext_list]
  simp
theorem numT_nil (b : Bool) : numT ⟨#[]⟩ b 1 = (0, emptyB, true) := by
  unfold numT
  rw [if_neg (by rintro ⟨_, _, h⟩; exact absurd h (by decide))]
theorem numT_bad (r : ByteArray) : numT r true 1 = (0, emptyB, true) := by unfold numT; rw [if_neg (by simp)]
theorem textT_bad (r : ByteArray) (m : Int) : textT r true m = (emptyB, emptyB, true) := by
  unfold textT
  split
  · rfl
  · rw [if_neg (by simp)]
theorem ofNat_toNat_le {n : Nat} (h : n ≤ 255) : (UInt8.ofNat n).toNat = n := by simp; omega
theorem textT_yes (k : ByteArray) (l : List UInt8) (m : Int) (h : (k.size : Int) ≤ m) (hm : m ≤ 255) : textT ⟨(textB k ++ l).toArray⟩ false m = (k, ⟨l.toArray⟩, false) := by
  unfold textT
  have e : (⟨(textB k ++ l).toArray⟩ : ByteArray).data.toList[0]? = some (UInt8.ofNat k.size) := by simp [textB]
  have hx : (UInt8.ofNat k.size).toNat = k.size := ofNat_toNat_le (by omega)
  rw [e]
  simp only [hx]
  have hz : (⟨(textB k ++ l).toArray⟩ : ByteArray).size = k.size + 1 + l.length := by rw [list_size, List.length_append, textB_length]
  rw [if_pos ⟨trivial, h, by omega⟩]
  obtain ⟨kl, rfl⟩ := ba_list k
  rw [list_size, ext_list, list_size, ext_list, ext_list, list_size]
  have e1 : (List.take (textB ⟨kl.toArray⟩ ++ l).length (textB ⟨kl.toArray⟩ ++ l)).drop 1 = kl ++ l := by
    rw [List.take_length]; simp [textB]
  rw [e1]
  simp
  rw [List.take_of_length_le (l := kl ++ l) (by simp)]
  simp
theorem textT_inv {r r' k : ByteArray} {m : Int} (h : textT r false m = (k, r', false)) : ∃ l', r' = ⟨l'.toArray⟩ ∧ r = ⟨(textB k ++ l').toArray⟩ := by
  obtain ⟨l, rfl⟩ := ba_list r
  unfold textT at h
  cases l with
  | nil => cases h
  | cons x l =>
    have e : (⟨(x :: l).toArray⟩ : ByteArray).data.toList[0]? = some x := rfl
    rw [e] at h
    simp only at h
    split at h
    · rename_i hc
      obtain ⟨_, h1, h2⟩ := hc
      rw [list_size, List.length_cons] at h2
      have hx := x.toNat_lt
      rw [list_size, ext_list, list_size, ext_list, ext_list] at h
      simp only [Prod.mk.injEq, and_true] at h
      obtain ⟨h3, h4⟩ := h
      refine ⟨_, h4.symm, ?_⟩
      have e1 : (List.take (x :: l).length (x :: l)).drop 1 = l := by simp
      rw [e1] at h3 ⊢
      rw [← h3]
      have e2 : UInt8.ofNat ((l.take x.toNat).length) = x := by
        rw [List.length_take, Nat.min_eq_left (by omega)]; simp
      have e3 : textB ⟨((l.take x.toNat).drop 0).toArray⟩ = x :: l.take x.toNat := by
        unfold textB
        rw [list_size, List.drop_zero, e2]
      rw [e3]
      simp
    · cases h
set_option maxHeartbeats 1000000 in
theorem readT_yes (x : Msg3) (l : List UInt8) (hx : isB x = true) : readT ⟨(msgB x ++ l).toArray⟩ false = (x, ⟨l.toArray⟩, false) := by
  obtain ⟨K, k, v⟩ := x
  have hk := msg_keysz hx; have hv := msg_valsz hx
  simp only at hk hv
  have hkb : ((UInt8.ofNat K.toNat).toNat : Int) = K := by
    rcases msg_kind8 hx with e | e | e <;> simp only at e <;> subst e <;> rfl
  have hb1 : msgB (K, k, v) ++ l = UInt8.ofNat K.toNat :: (textB k ++ (textB v ++ l)) := by simp [msgB]
  obtain ⟨K', r1, b1, k', r2, b2, v', r3, b3, t1, t2, t3, t4⟩ := readT_parts ⟨(msgB (K, k, v) ++ l).toArray⟩ false
  rw [hb1, numT_cons, hkb] at t1
  simp only [Prod.mk.injEq] at t1
  obtain ⟨rfl, rfl, rfl⟩ := t1
  rw [textT_yes k _ 8 (by omega) (by omega)] at t2
  simp only [Prod.mk.injEq] at t2
  obtain ⟨rfl, rfl, rfl⟩ := t2
  rw [textT_yes v _ 16 (by omega) (by omega)] at t3
  simp only [Prod.mk.injEq] at t3
  obtain ⟨rfl, rfl, rfl⟩ := t3
  rw [t4, if_pos (show msgIs K k v = true from hx)]
theorem readT_inv {r r' : ByteArray} {b : Bool} {x : Msg3} (h : readT r b = (x, r', false)) : b = false ∧ isB x = true ∧ ∃ l', r' = ⟨l'.toArray⟩ ∧ r = ⟨(msgB x ++ l').toArray⟩ := by
  obtain ⟨K, r1, b1, k, r2, b2, v, r3, b3, t1, t2, t3, t4⟩ := readT_parts r b
  rw [t4] at h
  split at h
  · rename_i hm
    injection h with q1 h; injection h with q2 q3
    subst q1; subst q2; subst q3
    have hb2 : b2 = false := by
      cases b2 with
      | false => rfl
      | true => rw [textT_bad] at t3; cases t3
    subst hb2
    have hb1 : b1 = false := by
      cases b1 with
      | false => rfl
      | true => rw [textT_bad] at t2; cases t2
    subst hb1
    have hb0 : b = false := by
      cases b with
      | false => rfl
      | true => rw [numT_bad] at t1; cases t1
    subst hb0
    obtain ⟨l3, e3, e3'⟩ := textT_inv t3
    obtain ⟨l2, e2, e2'⟩ := textT_inv t2
    refine ⟨rfl, hm, l3, e3, ?_⟩
    obtain ⟨l, rfl⟩ := ba_list r
    cases l with
    | nil => rw [numT_nil] at t1; cases t1
    | cons y l =>
      rw [numT_cons] at t1
      injection t1 with q1 t1; injection t1 with q2 q3
      subst q1
      have hy : UInt8.ofNat ((y.toNat : Int)).toNat = y := by simp
      have e4 : l = textB k ++ (textB v ++ l3) := by
        rw [← q2] at e2'
        rw [e2] at e3'
        have a1 := congrArg (fun z : ByteArray => z.data.toList) e2'
        have a2 := congrArg (fun z : ByteArray => z.data.toList) e3'
        simp only at a1 a2
        rw [a1, a2]
      rw [e4]
      unfold msgB
      simp only [hy, List.cons_append, List.append_assoc]
  · cases h
theorem readN_yes (xs : List Msg3) (hall : ∀ x ∈ xs, isB x = true) : ∀ k, k ≤ xs.length → readN k ⟨(xs.flatMap msgB).toArray⟩ false = (xs.take k, ⟨((xs.drop k).flatMap msgB).toArray⟩, false)
  | 0, _ => rfl
  | k + 1, h => by
    have ih := readN_yes xs hall k (by omega)
    unfold readN
    rw [ih]
    simp only
    rw [List.drop_eq_getElem_cons (show k < xs.length by omega), List.flatMap_cons, readT_yes _ _ (hall _ (List.getElem_mem _)), List.take_succ_eq_append_getElem (show k < xs.length by omega)]
theorem readN_inv : ∀ (n : Nat) {r r' : ByteArray} {xs : List Msg3}, readN n r false = (xs, r', false) → (∀ x ∈ xs, isB x = true) ∧ ∃ l', r' = ⟨l'.toArray⟩ ∧ r = ⟨(xs.flatMap msgB ++ l').toArray⟩
  | 0, r, r', xs, h => by
    injection h with q1 h; injection h with q2 q3
    subst q1; subst q2
    obtain ⟨l, hl⟩ := ba_list r
    exact ⟨(by intro x hx; cases hx), l, hl, by simpa using hl⟩
  | n + 1, r, r', xs, h => by
    obtain ⟨⟨xs0, r0, b0⟩, h0⟩ : ∃ t, t = readN n r false := ⟨_, rfl⟩
    unfold readN at h
    rw [← h0] at h
    simp only at h
    obtain ⟨⟨x, r1, b1⟩, h1⟩ : ∃ t, t = readT r0 b0 := ⟨_, rfl⟩
    rw [← h1] at h
    simp only at h
    injection h with q1 h; injection h with q2 q3
    subst q1; subst q2; subst q3
    obtain ⟨e0, e1, l1, e2, e3⟩ := readT_inv h1.symm
    subst e0
    obtain ⟨i1, l0, i2, i3⟩ := readN_inv n h0.symm
    refine ⟨fun y hy => ?_, l1, e2, ?_⟩
    · rcases List.mem_append.1 hy with hy | hy
      · exact i1 y hy
      · simp at hy; subst hy; exact e1
    · rw [i3]
      rw [i2] at e3
      have a := congrArg (fun z : ByteArray => z.data.toList) e3
      simp only at a
      rw [a]
      simp
theorem textG_len (g : List Msg3) : (textG g).length = 1 + sw g := by
  have : ∀ l : List Msg3, (l.flatMap msgB).length = sw l := by
    intro l
    induction l with
    | nil => rfl
    | cons x l ih => rw [List.flatMap_cons, List.length_append, ih, msgB_len, sw_cons]; rfl
  rw [textG, List.length_cons, this]; omega
theorem sw_ge : ∀ (l : List Msg3), 3 * l.length ≤ sw l
  | [] => by simp [sw]
  | x :: l => by
    have := sw_ge l
    rw [sw_cons, List.length_cons]; unfold wt; omega
theorem endE_zero {r : ByteArray} {b : Bool} : endE r b = 0 ↔ b = false ∧ r.size = 0 := by
  unfold endE
  cases b <;> simp
theorem parseR_yes (g : List Msg3) (h0 : g ≠ []) (hall : ∀ x ∈ g, isB x = true) (hl : 1 + sw g ≤ 218) : parseR (bytesG g) = some g := by
  have hlen := sw_ge g
  have h1 := List.length_pos_iff.2 h0
  have hn : numT (bytesG g) false 1 = ((g.length : Int), ⟨(g.flatMap msgB).toArray⟩, false) := by
    unfold bytesG textG
    rw [numT_cons, ofNat_toNat_le (by omega)]
  unfold parseR
  rw [hn]
  simp only [Int.toNat_natCast]
  rw [readN_yes g hall g.length (Nat.le_refl _), if_neg (by unfold bytesG; rw [list_size, textG_len]; omega)]
  rw [if_pos ⟨endE_zero.2 ⟨rfl, by simp [list_size]⟩, by omega⟩, List.take_length]
theorem parseR_inv {s : ByteArray} {l : List Msg3} (h : parseR s = some l) : l ≠ [] ∧ (∀ x ∈ l, isB x = true) ∧ s = bytesG l ∧ 1 + sw l ≤ 218 := by
  unfold parseR at h
  split at h
  · cases h
  · rename_i hs
    obtain ⟨sl, rfl⟩ := ba_list s
    cases sl with
    | nil => rw [numT_nil] at h; simp [readN, endE] at h
    | cons y sl =>
      rw [numT_cons] at h
      simp only [Int.toNat_natCast] at h
      split at h
      · rename_i hc
        obtain ⟨h1, h2⟩ := hc
        obtain ⟨⟨xs, r, b⟩, hx⟩ : ∃ t, t = readN y.toNat ⟨sl.toArray⟩ false := ⟨_, rfl⟩
        have hlen := readN_len y.toNat ⟨sl.toArray⟩ false
        rw [← hx] at h h1 hlen
        simp only at h h1 hlen
        injection h with h
        subst h
        obtain ⟨rfl, hr⟩ := endE_zero.1 h1
        obtain ⟨i1, l', i2, i3⟩ := readN_inv _ hx.symm
        subst i2
        rw [list_size] at hr
        obtain rfl := List.length_eq_zero_iff.1 hr
        have a := congrArg (fun z : ByteArray => z.data.toList) i3
        simp only [List.append_nil] at a
        subst a
        have e : UInt8.ofNat xs.length = y := by rw [hlen]; simp
        refine ⟨?_, i1, ?_, ?_⟩
        · intro e0; rw [e0] at hlen; simp at hlen; omega
        · unfold bytesG textG; rw [e]
        · have := textG_len xs
          unfold textG at this
          rw [list_size] at hs
          simp only [List.length_cons] at this hs
          omega
      · cases h
theorem g2_one : ∀ (l cur : List Msg3), cur ++ l ≠ [] → 1 + sw cur + sw l ≤ 218 → g2 cur l = [cur ++ l]
  | [], cur, h, _ => by
    have : cur ≠ [] := by simpa using h
    simp [g2, this]
  | x :: l, cur, _, hs => by
    rw [sw_cons] at hs
    rw [g2_cons, if_neg (by omega), g2_one l (cur ++ [x]) (by simp) (by rw [sw_append, sw_cons]; have e : sw ([] : List Msg3) = 0 := rfl; omega)]
    simp
/-- a row, cut: each as long as can be -/
def Cutting : List (List Msg3) → List Msg3 → Prop
  | [], l => l = []
  | g :: gs, l => g ≠ [] ∧ 1 + sw g ≤ 218 ∧ ∃ l', l = g ++ l' ∧ (∀ x t, l' = x :: t → 218 < 1 + sw g + wt x) ∧ Cutting gs l'
theorem g2_cutting : ∀ (l cur : List Msg3), (∀ x ∈ l, wt x ≤ 27) → 1 + sw cur ≤ 218 → Cutting (g2 cur l) (cur ++ l)
  | [], cur, _, hc => by
    by_cases h : cur = []
    · subst h; exact rfl
    · simp only [g2, if_neg h]
      exact ⟨h, hc, [], rfl, (by intro x t e; cases e), rfl⟩
  | x :: l, cur, hl, hc => by
    have hx := hl x (List.mem_cons_self ..)
    have hl' := fun y hy => hl y (List.mem_cons_of_mem _ hy)
    have e : sw ([] : List Msg3) = 0 := rfl
    rw [g2_cons]
    split
    · rename_i h
      refine ⟨h.1, hc, x :: l, rfl, ?_, ?_⟩
      · intro y t ht
        injection ht with h1 h2
        subst h1
        exact h.2
      · exact g2_cutting l [x] hl' (by rw [sw_cons, e]; omega)
    · rename_i h
      have := g2_cutting l (cur ++ [x]) hl' (by
        rw [sw_append, sw_cons, e]
        by_cases h0 : cur = []
        · subst h0; rw [e]; omega
        · have : ¬ 218 < 1 + sw cur + wt x := fun hh => h ⟨h0, hh⟩
          omega)
      simpa using this
end Go.Proofs.YtcklgaenedlbiaaGreat

namespace Go.Proofs.YtcklgaenedlbiaaGreat
open Go.RowKit Go.Sort

theorem own_rowW {w : World} {e : TypeId} {size n cap : Nat} {A : Option Addr} {xs : List Value} (h : w.ownsRowF 0 e size (.slice A n cap) n xs) : Row w A xs := by
  obtain ⟨A', cap', e, hr⟩ := ownsRowF_row h
  injection e with e1 _ _
  rw [e1]; exact hr
/-- a device and a log over it -/
structure LW (w0 w : World) (p r : Nat) (d : Dv) (v : Wl) (F G : List Nat) : Prop where
  dev : Dev w0 w p 64 d F
  wal : WlAt w0 w r p v G
  sep : ∀ k, k ∈ F → k ∉ G
section
variable {w0 w w' : World} {p r : Nat} {d d' : Dv} {v v' : Wl} {F F' G : List Nat}
theorem LW.below (h : LW w0 w p r d v F G) (hb : Below w.heap.size w w') : LW w0 w' p r d v F G := ⟨h.dev.below hb, h.wal.below hb, h.sep⟩
theorem LW.dev1 (h : LW w0 w p r d v F G) (hd : Dev w0 w' p 64 d' F') (hk : Keeps F w w') (hF : ∀ k, k ∈ F' → k ∈ F ∨ w.heap.size ≤ k) : LW w0 w' p r d' v F' G := by
  refine ⟨hd, h.wal.keeps hk (sep_comm h.sep), fun k hk' hg => ?_⟩
  rcases hF k hk' with h1 | h1
  · exact h.sep k h1 hg
  · have := (h.wal.own k hg).2; omega
theorem LW.dev0 (h : LW w0 w p r d v F G) (hd : Dev w0 w' p 64 d' F) (hk : Keeps F w w') : LW w0 w' p r d' v F G := h.dev1 hd hk (fun _ h => .inl h)
theorem LW.wal1 (h : LW w0 w p r d v F G) (hw : WPost w0 w w' r p v' G) : ∃ G', LW w0 w' p r d v' F G' ∧ Keeps G w w' ∧ ∀ k, k ∈ G' → k ∈ G ∨ w.heap.size ≤ k := by
  obtain ⟨G', h1, h2, h3⟩ := hw
  refine ⟨G', ⟨h.dev.keeps h2 (fun k hk => (h.wal.own k hk).1) h.sep, h1, fun k hk hg => ?_⟩, h2, h3⟩
  rcases h3 k hg with h4 | h4
  · exact h.sep k hk h4
  · have := h.dev.at_.sizes k hk; omega
/-- the cells of a log that are numbers -/
theorem LW.c0 (h : LW w0 w p r d v F G) : w.cell? ⟨r, 0, none⟩ = some (.pointer (some ⟨p, 0, none⟩)) := by obtain ⟨P, hi, _⟩ := h.wal.inn; exact hi.box.at rfl
theorem LW.c2 (h : LW w0 w p r d v F G) : w.cell? ⟨r, 2, none⟩ = some (.int .i64 v.epoch) := by obtain ⟨P, hi, _⟩ := h.wal.inn; exact hi.box.at rfl
theorem LW.c4 (h : LW w0 w p r d v F G) : w.cell? ⟨r, 4, none⟩ = some (.int .i64 v.used) := by obtain ⟨P, hi, _⟩ := h.wal.inn; exact hi.box.at rfl
end
/-- what is asked of a log's numbers -/
structure WlOk (v : Wl) : Prop where
  size : v.size = 8
  from_ : v.from_ < 8
  e1 : 1 ≤ v.epoch
  e2 : v.epoch ≤ 2147483647
  all : ∀ x ∈ v.pend, isB x = true
  len : v.pend.length ≤ 250
  fit : v.used + (g2 [] v.pend).length ≤ 8

/-- the block of text number i -/
def stampOf (v : Wl) (ts : List ByteArray) (i : Nat) : Nat × ByteArray := (v.at_ (v.used + i), (stampV v.epoch ((v.used + i : Nat) : Int) (ts.getD i ⟨#[]⟩)).1)
def stamps (v : Wl) (ts : List ByteArray) (n : Nat) : List (Nat × ByteArray) := (List.range n).map (stampOf v ts)
theorem stamps_succ (v : Wl) (ts : List ByteArray) (n : Nat) : stamps v ts (n + 1) = stamps v ts n ++ [stampOf v ts n] := by
  unfold stamps; rw [List.range_succ, List.map_append]; rfl
def Wl.texts (v : Wl) : List ByteArray := (g2 [] v.pend).map bytesG
def syncD (v : Wl) (d : Dv) : Dv := if v.pend = [] then d else { d with safe := flushN d.safe (d.loose ++ stamps v v.texts v.texts.length), loose := [], wr := d.wr + v.texts.length, fl := d.fl + 1 }
def syncV (v : Wl) : Wl := if v.pend = [] then v else { v with used := v.used + v.texts.length, pend := [] }
def wroteD (v : Wl) (ts : List ByteArray) (d : Dv) (i : Nat) : Dv := { d with loose := d.loose ++ stamps v ts i, wr := d.wr + i }
theorem wroteD_succ (v : Wl) (ts : List ByteArray) (d : Dv) (i : Nat) (hf : d.fuse < 0) (ho : d.off = false) : (wroteD v ts d i).write (stampOf v ts i) = wroteD v ts d (i + 1) := by
  rw [Dv.write_none (d := wroteD v ts d i) hf ho]
  unfold wroteD
  simp only [stamps_succ, List.append_assoc]
  congr 1
theorem Wl.at_lt {v : Wl} (h : WlOk v) (k : Nat) : v.at_ k < 64 := by
  have h1 := h.size
  unfold Wl.at_
  rw [h1]
  have := Nat.mod_lt (v.from_ + k) (show 0 < 8 by decide)
  omega
theorem g2_each : ∀ (l cur : List Msg3), (∀ x ∈ l, wt x ≤ 27) → 1 + sw cur ≤ 218 → ∀ g ∈ g2 cur l, g ≠ [] ∧ 1 + sw g ≤ 218
  | [], cur, _, hc, g, hg => by
    simp only [g2] at hg
    split at hg
    · simp at hg
    · simp at hg; subst hg; rename_i h; exact ⟨h, hc⟩
  | x :: l, cur, hl, hc, g, hg => by
    have hx := hl x (by simp)
    rw [g2_cons] at hg
    split at hg
    · rename_i h
      rcases List.mem_cons.1 hg with rfl | hg
      · exact ⟨h.1, hc⟩
      · exact g2_each l [x] (fun y hy => hl y (List.mem_cons_of_mem _ hy)) (by simp [sw]; omega) g hg
    · rename_i h
      refine g2_each l (cur ++ [x]) (fun y hy => hl y (List.mem_cons_of_mem _ hy)) ?_ g hg
      rw [sw_append]
      by_cases h0 : cur = []
      · subst h0; simp [sw]; omega
      · have h2 : ¬ 218 < 1 + sw cur + wt x := fun h3 => h ⟨h0, h3⟩
        simp only [sw, List.map_cons, List.map_nil, List.sum_cons, List.sum_nil] at h2 ⊢
        omega
theorem texts_size {v : Wl} (h : WlOk v) : ∀ t ∈ v.texts, t.size ≤ 218 := by
  intro t ht
  obtain ⟨g, hg, rfl⟩ := List.mem_map.1 ht
  have h1 := (g2_each v.pend [] (fun x hx => isB_wt (h.all x hx)) (by simp [sw]) g hg).2
  show (⟨(textG g).toArray⟩ : ByteArray).size ≤ 218
  have : (⟨(textG g).toArray⟩ : ByteArray).size = (textG g).length := List.size_toArray ..
  rw [this, textG_len]; exact h1
theorem stampV_ok {e q : Int} {s : ByteArray} (h1 : 1 ≤ e) (h2 : e ≤ 2147483647) (h3 : 0 ≤ q) (h4 : q ≤ 2147483647) (hs : s.size ≤ 218) : (stampV e q s).2 = 0 ∧ (stampV e q s).1.size = 256 := by
  unfold stampV
  rw [if_pos ⟨hs, h1, h2, h3, h4⟩]
  refine ⟨rfl, ?_⟩
  have hl : s.data.toList.length = s.size := by simp
  show (⟨(stampB _ _ _).toArray⟩ : ByteArray).size = 256
  have : (⟨(stampB e.toNat q.toNat (frameB 224 s.data.toList)).toArray⟩ : ByteArray).size = (stampB e.toNat q.toNat (frameB 224 s.data.toList)).length := List.size_toArray ..
  rw [this, stampB_length _ _ _ (frameB_length (by omega))]

set_option maxHeartbeats 16000000 in
set_option maxRecDepth 100000 in
theorem wal_Sync {w0 w : World} {p r : Nat} {d : Dv} {v : Wl} {F G : List Nat} (h : LW w0 w p r d v F G) (hv : WlOk v) (hf : d.fuse < 0) (ho : d.off = false) (hroom : d.loose.length + d.rd + d.wr + d.fl ≤ 970) :
    Calls Tryz.prog 15 #[.pointer (some ⟨r, 0, none⟩)] w fun e w' => e = .returned (.int .i64 0) ∧ ∃ F' G', LW w0 w' p r (syncD v d) (syncV v) F' G' ∧ Keeps (F ++ G) w w' ∧ (∀ k, k ∈ F' ++ G' → k ∈ F ++ G ∨ w.heap.size ≤ k) := by
  obtain ⟨P, hi, hP⟩ := h.wal.inn
  obtain ⟨PA, pcap, rfl, hpc, hrow⟩ := hi.row
  have c5 : w.cell? ⟨r, 5, none⟩ = some (.slice PA v.pend.length pcap) := hi.box.at rfl
  by_cases hne : v.pend = []
  · have hsd : syncD v d = d := by unfold syncD; rw [if_pos hne]
    have hsv : syncV v = v := by unfold syncV; rw [if_pos hne]
    rw [hsd, hsv]
    have hl0 : v.pend.length = 0 := by rw [hne]; rfl
    rw [hl0] at c5
    have H := hid h
    clear h hi hP hrow hpc hv hsd hsv hne hl0
    go_enter Tryz.func15, Tryz.ntmps15
    go_wp2_with fail
    go_ret
    exact ⟨rfl, F, G, H.out, Keeps.refl _ _, fun k hk => .inl hk⟩
  obtain ⟨L, hL⟩ : ∃ L, L = v.pend.length := ⟨_, rfl⟩
  have hL1 : 1 ≤ L := by rw [hL]; cases hp : v.pend with
    | nil => exact absurd hp hne
    | cons _ _ => simp
  obtain ⟨n, hn⟩ : ∃ n, n = (g2 [] v.pend).length := ⟨_, rfl⟩
  obtain ⟨ts, hts⟩ : ∃ ts, ts = v.texts := ⟨_, rfl⟩
  have htl : ts.length = n := by rw [hts, hn]; unfold Wl.texts; rw [List.length_map]
  have hfit := hv.fit
  rw [← hn] at hfit
  have HC := hid (rec_Texts_own PA pcap v.pend (by have := hv.len; omega) hpc hv.all)
  rw [← hn, show (g2 [] v.pend).map bytesG = ts from hts.symm] at HC
  rw [← hL] at c5 HC
  have HROW := hid hrow
  have HT := hid (fun i (hi : i < n) => (stampV_ok (e := v.epoch) (q := ((v.used + i : Nat) : Int)) (s := ts.getD i ⟨#[]⟩) hv.e1 hv.e2 (by omega) (by omega) (by
    rw [List.getD_eq_getElem?_getD, List.getElem?_eq_getElem (by omega)]
    exact texts_size hv _ (by rw [← hts]; exact List.getElem_mem _))))
  have hL0 : ((L : Int) == 0) = false := by simp; omega
  have hL0' : ¬ (L : Int) = 0 := by omega
  have hn8 : n ≤ 8 := by omega
  have H := hid h; have HV := hid hv; have HNE := hid hne; have HTL := hid htl; have HTS := hid hts; have HF := hid (And.intro hf ho); have HRM := hid hroom
  have hu8 : v.used ≤ 8 := by omega
  have HFIT := hid hfit
  clear h hi hP hrow hpc hv hne hL hn htl hts hf ho hroom hfit
  go_enter Tryz.func15, Tryz.ntmps15
  go_wp2_with fail
  refine (HC.out w HROW.out).mono ?_; rintro e w3 ⟨A3, cap3, rfl, ho3, hn3, hb3⟩
  have H3 := hid (H.out.below hb3)
  have HB3 := hid hb3
  have HO3 := hid (show w3.ownsRowF 0 9 1 (.slice A3 n cap3) n (strs ts) ∧ ∀ k, (Value.slice A3 n cap3).ownBlock = some k → k ∉ F from ⟨ho3, fun k hk hF => absurd (H.out.dev.at_.sizes k hF) (by have := hn3 k hk; omega)⟩)
  clear ho3 hn3 hb3 HC HROW c5
  go_wp2_with fail
  go_loopg [29, 4] n (fun g j e wx => ∃ (i : Nat) (Fi : List Nat), i + g = n ∧ j = .int .i64 i ∧ e = .int .i64 0 ∧ Hid (LW w0 wx p r (wroteD v ts d i) v Fi G ∧ Keeps F w3 wx ∧ ∀ k, k ∈ Fi → k ∈ F ∨ w3.heap.size ≤ k))
  case atStart => exact ⟨0, F, by omega, rfl, rfl, by
    refine ⟨?_, Keeps.refl _ _, fun k hk => .inl hk⟩
    have e : wroteD v ts d 0 = d := by unfold wroteD stamps; simp
    rw [e]; exact H3.out⟩
  case round =>
    obtain ⟨i, Fi, hi, rfl, rfl, HI⟩ := hrel
    by_cases hlt : i < n
    · have hlt' : (i : Int) < (n : Int) := by omega
      obtain ⟨T, hT⟩ : ∃ T, T = ts.getD i ⟨#[]⟩ := ⟨_, rfl⟩
      have hown := ownsRowF_keeps HO3.out.1 HI.out.2.1 HO3.out.2
      obtain ⟨b, off, rfl, hb, hc⟩ := row_cell (own_rowW hown) (by intro e; have h1 : (strs ts).length = 0 := (by rw [e]; rfl); rw [strs, List.length_map, HTL.out] at h1; omega)
      have hit : i < ts.length := by have := HTL.out; omega
      have c0 := hc i (.string T) (by simp [strs, hT, List.getD_eq_getElem?_getD, hit])
      obtain ⟨q, hq⟩ : ∃ q, q = v.used + i := ⟨_, rfl⟩
      have m1 : IntKind.i64.wrap ((v.used : Int) + (i : Int)) = (q : Int) := by rw [IntKind.wrap_i64]; omega
      obtain ⟨B, hB⟩ : ∃ B, B = (stampV v.epoch (q : Int) T).1 := ⟨_, rfl⟩
      have hst := HT.out i hlt
      rw [← hq, ← hT] at hst
      have KS : Hid (∀ W, Calls Tryz.prog 38 #[.int .i64 v.epoch, .int .i64 q, .string T] W fun e w' => e = .returned (.tuple #[.string B, .int .i64 0]) ∧ Below W.heap.size W w') := fun W => by
        have h1 := slab_Stamp v.epoch q T W
        rw [hst.1, ← hB] at h1
        exact h1
      have hBs : B.size = 256 := by rw [hB]; exact hst.2
      have hx : stampOf v ts i = (v.at_ q, B) := by unfold stampOf; rw [← hq, ← hT, hB]
      have HX := hid hx; have HBS := hid hBs; have HQ := hid hq
      have q2 : wr.cell? ⟨r, 2, none⟩ = some (.int .i64 v.epoch) := HI.out.1.c2
      have q4 : wr.cell? ⟨r, 4, none⟩ = some (.int .i64 v.used) := HI.out.1.c4
      have KQ : Hid (∀ W, Below wr.drew.heap.size wr.drew W → W.cell? ⟨r, 2, none⟩ = some (.int .i64 v.epoch) ∧ W.cell? ⟨r, 4, none⟩ = some (.int .i64 v.used)) := fun W hW => ⟨(HI.out.1.below (bd (Below.refl _ wr) hW)).c2, (HI.out.1.below (bd (Below.refl _ wr) hW)).c4⟩
      clear hown hb hc hst hB hBs hx hT hq hit
      go_wp2_with fail
      go_region_held3 (fun wx => wx.cell? ⟨r, 2, none⟩ = some (.int .i64 v.epoch) ∧ wx.cell? ⟨r, 4, none⟩ = some (.int .i64 v.used))
        ((first | assumption | exact ⟨q2, q4⟩ | exact hq6))
        (first
          | (go_at_call 38; with_reducible refine (KS.out _).mono ?_; rintro e w6 ⟨rfl, hb_⟩; have hq6 := KQ.out _ hb_))
      have H6 := hid (And.intro (HI.out.1.below (bd (Below.refl _ wr) hb_)) (And.intro (HI.out.2.1.trans (Keeps.of (bd (Below.refl _ wr) hb_))) HI.out.2.2))
      clear hb_ hq6 q2 q4 KQ c0 KS HI
      go_wp2_with fail
      have q0 : w6.cell? ⟨r, 0, none⟩ = some (.pointer (some ⟨p, 0, none⟩)) := H6.out.1.c0
      have q4 : w6.cell? ⟨r, 4, none⟩ = some (.int .i64 v.used) := H6.out.1.c4
      obtain ⟨aq, haq⟩ : ∃ aq, aq = v.at_ q := ⟨_, rfl⟩
      have haq64 : aq < 64 := by rw [haq]; exact Wl.at_lt HV.out q
      have KA : Hid (∀ W, Below w6.drew.heap.size w6.drew W → Calls Tryz.prog 40 #[.pointer (some ⟨r, 0, none⟩), .int .i64 q] W fun e w' => e = .returned (.int .i64 aq) ∧ Below W.heap.size W w') := fun W hW => by
        obtain ⟨P, hi, _⟩ := (H6.out.1.below (bd (Below.refl _ w6) hW)).wal.inn
        rw [haq]
        exact wal_at hi q (by rw [HV.out.size]; decide) (by rw [HV.out.size]; decide) (by have := HV.out.from_; omega) (by have := HQ.out; omega)
      have hwr : (wroteD v ts d i).write (aq, B) = wroteD v ts d (i + 1) := by
        have h1 := wroteD_succ v ts d i HF.out.1 HF.out.2
        rw [HX.out, ← haq] at h1
        exact h1
      have hll : (wroteD v ts d i).loose.length + (wroteD v ts d i).rd + (wroteD v ts d i).wr + (wroteD v ts d i).fl ≤ 990 := by
        have h1 := HRM.out
        show (d.loose ++ stamps v ts i).length + d.rd + (d.wr + i) + d.fl ≤ 990
        rw [List.length_append]
        have : (stamps v ts i).length = i := by simp [stamps]
        omega
      have hbu : (wroteD v ts d i).burn.off = false := by rw [Dv.burn_none (show (wroteD v ts d i).fuse < 0 from HF.out.1)]; exact HF.out.2
      have KW : Hid (∀ W, Below w6.drew.heap.size w6.drew W → Calls Tryz.prog 39 #[.pointer (some ⟨p, 0, none⟩), .int .i64 aq, .string B] W fun e w' => e = .returned (.int .i64 0) ∧ ∃ F', LW w0 w' p r (wroteD v ts d (i + 1)) v F' G ∧ Keeps F w3 w' ∧ ∀ k, k ∈ F' → k ∈ F ∨ w3.heap.size ≤ k) := fun W hW => by
        have hb := bd (Below.refl _ w6) hW
        have h1 := H6.out.1.below hb
        refine (dv_Write h1.dev aq B haq64 HBS.out hll).mono ?_
        rintro e w' ⟨rfl, F', k1, k2, k3⟩
        rw [hbu]
        rw [hwr] at k1
        have hk : Keeps F w3 W := H6.out.2.1.trans (Keeps.of hb)
        have hFi : ∀ k, k ∈ Fi → k ∈ F ∨ w3.heap.size ≤ k := H6.out.2.2
        refine ⟨rfl, F', h1.dev1 k1 k2 k3, hk.go k2 hFi, fun k hk' => ?_⟩
        rcases k3 k hk' with h2 | h2
        · exact hFi k h2
        · exact .inr (Nat.le_trans hk.size h2)
      have KQ : Hid (∀ W, Below w6.drew.heap.size w6.drew W → W.cell? ⟨r, 0, none⟩ = some (.pointer (some ⟨p, 0, none⟩)) ∧ W.cell? ⟨r, 4, none⟩ = some (.int .i64 v.used)) := fun W hW => ⟨(H6.out.1.below (bd (Below.refl _ w6) hW)).c0, (H6.out.1.below (bd (Below.refl _ w6) hW)).c4⟩
      have hb60 : Below w6.drew.heap.size w6.drew w6.drew := Below.refl _ _
      clear haq haq64 hwr hll hbu
      go_region_held3 (fun wx => wx.cell? ⟨r, 0, none⟩ = some (.pointer (some ⟨p, 0, none⟩)) ∧ wx.cell? ⟨r, 4, none⟩ = some (.int .i64 v.used))
        ((first | assumption | exact ⟨q0, q4⟩ | exact hq7 | exact hq8))
        (first
          | (go_at_call 40; with_reducible refine (KA.out _ hb60).mono ?_; rintro e w7 ⟨rfl, hb_⟩; have hq7 := KQ.out _ hb_; have hb7 := hb_; clear hb_)
          | (go_at_call 39; with_reducible refine (KW.out _ hb7).mono ?_; rintro e w8 ⟨rfl, F8, hl8, hk8, hF8⟩; have hq8 := And.intro hl8.c0 hl8.c4; have H8 := hid (And.intro hl8 (And.intro hk8 hF8)); clear hl8 hk8 hF8))
      clear hq7 hq8 hb7 q0 q4 KQ KA KW H6
      go_wp2_with fail
      go_roundg (n - (i + 1))
      case measure => omega
      case rel => exact ⟨i + 1, F8, by omega, by go_num, rfl, H8.out⟩
    · have hin : i = n := by omega
      subst hin
      obtain ⟨dd, hdd⟩ : ∃ dd, dd = wroteD v ts d i := ⟨_, rfl⟩
      have hfl : dd.fuse < 0 := by rw [hdd]; exact HF.out.1
      have hof : dd.off = false := by rw [hdd]; exact HF.out.2
      have hll : dd.loose.length + dd.rd + dd.wr + dd.fl ≤ 990 := by
        have h1 := HRM.out
        rw [hdd]
        show (d.loose ++ stamps v ts i).length + d.rd + (d.wr + i) + d.fl ≤ 990
        rw [List.length_append]
        have : (stamps v ts i).length = i := by simp [stamps]
        omega
      have hbu : dd.burn.off = false := by rw [Dv.burn_none hfl]; exact hof
      have hfd : dd.flush = syncD v d := by
        unfold Dv.flush syncD
        rw [Dv.burn_none hfl, if_neg (by rw [hof]; simp), if_neg HNE.out, hdd]
        have e1 : v.texts = ts := HTS.out.symm
        rw [e1, HTL.out]
        rfl
      have q0 : wr.cell? ⟨r, 0, none⟩ = some (.pointer (some ⟨p, 0, none⟩)) := HI.out.1.c0
      have HFL := hid (dv_Flush (by have := HI.out.1.dev; rw [← hdd] at this; exact this) hll)
      rw [hbu, hfd] at HFL
      clear hdd hfl hof hll hbu hfd
      go_wp2_with fail
      refine HFL.out.mono ?_; rintro e w7 ⟨rfl, k1, k2⟩
      have h7 := HI.out.1.dev0 k1 k2
      obtain ⟨P, hi7, hP7⟩ := h7.wal.inn
      have q4 : w7.cell? ⟨r, 4, none⟩ = some (.int .i64 v.used) := hi7.box.at rfl
      have f4 : w7.frozen? ⟨r, 4, none⟩ = false := hi7.box.free (by show 4 < 6; decide)
      obtain ⟨q, hq⟩ : ∃ q, q = v.used + i := ⟨_, rfl⟩
      have m1 : IntKind.i64.wrap ((v.used : Int) + (i : Int)) = (q : Int) := by rw [IntKind.wrap_i64]; omega
      have b4 : Blk (w7.setCell ⟨r, 4, none⟩ (.int .i64 q)) r 69 (wlCells p { v with used := q } P) := hi7.box.set 4 (.int .i64 q)
      have o4 := ownsRowF_setCell (u := .int .i64 q) (i := 4) hi7.pend hi7.box (by decide)
      have f5 : (w7.setCell ⟨r, 4, none⟩ (.int .i64 q)).frozen? ⟨r, 5, none⟩ = false := b4.free (by show 5 < 6; decide)
      obtain ⟨PA7, pc7, rfl, _⟩ := ownsRowF_row hi7.pend
      have q5 : (w7.setCell ⟨r, 4, none⟩ (.int .i64 q)).cell? ⟨r, 5, none⟩ = some (.slice PA7 v.pend.length pc7) := b4.at rfl
      have b5 := b4.set 5 (.slice none 0 0)
      have hk : Keeps G w7 ((w7.setCell ⟨r, 4, none⟩ (.int .i64 q)).setCell ⟨r, 5, none⟩ (.slice none 0 0)) := ((Keeps.refl G w7).setCell (p := ⟨r, 4, none⟩) h7.wal.mem (.int .i64 q)).setCell (p := ⟨r, 5, none⟩) h7.wal.mem (.slice none 0 0)
      have hsv : syncV v = { v with used := q, pend := [] } := by unfold syncV; rw [if_neg HNE.out, show v.texts = ts from HTS.out.symm, HTL.out, hq]
      have hwp : WPost w0 w7 ((w7.setCell ⟨r, 4, none⟩ (.int .i64 q)).setCell ⟨r, 5, none⟩ (.slice none 0 0)) r p (syncV v) G := by
        rw [hsv]
        exact ⟨G, ⟨fun k hk' => ⟨(h7.wal.own k hk').1, Nat.lt_of_lt_of_le (h7.wal.own k hk').2 hk.size⟩, h7.wal.mem, .slice none 0 0, ⟨b5, World.ownsRowF_nil _ _ _ _⟩, fun k hk => by cases hk⟩, hk, fun k hk => .inl hk⟩
      have kw : Keeps (F ++ G) w ((w7.setCell ⟨r, 4, none⟩ (.int .i64 q)).setCell ⟨r, 5, none⟩ (.slice none 0 0)) := by
        have ka : Keeps (F ++ G) w wr := (Keeps.of (F := F ++ G) HB3.out).trans (HI.out.2.1.mono (fun x hx => List.mem_append_left _ hx))
        have kb : Keeps (F ++ G) w w7 := ka.go k2 (fun x hx => by
          rcases HI.out.2.2 x hx with h | h
          · exact .inl (List.mem_append_left _ h)
          · exact .inr (Nat.le_trans HB3.out.size h))
        exact kb.trans (hk.mono (fun x hx => List.mem_append_right _ hx))
      have kn : ∀ k, k ∈ Fi → k ∈ F ∨ w.heap.size ≤ k := fun k hk => (HI.out.2.2 k hk).imp id (fun h => Nat.le_trans HB3.out.size h)
      have HS37 := hid (And.intro HI.out.2.1.size trivial)
      have HKW := hid (And.intro kw (And.intro kn k2))
      have H9 := hid (h7.wal1 hwp)
      clear kw kn k1 k2 h7 hi7 hP7 b4 o4 b5 hk hsv hwp hq HI HFL q0
      go_wp2_with fail
      go_ret
      obtain ⟨G', hl, _, hg⟩ := H9.out
      refine ⟨rfl, Fi, G', hl, HKW.out.1, fun k hk => ?_⟩
      rcases List.mem_append.1 hk with h | h
      · exact (HKW.out.2.1 k h).imp (fun h => List.mem_append_left _ h) id
      · rcases hg k h with h2 | h2
        · exact .inl (List.mem_append_right _ h2)
        · have h3 := HKW.out.1.size
          exact .inr (Nat.le_trans (Nat.le_trans HB3.out.size (Nat.le_trans HS37.out.1 HKW.out.2.2.size)) h2)
end Go.Proofs.YtcklgaenedlbiaaGreat
