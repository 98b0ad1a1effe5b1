/-
  Frames and stamped blocks, as rows of bytes: plain laws, without a program.
  Two writers of layer 1 that the call made, none of which has a block of the other.
-/
import Derived.Test.YtcklgaenedlbiaaGreatGWalExact19
import Derived.Test.YtcklgaenedlbiaaGreatGWalExact20
import Derived.Test.YtcklgaenedlbiaaGreatGWalExact04
import Derived.Test.YtcklgaenedlbiaaGreatGWalExact05

namespace Go.Proofs.YtcklgaenedlbiaaGreat
open Go.RowKit

/-- a sum where one byte is turned is another sum -/
theorem crc_turned1 (l : List UInt8) (hl : 4 ≤ l.length) (p : Nat) (x y : UInt8) (hx : l[p]? = some x) (hs : Crc.sum (l.set p y) = Crc.sum l) : y = x := by
  have hp := (List.getElem?_eq_some_iff.1 hx).1
  obtain ⟨i, j, hi, hj, hpj⟩ : ∃ i j, i + 4 ≤ l.length ∧ j < 4 ∧ p = i + j := by
    by_cases h : p + 4 ≤ l.length
    · exact ⟨p, 0, h, by decide, rfl⟩
    · exact ⟨l.length - 4, p - (l.length - 4), by omega, by omega, by omega⟩
  have g : ∀ k, k < 4 → ∃ v, l[i + k]? = some v := fun k hk => ⟨_, List.getElem?_eq_getElem (by omega)⟩
  obtain ⟨a, ha⟩ := g 0 (by decide)
  obtain ⟨b, hb⟩ := g 1 (by decide)
  obtain ⟨c, hc⟩ := g 2 (by decide)
  obtain ⟨d, hd⟩ := g 3 (by decide)
  rw [Nat.add_zero] at ha
  have same : ∀ (q : Nat) (v : UInt8) (m : List UInt8), m[q]? = some v → m.set q v = m := by
    intro q v m h
    apply List.ext_getElem?
    intro t
    rw [List.getElem?_set]
    by_cases e : q = t
    · subst e
      rw [if_pos rfl, if_pos (List.getElem?_eq_some_iff.1 h).1, h]
    · rw [if_neg e]
  have at_ : ∀ (m : List UInt8) (q t : Nat) (v u : UInt8), q ≠ t → m[t]? = some u → (m.set q v)[t]? = some u := by
    intro m q t v u h1 h2
    rw [List.getElem?_set, if_neg h1, h2]
  have : j = 0 ∨ j = 1 ∨ j = 2 ∨ j = 3 := by omega
  rcases this with rfl | rfl | rfl | rfl
  · have e : Crc.set4 l i y b c d = l.set p y := by
      unfold Crc.set4
      rw [hpj, Nat.add_zero]
      rw [same _ _ _ (at_ _ _ _ _ _ (by omega) hb)]
      rw [same _ _ _ (at_ _ _ _ _ _ (by omega) hc)]
      rw [same _ _ _ (at_ _ _ _ _ _ (by omega) hd)]
      rfl
    have := Crc.turned4 l i a b c d y b c d ha hb hc hd (by rw [e, hs])
    rw [hpj, Nat.add_zero, ha] at hx
    injection hx with hx
    rw [this.1, hx]
  · have e : Crc.set4 l i a y c d = l.set p y := by
      unfold Crc.set4
      rw [hpj]
      rw [same i a l ha]
      rw [same _ _ _ (at_ _ _ _ _ _ (by omega) hc)]
      rw [same _ _ _ (at_ _ _ _ _ _ (by omega) hd)]
    have := Crc.turned4 l i a b c d a y c d ha hb hc hd (by rw [e, hs])
    rw [hpj, hb] at hx
    injection hx with hx
    rw [this.2.1, hx]
  · have e : Crc.set4 l i a b y d = l.set p y := by
      unfold Crc.set4
      rw [hpj]
      rw [same i a l ha]
      rw [same (i + 1) b l hb]
      rw [same _ _ _ (at_ _ _ _ _ _ (by omega) hd)]
    have := Crc.turned4 l i a b c d a b y d ha hb hc hd (by rw [e, hs])
    rw [hpj, hc] at hx
    injection hx with hx
    rw [this.2.2.1, hx]
  · have e : Crc.set4 l i a b c y = l.set p y := by
      unfold Crc.set4
      rw [hpj]
      rw [same i a l ha]
      rw [same (i + 1) b l hb]
      rw [same (i + 2) c l hc]
    have := Crc.turned4 l i a b c d a b c y ha hb hc hd (by rw [e, hs])
    rw [hpj, hd] at hx
    injection hx with hx
    rw [this.2.2.2, hx]

/-- what a frame has behind its sum -/
def restB (size : Nat) (s : List UInt8) : List UInt8 := beB 2 s.length ++ s ++ List.replicate (size - 6 - s.length) 0
/-- a frame of so many bytes -/
def frameB (size : Nat) (s : List UInt8) : List UInt8 := beB 4 (Crc.sum (restB size s)) ++ restB size s
theorem restB_length {size : Nat} {s : List UInt8} (h : s.length + 6 ≤ size) : (restB size s).length = size - 4 := by
  simp only [restB, List.length_append, beB_length, List.length_replicate]; omega
theorem frameB_length {size : Nat} {s : List UInt8} (h : s.length + 6 ≤ size) : (frameB size s).length = size := by
  rw [frameB, List.length_append, beB_length, restB_length h]; omega
/-- a frame's text; else an error's number -/
def textR (f : List UInt8) : Except Int (List UInt8) :=
  if f.length - 6 < be ((f.drop 4).take 2) then .error 5
  else if frameB f.length ((f.drop 6).take (be ((f.drop 4).take 2))) = f then .ok ((f.drop 6).take (be ((f.drop 4).take 2))) else .error 6
theorem frameB_parts {size : Nat} {s : List UInt8} (_ : s.length + 6 ≤ size) (hs : s.length < 65536) :
    be (((frameB size s).drop 4).take 2) = s.length ∧ ((frameB size s).drop 6).take s.length = s := by
  have e1 : (frameB size s).drop 4 = restB size s := by unfold frameB; rw [List.drop_left' (beB_length 4 _)]
  have e2 : (frameB size s).drop 6 = s ++ List.replicate (size - 6 - s.length) 0 := by
    rw [show 6 = 4 + 2 from rfl, ← List.drop_drop, e1]
    unfold restB
    rw [List.append_assoc, List.drop_left' (beB_length 2 _)]
  refine ⟨?_, ?_⟩
  · rw [e1]
    unfold restB
    rw [List.append_assoc, List.take_left' (beB_length 2 _), be_beB']
    exact Nat.mod_eq_of_lt hs
  · rw [e2, List.take_left' rfl]
theorem textR_frame {size : Nat} {s : List UInt8} (h : s.length + 6 ≤ size) (hs : s.length < 65536) : textR (frameB size s) = .ok s := by
  obtain ⟨h1, h2⟩ := frameB_parts h hs
  unfold textR
  rw [frameB_length h, h1, h2, if_neg (by omega), if_pos rfl]
theorem textR_ok {f s : List UInt8} (h6 : 6 ≤ f.length) (h : textR f = .ok s) : frameB f.length s = f ∧ s.length + 6 ≤ f.length := by
  unfold textR at h
  split at h
  · cases h
  · split at h
    · rename_i h1 h2
      injection h with h
      rw [← h]
      refine ⟨h2, ?_⟩
      rw [List.length_take]
      omega
    · cases h
theorem frameB_inj {size : Nat} {s t : List UInt8} (h : s.length + 6 ≤ size) (hs : s.length < 65536) (h' : t.length + 6 ≤ size) (ht : t.length < 65536) (e : frameB size s = frameB size t) : s = t := by
  have h1 := textR_frame h hs
  rw [e, textR_frame h' ht] at h1
  injection h1 with h1
  exact h1.symm
theorem beB_inj {k n m : Nat} (hn : n < 256 ^ k) (hm : m < 256 ^ k) (h : beB k n = beB k m) : n = m := by
  have := congrArg be h
  rwa [be_beB', be_beB', Nat.mod_eq_of_lt hn, Nat.mod_eq_of_lt hm] at this
/-- of a frame with a byte turned there is no text -/
theorem textR_turned {size : Nat} {s : List UInt8} (h : s.length + 6 ≤ size) (h8 : 8 ≤ size) (p : Nat) (x y : UInt8) (hx : (frameB size s)[p]? = some x) (hne : y ≠ x) (t : List UInt8) : textR ((frameB size s).set p y) ≠ .ok t := by
  intro ht
  obtain ⟨h1, h2⟩ := textR_ok (by rw [List.length_set, frameB_length h]; omega) ht
  rw [List.length_set, frameB_length h] at h1 h2
  have hl := restB_length h
  by_cases hp : p < 4
  · -- the sum is turned: behind it all is as it was
    have e1 : restB size t = restB size s := by
      have := congrArg (List.drop 4) h1
      unfold frameB at this
      rw [List.drop_left' (beB_length 4 _), List.drop_set_of_lt hp, List.drop_left' (beB_length 4 _)] at this
      exact this
    have e2 : frameB size t = frameB size s := by unfold frameB; rw [e1]
    rw [e2] at h1
    have := congrArg (fun l => l[p]?) h1
    simp only [hx] at this
    rw [List.getElem?_set, if_pos rfl, if_pos (List.getElem?_eq_some_iff.1 hx).1] at this
    injection this with this
    exact hne this.symm
  · have e0 : (frameB size s).set p y = beB 4 (Crc.sum (restB size s)) ++ (restB size s).set (p - 4) y := by
      unfold frameB
      rw [List.set_append_right _ _ (by rw [beB_length]; omega), beB_length]
    rw [e0] at h1
    unfold frameB at h1
    obtain ⟨h3, h4⟩ := List.append_inj h1 (by rw [beB_length, beB_length])
    have h5 := beB_inj (k := 4) (by exact Crc.more_lt (by decide) _) (by exact Crc.more_lt (by decide) _) h3
    rw [h4] at h5
    have hx' : (restB size s)[p - 4]? = some x := by
      unfold frameB at hx
      rw [List.getElem?_append_right (by rw [beB_length]; omega), beB_length] at hx
      exact hx
    exact hne (crc_turned1 _ (by omega) _ x y hx' h5)

/-! ## stamped blocks -/

/-- a sector: the numbers, and a part of the frame -/
def sectB (e q : Nat) (f : List UInt8) (i : Nat) : List UInt8 := beB 4 e ++ beB 4 q ++ (f.drop (56 * i)).take 56
def stampB (e q : Nat) (f : List UInt8) : List UInt8 := sectB e q f 0 ++ sectB e q f 1 ++ sectB e q f 2 ++ sectB e q f 3
theorem sectB_length (e q : Nat) (f : List UInt8) (i : Nat) (hf : f.length = 224) (hi : i < 4) : (sectB e q f i).length = 64 := by
  simp only [sectB, List.length_append, beB_length, List.length_take, List.length_drop]; omega
theorem stampB_length (e q : Nat) (f : List UInt8) (hf : f.length = 224) : (stampB e q f).length = 256 := by
  simp only [stampB, List.length_append, sectB_length e q f _ hf (show 0 < 4 by decide), sectB_length e q f _ hf (show 1 < 4 by decide), sectB_length e q f _ hf (show 2 < 4 by decide), sectB_length e q f _ hf (show 3 < 4 by decide)]

/-- sector i of a block -/
def sec64 (b : List UInt8) (i : Nat) : List UInt8 := (b.drop (64 * i)).take 64
/-- its marks, its part -/
def markOf (b : List UInt8) (i : Nat) : List UInt8 := (b.drop (64 * i)).take 8
def partOf (b : List UInt8) (i : Nat) : List UInt8 := (b.drop (64 * i + 8)).take 56
/-- what a block's frame is -/
def frameOf (b : List UInt8) : List UInt8 := partOf b 0 ++ partOf b 1 ++ partOf b 2 ++ partOf b 3
/-- whether all sectors have the marks of the first one -/
def marksOk (b : List UInt8) : Bool := decide (markOf b 1 = markOf b 0) && decide (markOf b 2 = markOf b 0) && decide (markOf b 3 = markOf b 0)
/-- a block's numbers and text; else an error's number -/
def readR (b : List UInt8) : Except Int (Nat × Nat × List UInt8) :=
  if marksOk b = false then .error 5
  else if be (b.take 4) < 1 ∨ 2147483647 < be (b.take 4) ∨ 2147483647 < be ((b.drop 4).take 4) then .error 5
  else match textR (frameOf b) with
    | .error k => .error k
    | .ok s => .ok (be (b.take 4), be ((b.drop 4).take 4), s)

/-- four sectors, each a mark and a part -/
def cat4 (m p : Nat → List UInt8) : List UInt8 := m 0 ++ (p 0 ++ (m 1 ++ (p 1 ++ (m 2 ++ (p 2 ++ (m 3 ++ p 3))))))
theorem drop64 (m p r : List UInt8) (hm : m.length = 8) (hp : p.length = 56) : (m ++ (p ++ r)).drop 64 = r := by
  rw [show 64 = 8 + 56 from rfl, ← List.drop_drop, List.drop_left' hm, List.drop_left' hp]
theorem cat4_marks {m p : Nat → List UInt8} (hm : ∀ i, i < 4 → (m i).length = 8) (hp : ∀ i, i < 4 → (p i).length = 56) (i : Nat) (hi : i < 4) : markOf (cat4 m p) i = m i ∧ partOf (cat4 m p) i = p i := by
  have d1 : (cat4 m p).drop 64 = m 1 ++ (p 1 ++ (m 2 ++ (p 2 ++ (m 3 ++ p 3)))) := drop64 _ _ _ (hm 0 (by decide)) (hp 0 (by decide))
  have d2 : (cat4 m p).drop 128 = m 2 ++ (p 2 ++ (m 3 ++ p 3)) := by rw [show 128 = 64 + 64 from rfl, ← List.drop_drop, d1, drop64 _ _ _ (hm 1 (by decide)) (hp 1 (by decide))]
  have d3 : (cat4 m p).drop 192 = m 3 ++ p 3 := by rw [show 192 = 128 + 64 from rfl, ← List.drop_drop, d2, drop64 _ _ _ (hm 2 (by decide)) (hp 2 (by decide))]
  unfold markOf partOf
  rw [← List.drop_drop]
  have : i = 0 ∨ i = 1 ∨ i = 2 ∨ i = 3 := by omega
  rcases this with rfl | rfl | rfl | rfl
  · rw [List.drop_zero]
    unfold cat4
    rw [List.take_left' (hm 0 (by decide)), List.drop_left' (hm 0 (by decide)), List.take_left' (hp 0 (by decide))]
    exact ⟨rfl, rfl⟩
  · rw [show 64 * 1 = 64 from rfl, d1, List.take_left' (hm 1 (by decide)), List.drop_left' (hm 1 (by decide)), List.take_left' (hp 1 (by decide))]
    exact ⟨rfl, rfl⟩
  · rw [show 64 * 2 = 128 from rfl, d2, List.take_left' (hm 2 (by decide)), List.drop_left' (hm 2 (by decide)), List.take_left' (hp 2 (by decide))]
    exact ⟨rfl, rfl⟩
  · rw [show 64 * 3 = 192 from rfl, d3, List.take_left' (hm 3 (by decide)), List.drop_left' (hm 3 (by decide)), List.take_of_length_le (by rw [hp 3 (by decide)]; exact Nat.le_refl _)]
    exact ⟨rfl, rfl⟩
def markB (e q : Nat) : List UInt8 := beB 4 e ++ beB 4 q
theorem markB_length (e q : Nat) : (markB e q).length = 8 := by simp [markB, beB_length]
theorem part_length (f : List UInt8) (hf : f.length = 224) (i : Nat) (hi : i < 4) : ((f.drop (56 * i)).take 56).length = 56 := by
  rw [List.length_take, List.length_drop, hf]; omega
theorem stampB_cat (e q : Nat) (f : List UInt8) : stampB e q f = cat4 (fun _ => markB e q) (fun i => (f.drop (56 * i)).take 56) := by
  simp only [stampB, sectB, cat4, markB, List.append_assoc]
theorem stampB_marks (e q : Nat) (f : List UInt8) (hf : f.length = 224) (i : Nat) (hi : i < 4) : markOf (stampB e q f) i = markB e q ∧ partOf (stampB e q f) i = (f.drop (56 * i)).take 56 := by
  rw [stampB_cat]
  exact cat4_marks (fun _ _ => markB_length e q) (fun i hi => part_length f hf i hi) i hi
theorem parts_frame (f : List UInt8) (hf : f.length = 224) : (f.drop 0).take 56 ++ (f.drop 56).take 56 ++ (f.drop 112).take 56 ++ (f.drop 168).take 56 = f := by
  have e3 : (f.drop 168).take 56 = f.drop 168 := List.take_of_length_le (by rw [List.length_drop, hf]; omega)
  have s3 : (f.drop 112).take 56 ++ f.drop 168 = f.drop 112 := by rw [show 168 = 112 + 56 from rfl, ← List.drop_drop]; exact List.take_append_drop _ _
  have s2 : (f.drop 56).take 56 ++ f.drop 112 = f.drop 56 := by rw [show 112 = 56 + 56 from rfl, ← List.drop_drop]; exact List.take_append_drop _ _
  have s1 : (f.drop 0).take 56 ++ f.drop 56 = f := by rw [List.drop_zero]; exact List.take_append_drop _ _
  rw [e3, List.append_assoc, List.append_assoc, s3, s2, s1]
theorem stampB_frame (e q : Nat) (f : List UInt8) (hf : f.length = 224) : frameOf (stampB e q f) = f := by
  unfold frameOf
  rw [(stampB_marks e q f hf 0 (by decide)).2, (stampB_marks e q f hf 1 (by decide)).2, (stampB_marks e q f hf 2 (by decide)).2, (stampB_marks e q f hf 3 (by decide)).2]
  exact parts_frame f hf
theorem marks_head (b : List UInt8) : b.take 4 = (markOf b 0).take 4 ∧ (b.drop 4).take 4 = (markOf b 0).drop 4 := by
  unfold markOf
  rw [show 64 * 0 = 0 from rfl, List.drop_zero]
  refine ⟨by rw [List.take_take]; rfl, ?_⟩
  rw [List.drop_take]
theorem markB_head {e q : Nat} (he : e < 4294967296) (hq : q < 4294967296) : be ((markB e q).take 4) = e ∧ be ((markB e q).drop 4) = q := by
  unfold markB
  rw [List.take_left' (beB_length 4 _), List.drop_left' (beB_length 4 _), be_beB', be_beB']
  exact ⟨Nat.mod_eq_of_lt he, Nat.mod_eq_of_lt hq⟩
theorem readR_stamp {e q : Nat} {s : List UInt8} (he : 1 ≤ e) (he' : e ≤ 2147483647) (hq : q ≤ 2147483647) (hs : s.length ≤ 218) : readR (stampB e q (frameB 224 s)) = .ok (e, q, s) := by
  have hf : (frameB 224 s).length = 224 := frameB_length (by omega)
  have hm : marksOk (stampB e q (frameB 224 s)) = true := by
    unfold marksOk
    rw [(stampB_marks e q _ hf 0 (by decide)).1, (stampB_marks e q _ hf 1 (by decide)).1, (stampB_marks e q _ hf 2 (by decide)).1, (stampB_marks e q _ hf 3 (by decide)).1]
    simp
  obtain ⟨h1, h2⟩ := marks_head (stampB e q (frameB 224 s))
  rw [(stampB_marks e q _ hf 0 (by decide)).1] at h1 h2
  obtain ⟨h3, h4⟩ := markB_head (show e < 4294967296 by omega) (show q < 4294967296 by omega)
  unfold readR
  rw [if_neg (by rw [hm]; simp)]
  simp only [h1, h2, h3, h4]
  rw [if_neg (by omega), stampB_frame e q _ hf, textR_frame (by omega) (by omega)]
theorem markB_inj {e q e' q' : Nat} (hq : q < 4294967296) (hq' : q' < 4294967296) (h : markB e q = markB e' q') : q = q' := by
  unfold markB at h
  have := (List.append_inj h (by rw [beB_length, beB_length])).2
  exact beB_inj (k := 4) hq hq' this

/-- of a block with a byte turned nothing is read -/
theorem markOf_set (b : List UInt8) (p i : Nat) (y : UInt8) : markOf (b.set p y) i = if p < 64 * i then markOf b i else (markOf b i).set (p - 64 * i) y := by
  unfold markOf
  rw [List.drop_set]
  split
  · rfl
  · rw [List.take_set]
theorem partOf_set (b : List UInt8) (p i : Nat) (y : UInt8) : partOf (b.set p y) i = if p < 64 * i + 8 then partOf b i else (partOf b i).set (p - (64 * i + 8)) y := by
  unfold partOf
  rw [List.drop_set]
  split
  · rfl
  · rw [List.take_set]
theorem set_out {l : List UInt8} {p : Nat} {y : UInt8} (h : l.length ≤ p) : l.set p y = l := List.set_eq_of_length_le h
theorem set_ne {l : List UInt8} {p : Nat} {x y : UInt8} (h : l[p]? = some x) (hne : y ≠ x) : l.set p y ≠ l := by
  intro e
  have h1 : (l.set p y)[p]? = some x := by rw [e]; exact h
  rw [List.getElem?_set, if_pos rfl, if_pos (List.getElem?_eq_some_iff.1 h).1] at h1
  injection h1 with h1
  exact hne h1
theorem marksOk_iff (b : List UInt8) : marksOk b = true ↔ markOf b 1 = markOf b 0 ∧ markOf b 2 = markOf b 0 ∧ markOf b 3 = markOf b 0 := by
  unfold marksOk
  rw [Bool.and_eq_true, Bool.and_eq_true, decide_eq_true_eq, decide_eq_true_eq, decide_eq_true_eq, and_assoc]
theorem marksOk_all {b : List UInt8} (h : marksOk b = true) (i j : Nat) (hi : i < 4) (hj : j < 4) : markOf b i = markOf b j := by
  obtain ⟨h1, h2, h3⟩ := (marksOk_iff b).1 h
  have g : ∀ k, k < 4 → markOf b k = markOf b 0 := by
    intro k hk
    have : k = 0 ∨ k = 1 ∨ k = 2 ∨ k = 3 := by omega
    rcases this with rfl | rfl | rfl | rfl
    · rfl
    · exact h1
    · exact h2
    · exact h3
  rw [g i hi, g j hj]
theorem readR_turned {e q : Nat} {s : List UInt8} (hs : s.length ≤ 218) (p : Nat) (x y : UInt8) (hx : (stampB e q (frameB 224 s))[p]? = some x) (hne : y ≠ x) (r : Nat × Nat × List UInt8) : readR ((stampB e q (frameB 224 s)).set p y) ≠ .ok r := by
  have hf : (frameB 224 s).length = 224 := frameB_length (by omega)
  have hp : p < 256 := by have := (List.getElem?_eq_some_iff.1 hx).1; rwa [stampB_length e q _ hf] at this
  obtain ⟨b, hb⟩ : ∃ b, b = stampB e q (frameB 224 s) := ⟨_, rfl⟩
  have hmk : ∀ k, k < 4 → markOf b k = markB e q := fun k hk => by rw [hb]; exact (stampB_marks e q _ hf k hk).1
  have hpt : ∀ k, k < 4 → partOf b k = ((frameB 224 s).drop (56 * k)).take 56 := fun k hk => by rw [hb]; exact (stampB_marks e q _ hf k hk).2
  rw [← hb] at hx ⊢
  obtain ⟨i, j, hi, hj, rfl⟩ : ∃ i j, i < 4 ∧ j < 64 ∧ p = 64 * i + j := ⟨p / 64, p % 64, by omega, Nat.mod_lt _ (by decide), by omega⟩
  intro h
  unfold readR at h
  split at h
  · cases h
  · rename_i hok
    have hok' : marksOk (b.set (64 * i + j) y) = true := by simpa using hok
    have hm2 : ∀ k, k < 4 → k ≠ i → markOf (b.set (64 * i + j) y) k = markB e q := by
      intro k hk hki
      rw [markOf_set, hmk k hk]
      split
      · rfl
      · exact set_out (by rw [markB_length]; omega)
    by_cases hj8 : j < 8
    · have h1 : markOf (b.set (64 * i + j) y) i = (markB e q).set j y := by
        rw [markOf_set, hmk i hi, if_neg (by omega), show 64 * i + j - 64 * i = j by omega]
      have h2 : (markB e q)[j]? = some x := by
        rw [← hmk i hi]
        unfold markOf
        rw [List.getElem?_take, if_pos hj8, List.getElem?_drop, hx]
      obtain ⟨k, hk, hki⟩ : ∃ k, k < 4 ∧ k ≠ i := by
        by_cases h0 : i = 0
        · exact ⟨1, by decide, by omega⟩
        · exact ⟨0, by decide, by omega⟩
      have h3 := marksOk_all hok' i k hi hk
      rw [h1, hm2 k hk hki] at h3
      exact set_ne h2 hne h3
    · have hpart : ∀ k, k < 4 → partOf (b.set (64 * i + j) y) k = if k = i then (partOf b k).set (j - 8) y else partOf b k := by
        intro k hk
        rw [partOf_set]
        have hl : (partOf b k).length = 56 := by rw [hpt k hk]; exact part_length _ hf k hk
        by_cases e1 : k = i
        · subst e1
          rw [if_neg (by omega), if_pos rfl]
          congr 1
          omega
        · rw [if_neg e1]
          split
          · rfl
          · exact set_out (by omega)
      have hfr : frameOf (b.set (64 * i + j) y) = (frameB 224 s).set (56 * i + (j - 8)) y := by
        have hl : ∀ k, k < 4 → (partOf b k).length = 56 := fun k hk => by rw [hpt k hk]; exact part_length _ hf k hk
        have h0 := hl 0 (by decide)
        have h1 := hl 1 (by decide)
        have h2 := hl 2 (by decide)
        have h3 := hl 3 (by decide)
        have hfb : frameOf b = frameB 224 s := by rw [hb]; exact stampB_frame e q _ hf
        rw [← hfb]
        unfold frameOf
        rw [hpart 0 (by decide), hpart 1 (by decide), hpart 2 (by decide), hpart 3 (by decide)]
        have : i = 0 ∨ i = 1 ∨ i = 2 ∨ i = 3 := by omega
        rcases this with rfl | rfl | rfl | rfl
        · simp only [if_true, show ¬ (1 = 0) by decide, show ¬ (2 = 0) by decide, show ¬ (3 = 0) by decide, if_false]
          rw [List.append_assoc, List.append_assoc, List.append_assoc, List.append_assoc, List.set_append_left _ _ (by omega)]
          congr 2
          omega
        · simp only [if_true, show ¬ (0 = 1) by decide, show ¬ (2 = 1) by decide, show ¬ (3 = 1) by decide, if_false]
          rw [List.append_assoc, List.append_assoc, List.append_assoc, List.append_assoc, List.set_append_right _ _ (by omega), List.set_append_left _ _ (by omega)]
          congr 3
          omega
        · simp only [if_true, show ¬ (0 = 2) by decide, show ¬ (1 = 2) by decide, show ¬ (3 = 2) by decide, if_false]
          rw [List.append_assoc, List.append_assoc, List.append_assoc, List.append_assoc, List.set_append_right _ _ (by omega), List.set_append_right _ _ (by omega), List.set_append_left _ _ (by omega)]
          congr 4
          omega
        · simp only [if_true, show ¬ (0 = 3) by decide, show ¬ (1 = 3) by decide, show ¬ (2 = 3) by decide, if_false]
          rw [List.append_assoc, List.append_assoc, List.append_assoc, List.append_assoc, List.set_append_right _ _ (by omega), List.set_append_right _ _ (by omega), List.set_append_right _ _ (by omega)]
          congr 4
          omega
      have hx' : (frameB 224 s)[56 * i + (j - 8)]? = some x := by
        have h1 : (partOf b i)[j - 8]? = (((frameB 224 s).drop (56 * i)).take 56)[j - 8]? := congrArg (fun l => l[j - 8]?) (hpt i hi)
        rw [List.getElem?_take, if_pos (by omega), List.getElem?_drop] at h1
        rw [← h1]
        unfold partOf
        rw [List.getElem?_take, if_pos (by omega), List.getElem?_drop, show 64 * i + 8 + (j - 8) = 64 * i + j by omega, hx]
      split at h
      · cases h
      · rw [hfr] at h
        split at h
        · cases h
        · rename_i t ht
          exact textR_turned (by omega) (by decide) _ x y hx' hne t ht

/-- sectors of two blocks with unlike numbers -/
theorem readR_mixed (m : Nat → List UInt8) (p : Nat → List UInt8) (hm : ∀ i, i < 4 → (m i).length = 8) (hp : ∀ i, i < 4 → (p i).length = 56) (i j : Nat) (hi : i < 4) (hj : j < 4) (hne : m i ≠ m j) : readR (cat4 m p) = .error 5 := by
  unfold readR
  rw [if_pos]
  cases h : marksOk (cat4 m p) with
  | false => rfl
  | true =>
    have := marksOk_all h i j hi hj
    rw [(cat4_marks hm hp i hi).1, (cat4_marks hm hp j hj).1] at this
    exact absurd this hne
end Go.Proofs.YtcklgaenedlbiaaGreat

namespace Go.Proofs.YtcklgaenedlbiaaGreat
open Go.RowKit

def Two (w wx : World) (a : Nat) (la : List UInt8) (b : Nat) (lb : List UInt8) : Prop := ∃ Fa Fb, OutAt 113 wx a la Fa ∧ OutAt 113 wx b lb Fb ∧ Below w.heap.size w wx ∧ (∀ k, k ∈ Fa → w.heap.size ≤ k) ∧ (∀ k, k ∈ Fb → w.heap.size ≤ k) ∧ (∀ k, k ∈ Fa → k ∉ Fb)

section
variable {w wx w' : World} {a b : Nat} {la lb : List UInt8}
theorem Two.bel (h : Two w wx a la b lb) : Below w.heap.size w wx := by obtain ⟨_, _, _, _, h, _⟩ := h; exact h
theorem Two.below (h : Two w wx a la b lb) (hb : Below wx.heap.size wx w') : Two w w' a la b lb := by
  obtain ⟨Fa, Fb, h1, h2, h3, h4, h5, h6⟩ := h
  exact ⟨Fa, Fb, h1.below hb, h2.below hb, bt h3 hb, h4, h5, h6⟩
theorem Two.rot (h : Two w wx a la b lb) : Two w wx b lb a la := by
  obtain ⟨Fa, Fb, h1, h2, h3, h4, h5, h6⟩ := h
  exact ⟨Fb, Fa, h2, h1, h3, h5, h4, fun k h7 h8 => h6 k h8 h7⟩
theorem Two.pen (h : Two w wx a la b lb) : Pen w wx a la := by
  obtain ⟨Fa, Fb, h1, h2, h3, h4, h5, h6⟩ := h
  exact ⟨Fa, h1, h3, h4⟩
/-- a second one is made -/
theorem Two.new (h : Pen w wx a la) : Two w (wx.alloc (.cells #[.pointer none, .slice none 0 0] 113)) wx.heap.size [] a la := by
  obtain ⟨F, h1, h2, h3⟩ := h
  have hA := below_alloc wx (.cells #[.pointer none, .slice none 0 0] 113)
  refine ⟨[wx.heap.size], F, OutAt.new _ wx, h1.below hA, bt h2 hA, fun k hk => by simp at hk; rw [hk]; exact h2.size, h3, fun k hk hm => ?_⟩
  simp at hk
  have := h1.sizes k hm
  omega
/-- a deed of the first, its row made for the call -/
theorem two_call {o : Obj} {f : Nat} {args : Array Value} {r : Ending} {la' : List UInt8} (h : Two w wx a la b lb)
    (hc : ∀ Fa, OutAt 113 (wx.alloc o) a la Fa → (∀ k, k ∈ Fa → k < wx.heap.size) → Calls Tryz.prog f args (wx.alloc o) fun e w' => e = r ∧ ∃ Fa', OutAt 113 w' a la' Fa' ∧ Keeps Fa (wx.alloc o) w' ∧ ∀ k, k ∈ Fa' → k ∈ Fa ∨ (wx.alloc o).heap.size ≤ k) :
    Calls Tryz.prog f args (wx.alloc o) fun e w' => e = r ∧ Two w w' a la' b lb := by
  obtain ⟨Fa, Fb, h1, h2, h3, h4, h5, h6⟩ := h
  have hA := below_alloc wx o
  refine (hc Fa (h1.below hA) h1.sizes).mono ?_
  rintro e w' ⟨rfl, Fa', k1, k2, k3⟩
  refine ⟨rfl, Fa', Fb, k1, (h2.below hA).keeps k2 (fun k hk hm => h6 k hm hk), Keeps.below (bt h3 hA) k2 h4, fun k hk => ?_, h5, fun k hk hm => ?_⟩
  · rcases k3 k hk with h | h
    · exact h4 k h
    · exact Nat.le_trans (bt h3 hA).size h
  · rcases k3 k hk with h | h
    · exact h6 k h hm
    · have := h2.sizes k hm; have := hA.size; omega
/-- .. without one -/
theorem two_call0 {f : Nat} {args : Array Value} {r : Ending} {la' : List UInt8} (h : Two w wx a la b lb)
    (hc : ∀ Fa, OutAt 113 wx a la Fa → Calls Tryz.prog f args wx fun e w' => e = r ∧ ∃ Fa', OutAt 113 w' a la' Fa' ∧ Keeps Fa wx w' ∧ ∀ k, k ∈ Fa' → k ∈ Fa ∨ wx.heap.size ≤ k) :
    Calls Tryz.prog f args wx fun e w' => e = r ∧ Two w w' a la' b lb := by
  obtain ⟨Fa, Fb, h1, h2, h3, h4, h5, h6⟩ := h
  refine (hc Fa h1).mono ?_
  rintro e w' ⟨rfl, Fa', k1, k2, k3⟩
  refine ⟨rfl, Fa', Fb, k1, h2.keeps k2 (fun k hk hm => h6 k hm hk), Keeps.below h3 k2 h4, fun k hk => ?_, h5, fun k hk hm => ?_⟩
  · rcases k3 k hk with h | h
    · exact h4 k h
    · exact Nat.le_trans h3.size h
  · rcases k3 k hk with h | h
    · exact h6 k h hm
    · have := h2.sizes k hm; omega
theorem two_Raw (h : Two w wx a la b lb) (s : ByteArray) (hroom : la.length + s.size ≤ 140737488355328) :
    Calls Tryz.prog 62 #[.pointer (some ⟨a, 0, none⟩), .string s] wx fun e w' => e = .returned (.tuple #[]) ∧ Two w w' a (la ++ s.data.toList) b lb :=
  two_call0 h fun Fa h1 => Out_Raw_any a la Fa s wx h1 hroom
theorem two_Bytes (h : Two w wx a la b lb) :
    Calls Tryz.prog 63 #[.pointer (some ⟨a, 0, none⟩)] wx fun e w' => e = .returned (.string ⟨la.toArray⟩) ∧ Two w w' a la b lb :=
  two_call0 h fun Fa h1 => (Out_Bytes_any a la Fa wx h1).mono fun e w' ⟨he, g1, g2⟩ => ⟨he, Fa, g1, g2, fun k hk => .inl hk⟩
theorem two_Num (h : Two w wx a la b lb) (W : Nat) (ns : List Int) (vs : Array Value) (hvs : vs.toList = i64s ns) (hw : isW (W : Int) = true) (hf : (ns.any fun n => !fitsB (W : Int) n) = false) (hlen : ns.length ≤ 1000) (hroom : la.length + 8 * ns.length ≤ 140737488355328) (cap c : Nat) (hc : c = ns.length) :
    Calls Tryz.prog 61 #[.pointer (some ⟨a, 0, none⟩), .int .i64 W, .slice (some ⟨wx.heap.size, 0, none⟩) c cap] (wx.alloc (.cells vs 3)) fun e w' => e = .returned (.int .i64 0) ∧ Two w w' a (la ++ beAll W ns) b lb := by
  subst hc
  refine two_call h fun Fa h1 hs => ?_
  have hr := row_new wx vs 3
  rw [hvs] at hr
  have hW8 : W ≤ 8 := by rcases isW_cases hw with h | h | h | h <;> omega
  refine Out_Num_yes a la Fa W ns (some ⟨wx.heap.size, 0, none⟩) cap _ h1 hr (fun x hx hm => ?_) (by omega) hw hf (by have := Nat.mul_le_mul_right ns.length hW8; omega)
  injection hx with hx
  subst hx
  exact absurd (hs _ hm) (Nat.lt_irrefl _)
end
end Go.Proofs.YtcklgaenedlbiaaGreat
