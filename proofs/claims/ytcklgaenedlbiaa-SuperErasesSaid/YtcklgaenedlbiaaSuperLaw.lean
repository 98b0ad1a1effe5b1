/-
  Superblocks' places when the power goes: plain laws.
-/
import Derived.Test.YtcklgaenedlbiaaSuperSave
import Derived.Test.YtcklgaenedlbiaaMixed
namespace Go.Proofs.Ytcklgaenedlbiaa
open Go.RowKit

/-! ## blocks of what is safe -/
def blkL (s : List UInt8) (i : Nat) : List UInt8 := (s.drop (256 * i)).take 256
theorem blkL_length {n : Nat} {s : List UInt8} (hs : s.length = 256 * n) (i : Nat) (hi : i < n) : (blkL s i).length = 256 := by
  unfold blkL; rw [List.length_take, List.length_drop, hs]; omega
theorem blkL_sec (s : List UInt8) (i k : Nat) (hk : k < 4) : ((blkL s i).drop (64 * k)).take 64 = secAt s (4 * i + k) := by
  unfold blkL secAt
  rw [List.drop_take, List.drop_drop, List.take_take, show min 64 (256 - 64 * k) = 64 by omega, show 256 * i + 64 * k = 64 * (4 * i + k) by omega]
theorem blkL_secs {n : Nat} {s : List UInt8} (hs : s.length = 256 * n) (i : Nat) (hi : i < n) : secAt s (4 * i) ++ secAt s (4 * i + 1) ++ secAt s (4 * i + 2) ++ secAt s (4 * i + 3) = blkL s i := by
  rw [← secs_self (blkL_length hs i hi)]
  have h0 := blkL_sec s i 0 (by decide)
  rw [Nat.add_zero] at h0
  rw [← h0, ← blkL_sec s i 1 (by decide), ← blkL_sec s i 2 (by decide), ← blkL_sec s i 3 (by decide)]
theorem cutK_sec {n : Nat} (keep : List Bool) (m : Nat) (s : List UInt8) (x : Nat × ByteArray) (hs : s.length = 256 * n) (hx : x.1 < n ∧ x.2.size = 256) : ∀ (k : Nat), k ≤ 4 → ∀ j, secAt (cutK keep m s x k) j = if 4 * x.1 ≤ j ∧ j < 4 * x.1 + k ∧ keep.getD (4 * m + (j - 4 * x.1)) false = true then sect x.2 (j - 4 * x.1) else secAt s j
  | 0, _, j => by rw [if_neg (by omega)]; rfl
  | k + 1, hk, j => by
    rw [cutK_succ]
    by_cases hkp : keep.getD (4 * m + k) false = true
    · rw [if_pos hkp, secAt_lay1 (n := n) _ x k (cutK_length keep m x hx k s (by omega) hs) hx (by omega), cutK_sec keep m s x hs hx k (by omega)]
      by_cases h1 : j = 4 * x.1 + k
      · subst h1
        rw [if_pos rfl, if_pos ⟨by omega, by omega, by rw [show 4 * x.1 + k - 4 * x.1 = k by omega]; exact hkp⟩]
        congr 1; omega
      · rw [if_neg h1]
        by_cases h2 : 4 * x.1 ≤ j ∧ j < 4 * x.1 + k ∧ keep.getD (4 * m + (j - 4 * x.1)) false = true
        · rw [if_pos h2, if_pos ⟨h2.1, by omega, h2.2.2⟩]
        · rw [if_neg h2, if_neg (fun h => h2 ⟨h.1, by omega, h.2.2⟩)]
    · rw [if_neg hkp, cutK_sec keep m s x hs hx k (by omega)]
      by_cases h2 : 4 * x.1 ≤ j ∧ j < 4 * x.1 + k ∧ keep.getD (4 * m + (j - 4 * x.1)) false = true
      · rw [if_pos h2, if_pos ⟨h2.1, by omega, h2.2.2⟩]
      · rw [if_neg h2, if_neg (fun h => h2 ⟨h.1, by
          by_cases h3 : j = 4 * x.1 + k
          · subst h3
            rw [show 4 * x.1 + k - 4 * x.1 = k by omega] at h
            exact absurd h.2.2 hkp
          · omega, h.2.2⟩)]
/-- of one write some sectors are kept: the other blocks are as they were; its own is mixed -/
theorem cutK_blk {n : Nat} (keep : List Bool) (m : Nat) {s : List UInt8} {x : Nat × ByteArray} (hs : s.length = 256 * n) (hx : x.1 < n ∧ x.2.size = 256) (i : Nat) (hi : i < n) :
    blkL (cutK keep m s x 4) i = if i = x.1 then mixN (fun k => keep.getD (4 * m + k) false) (blkL s i) x.2.data.toList 4 else blkL s i := by
  have hl := cutK_length (n := n) keep m x hx 4 s (Nat.le_refl _) hs
  have hsec := cutK_sec (n := n) keep m s x hs hx 4 (Nat.le_refl _)
  rw [← blkL_secs hl i hi]
  by_cases h : i = x.1
  · rw [if_pos h]
    have hk : ∀ k, k < 4 → secAt (cutK keep m s x 4) (4 * i + k) = ((if keep.getD (4 * m + k) false then x.2.data.toList else blkL s i).drop (64 * k)).take 64 := by
      intro k hk
      rw [hsec, show 4 * i + k - 4 * x.1 = k by omega]
      by_cases hkp : keep.getD (4 * m + k) false = true
      · rw [if_pos ⟨by omega, by omega, hkp⟩, if_pos hkp]; rfl
      · rw [if_neg (fun h => hkp h.2.2), if_neg hkp, blkL_sec s i k hk]
    have h0 := hk 0 (by decide)
    rw [Nat.add_zero] at h0
    rw [h0, hk 1 (by decide), hk 2 (by decide), hk 3 (by decide)]
    simp only [mixN, List.nil_append]
  · rw [if_neg h, ← blkL_secs hs i hi]
    have hk : ∀ k, k < 4 → secAt (cutK keep m s x 4) (4 * i + k) = secAt s (4 * i + k) := by
      intro k hk
      rw [hsec, if_neg (by omega)]
    have h0 := hk 0 (by decide)
    rw [Nat.add_zero] at h0
    rw [h0, hk 1 (by decide), hk 2 (by decide), hk 3 (by decide)]
theorem flush1_blk {n : Nat} {s : List UInt8} {x : Nat × ByteArray} (hs : s.length = 256 * n) (hx : x.1 < n ∧ x.2.size = 256) (i : Nat) (hi : i < n) :
    blkL (flushN s [x]) i = if i = x.1 then x.2.data.toList else blkL s i := by
  have h1 : flushN s [x] = layN s x 4 := rfl
  rw [h1, ← cutK_all [true, true, true, true] 0 x (by decide) s 4 (Nat.le_refl _), cutK_blk _ _ hs hx i hi]
  split
  · have hsz : x.2.data.toList.length = 256 := by simpa using hx.2
    rw [mixN_same (o := true) (by decide) hsz]; rfl
  · rfl

/-! ## a device with all written safe -/
structure Still (n : Nat) (d : Dv) : Prop where
  ok : DvOk n d
  loose : d.loose = []
  on : d.off = false
theorem Still.cand {n : Nat} {d : Dv} (h : Still n d) (i : Nat) : d.read i = ⟨(blkL d.safe i).toArray⟩ := by
  unfold Dv.read
  rw [h.loose]
  rfl
/-- what a deed leaves: done; or the power went -/
structure Done (n : Nat) (d : Dv) (x : Nat × ByteArray) (d' : Dv) : Prop where
  still : Still n d'
  same : ∀ i, i < n → i ≠ x.1 → blkL d'.safe i = blkL d.safe i
  own : blkL d'.safe x.1 = x.2.data.toList
  fuse : d.fuse < 0 → d'.fuse < 0
  counts : d'.rd = d.rd ∧ d'.wr = d.wr + 1 ∧ d'.fl = d.fl + 1
  keep : d'.keep = d.keep
structure Gone (n : Nat) (d : Dv) (x : Nat × ByteArray) (d' : Dv) : Prop where
  ok : DvOk n d'
  loose : d'.loose = []
  off : d'.off = true
  same : ∀ i, i < n → i ≠ x.1 → blkL d'.safe i = blkL d.safe i
  own : ∃ kp, blkL d'.safe x.1 = mixN kp (blkL d.safe x.1) x.2.data.toList 4
  fuse : 0 ≤ d.fuse
theorem safeV_still {n : Nat} {d : Dv} (h : Still n d) (x : Nat × ByteArray) (hx : x.1 < n ∧ x.2.size = 256) :
    (safeV d x).1 = 0 ∧ Done n d x (safeV d x).2 ∨ (safeV d x).1 = 4 ∧ Gone n d x (safeV d x).2 := by
  obtain ⟨safe, loose, off, fuse, keep, rd, wr, fl⟩ := d
  obtain ⟨hok, hl, ho⟩ := h
  simp only at hl ho
  subst hl ho
  have hs := hok.size
  simp only at hs
  have hsz : x.2.data.toList.length = 256 := by simpa using hx.2
  have hfu := hok.fuse
  simp only at hfu
  have okW := hok.write x hx
  have okF := okW.flush
  by_cases h0 : fuse = 0
  · right
    subst h0
    have e1 : (⟨safe, [], false, 0, keep, rd, wr, fl⟩ : Dv).burn = ⟨safe, [], true, 0, keep, rd, wr, fl⟩ := by
      simp [Dv.burn, Dv.cut, cutN]
    have e2 : (⟨safe, [], false, 0, keep, rd, wr, fl⟩ : Dv).write x = ⟨safe, [], true, 0, keep, rd, wr, fl⟩ := by
      unfold Dv.write; rw [e1]; rfl
    have e3 : safeV ⟨safe, [], false, 0, keep, rd, wr, fl⟩ x = (4, ⟨safe, [], true, 0, keep, rd, wr, fl⟩) := by
      unfold safeV; rw [e1, e2]; rfl
    rw [e3]
    rw [e2] at okW
    exact ⟨rfl, okW, rfl, rfl, fun _ _ _ => rfl, ⟨fun _ => false, (mixN_same (o := false) (fun _ _ => rfl) (blkL_length hs x.1 hx.1)).symm⟩, Int.le_refl _⟩
  by_cases h1 : fuse = 1
  · right
    subst h1
    have e1 : (⟨safe, [], false, 1, keep, rd, wr, fl⟩ : Dv).burn = ⟨safe, [], false, 0, keep, rd, wr, fl⟩ := by
      simp [Dv.burn]
    have e2 : (⟨safe, [], false, 1, keep, rd, wr, fl⟩ : Dv).write x = ⟨safe, [x], false, 0, keep, rd, wr + 1, fl⟩ := by
      unfold Dv.write; rw [e1]; rfl
    have e4 : (⟨safe, [x], false, 0, keep, rd, wr + 1, fl⟩ : Dv).burn = ⟨cutK keep 0 safe x 4, [], true, 0, keep, rd, wr + 1, fl⟩ := by
      simp [Dv.burn, Dv.cut, cutN]
    have e5 : (⟨safe, [x], false, 0, keep, rd, wr + 1, fl⟩ : Dv).flush = ⟨cutK keep 0 safe x 4, [], true, 0, keep, rd, wr + 1, fl⟩ := by
      unfold Dv.flush; rw [e4]; rfl
    have e3 : safeV ⟨safe, [], false, 1, keep, rd, wr, fl⟩ x = (4, ⟨cutK keep 0 safe x 4, [], true, 0, keep, rd, wr + 1, fl⟩) := by
      unfold safeV; rw [e1, e2, e4, e5]; rfl
    rw [e3]
    rw [e2, e5] at okF
    refine ⟨rfl, okF, rfl, rfl, fun i hi hne => ?_, ⟨fun k => keep.getD (4 * 0 + k) false, ?_⟩, show (0 : Int) ≤ 1 by decide⟩
    · simp only; rw [cutK_blk keep 0 hs hx i hi, if_neg hne]
    · simp only; rw [cutK_blk keep 0 hs hx x.1 hx.1, if_pos rfl]
  · left
    obtain ⟨f1, hf1⟩ : ∃ f, (⟨safe, [], false, fuse, keep, rd, wr, fl⟩ : Dv).burn = ⟨safe, [], false, f, keep, rd, wr, fl⟩ ∧ f ≠ 0 ∧ (fuse < 0 → f < 0) := by
      by_cases hp : 0 < fuse
      · exact ⟨fuse - 1, by simp [Dv.burn, h0, hp], by omega, by omega⟩
      · exact ⟨fuse, by simp [Dv.burn, h0, hp], h0, id⟩
    obtain ⟨e1, hf0, hfn⟩ := hf1
    have e2 : (⟨safe, [], false, fuse, keep, rd, wr, fl⟩ : Dv).write x = ⟨safe, [x], false, f1, keep, rd, wr + 1, fl⟩ := by
      unfold Dv.write; rw [e1]; rfl
    obtain ⟨f2, e4, hfn2⟩ : ∃ f, (⟨safe, [x], false, f1, keep, rd, wr + 1, fl⟩ : Dv).burn = ⟨safe, [x], false, f, keep, rd, wr + 1, fl⟩ ∧ (f1 < 0 → f < 0) := by
      by_cases hp : 0 < f1
      · exact ⟨f1 - 1, by simp [Dv.burn, hf0, hp], by omega⟩
      · exact ⟨f1, by simp [Dv.burn, hf0, hp], id⟩
    have e5 : (⟨safe, [x], false, f1, keep, rd, wr + 1, fl⟩ : Dv).flush = ⟨flushN safe [x], [], false, f2, keep, rd, wr + 1, fl + 1⟩ := by
      unfold Dv.flush; rw [e4]; rfl
    have e3 : safeV ⟨safe, [], false, fuse, keep, rd, wr, fl⟩ x = (0, ⟨flushN safe [x], [], false, f2, keep, rd, wr + 1, fl + 1⟩) := by
      unfold safeV; rw [e1, e2, e4, e5]; rfl
    rw [e3]
    rw [e2, e5] at okF
    refine ⟨rfl, ⟨okF, rfl, rfl⟩, fun i hi hne => ?_, ?_, fun h => hfn2 (hfn h), ⟨rfl, rfl, rfl⟩, rfl⟩
    · simp only; rw [flush1_blk hs hx i hi, if_neg hne]
    · simp only; rw [flush1_blk hs hx x.1 hx.1, if_pos rfl]

/-! ## the best one of two blocks -/
def Bad (L : List UInt8) : Prop := (superReadV ⟨L.toArray⟩).2 ≠ 0
def best1 (n : Nat) (B : Nat → List UInt8) : Sup := bestP n zeroSup 0 ⟨(B 0).toArray⟩
def best2 (n : Nat) (B : Nat → List UInt8) : Sup := bestP n (best1 n B) 1 ⟨(B 1).toArray⟩
def bestO (s : Sup) : Sup × Int := if s.epoch = 0 then (zeroSup, 7) else (s, 0)
theorem Still.best {n : Nat} {d : Dv} (h : Still n d) : bestV d n = bestO (best2 n (blkL d.safe)) := by
  unfold bestV bestO best2 best1
  simp only [bestN, h.cand]
theorem bad_of {L : List UInt8} (h : L.length = 256) (hr : readR L = .error 5) : Bad L := by
  have hsz : (⟨L.toArray⟩ : ByteArray).size = 256 := by show L.toArray.size = 256; rw [List.size_toArray, h]
  have hv : readV ⟨L.toArray⟩ = (0, 0, ⟨#[]⟩, 5) := by
    unfold readV
    rw [if_pos hsz]
    show (match readR L with | .ok (e, q, s) => ((e : Int), (q : Int), (⟨s.toArray⟩ : ByteArray), (0 : Int)) | .error k => (0, 0, ⟨#[]⟩, k)) = _
    rw [hr]
  unfold Bad superReadV
  rw [hv]
  simp
theorem bad_zeros : Bad (List.replicate 256 0) := bad_of List.length_replicate (readR_zero _ 0 (by decide) (mark_zeros 0 (by decide)))
theorem mixN_length {A B : List UInt8} (hA : A.length = 256) (hB : B.length = 256) (kp : Nat → Bool) : (mixN kp A B 4).length = 256 := by
  have hl : ∀ j, (if kp j then B else A).length = 256 := fun j => by split <;> assumption
  simp only [mixN, List.length_append, List.length_take, List.length_drop, hl, List.length_nil]
  omega
theorem bestP_bad {n : Nat} {acc : Sup} {k : Nat} {L : List UInt8} (h : Bad L) : bestP n acc k ⟨L.toArray⟩ = acc := by
  unfold bestP
  rw [if_neg (fun hh => h hh.1)]
theorem laid_list (s : Sup) : (⟨((superLayV s).1.data.toList).toArray⟩ : ByteArray) = (superLayV s).1 := by simp
theorem bestP_laid {n : Nat} {acc s : Sup} {k : Nat} (hg : goodB s = true) (hb : s.blocks = n) (hk : placeOf s = k) : bestP n acc k ⟨((superLayV s).1.data.toList).toArray⟩ = if acc.epoch < s.epoch then s else acc := by
  obtain ⟨_, _, h3⟩ := superRead_laid hg
  obtain ⟨_, _, _, _, he1, _⟩ := good_facts hg
  rw [laid_list]
  unfold bestP
  rw [h3]
  have : s.epoch % 2 = (k : Int) := by rw [← hk]; unfold placeOf; omega
  by_cases h : acc.epoch < s.epoch
  · rw [if_pos h, if_pos ⟨rfl, hb, this, h⟩]
  · rw [if_neg h, if_neg (fun hh => h hh.2.2.2)]
theorem bestP_cases (n : Nat) (acc : Sup) (k : Nat) (L : List UInt8) : bestP n acc k ⟨L.toArray⟩ = acc ∨
    ((bestP n acc k ⟨L.toArray⟩).epoch % 2 = (k : Int) ∧ 1 ≤ (bestP n acc k ⟨L.toArray⟩).epoch ∧ acc.epoch < (bestP n acc k ⟨L.toArray⟩).epoch ∧ bestP n acc k ⟨L.toArray⟩ = bestP n zeroSup k ⟨L.toArray⟩) := by
  unfold bestP
  by_cases h : (superReadV ⟨L.toArray⟩).2 = 0 ∧ (superReadV ⟨L.toArray⟩).1.blocks = n ∧ (superReadV ⟨L.toArray⟩).1.epoch % 2 = k ∧ acc.epoch < (superReadV ⟨L.toArray⟩).1.epoch
  · right
    obtain ⟨_, _, _, _, he1, _⟩ := good_facts (superRead_good h.1)
    rw [if_pos h, if_pos ⟨h.1, h.2.1, h.2.2.1, show zeroSup.epoch < _ from by show (0 : Int) < _; omega⟩]
    exact ⟨h.2.2.1, he1, h.2.2.2, rfl⟩
  · left
    rw [if_neg h]
theorem best1_cases (n : Nat) (B : Nat → List UInt8) : best1 n B = zeroSup ∨ ((best1 n B).epoch % 2 = 0 ∧ 1 ≤ (best1 n B).epoch) := by
  rcases bestP_cases n zeroSup 0 (B 0) with h | ⟨h1, h2, _⟩
  · exact .inl h
  · exact .inr ⟨h1, h2⟩
theorem best2_cases (n : Nat) (B : Nat → List UInt8) : best2 n B = best1 n B ∨ ((best2 n B).epoch % 2 = 1 ∧ (best1 n B).epoch < (best2 n B).epoch ∧ best2 n B = bestP n zeroSup 1 ⟨(B 1).toArray⟩) := by
  rcases bestP_cases n (best1 n B) 1 (B 1) with h | ⟨h1, _, h3, h4⟩
  · exact .inl h
  · exact .inr ⟨h1, h3, h4⟩
theorem best1_even (n : Nat) (B : Nat → List UInt8) : (best1 n B).epoch % 2 = 0 ∧ 0 ≤ (best1 n B).epoch := by
  rcases best1_cases n B with h | ⟨h1, h2⟩
  · rw [h]; exact ⟨rfl, Int.le_refl _⟩
  · exact ⟨h1, by omega⟩
theorem best2_ge (n : Nat) (B : Nat → List UInt8) : 0 ≤ (best2 n B).epoch := by
  have := best1_even n B
  rcases best2_cases n B with h | ⟨_, h2, _⟩
  · rw [h]; exact this.2
  · omega
theorem bestO_epoch (s : Sup) : (bestO s).1.epoch = s.epoch := by
  unfold bestO
  split
  · rename_i h; rw [h]; rfl
  · rfl
theorem bestO_good {s : Sup} (h : s.epoch ≠ 0) : bestO s = (s, 0) := by unfold bestO; rw [if_neg h]
theorem place_lt (s : Sup) : placeOf s < 2 := by unfold placeOf; omega
/-- the power went in a save: that which was; or the new one -/
theorem best_saved {n : Nat} {B B' : Nat → List UInt8} {s : Sup} (hg : goodB s = true) (hb : s.blocks = n) (he : s.epoch = (best2 n B).epoch + 1) (hsame : ∀ i, i < 2 → i ≠ placeOf s → B' i = B i) :
    ((B' (placeOf s) = B (placeOf s) ∨ Bad (B' (placeOf s))) → best2 n B' = best2 n B) ∧ (B' (placeOf s) = (superLayV s).1.data.toList → best2 n B' = s) := by
  obtain ⟨_, _, _, _, he1, _⟩ := good_facts hg
  have hev := best1_even n B
  have hpl : placeOf s = 0 ∨ placeOf s = 1 := by have := place_lt s; omega
  rcases hpl with hp | hp
  · have hse : s.epoch % 2 = 0 := by unfold placeOf at hp; omega
    have h1 := hsame 1 (by decide) (by omega)
    have hc : (best2 n B).epoch % 2 = 1 ∧ (best1 n B).epoch < (best2 n B).epoch ∧ best2 n B = bestP n zeroSup 1 ⟨(B 1).toArray⟩ := by
      rcases best2_cases n B with h | h
      · exfalso; rw [h] at he; omega
      · exact h
    rw [hp]
    refine ⟨?_, fun h => ?_⟩
    · rintro (h | h)
      · unfold best2 best1; rw [h, h1]
      · rw [hc.2.2]
        unfold best2 best1
        rw [bestP_bad h, h1]
    · have e1 : best1 n B' = s := by
        unfold best1
        rw [h, bestP_laid hg hb hp, if_pos (by show (0 : Int) < _; omega)]
      rcases best2_cases n B' with h2 | ⟨_, h3, h4⟩
      · rw [h2, e1]
      · exfalso
        rw [e1] at h3
        rw [h1, ← hc.2.2] at h4
        rw [h4] at h3
        omega
  · have hse : s.epoch % 2 = 1 := by unfold placeOf at hp; omega
    have h0 := hsame 0 (by decide) (by omega)
    have hc : best2 n B = best1 n B := by
      rcases best2_cases n B with h | h
      · exact h
      · exfalso; omega
    have e1 : best1 n B' = best1 n B := by unfold best1; rw [h0]
    rw [hp]
    refine ⟨?_, fun h => ?_⟩
    · rintro (h | h)
      · unfold best2; rw [e1, h]
      · rw [hc]
        unfold best2
        rw [bestP_bad h, e1]
    · unfold best2
      rw [h, bestP_laid hg hb hp, e1, if_pos (by rw [hc] at he; omega)]
/-- the power went in an erase: the best one stays, or none -/
theorem best_erased {n : Nat} {B B' : Nat → List UInt8} (_he : (best2 n B).epoch ≠ 0) (hsame : B' (placeOf (best2 n B)) = B (placeOf (best2 n B))) (hoth : B' (1 - placeOf (best2 n B)) = B (1 - placeOf (best2 n B)) ∨ Bad (B' (1 - placeOf (best2 n B)))) : best2 n B' = best2 n B := by
  have hev := best1_even n B
  have hpl : placeOf (best2 n B) = 0 ∨ placeOf (best2 n B) = 1 := by have := place_lt (best2 n B); omega
  have hge := best2_ge n B
  rcases hpl with hp | hp
  · rw [hp] at hsame hoth
    have hc : best2 n B = best1 n B := by
      rcases best2_cases n B with h | h
      · exact h
      · exfalso; unfold placeOf at hp; omega
    have e1 : best1 n B' = best1 n B := by unfold best1; rw [hsame]
    rcases hoth with h | h
    · unfold best2; rw [e1]; rw [show (1 : Nat) - 0 = 1 from rfl] at h; rw [h]
    · rw [hc]
      unfold best2
      rw [bestP_bad h, e1]
  · rw [hp] at hsame hoth
    have hc : best2 n B = bestP n zeroSup 1 ⟨(B 1).toArray⟩ := by
      rcases best2_cases n B with h | h
      · exfalso; rw [h] at hp; unfold placeOf at hp; omega
      · exact h.2.2
    rcases hoth with h | h
    · rw [show (1 : Nat) - 1 = 0 from rfl] at h
      unfold best2 best1; rw [h, hsame]
    · rw [hc]
      unfold best2 best1
      rw [bestP_bad h, hsame]
theorem best_none {n : Nat} {B : Nat → List UInt8} (h0 : Bad (B 0)) (h1 : Bad (B 1)) : best2 n B = zeroSup := by
  unfold best2 best1
  rw [bestP_bad h0, bestP_bad h1]
/-- of two that were saved it is one -/
theorem best_two {n : Nat} {B B' : Nat → List UInt8} {x y : Sup} (hx : goodB x = true) (hxb : x.blocks = n) (hy : goodB y = true) (hyb : y.blocks = n)
    (h1 : B (placeOf x) = (superLayV x).1.data.toList) (h2 : ∀ i, i < 2 → i ≠ placeOf x → Bad (B i)) (h3 : B' (placeOf y) = (superLayV y).1.data.toList) (h4 : ∀ i, i < 2 → i ≠ placeOf y → B' i = B i) :
    best2 n B' = x ∨ best2 n B' = y := by
  obtain ⟨_, _, _, _, hx1, _⟩ := good_facts hx
  obtain ⟨_, _, _, _, hy1, _⟩ := good_facts hy
  have hpx : placeOf x = 0 ∨ placeOf x = 1 := by have := place_lt x; omega
  have hpy : placeOf y = 0 ∨ placeOf y = 1 := by have := place_lt y; omega
  rcases hpx with px | px <;> rcases hpy with py | py
  · right
    unfold best2 best1
    rw [← py, h3, bestP_laid hy hyb rfl, h4 1 (by decide) (by omega), bestP_bad (h2 1 (by decide) (by omega)), if_pos (by show (0 : Int) < _; omega)]
  · unfold best2 best1
    rw [← py, h3, bestP_laid hy hyb rfl, h4 0 (by decide) (by omega), ← px, h1, bestP_laid hx hxb rfl, if_pos (show zeroSup.epoch < x.epoch by show (0 : Int) < _; omega)]
    split
    · exact .inr rfl
    · exact .inl rfl
  · unfold best2 best1
    rw [← py, h3, bestP_laid hy hyb rfl, if_pos (show zeroSup.epoch < y.epoch by show (0 : Int) < _; omega), h4 1 (by decide) (by omega), ← px, h1, bestP_laid hx hxb rfl]
    split
    · exact .inl rfl
    · exact .inr rfl
  · right
    unfold best2 best1
    rw [← py, h3, bestP_laid hy hyb rfl, h4 0 (by decide) (by omega), bestP_bad (h2 0 (by decide) (by omega)), if_pos (by show (0 : Int) < _; omega)]

/-! ## saves and erases -/
/-- with power again -/
def again (d : Dv) (keep : List Bool) : Dv := (d.cut keep).come
theorem zeros256_list : zeros256.data.toList = List.replicate 256 0 := by unfold zeros256; simp
theorem Still.again {n : Nat} {d : Dv} (h : Still n d) (keep : List Bool) : Still n (again d keep) ∧ (again d keep).fuse < 0 ∧ (again d keep).safe = d.safe := by
  have e : Go.Proofs.Ytcklgaenedlbiaa.again d keep = { d with off := false, fuse := -1 } := by
    obtain ⟨safe, loose, off, fuse, kp, rd, wr, fl⟩ := d
    obtain ⟨hok, hl, ho⟩ := h
    simp only at hl ho
    subst hl ho
    simp [Go.Proofs.Ytcklgaenedlbiaa.again, Dv.cut, Dv.come, cutN]
  rw [e]
  exact ⟨⟨⟨h.ok.n1, h.ok.n2, h.ok.size, h.ok.loose, by simp⟩, h.loose, rfl⟩, by simp, rfl⟩
structure Off (n : Nat) (d : Dv) : Prop where
  ok : DvOk n d
  loose : d.loose = []
  off : d.off = true
theorem Off.again {n : Nat} {d : Dv} (h : Off n d) (keep : List Bool) : Still n (again d keep) ∧ (again d keep).fuse < 0 ∧ (again d keep).safe = d.safe := by
  have e : Go.Proofs.Ytcklgaenedlbiaa.again d keep = { d with off := false, fuse := -1 } := by
    obtain ⟨safe, loose, off, fuse, kp, rd, wr, fl⟩ := d
    obtain ⟨hok, hl, ho⟩ := h
    simp only at hl ho
    subst hl ho
    simp [Go.Proofs.Ytcklgaenedlbiaa.again, Dv.cut, Dv.come]
  rw [e]
  exact ⟨⟨⟨h.ok.n1, h.ok.n2, h.ok.size, h.ok.loose, by simp⟩, h.loose, rfl⟩, by simp, rfl⟩
/-- a save: done, or the power went -/
theorem saveV_still {n : Nat} {d : Dv} {s : Sup} (h : Still n d) (hn : 2 ≤ n) (hg : goodB s = true) (hb : s.blocks = n) :
    ((saveV d n s).1 = 0 ∧ Still n (saveV d n s).2 ∧ (d.fuse < 0 → (saveV d n s).2.fuse < 0) ∧ (saveV d n s).2.fl = d.fl + 2 ∧ (∀ i, i < n → i ≠ placeOf s → blkL (saveV d n s).2.safe i = blkL d.safe i) ∧ blkL (saveV d n s).2.safe (placeOf s) = (superLayV s).1.data.toList) ∨
    ((saveV d n s).1 = 4 ∧ Off n (saveV d n s).2 ∧ 0 ≤ d.fuse ∧ (∀ i, i < n → i ≠ placeOf s → blkL (saveV d n s).2.safe i = blkL d.safe i) ∧
      (blkL (saveV d n s).2.safe (placeOf s) = blkL d.safe (placeOf s) ∨ Bad (blkL (saveV d n s).2.safe (placeOf s)) ∨ blkL (saveV d n s).2.safe (placeOf s) = (superLayV s).1.data.toList)) := by
  have hp := place_lt s
  obtain ⟨_, h2, _⟩ := superRead_laid hg
  have hl2 : (superLayV s).1.data.toList.length = 256 := by simpa using h2
  have e : saveV d n s = twoV d (placeOf s, zeros256) (placeOf s, (superLayV s).1) := by unfold saveV; rw [if_pos ⟨hg, hb⟩]
  rw [e]
  unfold twoV
  have hz : (placeOf s, zeros256).1 < n ∧ (placeOf s, zeros256).2.size = 256 := ⟨by simp only; omega, zeros256_size⟩
  have hy : (placeOf s, (superLayV s).1).1 < n ∧ (placeOf s, (superLayV s).1).2.size = 256 := ⟨by simp only; omega, h2⟩
  rcases safeV_still h _ hz with ⟨c1, g1⟩ | ⟨c1, g1⟩
  · rw [if_pos c1]
    rcases safeV_still g1.still _ hy with ⟨c2, g2⟩ | ⟨c2, g2⟩
    · left
      refine ⟨c2, g2.still, fun hf => g2.fuse (g1.fuse hf), by rw [g2.counts.2.2, g1.counts.2.2], fun i hi hne => by rw [g2.same i hi hne, g1.same i hi hne], g2.own⟩
    · right
      refine ⟨c2, ⟨g2.ok, g2.loose, g2.off⟩, ?_, fun i hi hne => by rw [g2.same i hi hne, g1.same i hi hne], ?_⟩
      · have := g2.fuse
        by_cases hf : d.fuse < 0
        · have := g1.fuse hf; omega
        · omega
      · obtain ⟨kp, hkp⟩ := g2.own
        have h3 := g1.own
        simp only at hkp h3
        rw [h3, zeros256_list] at hkp
        rw [hkp]
        rcases zeros_mix hl2 kp with h | h
        · exact .inr (.inr h)
        · exact .inr (.inl (bad_of (mixN_length List.length_replicate hl2 kp) h))
  · rw [if_neg (by rw [c1]; decide)]
    right
    refine ⟨c1, ⟨g1.ok, g1.loose, g1.off⟩, g1.fuse, g1.same, ?_⟩
    obtain ⟨kp, hkp⟩ := g1.own
    simp only at hkp
    rw [zeros256_list] at hkp
    rw [hkp]
    have hA : (blkL d.safe (placeOf s)).length = 256 := blkL_length h.ok.size _ (by omega)
    rcases mix_zeros hA kp with h | h
    · exact .inl h
    · exact .inr (.inl (bad_of (mixN_length hA List.length_replicate kp) h))
/-- an erase: none is left; or the power went: the best one is whole, or none is -/
theorem eraseV_still {n : Nat} {d : Dv} (h : Still n d) (hn : 2 ≤ n) :
    ((eraseV d n).1 = 0 ∧ Still n (eraseV d n).2 ∧ best2 n (blkL (eraseV d n).2.safe) = zeroSup) ∨
    ((eraseV d n).1 = 4 ∧ Off n (eraseV d n).2 ∧ 0 ≤ d.fuse ∧ ((best2 n (blkL d.safe)).epoch ≠ 0 → best2 n (blkL (eraseV d n).2.safe) = zeroSup ∨ best2 n (blkL (eraseV d n).2.safe) = best2 n (blkL d.safe))) := by
  have hpl : placeOf (bestV d n).1 = placeOf (best2 n (blkL d.safe)) := by rw [h.best]; unfold placeOf; rw [bestO_epoch]
  unfold eraseV
  rw [hpl]
  obtain ⟨S, hS⟩ : ∃ S, S = best2 n (blkL d.safe) := ⟨_, rfl⟩
  have hp := place_lt S
  have her : ∀ B' : Nat → List UInt8, S.epoch ≠ 0 → B' (placeOf S) = blkL d.safe (placeOf S) → (B' (1 - placeOf S) = blkL d.safe (1 - placeOf S) ∨ Bad (B' (1 - placeOf S))) → best2 n B' = S := by
    rw [hS]; exact fun B' => best_erased
  rw [← hS]
  obtain ⟨p, hpp⟩ : ∃ p, p = placeOf S := ⟨_, rfl⟩
  rw [← hpp] at hp her ⊢
  obtain ⟨d0, hd0⟩ : ∃ d0, d0 = { d with rd := d.rd + 2 } := ⟨_, rfl⟩
  have h0 : Still n d0 := by rw [hd0]; exact ⟨⟨h.ok.n1, h.ok.n2, h.ok.size, h.ok.loose, h.ok.fuse⟩, h.loose, h.on⟩
  have hs0 : d0.safe = d.safe := by rw [hd0]
  have hf0 : d0.fuse = d.fuse := by rw [hd0]
  rw [← hd0]
  unfold twoV
  have hz1 : (1 - p, zeros256).1 < n ∧ (1 - p, zeros256).2.size = 256 := ⟨by simp only; omega, zeros256_size⟩
  have hz2 : (p, zeros256).1 < n ∧ (p, zeros256).2.size = 256 := ⟨by simp only; omega, zeros256_size⟩
  rcases safeV_still h0 _ hz1 with ⟨c1, g1⟩ | ⟨c1, g1⟩
  · rw [if_pos c1]
    have hb1 : Bad (blkL (safeV d0 (1 - p, zeros256)).2.safe (1 - p)) := by rw [g1.own, zeros256_list]; exact bad_zeros
    rcases safeV_still g1.still _ hz2 with ⟨c2, g2⟩ | ⟨c2, g2⟩
    · left
      refine ⟨c2, g2.still, ?_⟩
      have hb2 : Bad (blkL (safeV (safeV d0 (1 - p, zeros256)).2 (p, zeros256)).2.safe p) := by rw [g2.own, zeros256_list]; exact bad_zeros
      rw [← g2.same (1 - p) (by omega) (by simp only; omega)] at hb1
      have hp2 : p = 0 ∨ p = 1 := by omega
      rcases hp2 with rfl | rfl
      · exact best_none hb2 hb1
      · exact best_none hb1 hb2
    · right
      refine ⟨c2, ⟨g2.ok, g2.loose, g2.off⟩, ?_, fun he => ?_⟩
      · have := g2.fuse
        by_cases hf : d0.fuse < 0
        · have := g1.fuse hf; omega
        · omega
      · rw [← g2.same (1 - p) (by omega) (by simp only; omega)] at hb1
        obtain ⟨kp, hkp⟩ := g2.own
        have h3 := g1.same p (by omega) (by simp only; omega)
        simp only at hkp
        rw [h3, hs0, zeros256_list] at hkp
        have hA : (blkL d.safe p).length = 256 := blkL_length h.ok.size _ (by omega)
        rcases mix_zeros hA kp with h | h
        · right
          exact her _ he (by rw [hkp, h]) (.inr hb1)
        · left
          have hb2 : Bad (blkL (safeV (safeV d0 (1 - p, zeros256)).2 (p, zeros256)).2.safe p) := by rw [hkp]; exact bad_of (mixN_length hA List.length_replicate kp) h
          have hp2 : p = 0 ∨ p = 1 := by omega
          rcases hp2 with rfl | rfl
          · exact best_none hb2 hb1
          · exact best_none hb1 hb2
  · rw [if_neg (by rw [c1]; decide)]
    right
    refine ⟨c1, ⟨g1.ok, g1.loose, g1.off⟩, by rw [← hf0]; exact g1.fuse, fun he => .inr ?_⟩
    have h3 := g1.same p (by omega) (by simp only; omega)
    obtain ⟨kp, hkp⟩ := g1.own
    simp only at hkp
    rw [hs0, zeros256_list] at hkp
    have hA : (blkL d.safe (1 - p)).length = 256 := blkL_length h.ok.size _ (by omega)
    refine her _ he (by rw [h3, hs0]) ?_
    rcases mix_zeros hA kp with h | h
    · exact .inl (by rw [hkp, h])
    · exact .inr (by rw [hkp]; exact bad_of (mixN_length hA List.length_replicate kp) h)
end Go.Proofs.Ytcklgaenedlbiaa
