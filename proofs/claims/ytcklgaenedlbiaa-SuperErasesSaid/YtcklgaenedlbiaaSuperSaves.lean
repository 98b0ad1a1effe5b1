/-
  SuperSaves: walked.
-/
import Derived.Test.YtcklgaenedlbiaaSuperLaid
namespace Go.Proofs.Ytcklgaenedlbiaa
open Go.RowKit Go.Sort

def supCells (s : Sup) : List Value := s.vals.toList
theorem sup_at : ∀ (l : List Sup) (i j : Nat) (x : Sup) (v : Value), l[i]? = some x → (supCells x)[j]? = some v → (l.flatMap supCells)[i * 7 + j]? = some v
  | y :: l, 0, j, x, v, h, hv => by
    simp only [List.getElem?_cons_zero, Option.some.injEq] at h
    subst h
    rw [List.flatMap_cons, List.getElem?_append_left (by have := (List.getElem?_eq_some_iff.1 hv).1; omega)]
    rw [Nat.zero_mul, Nat.zero_add]; exact hv
  | y :: l, i + 1, j, x, v, h, hv => by
    rw [List.getElem?_cons_succ] at h
    have ih := sup_at l i j x v h hv
    rw [List.flatMap_cons, List.getElem?_append_right (by show 7 ≤ _; omega)]
    rw [show (i + 1) * 7 + j - (supCells y).length = i * 7 + j by show (i + 1) * 7 + j - 7 = _; omega]
    exact ih
theorem again_room (d : Dv) (keep : List Bool) : (again d keep).room ≤ d.room := by
  have h := d.cut_same keep
  have h2 : (again d keep).loose = (d.cut keep).loose ∧ (again d keep).rd = (d.cut keep).rd ∧ (again d keep).wr = (d.cut keep).wr ∧ (again d keep).fl = (d.cut keep).fl := by
    unfold again Dv.come
    split <;> exact ⟨rfl, rfl, rfl, rfl⟩
  unfold Dv.room
  rw [h2.1, h2.2.1, h2.2.2.1, h2.2.2.2]
  omega
theorem save_round {d : Dv} {s : Sup} (h : Still 64 d) (hg : goodB s = true) (hb : s.blocks = 64) (he : s.epoch = (best2 64 (blkL d.safe)).epoch + 1) (keep : List Bool) :
    ∃ c d2, saveV d 64 s = (c, d2) ∧ Still 64 (again d2 keep) ∧ (again d2 keep).fuse < 0 ∧ (again d2 keep).room ≤ d.room + 6 ∧
      ((c = 0 ∧ best2 64 (blkL (again d2 keep).safe) = s) ∨ (c = 4 ∧ d2.off = true ∧ 0 ≤ d.fuse ∧ (best2 64 (blkL (again d2 keep).safe) = s ∨ best2 64 (blkL (again d2 keep).safe) = best2 64 (blkL d.safe)))) := by
  have hr := saveV_room d 64 s
  have hr2 := again_room (saveV d 64 s).2 keep
  have hp := place_lt s
  have hsv := fun B' hs => best_saved (n := 64) (B := blkL d.safe) (B' := B') hg hb he hs
  rcases saveV_still h (by decide) hg hb with ⟨c, st, _, _, o, w⟩ | ⟨c, st, hf, o, w⟩
  · obtain ⟨a1, a2, a3⟩ := st.again keep
    refine ⟨0, (saveV d 64 s).2, Prod.ext c rfl, a1, a2, by omega, .inl ⟨rfl, ?_⟩⟩
    rw [a3]
    exact (hsv _ (fun i hi hne => o i (by omega) hne)).2 w
  · obtain ⟨a1, a2, a3⟩ := st.again keep
    refine ⟨4, (saveV d 64 s).2, Prod.ext c rfl, a1, a2, by omega, .inr ⟨rfl, st.off, hf, ?_⟩⟩
    rw [a3]
    have h2 := hsv _ (fun i hi hne => o i (by omega) hne)
    rcases w with w | w | w
    · exact .inr (h2.1 (.inl w))
    · exact .inr (h2.1 (.inr w))
    · exact .inl (h2.2 w)
theorem bestP_good {n : Nat} {acc : Sup} (h : acc.epoch = 0 ∨ goodB acc = true ∧ acc.blocks = n) (k : Nat) (b : ByteArray) : (bestP n acc k b).epoch = 0 ∨ goodB (bestP n acc k b) = true ∧ (bestP n acc k b).blocks = n := by
  unfold bestP
  split
  · rename_i hc
    exact .inr ⟨superRead_good hc.1, hc.2.1⟩
  · exact h
theorem best2_good (n : Nat) (B : Nat → List UInt8) : (best2 n B).epoch = 0 ∨ goodB (best2 n B) = true ∧ (best2 n B).blocks = n := bestP_good (bestP_good (.inl rfl) _ _) _ _
/-- what Best tells -/
theorem bestO_told (n : Nat) (B : Nat → List UInt8) : 0 ≤ (bestO (best2 n B)).1.epoch ∧ (bestO (best2 n B)).1.epoch ≤ 2147483647 ∧ (((bestO (best2 n B)).2 = 0 ∧ (bestO (best2 n B)).1.blocks = n) ∨ (bestO (best2 n B)).2 = 7) := by
  have hge := best2_ge n B
  rcases best2_good n B with h | ⟨h1, h2⟩
  · unfold bestO; rw [if_pos h]; exact ⟨Int.le_refl _, by show (0 : Int) ≤ _; decide, .inr rfl⟩
  · obtain ⟨_, _, _, _, he1, he2, _⟩ := good_facts h1
    rw [bestO_good (by omega)]
    exact ⟨hge, he2, .inl ⟨rfl, h2⟩⟩
/-- at the head of a round -/
structure Rnd (w wx : World) (p g : Nat) (d : Dv) (F : List Nat) (i : Nat) (e : Int) : Prop where
  st : St w wx p d F [(g, (bestO (best2 64 (blkL d.safe))).1.vals)]
  code : e = (bestO (best2 64 (blkL d.safe))).2
  still : Still 64 d
  fuse : d.fuse < 0
  room : d.room ≤ 10 + 10 * i
theorem neq_epoch {a b : Int} (h : b = a + 1) : (a == b) = false := by rw [beq_eq_false_iff_ne]; omega

abbrev Tup7 := Int × Int × Int × Int × Int × Int × Int
def toSup (x : Tup7) : Sup := ⟨x.1, x.2.1, x.2.2.1, x.2.2.2.1, x.2.2.2.2.1, x.2.2.2.2.2.1, x.2.2.2.2.2.2⟩
end Go.Proofs.Ytcklgaenedlbiaa
