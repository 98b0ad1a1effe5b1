/-
  The document's superblocks, read: walked.
-/
import Derived.Test.YtjeoelhenlckaaaSuperRef
namespace Go.Proofs.Ytjeoelhenlckaaa
open Go.RowKit Go.Sort

structure RSt (w wx : World) (p g2 g9 : Nat) (r : ByteArray) (b : Bool) (vs : Array Value) : Prop where
  bel : Below w.heap.size w wx
  rin : RefAt wx p r b
  z : R0 wx g2 50 #[.int .i64 0, .int .i64 0, .int .i64 0, .int .i64 0, .int .i64 0, .int .i64 0, .int .i64 0]
  row : R0 wx g9 50 vs
  pg : w.heap.size ≤ p ∧ w.heap.size ≤ g2 ∧ w.heap.size ≤ g9
  ne : p ≠ g2 ∧ p ≠ g9 ∧ g2 ≠ g9
theorem RSt.num {w wx w' : World} {p g2 g9 : Nat} {r r' : ByteArray} {b b' : Bool} {vs : Array Value} (h : RSt w wx p g2 g9 r b vs) (hk : Keeps [p] wx w') (hi : RefAt w' p r' b') : RSt w w' p g2 g9 r' b' vs :=
  ⟨Keeps.below1 h.bel hk h.pg.1, hi, h.z.keeps hk (by simp; exact Ne.symm h.ne.1), h.row.keeps hk (by simp; exact Ne.symm h.ne.2.1), h.pg, h.ne⟩
theorem RSt.set {w wx : World} {p g2 g9 : Nat} {r : ByteArray} {b : Bool} {vs : Array Value} (h : RSt w wx p g2 g9 r b vs) (i : Nat) (v : Value) : RSt w (wx.setCell ⟨g9, i, none⟩ v) p g2 g9 r b (vs.setIfInBounds i v) := by
  obtain ⟨h1, h2⟩ := h.row.set i v
  exact ⟨Keeps.below1 h.bel h2 h.pg.2.2, Blk.keeps h.rin h2 (by simp; exact h.ne.2.1), h.z.keeps h2 (by simp; exact h.ne.2.2), h1, h.pg, h.ne⟩
theorem RSt.below {w wx w' : World} {p g2 g9 : Nat} {r : ByteArray} {b : Bool} {vs : Array Value} (h : RSt w wx p g2 g9 r b vs) (hb : Below wx.heap.size wx w') : RSt w w' p g2 g9 r b vs :=
  ⟨bt h.bel hb, Blk.belowS h.rin hb, h.z.belowS hb, h.row.belowS hb, h.pg, h.ne⟩

set_option maxHeartbeats 16000000 in
set_option maxRecDepth 100000 in
theorem ref21_Read (b : ByteArray) (h256 : b.size = 256) (w : World) :
    Calls Try.prog 27 #[.string b] w fun e w' => e = .returned (.tuple #[.agg (superReadV b).1.vals, .int .i64 (superReadV b).2]) ∧ Below w.heap.size w w' := by
  have hu := Try.underlying50
  have HR := hid (fun w' => ref04_Read b h256 w')
  obtain ⟨V, hV⟩ : ∃ V, V = superReadV b := ⟨_, rfl⟩
  rw [← hV]
  unfold superReadV at hV
  obtain ⟨⟨e, q, t, code⟩, hrd⟩ : ∃ v, v = readV b := ⟨_, rfl⟩
  rw [← hrd] at hV HR
  simp only at hV HR
  clear hrd
  have hA := below_alloc w (.cells #[.int .i64 0, .int .i64 0, .int .i64 0, .int .i64 0, .int .i64 0, .int .i64 0, .int .i64 0] 50)
  have hN : R0 (w.alloc (.cells #[.int .i64 0, .int .i64 0, .int .i64 0, .int .i64 0, .int .i64 0, .int .i64 0, .int .i64 0] 50)) w.heap.size 50 #[.int .i64 0, .int .i64 0, .int .i64 0, .int .i64 0, .int .i64 0, .int .i64 0, .int .i64 0] := heap_alloc_new w _
  have HA := hid (And.intro hA hN)
  clear hA hN
  by_cases hc : code = 0
  case neg =>
    rw [if_neg hc] at hV
    have HV := hid hV
    clear hV
    go_enter Try.func27, Try.ntmps27
    go_wp2_with fail
    refine (HR.out _).mono ?_; rintro ee w1 ⟨rfl, hb1⟩
    have H1 := hid (And.intro (bt HA.out.1 hb1) (HA.out.2.belowS hb1)); clear hb1 HR
    go_wp2_with (with_reducible refine at_op (.store 50 (.tmp 2) (.tmp 19)) rfl ?_; refine Stopped.go ?_)
    refine Stopped.mk (wpList_store_row_ks rfl _ _ _ rfl w.heap.size #[.int .i64 0, .int .i64 0, .int .i64 0, .int .i64 0, .int .i64 0, .int .i64 0, .int .i64 0] rfl rfl _ _ H1.out.2 (by kernel_rfl) rfl (by simp [Value.oneCell']) ?_)
    intro w2 hn2 hk2
    have H2 := hid (And.intro (Keeps.below1 H1.out.1 hk2 (Nat.le_refl _)) hn2); clear hn2 hk2
    go_wp2_with fail
    (try simp only [Exit.inBlock, Exit.then])
    exact bodyPost_ret (results_cell_tmp rfl _ _ w.heap.size _ #[.int .i64 0, .int .i64 0, .int .i64 0, .int .i64 0, .int .i64 0, .int .i64 0, .int .i64 0] _ rfl (R0.blk H2.out.2) hu rfl (by kernel_rfl)) rfl ⟨by rw [HV.out]; rfl, H2.out.1⟩
  rw [if_pos hc] at hV
  subst hc
  unfold superParse at hV
  by_cases hok : t.size = 23 ∧ t.data.toList.take 7 = nameS.data.toList ∧ q = 0
  case neg =>
    rw [if_neg (fun h => hok ⟨h.1, h.2.1, h.2.2.1⟩)] at hV
    have HV := hid hV
    clear hV
    have hts : (t.size : Int) = 23 → (7 : Int) ≤ (t.size : Int) := fun h => by omega
    have hno : (¬ (t.size : Int) = 23) ∨ ((t.size : Int) = 23 ∧ (7 : Int) ≤ (t.size : Int) ∧ ((t.extract 0 7).toList == [103, 114, 97, 110, 103, 101, 114]) = false) ∨ ((t.size : Int) = 23 ∧ (7 : Int) ≤ (t.size : Int) ∧ ((t.extract 0 7).toList == [103, 114, 97, 110, 103, 101, 114]) = true ∧ ¬ q = 0) := by
      by_cases h1 : t.size = 23
      · by_cases h2 : t.data.toList.take 7 = nameS.data.toList
        · right; right
          refine ⟨by omega, by omega, ?_, fun h => hok ⟨h1, h2, h⟩⟩
          rw [beq_iff_eq, ByteArray.toList_eq, cut_list, List.drop_zero]; exact h2
        · right; left
          refine ⟨by omega, by omega, ?_⟩
          rw [beq_eq_false_iff_ne, ByteArray.toList_eq, cut_list, List.drop_zero]
          exact h2
      · left; omega
    clear hok hts
    rcases hno with h1 | ⟨h1, h2, h3⟩ | ⟨h1, h2, h3, h4⟩
    all_goals
      go_enter Try.func27, Try.ntmps27
      go_wp2_with fail
      refine (HR.out _).mono ?_; rintro ee w1 ⟨rfl, hb1⟩
      have H1 := hid (And.intro (bt HA.out.1 hb1) (HA.out.2.belowS hb1)); clear hb1 HR
      go_wp2_with (with_reducible refine at_op (.store 50 (.tmp 2) (.tmp 33)) rfl ?_; refine Stopped.go ?_)
      refine Stopped.mk (wpList_store_row_ks rfl _ _ _ rfl w.heap.size #[.int .i64 0, .int .i64 0, .int .i64 0, .int .i64 0, .int .i64 0, .int .i64 0, .int .i64 0] rfl rfl _ _ H1.out.2 (by kernel_rfl) rfl (by simp [Value.oneCell']) ?_)
      intro w2 hn2 hk2
      have H2 := hid (And.intro (Keeps.below1 H1.out.1 hk2 (Nat.le_refl _)) hn2); clear hn2 hk2
      go_wp2_with fail
      (try simp only [Exit.inBlock, Exit.then])
      exact bodyPost_ret (results_cell_tmp rfl _ _ w.heap.size _ #[.int .i64 0, .int .i64 0, .int .i64 0, .int .i64 0, .int .i64 0, .int .i64 0, .int .i64 0] _ rfl (R0.blk H2.out.2) hu rfl (by kernel_rfl)) rfl ⟨by rw [HV.out]; rfl, H2.out.1⟩
  obtain ⟨h23, hnm, hq⟩ := hok
  subst hq
  have h1 : (t.size : Int) = 23 := by omega
  have h2 : (7 : Int) ≤ (t.size : Int) := by omega
  have h3 : ((t.extract 0 7).toList == [103, 114, 97, 110, 103, 101, 114]) = true := by
    rw [beq_iff_eq, ByteArray.toList_eq, cut_list, List.drop_zero]; exact hnm
  obtain ⟨r0, hr0⟩ : ∃ r, r = t.extract 7 t.size := ⟨_, rfl⟩
  rw [← hr0] at hV
  have hV2 : V = if goodB ((got r0 false).sup e) = true then ((got r0 false).sup e, 0) else (zeroSup, 5) := by
    rw [hV]
    by_cases hgd : goodB ((got r0 false).sup e) = true
    · rw [if_pos ⟨h23, hnm, rfl, hgd⟩, if_pos hgd]
    · rw [if_neg (fun h => hgd h.2.2.2), if_neg hgd]
  clear hV
  obtain ⟨⟨n1, r1, b1⟩, hx1⟩ : ∃ x, x = numT r0 false 2 := ⟨_, rfl⟩
  have K1 : Hid (∀ p wx, RefAt wx p r0 false → Calls Try.prog 68 #[.pointer (some ⟨p, 0, none⟩), .int .i64 2] wx fun e w' => e = .returned (.int .i64 n1) ∧ Keeps [p] wx w' ∧ RefAt w' p r1 b1) := fun p wx h => by
    have := rIn_Num_all p r0 false 2 wx h
    rw [← hx1] at this
    exact this
  obtain ⟨⟨n2, r2, b2⟩, hx2⟩ : ∃ x, x = numT r1 b1 2 := ⟨_, rfl⟩
  have K2 : Hid (∀ p wx, RefAt wx p r1 b1 → Calls Try.prog 68 #[.pointer (some ⟨p, 0, none⟩), .int .i64 2] wx fun e w' => e = .returned (.int .i64 n2) ∧ Keeps [p] wx w' ∧ RefAt w' p r2 b2) := fun p wx h => by
    have := rIn_Num_all p r1 b1 2 wx h
    rw [← hx2] at this
    exact this
  obtain ⟨⟨n3, r3, b3⟩, hx3⟩ : ∃ x, x = numT r2 b2 2 := ⟨_, rfl⟩
  have K3 : Hid (∀ p wx, RefAt wx p r2 b2 → Calls Try.prog 68 #[.pointer (some ⟨p, 0, none⟩), .int .i64 2] wx fun e w' => e = .returned (.int .i64 n3) ∧ Keeps [p] wx w' ∧ RefAt w' p r3 b3) := fun p wx h => by
    have := rIn_Num_all p r2 b2 2 wx h
    rw [← hx3] at this
    exact this
  obtain ⟨⟨n4, r4, b4⟩, hx4⟩ : ∃ x, x = numT r3 b3 2 := ⟨_, rfl⟩
  have K4 : Hid (∀ p wx, RefAt wx p r3 b3 → Calls Try.prog 68 #[.pointer (some ⟨p, 0, none⟩), .int .i64 2] wx fun e w' => e = .returned (.int .i64 n4) ∧ Keeps [p] wx w' ∧ RefAt w' p r4 b4) := fun p wx h => by
    have := rIn_Num_all p r3 b3 2 wx h
    rw [← hx4] at this
    exact this
  obtain ⟨⟨n5, r5, b5⟩, hx5⟩ : ∃ x, x = numT r4 b4 4 := ⟨_, rfl⟩
  have K5 : Hid (∀ p wx, RefAt wx p r4 b4 → Calls Try.prog 68 #[.pointer (some ⟨p, 0, none⟩), .int .i64 4] wx fun e w' => e = .returned (.int .i64 n5) ∧ Keeps [p] wx w' ∧ RefAt w' p r5 b5) := fun p wx h => by
    have := rIn_Num_all p r4 b4 4 wx h
    rw [← hx5] at this
    exact this
  obtain ⟨⟨n6, r6, b6⟩, hx6⟩ : ∃ x, x = numT r5 b5 4 := ⟨_, rfl⟩
  have K6 : Hid (∀ p wx, RefAt wx p r5 b5 → Calls Try.prog 68 #[.pointer (some ⟨p, 0, none⟩), .int .i64 4] wx fun e w' => e = .returned (.int .i64 n6) ∧ Keeps [p] wx w' ∧ RefAt w' p r6 b6) := fun p wx h => by
    have := rIn_Num_all p r5 b5 4 wx h
    rw [← hx6] at this
    exact this
  have hsup : (got r0 false).sup e = ⟨n1, e, n2, n3, n4, n5, n6⟩ := by
    unfold got Got.sup
    simp only [← hx1, ← hx2, ← hx3, ← hx4, ← hx5, ← hx6]
  rw [hsup] at hV2
  have HG := hid (fun w' => ref21_Good ⟨n1, e, n2, n3, n4, n5, n6⟩ w')
  obtain ⟨gd, hgd⟩ : ∃ g, g = goodB ⟨n1, e, n2, n3, n4, n5, n6⟩ := ⟨_, rfl⟩
  rw [← hgd] at HG hV2
  simp only [Sup.vals] at HG
  have HV2 := hid hV2; have HR0 := hid hr0
  clear hx1 hx2 hx3 hx4 hx5 hx6 hsup hgd hV2 hr0 hnm h23
  go_enter Try.func27, Try.ntmps27
  go_wp2_with fail
  refine (HR.out _).mono ?_; rintro ee w1 ⟨rfl, hb1⟩
  have hz1 := HA.out.2.belowS hb1
  have hA2 := below_alloc w1 (.cells #[.string r0, .bool false] 90)
  have hN2 : RefAt (w1.alloc (.cells #[.string r0, .bool false] 90)) w1.heap.size r0 false := Blk.new w1 #[.string r0, .bool false] 90
  have hA3 := below_alloc (w1.alloc (.cells #[.string r0, .bool false] 90)) (.cells #[.int .i64 0, .int .i64 e, .int .i64 0, .int .i64 0, .int .i64 0, .int .i64 0, .int .i64 0] 50)
  have hN3 : R0 ((w1.alloc (.cells #[.string r0, .bool false] 90)).alloc (.cells #[.int .i64 0, .int .i64 e, .int .i64 0, .int .i64 0, .int .i64 0, .int .i64 0, .int .i64 0] 50)) (w1.heap.size + 1) 50 #[.int .i64 0, .int .i64 e, .int .i64 0, .int .i64 0, .int .i64 0, .int .i64 0, .int .i64 0] := by
    have := heap_alloc_new (w1.alloc (.cells #[.string r0, .bool false] 90)) (.cells #[.int .i64 0, .int .i64 e, .int .i64 0, .int .i64 0, .int .i64 0, .int .i64 0, .int .i64 0] 50)
    rwa [show (w1.alloc (.cells #[.string r0, .bool false] 90)).heap.size = w1.heap.size + 1 by simp] at this
  have hlt := hz1.lt
  have hsz := (bt HA.out.1 hb1).size
  have H2 := hid (show RSt w ((w1.alloc (.cells #[.string r0, .bool false] 90)).alloc (.cells #[.int .i64 0, .int .i64 e, .int .i64 0, .int .i64 0, .int .i64 0, .int .i64 0, .int .i64 0] 50)) w1.heap.size w.heap.size (w1.heap.size + 1) r0 false #[.int .i64 0, .int .i64 e, .int .i64 0, .int .i64 0, .int .i64 0, .int .i64 0, .int .i64 0] from
    ⟨bt (bt (bt HA.out.1 hb1) hA2) hA3, Blk.belowS hN2 hA3, (hz1.belowS hA2).belowS hA3, hN3, ⟨hsz, Nat.le_refl _, by omega⟩, ⟨by omega, by omega, by omega⟩⟩)
  clear hz1 hA2 hN2 hA3 hN3 hlt hsz hb1 HR HA
  go_wp2_with fail
  try rw [← HR0.out]
  generalize hw2 : (w1.alloc (.cells #[.string r0, .bool false] 90)).alloc (.cells #[.int .i64 0, .int .i64 e, .int .i64 0, .int .i64 0, .int .i64 0, .int .i64 0, .int .i64 0] 50) = w2 at H2 ⊢
  generalize w1.heap.size + 1 = g9 at H2 ⊢
  generalize w1.heap.size = p at H2 ⊢
  clear hw2
  refine (K1.out _ _ H2.out.rin).mono ?_; rintro ee w3 ⟨rfl, hk, hi⟩
  have H3 := hid (H2.out.num hk hi); clear hk hi H2 K1
  have fz : w3.frozen? ⟨g9, 0, none⟩ = false := H3.out.row.blk.free (by simp)
  have z0 : w3.cell? ⟨g9, 0, none⟩ = some (.int .i64 0) := H3.out.row.blk.at rfl
  have H4 := hid (show RSt w (w3.setCell ⟨g9, 0, none⟩ (.int .i64 n1)) p w.heap.size g9 r1 b1 #[.int .i64 n1, .int .i64 e, .int .i64 0, .int .i64 0, .int .i64 0, .int .i64 0, .int .i64 0] from H3.out.set 0 (.int .i64 n1))
  go_wp2_with fail
  clear fz z0 H3
  generalize w3.setCell ⟨g9, 0, none⟩ (.int .i64 n1) = w4 at H4 ⊢
  refine (K2.out _ _ H4.out.rin).mono ?_; rintro ee w5 ⟨rfl, hk, hi⟩
  have H5 := hid (H4.out.num hk hi); clear hk hi H4 K2
  have fz : w5.frozen? ⟨g9, 2, none⟩ = false := H5.out.row.blk.free (by simp)
  have z0 : w5.cell? ⟨g9, 2, none⟩ = some (.int .i64 0) := H5.out.row.blk.at rfl
  have H6 := hid (show RSt w (w5.setCell ⟨g9, 2, none⟩ (.int .i64 n2)) p w.heap.size g9 r2 b2 #[.int .i64 n1, .int .i64 e, .int .i64 n2, .int .i64 0, .int .i64 0, .int .i64 0, .int .i64 0] from H5.out.set 2 (.int .i64 n2))
  go_wp2_with fail
  clear fz z0 H5
  generalize w5.setCell ⟨g9, 2, none⟩ (.int .i64 n2) = w6 at H6 ⊢
  refine (K3.out _ _ H6.out.rin).mono ?_; rintro ee w7 ⟨rfl, hk, hi⟩
  have H7 := hid (H6.out.num hk hi); clear hk hi H6 K3
  have fz : w7.frozen? ⟨g9, 3, none⟩ = false := H7.out.row.blk.free (by simp)
  have z0 : w7.cell? ⟨g9, 3, none⟩ = some (.int .i64 0) := H7.out.row.blk.at rfl
  have H8 := hid (show RSt w (w7.setCell ⟨g9, 3, none⟩ (.int .i64 n3)) p w.heap.size g9 r3 b3 #[.int .i64 n1, .int .i64 e, .int .i64 n2, .int .i64 n3, .int .i64 0, .int .i64 0, .int .i64 0] from H7.out.set 3 (.int .i64 n3))
  go_wp2_with fail
  clear fz z0 H7
  generalize w7.setCell ⟨g9, 3, none⟩ (.int .i64 n3) = w8 at H8 ⊢
  refine (K4.out _ _ H8.out.rin).mono ?_; rintro ee w9 ⟨rfl, hk, hi⟩
  have H9 := hid (H8.out.num hk hi); clear hk hi H8 K4
  have fz : w9.frozen? ⟨g9, 4, none⟩ = false := H9.out.row.blk.free (by simp)
  have z0 : w9.cell? ⟨g9, 4, none⟩ = some (.int .i64 0) := H9.out.row.blk.at rfl
  have H10 := hid (show RSt w (w9.setCell ⟨g9, 4, none⟩ (.int .i64 n4)) p w.heap.size g9 r4 b4 #[.int .i64 n1, .int .i64 e, .int .i64 n2, .int .i64 n3, .int .i64 n4, .int .i64 0, .int .i64 0] from H9.out.set 4 (.int .i64 n4))
  go_wp2_with fail
  clear fz z0 H9
  generalize w9.setCell ⟨g9, 4, none⟩ (.int .i64 n4) = w10 at H10 ⊢
  refine (K5.out _ _ H10.out.rin).mono ?_; rintro ee w11 ⟨rfl, hk, hi⟩
  have H11 := hid (H10.out.num hk hi); clear hk hi H10 K5
  have fz : w11.frozen? ⟨g9, 5, none⟩ = false := H11.out.row.blk.free (by simp)
  have z0 : w11.cell? ⟨g9, 5, none⟩ = some (.int .i64 0) := H11.out.row.blk.at rfl
  have H12 := hid (show RSt w (w11.setCell ⟨g9, 5, none⟩ (.int .i64 n5)) p w.heap.size g9 r5 b5 #[.int .i64 n1, .int .i64 e, .int .i64 n2, .int .i64 n3, .int .i64 n4, .int .i64 n5, .int .i64 0] from H11.out.set 5 (.int .i64 n5))
  go_wp2_with fail
  clear fz z0 H11
  generalize w11.setCell ⟨g9, 5, none⟩ (.int .i64 n5) = w12 at H12 ⊢
  refine (K6.out _ _ H12.out.rin).mono ?_; rintro ee w13 ⟨rfl, hk, hi⟩
  have H13 := hid (H12.out.num hk hi); clear hk hi H12 K6
  have fz : w13.frozen? ⟨g9, 6, none⟩ = false := H13.out.row.blk.free (by simp)
  have z0 : w13.cell? ⟨g9, 6, none⟩ = some (.int .i64 0) := H13.out.row.blk.at rfl
  have H14 := hid (show RSt w (w13.setCell ⟨g9, 6, none⟩ (.int .i64 n6)) p w.heap.size g9 r6 b6 #[.int .i64 n1, .int .i64 e, .int .i64 n2, .int .i64 n3, .int .i64 n4, .int .i64 n5, .int .i64 n6] from H13.out.set 6 (.int .i64 n6))
  go_wp2_with (with_reducible refine at_op (.load 50 (.tmp 9)) rfl ?_; refine Stopped.go ?_)
  clear fz z0 H13
  generalize w13.setCell ⟨g9, 6, none⟩ (.int .i64 n6) = w14 at H14 ⊢
  obtain ⟨y0, y1, y2, y3, y4, y5, y6⟩ := cells7 H14.out.row.blk
  refine Stopped.mk ?_
  go_wp2_with fail
  refine (HG.out _).mono ?_; rintro ee wG ⟨rfl, hbG⟩
  have HGG := hid (H14.out.below hbG)
  clear hbG HG H14 y0 y1 y2 y3 y4 y5 y6
  cases gd with
  | false =>
    go_wp2_with (with_reducible refine at_op (.store 50 (.tmp 2) (.tmp 61)) rfl ?_; refine Stopped.go ?_)
    refine Stopped.mk (wpList_store_row_ks rfl _ _ _ rfl w.heap.size #[.int .i64 0, .int .i64 0, .int .i64 0, .int .i64 0, .int .i64 0, .int .i64 0, .int .i64 0] rfl rfl _ _ HGG.out.z (by kernel_rfl) rfl (by simp [Value.oneCell']) ?_)
    intro w2 hn2 hk2
    have HF := hid (And.intro (Keeps.below1 HGG.out.bel hk2 (Nat.le_refl _)) hn2); clear hn2 hk2
    go_wp2_with fail
    (try simp only [Exit.inBlock, Exit.then])
    exact bodyPost_ret (results_cell_tmp rfl _ _ w.heap.size _ #[.int .i64 0, .int .i64 0, .int .i64 0, .int .i64 0, .int .i64 0, .int .i64 0, .int .i64 0] _ rfl (R0.blk HF.out.2) hu rfl (by kernel_rfl)) rfl ⟨by rw [HV2.out]; rfl, HF.out.1⟩
  | true =>
    obtain ⟨y0, y1, y2, y3, y4, y5, y6⟩ := cells7 HGG.out.row.blk
    go_wp2_with (with_reducible refine at_op (.store 50 (.tmp 2) (.tmp 62)) rfl ?_; refine Stopped.go ?_)
    refine Stopped.mk (wpList_store_row_ks rfl _ _ _ rfl w.heap.size #[.int .i64 n1, .int .i64 e, .int .i64 n2, .int .i64 n3, .int .i64 n4, .int .i64 n5, .int .i64 n6] rfl rfl _ _ HGG.out.z (by kernel_rfl) rfl (by simp [Value.oneCell']) ?_)
    intro w2 hn2 hk2
    have HF := hid (And.intro (Keeps.below1 HGG.out.bel hk2 (Nat.le_refl _)) hn2); clear hn2 hk2 y0 y1 y2 y3 y4 y5 y6
    go_wp2_with fail
    (try simp only [Exit.inBlock, Exit.then])
    exact bodyPost_ret (results_cell_tmp rfl _ _ w.heap.size _ #[.int .i64 n1, .int .i64 e, .int .i64 n2, .int .i64 n3, .int .i64 n4, .int .i64 n5, .int .i64 n6] _ rfl (R0.blk HF.out.2) hu rfl (by kernel_rfl)) rfl ⟨by rw [HV2.out]; rfl, HF.out.1⟩
end Go.Proofs.Ytjeoelhenlckaaa
