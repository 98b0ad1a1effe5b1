/-
  A superblock, read: walked.
-/
import Derived.Test.YtcklgaenedlbiaaSuperPure
namespace Go.Proofs.Ytcklgaenedlbiaa
open Go.RowKit

section
variable {P : Program} {ops : Array Oper} {rest : List Oper} {o : Oper} {a : Act} {w : World} {Q : Exit → Act → World → Prop}
theorem wpList_store_row_ks (hgd : o.guard = none) (ty : TypeId) (x y : Operand) (ho : o.op = .store ty x y)
    (g : Nat) (cells : Array Value) (hx : a.eval x = .pointer (some ⟨g, 0, none⟩)) (hy : a.eval y = .agg cells)
    (t : TypeId) (old : Array Value) (hg : w.heap[g]? = some (.cells old t (0, 0))) (hi : (P.info? ty).map (·.size) = some cells.size)
    (hold : old.size = cells.size) (h1 : cells.all (·.oneCell') = true)
    (h : ∀ w', w'.heap[g]? = some (.cells cells t (0, 0)) → Keeps [g] w w' → wpList P ops Q rest (a.put o.dst undef) w') : wpList P ops Q (o :: rest) a w := by
  refine wpList_store_row hgd ty x y ho g cells hx hy t old hg hi hold h1 (h _ (setRow_heap w g old cells t _ hg) ?_)
  exact ⟨rfl, rfl, rfl, by simp, fun k hk hf => setRow_other w g k _ (by simpa using hf)⟩
end
def pickS (nm : Bool) (q E : Int) (gd : Bool) (s : Sup) : Sup × Int := if nm = true ∧ q = 0 ∧ E = 0 ∧ gd = true then (s, 0) else (zeroSup, 5)
theorem parse_walk (e q : Int) (t : ByteArray) : superParse e q t =
    pickS ((rawT t false 7).1.toList == [103, 114, 97, 110, 103, 101, 114]) q (endE (got (rawT t false 7).2.1 (rawT t false 7).2.2).r (got (rawT t false 7).2.1 (rawT t false 7).2.2).b) (goodB ((got (rawT t false 7).2.1 (rawT t false 7).2.2).sup e)) ((got (rawT t false 7).2.1 (rawT t false 7).2.2).sup e) := by
  unfold superParse pickS
  by_cases h7 : 7 ≤ t.size
  · have hr : rawT t false 7 = (t.extract 0 7, t.extract 7 t.size, false) := by
      unfold rawT
      rw [if_pos ⟨rfl, by decide, by omega⟩]
      rfl
    have hn : ((t.extract 0 7).toList == [103, 114, 97, 110, 103, 101, 114]) = decide (t.data.toList.take 7 = nameS.data.toList) := by
      rw [ByteArray.toList_eq, cut_list, List.drop_zero, Bool.eq_iff_iff, decide_eq_true_eq, beq_iff_eq]
      exact Iff.rfl
    have hsz : (t.extract 7 t.size).size = t.size - 7 := by simp
    rw [hr]
    simp only [hn, decide_eq_true_eq, got_end, hsz]
    by_cases hc : t.size = 23 ∧ t.data.toList.take 7 = nameS.data.toList ∧ q = 0 ∧ goodB ((got (t.extract 7 t.size) false).sup e) = true
    · rw [if_pos hc, if_pos ⟨hc.2.1, hc.2.2.1, by omega, hc.2.2.2⟩]
    · rw [if_neg hc, if_neg (fun h => hc ⟨by omega, h.1, h.2.1, h.2.2.2⟩)]
  · have hr : rawT t false 7 = (emptyB, emptyB, true) := by
      unfold rawT
      rw [if_neg (by omega)]
    rw [hr, if_neg (by omega), if_neg]
    rintro ⟨h, _⟩
    rw [show (((emptyB, emptyB, true) : ByteArray × ByteArray × Bool).1.toList == [103, 114, 97, 110, 103, 101, 114]) = false by kernel_rfl] at h
    cases h
/-- a block that is as it was made, or written whole -/
def R0 (w : World) (g : Nat) (T : TypeId) (cs : Array Value) : Prop := w.heap[g]? = some (.cells cs T (0, 0))
theorem R0.lt {w : World} {g : Nat} {T : TypeId} {cs : Array Value} (h : R0 w g T cs) : g < w.heap.size := (Array.getElem?_eq_some_iff.1 h).1
theorem R0.belowS {w w' : World} {g : Nat} {T : TypeId} {cs : Array Value} (h : R0 w g T cs) (hb : Below w.heap.size w w') : R0 w' g T cs := by
  have hl := h.lt
  unfold R0 at h ⊢
  rw [hb.block g hl]; exact h
theorem R0.keeps {w w' : World} {F : List Nat} {g : Nat} {T : TypeId} {cs : Array Value} (h : R0 w g T cs) (hk : Keeps F w w') (hF : g ∉ F) : R0 w' g T cs := by
  have hl := h.lt
  unfold R0 at h ⊢
  rw [hk.block g hl hF]; exact h
theorem R0.blk {w : World} {g : Nat} {T : TypeId} {cs : Array Value} (h : R0 w g T cs) : Blk w g T cs.toList := ⟨(0, 0), h, .inl rfl⟩
/-- stores and calls: what a block of seven numbers is -/
theorem vals7_list (s : Sup) : s.vals.toList = [.int .i64 s.blocks, .int .i64 s.epoch, .int .i64 s.root, .int .i64 s.from_, .int .i64 s.nodes, .int .i64 s.items, .int .i64 s.weight] := rfl

set_option maxHeartbeats 16000000 in
set_option maxRecDepth 100000 in
theorem super_Read (b : ByteArray) (w : World) :
    Calls Try.prog 63 #[.string b] w fun e w' => e = .returned (.tuple #[.agg (superReadV b).1.vals, .int .i64 (superReadV b).2]) ∧ Below w.heap.size w w' := by
  have hu := Try.underlying60
  have HC := hid (fun w' => slab_Read b w')
  obtain ⟨⟨e, q, t, k⟩, hr⟩ : ∃ r, r = readV b := ⟨_, rfl⟩
  rw [← hr] at HC
  obtain ⟨V, hV⟩ : ∃ V, V = superReadV b := ⟨_, rfl⟩
  rw [← hV]
  have HA := hid (below_alloc w (.cells #[.int .i64 0, .int .i64 0, .int .i64 0, .int .i64 0, .int .i64 0, .int .i64 0, .int .i64 0] 60))
  have HN := hid (show R0 (w.alloc (.cells #[.int .i64 0, .int .i64 0, .int .i64 0, .int .i64 0, .int .i64 0, .int .i64 0, .int .i64 0] 60)) w.heap.size 60 #[.int .i64 0, .int .i64 0, .int .i64 0, .int .i64 0, .int .i64 0, .int .i64 0, .int .i64 0] from heap_alloc_new w _)
  by_cases hk : k = 0
  case neg =>
    have hv : V = (zeroSup, k) := by rw [hV]; unfold superReadV; rw [← hr]; simp only; rw [if_neg hk]
    have hkq : (k != 0) = true := by rw [bne_iff_ne]; exact hk
    have HV := hid hv
    clear hr hV hv hk
    go_enter Try.func63, Try.ntmps63
    go_wp2_with fail
    refine (HC.out _).mono ?_; rintro ee w1 ⟨rfl, hb1⟩
    have H1 := hid (And.intro (bt HA.out hb1) (HN.out.belowS hb1)); clear hb1 HC
    go_wp2_with (with_reducible refine at_op (.store 60 (.tmp 2) (.tmp 21)) rfl ?_; refine Stopped.go ?_)
    refine Stopped.mk (wpList_store_row_ks rfl _ _ _ rfl w.heap.size #[.int .i64 0, .int .i64 0, .int .i64 0, .int .i64 0, .int .i64 0, .int .i64 0, .int .i64 0] rfl rfl _ _ H1.out.2 (by kernel_rfl) rfl (by simp [Value.oneCell']) ?_)
    intro w2 hn2 hk2
    have H2 := hid (And.intro (show R0 w2 w.heap.size 60 #[.int .i64 0, .int .i64 0, .int .i64 0, .int .i64 0, .int .i64 0, .int .i64 0, .int .i64 0] from hn2) (Keeps.below H1.out.1 hk2 (fun x hx => by simp at hx; rw [hx]; exact Nat.le_refl _))); clear hn2 hk2
    go_wp2_with fail
    (try simp only [Exit.inBlock, Exit.then])
    refine bodyPost_ret (results_cell_tmp rfl _ _ w.heap.size _ zeroSup.vals _ rfl H2.out.1.blk hu rfl (by kernel_rfl)) rfl ⟨by rw [HV.out]; first | done | rfl, H2.out.2⟩
  subst hk
  have hv : V = superParse e q t := by rw [hV]; unfold superReadV; rw [← hr]; simp only; rw [if_pos trivial]
  rw [parse_walk] at hv
  obtain ⟨⟨x0, r0, b0⟩, hraw⟩ : ∃ r, r = rawT t false 7 := ⟨_, rfl⟩
  rw [← hraw] at hv
  simp only at hv
  obtain ⟨nm, hnm⟩ : ∃ nm, nm = (x0.toList == [103, 114, 97, 110, 103, 101, 114]) := ⟨_, rfl⟩
  rw [← hnm] at hv
  obtain ⟨⟨n1, r1, b1⟩, g1⟩ : ∃ r, r = numT r0 b0 2 := ⟨_, rfl⟩
  obtain ⟨⟨n2, r2, b2⟩, g2⟩ : ∃ r, r = numT r1 b1 2 := ⟨_, rfl⟩
  obtain ⟨⟨n3, r3, b3⟩, g3⟩ : ∃ r, r = numT r2 b2 2 := ⟨_, rfl⟩
  obtain ⟨⟨n4, r4, b4⟩, g4⟩ : ∃ r, r = numT r3 b3 2 := ⟨_, rfl⟩
  obtain ⟨⟨n5, r5, b5⟩, g5⟩ : ∃ r, r = numT r4 b4 4 := ⟨_, rfl⟩
  obtain ⟨⟨n6, r6, b6⟩, g6⟩ : ∃ r, r = numT r5 b5 4 := ⟨_, rfl⟩
  have hg : got r0 b0 = ⟨n1, n2, n3, n4, n5, n6, r6, b6⟩ := by
    unfold got
    simp only [← g1, ← g2, ← g3, ← g4, ← g5, ← g6]
  rw [hg] at hv
  simp only [Got.sup] at hv
  obtain ⟨E, hE⟩ : ∃ E, E = endE r6 b6 := ⟨_, rfl⟩
  rw [← hE] at hv
  obtain ⟨gd, hgd⟩ : ∃ gd, gd = goodB ⟨n1, e, n2, n3, n4, n5, n6⟩ := ⟨_, rfl⟩
  rw [← hgd] at hv
  have HI := hid (fun w' => super_is ⟨n1, e, n2, n3, n4, n5, n6⟩ w')
  rw [← hgd] at HI
  simp only [Sup.vals] at HI
  have hEc := endE_cases r6 b6
  rw [← hE] at hEc
  have HV := hid hv; have HRAW := hid hraw; have HNM := hid hnm.symm
  have G1 := hid g1; have G2 := hid g2; have G3 := hid g3; have G4 := hid g4; have G5 := hid g5; have G6 := hid g6; have HE := hid hE
  clear hr hV hv hraw hnm g1 g2 g3 g4 g5 g6 hg hE hgd
  go_enter Try.func63, Try.ntmps63
  go_wp2_with fail
  refine (HC.out _).mono ?_; rintro ee w1 ⟨rfl, hb1⟩
  have hA2 := below_alloc w1 (.cells #[.int .i64 0, .int .i64 e, .int .i64 0, .int .i64 0, .int .i64 0, .int .i64 0, .int .i64 0] 60)
  have hN2 := Blk.new w1 #[.int .i64 0, .int .i64 e, .int .i64 0, .int .i64 0, .int .i64 0, .int .i64 0, .int .i64 0] 60
  obtain ⟨g8, hg8⟩ : ∃ g, g = w1.heap.size := ⟨_, rfl⟩
  have h28 : w.heap.size < g8 := by have := (HN.out.belowS hb1).lt; omega
  rw [← hg8] at hN2
  have H1 := hid (show Below w.heap.size w (w1.alloc (.cells #[.int .i64 0, .int .i64 e, .int .i64 0, .int .i64 0, .int .i64 0, .int .i64 0, .int .i64 0] 60)) ∧ R0 (w1.alloc (.cells #[.int .i64 0, .int .i64 e, .int .i64 0, .int .i64 0, .int .i64 0, .int .i64 0, .int .i64 0] 60)) w.heap.size 60 #[.int .i64 0, .int .i64 0, .int .i64 0, .int .i64 0, .int .i64 0, .int .i64 0, .int .i64 0] ∧ Blk (w1.alloc (.cells #[.int .i64 0, .int .i64 e, .int .i64 0, .int .i64 0, .int .i64 0, .int .i64 0, .int .i64 0] 60)) g8 60 [.int .i64 0, .int .i64 e, .int .i64 0, .int .i64 0, .int .i64 0, .int .i64 0, .int .i64 0] from
    ⟨bt (bt HA.out hb1) hA2, (HN.out.belowS hb1).belowS hA2, hN2⟩)
  have HG8 := hid hg8
  clear hb1 HC hA2 hN2 hg8 HA HN
  go_wp2_with fail
  rw [← HG8.out]
  generalize w1.alloc (.cells #[.int .i64 0, .int .i64 e, .int .i64 0, .int .i64 0, .int .i64 0, .int .i64 0, .int .i64 0] 60) = w2 at H1 ⊢
  clear HG8
  refine (pen_Of_any t _).mono ?_; rintro ee w3 ⟨rfl, hb3, hi3, hsz3⟩
  obtain ⟨p, hp⟩ : ∃ p, p = w2.heap.size := ⟨_, rfl⟩
  rw [← hp] at hi3 ⊢
  have hpg : p ≠ w.heap.size ∧ p ≠ g8 ∧ w.heap.size ≤ p := by have := H1.out.2.1.lt; have := H1.out.2.2.lt; omega
  have HPG := hid hpg
  have H3 := hid (show Below w.heap.size w w3 ∧ R0 w3 w.heap.size 60 #[.int .i64 0, .int .i64 0, .int .i64 0, .int .i64 0, .int .i64 0, .int .i64 0, .int .i64 0] ∧ Blk w3 g8 60 [.int .i64 0, .int .i64 e, .int .i64 0, .int .i64 0, .int .i64 0, .int .i64 0, .int .i64 0] ∧ InAt w3 p t false from ⟨bt H1.out.1 hb3, H1.out.2.1.belowS hb3, H1.out.2.2.belowS hb3, hi3⟩)
  clear hb3 hi3 hsz3 hp H1 hpg
  go_wp2_with fail
  refine (In_Raw_all p t false 7 _ H3.out.2.2.2).mono ?_; rintro ee w4 ⟨rfl, hk4, hi4⟩
  rw [← HRAW.out] at hi4 ⊢
  simp only at hi4 ⊢
  have nmq := HNM.out
  have H4 := hid (show Below w.heap.size w w4 ∧ R0 w4 w.heap.size 60 #[.int .i64 0, .int .i64 0, .int .i64 0, .int .i64 0, .int .i64 0, .int .i64 0, .int .i64 0] ∧ Blk w4 g8 60 [.int .i64 0, .int .i64 e, .int .i64 0, .int .i64 0, .int .i64 0, .int .i64 0, .int .i64 0] ∧ InAt w4 p r0 b0 from
    ⟨Keeps.below H3.out.1 hk4 (fun x hx => by simp at hx; rw [hx]; exact HPG.out.2.2), R0.keeps H3.out.2.1 hk4 (by simp; exact Ne.symm HPG.out.1), Blk.keeps H3.out.2.2.1 hk4 (by simp; exact Ne.symm HPG.out.2.1), hi4⟩)
  clear hk4 hi4 H3
  go_wp2_with fail
  refine (In_Num_all p r0 b0 2 _ H4.out.2.2.2).mono ?_; rintro ee w5 ⟨rfl, hk5, hi5⟩
  rw [← G1.out] at hi5 ⊢
  simp only at hi5 ⊢
  clear nmq
  have H5 := hid (show Below w.heap.size w w5 ∧ R0 w5 w.heap.size 60 #[.int .i64 0, .int .i64 0, .int .i64 0, .int .i64 0, .int .i64 0, .int .i64 0, .int .i64 0] ∧ Blk w5 g8 60 [.int .i64 0, .int .i64 e, .int .i64 0, .int .i64 0, .int .i64 0, .int .i64 0, .int .i64 0] ∧ InAt w5 p r1 b1 from
    ⟨Keeps.below H4.out.1 hk5 (fun x hx => by simp at hx; rw [hx]; exact HPG.out.2.2), R0.keeps H4.out.2.1 hk5 (by simp; exact Ne.symm HPG.out.1), Blk.keeps H4.out.2.2.1 hk5 (by simp; exact Ne.symm HPG.out.2.1), hi5⟩)
  clear hk5 hi5 H4
  go_wp2_with fail
  refine (In_Num_all p r1 b1 2 _ H5.out.2.2.2).mono ?_; rintro ee w6 ⟨rfl, hk6, hi6⟩
  rw [← G2.out] at hi6 ⊢
  simp only at hi6 ⊢
  have H6 := hid (show Below w.heap.size w w6 ∧ R0 w6 w.heap.size 60 #[.int .i64 0, .int .i64 0, .int .i64 0, .int .i64 0, .int .i64 0, .int .i64 0, .int .i64 0] ∧ Blk w6 g8 60 [.int .i64 0, .int .i64 e, .int .i64 0, .int .i64 0, .int .i64 0, .int .i64 0, .int .i64 0] ∧ InAt w6 p r2 b2 from
    ⟨Keeps.below H5.out.1 hk6 (fun x hx => by simp at hx; rw [hx]; exact HPG.out.2.2), R0.keeps H5.out.2.1 hk6 (by simp; exact Ne.symm HPG.out.1), Blk.keeps H5.out.2.2.1 hk6 (by simp; exact Ne.symm HPG.out.2.1), hi6⟩)
  clear hk6 hi6 H5
  go_wp2_with fail
  refine (In_Num_all p r2 b2 2 _ H6.out.2.2.2).mono ?_; rintro ee w7 ⟨rfl, hk7, hi7⟩
  rw [← G3.out] at hi7 ⊢
  simp only at hi7 ⊢
  have H7 := hid (show Below w.heap.size w w7 ∧ R0 w7 w.heap.size 60 #[.int .i64 0, .int .i64 0, .int .i64 0, .int .i64 0, .int .i64 0, .int .i64 0, .int .i64 0] ∧ Blk w7 g8 60 [.int .i64 0, .int .i64 e, .int .i64 0, .int .i64 0, .int .i64 0, .int .i64 0, .int .i64 0] ∧ InAt w7 p r3 b3 from
    ⟨Keeps.below H6.out.1 hk7 (fun x hx => by simp at hx; rw [hx]; exact HPG.out.2.2), R0.keeps H6.out.2.1 hk7 (by simp; exact Ne.symm HPG.out.1), Blk.keeps H6.out.2.2.1 hk7 (by simp; exact Ne.symm HPG.out.2.1), hi7⟩)
  clear hk7 hi7 H6
  go_wp2_with fail
  refine (In_Num_all p r3 b3 2 _ H7.out.2.2.2).mono ?_; rintro ee w8 ⟨rfl, hk8, hi8⟩
  rw [← G4.out] at hi8 ⊢
  simp only at hi8 ⊢
  have H8 := hid (show Below w.heap.size w w8 ∧ R0 w8 w.heap.size 60 #[.int .i64 0, .int .i64 0, .int .i64 0, .int .i64 0, .int .i64 0, .int .i64 0, .int .i64 0] ∧ Blk w8 g8 60 [.int .i64 0, .int .i64 e, .int .i64 0, .int .i64 0, .int .i64 0, .int .i64 0, .int .i64 0] ∧ InAt w8 p r4 b4 from
    ⟨Keeps.below H7.out.1 hk8 (fun x hx => by simp at hx; rw [hx]; exact HPG.out.2.2), R0.keeps H7.out.2.1 hk8 (by simp; exact Ne.symm HPG.out.1), Blk.keeps H7.out.2.2.1 hk8 (by simp; exact Ne.symm HPG.out.2.1), hi8⟩)
  clear hk8 hi8 H7
  obtain ⟨y0, y1, y2, y3, y4, y5, y6⟩ := cells7 H8.out.2.2.1
  have u0 := H8.out.2.2.1.free (i := 0) (by simp); have u2 := H8.out.2.2.1.free (i := 2) (by simp); have u3 := H8.out.2.2.1.free (i := 3) (by simp); have u4 := H8.out.2.2.1.free (i := 4) (by simp)
  have hS := (((H8.out.2.2.1.set 0 (.int .i64 n1)).set 2 (.int .i64 n2)).set 3 (.int .i64 n3)).set 4 (.int .i64 n4)
  have hK := ((((Keeps.refl [g8] w8).setCell (p := ⟨g8, 0, none⟩) (by simp) (.int .i64 n1)).setCell (p := ⟨g8, 2, none⟩) (by simp) (.int .i64 n2)).setCell (p := ⟨g8, 3, none⟩) (by simp) (.int .i64 n3)).setCell (p := ⟨g8, 4, none⟩) (by simp) (.int .i64 n4)
  have HS := hid (And.intro hS hK); clear hS hK
  go_wp2_with fail
  have H9 := hid (show Below w.heap.size w ((((w8.setCell ⟨g8, 0, none⟩ (.int .i64 n1)).setCell ⟨g8, 2, none⟩ (.int .i64 n2)).setCell ⟨g8, 3, none⟩ (.int .i64 n3)).setCell ⟨g8, 4, none⟩ (.int .i64 n4)) ∧ R0 ((((w8.setCell ⟨g8, 0, none⟩ (.int .i64 n1)).setCell ⟨g8, 2, none⟩ (.int .i64 n2)).setCell ⟨g8, 3, none⟩ (.int .i64 n3)).setCell ⟨g8, 4, none⟩ (.int .i64 n4)) w.heap.size 60 #[.int .i64 0, .int .i64 0, .int .i64 0, .int .i64 0, .int .i64 0, .int .i64 0, .int .i64 0] ∧ Blk ((((w8.setCell ⟨g8, 0, none⟩ (.int .i64 n1)).setCell ⟨g8, 2, none⟩ (.int .i64 n2)).setCell ⟨g8, 3, none⟩ (.int .i64 n3)).setCell ⟨g8, 4, none⟩ (.int .i64 n4)) g8 60 [.int .i64 n1, .int .i64 e, .int .i64 n2, .int .i64 n3, .int .i64 n4, .int .i64 0, .int .i64 0] ∧ InAt ((((w8.setCell ⟨g8, 0, none⟩ (.int .i64 n1)).setCell ⟨g8, 2, none⟩ (.int .i64 n2)).setCell ⟨g8, 3, none⟩ (.int .i64 n3)).setCell ⟨g8, 4, none⟩ (.int .i64 n4)) p r4 b4 from
    ⟨Keeps.below H8.out.1 HS.out.2 (fun x hx => by simp at hx; rw [hx]; exact Nat.le_of_lt h28), H8.out.2.1.keeps HS.out.2 (by simp; exact Nat.ne_of_lt h28), HS.out.1, Blk.keeps H8.out.2.2.2 HS.out.2 (by simp; exact HPG.out.2.1)⟩)
  clear y0 y1 y2 y3 y4 y5 y6 u0 u2 u3 u4 HS H8
  generalize ((((w8.setCell ⟨g8, 0, none⟩ (.int .i64 n1)).setCell ⟨g8, 2, none⟩ (.int .i64 n2)).setCell ⟨g8, 3, none⟩ (.int .i64 n3)).setCell ⟨g8, 4, none⟩ (.int .i64 n4)) = w9 at H9 ⊢
  refine (In_Num_all p r4 b4 4 _ H9.out.2.2.2).mono ?_; rintro ee w10 ⟨rfl, hk10, hi10⟩
  rw [← G5.out] at hi10 ⊢
  simp only at hi10 ⊢
  have H10 := hid (show Below w.heap.size w w10 ∧ R0 w10 w.heap.size 60 #[.int .i64 0, .int .i64 0, .int .i64 0, .int .i64 0, .int .i64 0, .int .i64 0, .int .i64 0] ∧ Blk w10 g8 60 [.int .i64 n1, .int .i64 e, .int .i64 n2, .int .i64 n3, .int .i64 n4, .int .i64 0, .int .i64 0] ∧ InAt w10 p r5 b5 from
    ⟨Keeps.below H9.out.1 hk10 (fun x hx => by simp at hx; rw [hx]; exact HPG.out.2.2), R0.keeps H9.out.2.1 hk10 (by simp; exact Ne.symm HPG.out.1), Blk.keeps H9.out.2.2.1 hk10 (by simp; exact Ne.symm HPG.out.2.1), hi10⟩)
  clear hk10 hi10 H9
  go_wp2_with fail
  refine (In_Num_all p r5 b5 4 _ H10.out.2.2.2).mono ?_; rintro ee w11 ⟨rfl, hk11, hi11⟩
  rw [← G6.out] at hi11 ⊢
  simp only at hi11 ⊢
  have H11 := hid (show Below w.heap.size w w11 ∧ R0 w11 w.heap.size 60 #[.int .i64 0, .int .i64 0, .int .i64 0, .int .i64 0, .int .i64 0, .int .i64 0, .int .i64 0] ∧ Blk w11 g8 60 [.int .i64 n1, .int .i64 e, .int .i64 n2, .int .i64 n3, .int .i64 n4, .int .i64 0, .int .i64 0] ∧ InAt w11 p r6 b6 from
    ⟨Keeps.below H10.out.1 hk11 (fun x hx => by simp at hx; rw [hx]; exact HPG.out.2.2), R0.keeps H10.out.2.1 hk11 (by simp; exact Ne.symm HPG.out.1), Blk.keeps H10.out.2.2.1 hk11 (by simp; exact Ne.symm HPG.out.2.1), hi11⟩)
  clear hk11 hi11 H10
  obtain ⟨y0, y1, y2, y3, y4, y5, y6⟩ := cells7 H11.out.2.2.1
  have u5 := H11.out.2.2.1.free (i := 5) (by simp); have u6 := H11.out.2.2.1.free (i := 6) (by simp)
  have hS := (H11.out.2.2.1.set 5 (.int .i64 n5)).set 6 (.int .i64 n6)
  have hK := ((Keeps.refl [g8] w11).setCell (p := ⟨g8, 5, none⟩) (by simp) (.int .i64 n5)).setCell (p := ⟨g8, 6, none⟩) (by simp) (.int .i64 n6)
  have HS := hid (And.intro hS hK); clear hS hK
  have H12 := hid (show Below w.heap.size w ((w11.setCell ⟨g8, 5, none⟩ (.int .i64 n5)).setCell ⟨g8, 6, none⟩ (.int .i64 n6)) ∧ R0 ((w11.setCell ⟨g8, 5, none⟩ (.int .i64 n5)).setCell ⟨g8, 6, none⟩ (.int .i64 n6)) w.heap.size 60 #[.int .i64 0, .int .i64 0, .int .i64 0, .int .i64 0, .int .i64 0, .int .i64 0, .int .i64 0] ∧ Blk ((w11.setCell ⟨g8, 5, none⟩ (.int .i64 n5)).setCell ⟨g8, 6, none⟩ (.int .i64 n6)) g8 60 [.int .i64 n1, .int .i64 e, .int .i64 n2, .int .i64 n3, .int .i64 n4, .int .i64 n5, .int .i64 n6] ∧ InAt ((w11.setCell ⟨g8, 5, none⟩ (.int .i64 n5)).setCell ⟨g8, 6, none⟩ (.int .i64 n6)) p r6 b6 from
    ⟨Keeps.below H11.out.1 HS.out.2 (fun x hx => by simp at hx; rw [hx]; exact Nat.le_of_lt h28), H11.out.2.1.keeps HS.out.2 (by simp; exact Nat.ne_of_lt h28), HS.out.1, Blk.keeps H11.out.2.2.2 HS.out.2 (by simp; exact HPG.out.2.1)⟩)
  clear HS H11
  have hv := HV.out
  clear HV
  cases nm with
  | false =>
    have hv' : V = (zeroSup, 5) := by rw [hv]; unfold pickS; rw [if_neg (by simp)]
    have HV := hid hv'; clear hv hv'
    go_wp2_with (with_reducible refine at_op (.store 60 (.tmp 2) (.tmp 66)) rfl ?_; refine Stopped.go ?_)
    clear y0 y1 y2 y3 y4 y5 y6 u5 u6
    generalize ((w11.setCell ⟨g8, 5, none⟩ (.int .i64 n5)).setCell ⟨g8, 6, none⟩ (.int .i64 n6)) = w12 at H12 ⊢
    refine Stopped.mk (wpList_store_row_ks rfl _ _ _ rfl w.heap.size #[.int .i64 0, .int .i64 0, .int .i64 0, .int .i64 0, .int .i64 0, .int .i64 0, .int .i64 0] rfl rfl _ _ H12.out.2.1 (by kernel_rfl) rfl (by simp [Value.oneCell']) ?_)
    intro w20 hn20 hk20
    have H20 := hid (And.intro (show R0 w20 w.heap.size 60 #[.int .i64 0, .int .i64 0, .int .i64 0, .int .i64 0, .int .i64 0, .int .i64 0, .int .i64 0] from hn20) (Keeps.below H12.out.1 hk20 (fun x hx => by simp at hx; rw [hx]; exact Nat.le_refl _))); clear hn20 hk20
    go_wp2_with fail
    (try simp only [Exit.inBlock, Exit.then])
    exact bodyPost_ret (results_cell_tmp rfl _ _ w.heap.size _ zeroSup.vals _ rfl H20.out.1.blk hu rfl (by kernel_rfl)) rfl ⟨by rw [HV.out]; first | done | rfl, H20.out.2⟩
  | true =>
  by_cases hq : q = 0
  case neg =>
    have hv' : V = (zeroSup, 5) := by rw [hv]; unfold pickS; rw [if_neg (fun h => hq h.2.1)]
    have hqq : (q != 0) = true := by rw [bne_iff_ne]; exact hq
    have HV := hid hv'; clear hv hv'
    go_wp2_with (with_reducible refine at_op (.store 60 (.tmp 2) (.tmp 66)) rfl ?_; refine Stopped.go ?_)
    clear y0 y1 y2 y3 y4 y5 y6 u5 u6
    generalize ((w11.setCell ⟨g8, 5, none⟩ (.int .i64 n5)).setCell ⟨g8, 6, none⟩ (.int .i64 n6)) = w12 at H12 ⊢
    refine Stopped.mk (wpList_store_row_ks rfl _ _ _ rfl w.heap.size #[.int .i64 0, .int .i64 0, .int .i64 0, .int .i64 0, .int .i64 0, .int .i64 0, .int .i64 0] rfl rfl _ _ H12.out.2.1 (by kernel_rfl) rfl (by simp [Value.oneCell']) ?_)
    intro w20 hn20 hk20
    have H20 := hid (And.intro (show R0 w20 w.heap.size 60 #[.int .i64 0, .int .i64 0, .int .i64 0, .int .i64 0, .int .i64 0, .int .i64 0, .int .i64 0] from hn20) (Keeps.below H12.out.1 hk20 (fun x hx => by simp at hx; rw [hx]; exact Nat.le_refl _))); clear hn20 hk20
    go_wp2_with fail
    (try simp only [Exit.inBlock, Exit.then])
    exact bodyPost_ret (results_cell_tmp rfl _ _ w.heap.size _ zeroSup.vals _ rfl H20.out.1.blk hu rfl (by kernel_rfl)) rfl ⟨by rw [HV.out]; first | done | rfl, H20.out.2⟩
  subst hq
  go_wp2_with fail
  clear y0 y1 y2 y3 y4 y5 y6 u5 u6
  generalize ((w11.setCell ⟨g8, 5, none⟩ (.int .i64 n5)).setCell ⟨g8, 6, none⟩ (.int .i64 n6)) = w12 at H12 ⊢
  have HEND := hid (In_End_any p r6 b6 w12 H12.out.2.2.2)
  rw [← HE.out] at HEND
  rcases hEc with rfl | rfl
  case inr =>
    have hv' : V = (zeroSup, 5) := by rw [hv]; unfold pickS; rw [if_neg (by simp)]
    have HV := hid hv'; clear hv hv'
    refine HEND.out.mono ?_; rintro ee wx ⟨rfl, rfl⟩
    go_wp2_with (with_reducible refine at_op (.store 60 (.tmp 2) (.tmp 66)) rfl ?_; refine Stopped.go ?_)
    refine Stopped.mk (wpList_store_row_ks rfl _ _ _ rfl w.heap.size #[.int .i64 0, .int .i64 0, .int .i64 0, .int .i64 0, .int .i64 0, .int .i64 0, .int .i64 0] rfl rfl _ _ H12.out.2.1 (by kernel_rfl) rfl (by simp [Value.oneCell']) ?_)
    intro w20 hn20 hk20
    have H20 := hid (And.intro (show R0 w20 w.heap.size 60 #[.int .i64 0, .int .i64 0, .int .i64 0, .int .i64 0, .int .i64 0, .int .i64 0, .int .i64 0] from hn20) (Keeps.below H12.out.1 hk20 (fun x hx => by simp at hx; rw [hx]; exact Nat.le_refl _))); clear hn20 hk20
    go_wp2_with fail
    (try simp only [Exit.inBlock, Exit.then])
    exact bodyPost_ret (results_cell_tmp rfl _ _ w.heap.size _ zeroSup.vals _ rfl H20.out.1.blk hu rfl (by kernel_rfl)) rfl ⟨by rw [HV.out]; first | done | rfl, H20.out.2⟩
  obtain ⟨y0, y1, y2, y3, y4, y5, y6⟩ := cells7 H12.out.2.2.1
  cases gd with
  | false =>
    have hv' : V = (zeroSup, 5) := by rw [hv]; unfold pickS; rw [if_neg (by simp)]
    have HV := hid hv'; clear hv hv'
    refine HEND.out.mono ?_; rintro ee wx ⟨rfl, rfl⟩
    go_wp2_with fail
    refine (HI.out _).mono ?_; rintro ee w13 ⟨rfl, hb13⟩
    have H13 := hid (And.intro (bt H12.out.1 hb13) (And.intro (H12.out.2.1.belowS hb13) trivial)); clear hb13 y0 y1 y2 y3 y4 y5 y6
    go_wp2_with (with_reducible refine at_op (.store 60 (.tmp 2) (.tmp 66)) rfl ?_; refine Stopped.go ?_)
    refine Stopped.mk (wpList_store_row_ks rfl _ _ _ rfl w.heap.size #[.int .i64 0, .int .i64 0, .int .i64 0, .int .i64 0, .int .i64 0, .int .i64 0, .int .i64 0] rfl rfl _ _ H13.out.2.1 (by kernel_rfl) rfl (by simp [Value.oneCell']) ?_)
    intro w20 hn20 hk20
    have H20 := hid (And.intro (show R0 w20 w.heap.size 60 #[.int .i64 0, .int .i64 0, .int .i64 0, .int .i64 0, .int .i64 0, .int .i64 0, .int .i64 0] from hn20) (Keeps.below H13.out.1 hk20 (fun x hx => by simp at hx; rw [hx]; exact Nat.le_refl _))); clear hn20 hk20
    go_wp2_with fail
    (try simp only [Exit.inBlock, Exit.then])
    exact bodyPost_ret (results_cell_tmp rfl _ _ w.heap.size _ zeroSup.vals _ rfl H20.out.1.blk hu rfl (by kernel_rfl)) rfl ⟨by rw [HV.out]; first | done | rfl, H20.out.2⟩
  | true =>
    have hv' : V = (⟨n1, e, n2, n3, n4, n5, n6⟩, 0) := by rw [hv]; unfold pickS; rw [if_pos ⟨rfl, rfl, rfl, rfl⟩]
    have HV := hid hv'; clear hv hv'
    refine HEND.out.mono ?_; rintro ee wx ⟨rfl, rfl⟩
    go_wp2_with fail
    refine (HI.out _).mono ?_; rintro ee w13 ⟨rfl, hb13⟩
    have H13 := hid (And.intro (bt H12.out.1 hb13) (And.intro (H12.out.2.1.belowS hb13) (H12.out.2.2.1.belowS hb13))); clear hb13 y0 y1 y2 y3 y4 y5 y6
    obtain ⟨y0, y1, y2, y3, y4, y5, y6⟩ := cells7 H13.out.2.2
    go_wp2_with (with_reducible refine at_op (.store 60 (.tmp 2) (.tmp 67)) rfl ?_; refine Stopped.go ?_)
    refine Stopped.mk (wpList_store_row_ks rfl _ _ _ rfl w.heap.size #[.int .i64 n1, .int .i64 e, .int .i64 n2, .int .i64 n3, .int .i64 n4, .int .i64 n5, .int .i64 n6] rfl rfl _ _ H13.out.2.1 (by kernel_rfl) rfl (by simp [Value.oneCell']) ?_)
    intro w20 hn20 hk20
    have H20 := hid (And.intro (show R0 w20 w.heap.size 60 #[.int .i64 n1, .int .i64 e, .int .i64 n2, .int .i64 n3, .int .i64 n4, .int .i64 n5, .int .i64 n6] from hn20) (Keeps.below H13.out.1 hk20 (fun x hx => by simp at hx; rw [hx]; exact Nat.le_refl _))); clear hn20 hk20 y0 y1 y2 y3 y4 y5 y6
    go_wp2_with fail
    (try simp only [Exit.inBlock, Exit.then])
    exact bodyPost_ret (results_cell_tmp rfl _ _ w.heap.size _ #[.int .i64 n1, .int .i64 e, .int .i64 n2, .int .i64 n3, .int .i64 n4, .int .i64 n5, .int .i64 n6] _ rfl H20.out.1.blk hu rfl (by kernel_rfl)) rfl ⟨by rw [HV.out]; first | done | rfl, H20.out.2⟩
end Go.Proofs.Ytcklgaenedlbiaa
