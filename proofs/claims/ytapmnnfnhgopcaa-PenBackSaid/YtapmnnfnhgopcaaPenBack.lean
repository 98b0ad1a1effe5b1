/-
  PenBack, walked: what was written is read as it was; numbers of one width stand in order as their bytes do.
-/
import Derived.Test.YtapmnnfnhgopcaaPenBackP
import Derived.Test.YtapmnnfnhgopcaaKit2
namespace Go.Proofs.Ytapmnnfnhgopcaa
open Go.RowKit

def widthAt (j : Nat) : Nat := [1, 2, 4, 8].getD j 1
theorem widthAt_is (j : Nat) (h : j < 4) : isW (widthAt j : Int) = true := by
  have : j = 0 ∨ j = 1 ∨ j = 2 ∨ j = 3 := by omega
  rcases this with rfl | rfl | rfl | rfl <;> rfl
theorem info_int1 : (Try.prog.info? 3).map (fun i => (i.zero, i.size, i.bytes)) = some (some (.int .i64 0), 1, 8) := by kernel_rfl
/-- numbers that fit -/
def Fits (W : Nat) (ns : List Int) : Prop := ∀ n ∈ ns, fitsB (W : Int) n = true ∧ n < 9223372036854775808
theorem Fits.nil (W : Nat) : Fits W [] := fun n hn => by cases hn
theorem Fits.snoc {W : Nat} {ns : List Int} {n : Int} (h : Fits W ns) (h1 : fitsB (W : Int) n = true) (h2 : n < 9223372036854775808) : Fits W (ns ++ [n]) := fun m hm => by
  rcases List.mem_append.1 hm with hm | hm
  · exact h m hm
  · simp at hm; subst hm; exact ⟨h1, h2⟩
theorem Fits.any {W : Nat} {ns : List Int} (h : Fits W ns) : (ns.any fun n => !fitsB (W : Int) n) = false := by
  rw [List.any_eq_false]
  intro x hx
  simp [(h x hx).1]

theorem ownsRowF_none (w : World) (e : TypeId) (size : Nat) : (w.alloc (.cells #[] e)).ownsRowF 0 e size (.slice (some ⟨w.heap.size, 0, none⟩) 0 0) 0 [] :=
  ⟨by simp, .inr ⟨w.heap.size, 0, #[], (0, 0), rfl, Nat.zero_le _, heap_alloc_new w _, Nat.zero_le _, Nat.zero_le _, Nat.zero_le _, by simp, by simp⟩⟩
theorem ownsRowF_kept {w w' : World} {G : List Nat} {e : TypeId} {size n : Nat} {v : Value} {xs : List Value} (h : w.ownsRowF 0 e size v n xs) (hk : Keeps G w w') (hd : ∀ k, v.ownBlock = some k → k ∉ G) : w'.ownsRowF 0 e size v n xs := by
  refine ⟨h.1, ?_⟩
  rcases h.2 with hn | ⟨g, cap, cur, fz, hv, h0, hg, r⟩
  · exact .inl hn
  · refine .inr ⟨g, cap, cur, fz, hv, h0, ?_, r⟩
    rw [hk.block g (Array.getElem?_eq_some_iff.1 hg).1 (hd g (by rw [hv]; rfl))]; exact hg

theorem snoc_own {w : World} {v : Value} {k : Nat} {ns : List Int} {n : Int} (h : w.ownsRowF 0 3 1 v k (i64s ns ++ (#[Value.int .i64 n]).toList)) : w.ownsRowF 0 3 1 v k (i64s (ns ++ [n])) := by
  have e : i64s (ns ++ [n]) = i64s ns ++ (#[Value.int .i64 n]).toList := by simp [i64s]
  rw [e]; exact h
theorem textAll_bound : ∀ (ss : List ByteArray), (∀ s ∈ ss, s.size ≤ 255) → (textAll ss).length ≤ 256 * ss.length
  | [], _ => by simp [textAll]
  | s :: ss, h => by
    have h1 := textAll_bound ss (fun x hx => h x (List.mem_cons_of_mem _ hx))
    have h2 := h s (List.mem_cons_self ..)
    rw [textAll_cons, List.length_append, textB_length, List.length_cons]
    omega
/-- what is read back: the reader, the row -/
def Back3 (w wx : World) (q : Nat) (r : ByteArray) (l : List UInt8) (VA : Option Addr) (ns : List Int) : Prop :=
  InAt wx q r false ∧ r.data.toList = l ∧ Row wx VA (i64s ns) ∧ Below w.heap.size w wx ∧ w.heap.size ≤ q ∧ ∀ a, VA = some a → a.block ≠ q
theorem Back3.drew {w wx : World} {q : Nat} {r : ByteArray} {l : List UInt8} {VA : Option Addr} {ns : List Int} (h : Back3 w wx q r l VA ns) : Back3 w wx.drew q r l VA ns := by
  obtain ⟨h1, h2, h3, h4, h5, h6⟩ := h
  exact ⟨h1, h2, h3, h4.drew, h5, h6⟩
/-- a deed of the reader -/
theorem Back3.next {w wx w' : World} {q : Nat} {r r' : ByteArray} {l l' : List UInt8} {VA : Option Addr} {ns : List Int} (h : Back3 w wx q r l VA ns) (hk : Keeps [q] wx w') (hi : InAt w' q r' false) (hl : r'.data.toList = l') : Back3 w w' q r' l' VA ns := by
  obtain ⟨h1, h2, h3, h4, h5, h6⟩ := h
  refine ⟨hi, hl, ?_, Keeps.below1 h4 hk h5, h5, h6⟩
  rcases h3 with h | ⟨b, off, rfl, hlt, h⟩
  · exact .inl h
  · exact .inr ⟨b, off, rfl, Nat.lt_of_lt_of_le hlt hk.size, fun i v hv => by rw [hk.cell hlt (by simp; exact h6 _ rfl)]; exact h i v hv⟩
/-- two writers, and two cells -/
def Back5 (w wx : World) (a : Nat) (la : List UInt8) (Fa : List Nat) (b : Nat) (lb : List UInt8) (Fb : List Nat) (g o1 o2 : Nat) (v1 v2 : Value) : Prop :=
  OutAt 75 wx a la Fa ∧ OutAt 75 wx b lb Fb ∧ Below w.heap.size w wx ∧ wx.cell? ⟨g, o1, none⟩ = some v1 ∧ wx.cell? ⟨g, o2, none⟩ = some v2
theorem Back5.next {w wx w' : World} {a b g o1 o2 : Nat} {la lb : List UInt8} {Fa Fb G : List Nat} {v1 v2 : Value} (h : Back5 w wx a la Fa b lb Fb g o1 o2 v1 v2) (hk : Keeps G wx w') (hG : ∀ k, k ∈ G → w.heap.size ≤ k) (hg : g ∉ G)
    (ha : OutAt 75 w' a la Fa) (hb : OutAt 75 w' b lb Fb) : Back5 w w' a la Fa b lb Fb g o1 o2 v1 v2 := by
  obtain ⟨_, _, h3, h4, h5⟩ := h
  have hl := World.block_lt_of_cell? wx _ h4
  exact ⟨ha, hb, Keeps.below h3 hk hG, by rw [hk.cell hl hg]; exact h4, by rw [hk.cell hl hg]; exact h5⟩
theorem Back5.drew {w wx : World} {a b g o1 o2 : Nat} {la lb : List UInt8} {Fa Fb : List Nat} {v1 v2 : Value} (h : Back5 w wx a la Fa b lb Fb g o1 o2 v1 v2) : Back5 w wx.drew a la Fa b lb Fb g o1 o2 v1 v2 := by
  obtain ⟨h1, h2, h3, h4, h5⟩ := h
  exact ⟨h1, h2, h3.drew, h4, h5⟩
/-- the last loop -/
def Row5 (w wx : World) (VA : Option Addr) (ns : List Int) : Prop := Row wx VA (i64s ns) ∧ Below w.heap.size w wx
theorem Row5.keeps {w wx w' : World} {VA : Option Addr} {ns : List Int} {G : List Nat} (h : Row5 w wx VA ns) (hk : Keeps G wx w') (hG : ∀ k, k ∈ G → w.heap.size ≤ k) (hg : ∀ a, VA = some a → a.block ∉ G) : Row5 w w' VA ns := by
  refine ⟨?_, Keeps.below h.2 hk hG⟩
  rcases h.1 with h | ⟨b, off, rfl, hlt, h⟩
  · exact .inl h
  · exact .inr ⟨b, off, rfl, Nat.lt_of_lt_of_le hlt hk.size, fun i v hv => by rw [hk.cell hlt (hg _ rfl)]; exact h i v hv⟩
/-- the first loop -/
def Back1 (w wx : World) (p W i : Nat) (V : Value) (ns : List Int) : Prop :=
  ns.length = i ∧ Fits W ns ∧ wx.ownsRowF 0 3 1 V i (i64s ns) ∧ Below w.heap.size w wx ∧ OutAt 75 wx p [] [p] ∧ w.heap.size ≤ p ∧ ∀ k, V.ownBlock = some k → w.heap.size ≤ k ∧ k ≠ p

set_option maxHeartbeats 16000000 in
set_option maxRecDepth 100000 in
theorem penBack_walk (width : Int) (A : Option Addr) (cap : Nat) (xs : List Int) (B : Option Addr) (bcap : Nat) (ts : List ByteArray) (w : World) (hr : Row w A (i64s xs)) (hm : xs.length ≤ 9223372036854775807) (htr : Row w B (strs ts)) (htm : ts.length ≤ 9223372036854775807) :
    Calls Try.prog 15 #[.int .i64 width, .slice A xs.length cap, .slice B ts.length bcap] w fun e w' => e = .returned (.bool true) ∧ Below w.heap.size w w' := by
  obtain ⟨i0, hi0, hz0, hz1, hz2⟩ := info_parts info_int1
  have HI0 := hid hi0; have HZ0 := hid hz0; have HZ1 := hid hz1; have HZ2 := hid hz2
  have HR := hid hr; have HTR := hid htr; clear hr htr hi0 hz0 hz1 hz2
  by_cases h20 : (20 : Int) < xs.length
  · go_enter Try.func15, Try.ntmps15
    go_wp2_with fail
    refine (awake01_any _).mono ?_; rintro e w1 ⟨rfl, hb⟩
    go_wp2_with fail
    go_ret
    exact ⟨rfl, hb⟩
  by_cases ht20 : (20 : Int) < ts.length
  · have h20' : decide ((20 : Int) < xs.length) = false := by simpa using h20
    go_enter Try.func15, Try.ntmps15
    go_wp2_with fail
    refine (awake01_any _).mono ?_; rintro e w1 ⟨rfl, hb⟩
    go_wp2_with fail
    go_ret
    exact ⟨rfl, hb⟩
  have h20' : decide ((20 : Int) < xs.length) = false := by simpa using h20
  have ht20' : decide ((20 : Int) < ts.length) = false := by simpa using ht20
  have hxl : xs.length ≤ 20 := by omega
  have htl : ts.length ≤ 20 := by omega
  clear h20 ht20
  obtain ⟨j, hj, hj4⟩ := umod width 4 (by decide)
  obtain ⟨W, hW⟩ : ∃ W, W = widthAt j := ⟨_, rfl⟩
  have hWW : isW (W : Int) = true := by rw [hW]; exact widthAt_is j (by omega)
  have hW8 : (W : Int) ≤ 8 := by rcases isW_cases hWW with h | h | h | h <;> omega
  have HWW := hid hWW
  go_enter Try.func15, Try.ntmps15
  go_wp2_with fail
  refine (awake01_any _).mono ?_; rintro e w1 ⟨rfl, hb⟩
  have HB := hid hb
  have c0 : (w1.alloc (.cells #[.int .i64 1, .int .i64 2, .int .i64 4, .int .i64 8] 109)).cell? ⟨w1.heap.size, j, none⟩ = some (.int .i64 W) := by
    rw [(Blk.new w1 #[.int .i64 1, .int .i64 2, .int .i64 4, .int .i64 8] 109).cell, hW]
    have : j = 0 ∨ j = 1 ∨ j = 2 ∨ j = 3 := by omega
    rcases this with rfl | rfl | rfl | rfl <;> rfl
  clear hb hW hWW
  go_wp2_with fail
  clear c0 hj hj4
  have h0 : Back1 w (((w1.alloc (.cells #[.int .i64 1, .int .i64 2, .int .i64 4, .int .i64 8] 109)).alloc (.cells #[.pointer none, .slice none 0 0] 75)).alloc (.cells #[] 3)) (w1.heap.size + 1) W 0 (.slice (some ⟨w1.heap.size + 1 + 1, 0, none⟩) 0 0) [] := by
    have a1 := below_alloc w1 (.cells #[.int .i64 1, .int .i64 2, .int .i64 4, .int .i64 8] 109)
    have a2 := below_alloc (w1.alloc (.cells #[.int .i64 1, .int .i64 2, .int .i64 4, .int .i64 8] 109)) (.cells #[.pointer none, .slice none 0 0] 75)
    have o1 := OutAt.new 75 (w1.alloc (.cells #[.int .i64 1, .int .i64 2, .int .i64 4, .int .i64 8] 109))
    have a3 := below_alloc ((w1.alloc (.cells #[.int .i64 1, .int .i64 2, .int .i64 4, .int .i64 8] 109)).alloc (.cells #[.pointer none, .slice none 0 0] 75)) (.cells #[] 3)
    have r1 := ownsRowF_none ((w1.alloc (.cells #[.int .i64 1, .int .i64 2, .int .i64 4, .int .i64 8] 109)).alloc (.cells #[.pointer none, .slice none 0 0] 75)) 3 1
    have z1 : (w1.alloc (.cells #[.int .i64 1, .int .i64 2, .int .i64 4, .int .i64 8] 109)).heap.size = w1.heap.size + 1 := by simp
    have z2 : ((w1.alloc (.cells #[.int .i64 1, .int .i64 2, .int .i64 4, .int .i64 8] 109)).alloc (.cells #[.pointer none, .slice none 0 0] 75)).heap.size = w1.heap.size + 1 + 1 := by simp
    rw [z1] at o1
    rw [z2] at r1
    have hs := HB.out.size
    refine ⟨rfl, Fits.nil W, r1, bt (bt (bt HB.out a1) a2) a3, o1.below a3, by omega, ?_⟩
    intro k hk
    simp [Value.ownBlock] at hk
    omega
  obtain ⟨p, hp⟩ : ∃ p, p = w1.heap.size + 1 := ⟨_, rfl⟩
  rw [← hp] at h0 ⊢
  have H0 := hid h0
  clear h0 HB hp
  go_loopg [10, 11] xs.length (fun g V j wx => ∃ (i : Nat) (ns : List Int), i + g = xs.length ∧ j = .int .i64 i ∧ Hid (Back1 w wx p W i V ns))
  case atStart => exact ⟨0, [], by omega, rfl, H0.out⟩
  case round =>
    obtain ⟨i, ns, hi, rfl, HI⟩ := hrel
    clear H0
    by_cases hlt : i < xs.length
    · obtain ⟨b, off, rfl, hb, hc⟩ := row_cell HR.out (by intro e; have := congrArg List.length e; simp [i64s] at this; subst this; simp at hlt)
      have c0 := hc i (.int .i64 xs[i]) (by simp [i64s, hlt])
      rw [← HI.out.2.2.2.1.cell (p := ⟨b, off + i, none⟩) hb] at c0
      generalize xs[i] = x at *
      clear hb hc
      obtain ⟨h, hh, hh2⟩ : ∃ h : Nat, wrap64 (IntKind.u64.wrap x / 2) = (h : Int) ∧ h < 9223372036854775808 := by
        have h1 : 0 ≤ IntKind.u64.wrap x ∧ IntKind.u64.wrap x < 18446744073709551616 := by rw [IntKind.wrap_u64]; omega
        generalize IntKind.u64.wrap x = y at *
        refine ⟨(y / 2).toNat, ?_, by omega⟩
        unfold wrap64
        omega
      have HH := hid (And.intro hh hh2)
      clear hh hh2
      by_cases hW8' : W = 8
      · have hW1 : ¬ (W : Int) < 8 := by omega
        have hh := HH.out.1
        have HN := hid (show fitsB (W : Int) (h : Int) = true ∧ h < 9223372036854775808 from ⟨by rw [hW8']; simp [fitsB], HH.out.2⟩)
        clear hW8'
        go_wp2_with (with_reducible refine at_op (.call { callee := .builtin .append, args := #[.tmp 59, .tmp 61], argTypes := #[37, 37] }) rfl ?_; refine Stopped.go ?_)
        have hA := HI.out
        obtain ⟨g1, g2, g3, g4, g5, g6, g7⟩ := hA
        refine Stopped.mk (wpList_append_one rfl _ _ 37 3 rfl i0 _ 1 8 Try.underlying37 HI0.out HZ0.out HZ1.out HZ2.out rfl (by decide) _ i _ rfl wr #[.int .i64 (h : Int)] rfl g3 wr.heap.size rfl 1 rfl rfl (by simp [Value.oneCell']) (by simp only [maxLen]; omega) (by omega) ?_)
        intro V' w5 hown hkp hvb
        have HI5 := hid (show Back1 w w5 p W (i + 1) V' (ns ++ [((h : Int) : Int)]) from by
          refine ⟨by rw [List.length_append, g1]; rfl, g2.snoc (HN.out.1) (by have := HN.out.2; omega), snoc_own hown, Keeps.below g4 hkp (fun k hk => (g7 k (Option.mem_toList.1 hk)).1), g5.keeps hkp (fun k hk hm => by simp at hk; exact (g7 k (Option.mem_toList.1 hm)).2 hk), g6, fun k hk => ?_⟩
          rcases hvb k hk with h | h
          · exact g7 k h
          · have h1 := g4.size; have h2 := g5.lt; exact ⟨by omega, by omega⟩)
        clear g1 g2 g3 g4 g5 g6 g7 hown hkp hvb
        go_wp2_with fail
        go_roundg (xs.length - (i + 1))
        case measure => omega
        case rel => exact ⟨i + 1, _, by omega, by go_num, HI5.out⟩
      · have hW1 : (W : Int) < 8 := by omega
        have hh := HH.out.1
        obtain ⟨M, hM, hM0, hM2, hM3⟩ : ∃ M : Nat, wrap64 (2 ^ (8 * W)) = (M : Int) ∧ ((M : Int) == 0) = false ∧ M = 256 ^ W ∧ 0 < M := by
          have hw := isW_cases HWW.out
          have : W = 1 ∨ W = 2 ∨ W = 4 := by omega
          rcases this with rfl | rfl | rfl
          · exact ⟨256, by simp [wrap64], by decide, by decide, by decide⟩
          · exact ⟨65536, by simp [wrap64], by decide, by decide, by decide⟩
          · exact ⟨4294967296, by simp [wrap64], by decide, by decide, by decide⟩
        obtain ⟨n, hn⟩ : ∃ n, n = h % M := ⟨_, rfl⟩
        have hn1 : (h : Int).tmod (M : Int) = (n : Int) := by rw [Int.tmod_eq_emod_of_nonneg (by omega), hn]; rfl
        have hn2 : (h : Int) % (M : Int) = (n : Int) := by rw [hn]; rfl
        have hMne : ¬ (M : Int) = 0 := by omega
        have HN := hid (show fitsB (W : Int) (n : Int) = true ∧ n < 9223372036854775808 from by
          have h3 := Nat.mod_lt h hM3
          have h4 := Nat.mod_le h M
          have h5 := HH.out.2
          refine ⟨?_, by omega⟩
          have h6 : ((256 ^ W : Nat) : Int) = (256 : Int) ^ W := Int.natCast_pow 256 W
          have h7 : (n : Int) < (256 : Int) ^ W := by rw [← h6, ← hM2]; omega
          unfold fitsB
          rw [Int.toNat_natCast, decide_eq_true h7]
          simp)
        clear hn hM2 hM3 hW8'
        go_wp2_with (with_reducible refine at_op (.call { callee := .builtin .append, args := #[.tmp 59, .tmp 61], argTypes := #[37, 37] }) rfl ?_; refine Stopped.go ?_)
        clear hM hM0 hn1 hn2 hMne hh
        have hA := HI.out
        obtain ⟨g1, g2, g3, g4, g5, g6, g7⟩ := hA
        refine Stopped.mk (wpList_append_one rfl _ _ 37 3 rfl i0 _ 1 8 Try.underlying37 HI0.out HZ0.out HZ1.out HZ2.out rfl (by decide) _ i _ rfl wr #[.int .i64 (n : Int)] rfl g3 wr.heap.size rfl 1 rfl rfl (by simp [Value.oneCell']) (by simp only [maxLen]; omega) (by omega) ?_)
        intro V' w5 hown hkp hvb
        have HI5 := hid (show Back1 w w5 p W (i + 1) V' (ns ++ [((n : Int) : Int)]) from by
          refine ⟨by rw [List.length_append, g1]; rfl, g2.snoc (HN.out.1) (by have := HN.out.2; omega), snoc_own hown, Keeps.below g4 hkp (fun k hk => (g7 k (Option.mem_toList.1 hk)).1), g5.keeps hkp (fun k hk hm => by simp at hk; exact (g7 k (Option.mem_toList.1 hm)).2 hk), g6, fun k hk => ?_⟩
          rcases hvb k hk with h | h
          · exact g7 k h
          · have h1 := g4.size; have h2 := g5.lt; exact ⟨by omega, by omega⟩)
        clear g1 g2 g3 g4 g5 g6 g7 hown hkp hvb
        go_wp2_with fail
        go_roundg (xs.length - (i + 1))
        case measure => omega
        case rel => exact ⟨i + 1, _, by omega, by go_num, HI5.out⟩
    · have hin : i = xs.length := by omega
      subst hin
      obtain ⟨g1, g2, g3, g4, g5, g6, g7⟩ := HI.out
      obtain ⟨VA, vcap, hV, hrow⟩ := ownsRowF_row g3
      subst hV
      have hVA : ∀ a, VA = some a → a.block ∉ [p] := fun a ha hm => by
        subst ha; simp at hm; exact (g7 a.block rfl).2 hm
      have hW8n : W ≤ 8 := by omega
      have hns : ns.length ≤ 20 := by omega
      have HC := hid (Out_Num_yes p [] [p] W ns VA vcap wr g5 hrow hVA (by omega) HWW.out g2.any (by have := Nat.mul_le_mul hW8n hns; simp only [List.length_nil]; omega))
      rw [g1] at HC
      have HG := hid (And.intro g1 (And.intro g2 (And.intro g3 (And.intro g4 (And.intro g6 g7)))))
      clear g1 g2 g3 g4 g5 g6 g7 hrow hVA HI hns
      go_wp2_with fail
      refine HC.out.mono ?_; rintro e w2 ⟨rfl, F2, k1, k2, k3⟩
      rw [List.nil_append] at k1
      obtain ⟨g1, g2, g3, g4, g6, g7⟩ := HG.out
      have hown2 := ownsRowF_kept g3 k2 (fun k hk hm => by simp at hm; exact (g7 k hk).2 hm)
      have hb2 : Below w.heap.size w w2 := Keeps.below g4 k2 (fun k hk => by simp at hk; omega)
      have hF2 : ∀ k, k ∈ F2 → w.heap.size ≤ k := fun k hk => by
        rcases k3 k hk with h | h
        · simp at h; omega
        · exact Nat.le_trans g4.size h
      have hV2 : ∀ k, (Value.slice VA xs.length vcap).ownBlock = some k → w.heap.size ≤ k ∧ k ∉ F2 := fun k hk => ⟨(g7 k hk).1, fun hm => by
        rcases k3 k hm with h | h
        · simp at h; exact (g7 k hk).2 h
        · have := (g3.lt k hk).2; omega⟩
      have H2 := hid (And.intro k1 (And.intro hown2 (And.intro hb2 (And.intro hF2 hV2))))
      have HN := hid (And.intro g1 g2)
      clear k1 k2 k3 g1 g2 g3 g4 g6 g7 hown2 hb2 hF2 hV2 HG HC
      go_wp2_with fail
      go_loopg [13] ts.length (fun g j wx => ∃ i : Nat, i + g = ts.length ∧ j = .int .i64 i ∧ Hid (∀ s ∈ ts.take i, s.size ≤ 255) ∧ Hid (wx = w2))
      case atStart => exact ⟨0, by omega, rfl, by intro s hs; simp at hs, rfl⟩
      case round =>
        obtain ⟨i, hi, rfl, HS, HWX⟩ := hrel
        have hwx := HWX.out
        subst hwx
        clear HWX
        by_cases hlt : i < ts.length
        · obtain ⟨b, off, rfl, hb, hc⟩ := row_cell HTR.out (by intro e; have := congrArg List.length e; simp [strs] at this; subst this; simp at hlt)
          obtain ⟨s, hs⟩ : ∃ s, s = ts[i] := ⟨_, rfl⟩
          have c0 := hc i (.string s) (by rw [hs]; simp [strs, hlt])
          rw [← H2.out.2.2.1.cell (p := ⟨b, off + i, none⟩) hb] at c0
          have HSS := hid hs
          clear hb hc hs
          by_cases h255 : (255 : Int) < s.size
          · go_wp2_with fail
            go_ret
            exact ⟨rfl, H2.out.2.2.1⟩
          · go_wp2_with fail
            go_roundg (ts.length - (i + 1))
            case measure => omega
            case rel =>
              refine ⟨i + 1, by omega, by go_num, ?_, rfl⟩
              intro x hx
              rw [List.take_succ_eq_append_getElem hlt, ← HSS.out] at hx
              rcases List.mem_append.1 hx with h | h
              · exact HS.out x h
              · simp at h; subst h; omega
        · have hin : i = ts.length := by omega
          subst hin
          have hall : ∀ s ∈ ts, s.size ≤ 255 := by have := HS.out; rwa [List.take_length] at this
          have HALL := hid hall
          clear hall HS
          have hany : (ts.any fun s => decide (255 < s.size)) = false := by
            rw [List.any_eq_false]
            intro x hx
            have := HALL.out x hx
            simp; omega
          have hHB : 0 < ts.length → ∀ a, B = some a → a.block ∉ F2 := fun h0 a ha hm => by
            obtain ⟨b, off, h1, h2, _⟩ := row_cell HTR.out (by intro e; have := congrArg List.length e; simp [strs] at this; subst this; simp at h0)
            rw [h1] at ha
            injection ha with ha
            subst ha
            have := H2.out.2.2.2.1 _ hm
            simp only at this
            omega
          have hroom : (beAll W ns).length + (textAll ts).length ≤ 140737488355328 := by
            have h1 := textAll_bound ts HALL.out
            have h2 : W ≤ 8 := by omega
            rw [beAll_length, HN.out.1]
            have h3 := Nat.mul_le_mul h2 hxl
            omega
          have HC := hid (Out_Text_gen p (beAll W ns) F2 ts B bcap wr H2.out.1 (HTR.out.below H2.out.2.2.1) hHB (by omega) hany hroom)
          clear hany hHB hroom
          go_wp2_with fail
          refine HC.out.mono ?_; rintro e w3 ⟨rfl, F3, k1, k2, k3⟩
          obtain ⟨_, g2, g3, g4, g5⟩ := H2.out
          have hown3 := ownsRowF_kept g2 k2 (fun k hk => (g5 k hk).2)
          have hb3 : Below w.heap.size w w3 := Keeps.below g3 k2 g4
          have hF3 : ∀ k, k ∈ F3 → w.heap.size ≤ k := fun k hk => by
            rcases k3 k hk with h | h
            · exact g4 k h
            · exact Nat.le_trans g3.size h
          have hV3 : ∀ k, (Value.slice VA xs.length vcap).ownBlock = some k → w.heap.size ≤ k ∧ k ∉ F3 := fun k hk => ⟨(g5 k hk).1, fun hm => by
            rcases k3 k hm with h | h
            · exact (g5 k hk).2 h
            · have := (g2.lt k hk).2; omega⟩
          have H3 := hid (And.intro k1 (And.intro hown3 (And.intro hb3 (And.intro hF3 hV3))))
          clear k1 k2 k3 g2 g3 g4 g5 hown3 hb3 hF3 hV3 H2 HC
          go_wp2_with fail
          refine (Out_Bytes_any p _ F3 w3 H3.out.1).mono ?_; rintro e w4 ⟨rfl, k1, k2⟩
          obtain ⟨_, g2, g3, g4, g5⟩ := H3.out
          have hown4 := ownsRowF_kept g2 k2 (fun k hk => (g5 k hk).2)
          have hb4 : Below w.heap.size w w4 := Keeps.below g3 k2 g4
          have H4 := hid (And.intro hown4 hb4)
          obtain ⟨L, hL⟩ : ∃ L : ByteArray, L = ⟨(beAll W ns ++ textAll ts).toArray⟩ := ⟨_, rfl⟩
          rw [← hL]
          have HL := hid hL
          clear k1 k2 g2 g3 g4 g5 hown4 hb4 H3 hL
          go_wp2_with fail
          refine (pen_Of_any L w4).mono ?_; rintro e w5 ⟨rfl, hb, hi5, hz5⟩
          obtain ⟨q, hq⟩ : ∃ q, q = w4.heap.size := ⟨_, rfl⟩
          rw [← hq] at hi5 ⊢
          have h5 : Back3 w w5 q L (beAll W (ns.drop 0) ++ textAll ts) VA ns := by
            obtain ⟨g2, g3⟩ := H4.out
            obtain ⟨A', c', hV', hr'⟩ := ownsRowF_row g2
            injection hV' with e1 _ _
            subst e1
            refine ⟨hi5, by rw [HL.out]; rfl, hr'.below hb, bt g3 hb, by rw [hq]; exact g3.size, fun a ha => ?_⟩
            have := (g2.lt a.block (by rw [ha]; rfl)).2
            omega
          have H5 := hid h5
          clear hb hi5 hz5 hq h5 H4
          go_wp2_with fail
          go_loopg [15] xs.length (fun g j wx => ∃ (i : Nat) (r : ByteArray), i + g = xs.length ∧ j = .int .i64 i ∧ Hid (Back3 w wx q r (beAll W (ns.drop i) ++ textAll ts) VA ns))
          case atStart => exact ⟨0, L, by omega, rfl, H5.out⟩
          case round =>
            obtain ⟨i, r, hi, rfl, HI⟩ := hrel
            clear H5
            by_cases hlt : i < xs.length
            · have hln : i < ns.length := by rw [HN.out.1]; exact hlt
              obtain ⟨n, hn⟩ : ∃ n, n = ns[i] := ⟨_, rfl⟩
              have hfn := HN.out.2 n (by rw [hn]; exact List.getElem_mem _)
              have hn0 := fitsB_nonneg hfn.1
              obtain ⟨m, hm'⟩ : ∃ m : Nat, n = (m : Int) := ⟨n.toNat, by omega⟩
              have hdr : ns.drop i = (m : Int) :: ns.drop (i + 1) := by rw [List.drop_eq_getElem_cons hln, ← hn, hm']
              have hrl : r.data.toList = beB W m ++ (beAll W (ns.drop (i + 1)) ++ textAll ts) := by
                have := HI.out.2.1
                rw [hdr, beAll_cons, Int.toNat_natCast, List.append_assoc] at this
                exact this
              have hlt2 := fits_lt HWW.out hfn.1 hfn.2
              rw [hm', Int.toNat_natCast] at hlt2
              have hnb := num_back r W m _ hrl HWW.out hlt2 (by have := hfn.2; omega)
              have HC := hid (In_Num_all q r false (W : Int))
              rw [hnb.1] at HC
              have HR2 := hid hnb.2
              have hc := HI.out.2.2.1
              obtain ⟨b, off, rfl, hb, hcc⟩ := row_cell hc (by intro e; have := congrArg List.length e; simp [i64s] at this; subst this; simp at hln)
              have hcell := hcc i (.int .i64 (m : Int)) (by simp [i64s, hln, ← hm', hn])
              clear hn hfn hn0 hm' hdr hrl hlt2 hnb hc hb hcc hln
              go_wp2_with fail
              have xc : wr.drew.cell? ⟨b, off + i, none⟩ = some (.int .i64 (m : Int)) := hcell
              have hB := HI.out.drew
              have CI : Hid (∀ w0, Back3 w w0 q r (beAll W (ns.drop i) ++ textAll ts) (some ⟨b, off, none⟩) ns → w0.cell? ⟨b, off + i, none⟩ = some (.int .i64 (m : Int)) → Calls Try.prog 64 #[.pointer (some ⟨q, 0, none⟩), .int .i64 W] w0 fun e w' => e = .returned (.int .i64 (m : Int)) ∧ Back3 w w' q (r.extract W r.size) (beAll W (ns.drop (i + 1)) ++ textAll ts) (some ⟨b, off, none⟩) ns ∧ w'.cell? ⟨b, off + i, none⟩ = some (.int .i64 (m : Int))) := fun w0 h hcl => by
                refine (HC.out w0 h.1).mono ?_
                rintro e w' ⟨rfl, hk, hi⟩
                exact ⟨rfl, h.next hk hi HR2.out, by rw [hk.cell (World.block_lt_of_cell? w0 _ hcl) (by simp; exact h.2.2.2.2.2 _ rfl)]; exact hcl⟩
              clear hcell HI HC
              go_region_held3 (fun wx => wx.cell? ⟨b, off + i, none⟩ = some (.int .i64 (m : Int)))
                ((first | assumption | exact xc))
                (first
                  | (go_at_call 64; with_reducible refine (CI.out _ hB xc).mono ?_; rintro e w' ⟨rfl, hB', xc'⟩; clear hB xc; have hB := hB'; have xc := xc'; clear hB' xc'))
              all_goals
                have HB := hid hB
                clear xc hB CI
                go_wp2_with fail
                go_roundg (xs.length - (i + 1))
                case measure => omega
                case rel => exact ⟨i + 1, _, by omega, by go_num, HB.out⟩
            · have hin : i = xs.length := by omega
              subst hin
              have hd0 : ns.drop xs.length = [] := List.drop_eq_nil_of_le (by rw [HN.out.1]; exact Nat.le_refl _)
              have h6 := HI.out
              rw [hd0] at h6
              have H6 := hid (show Back3 w wr q r (textAll (ts.drop 0)) VA ns from h6)
              clear hd0 h6 HI
              go_wp2_with fail
              go_loopg [16] ts.length (fun g j wx => ∃ (i : Nat) (r : ByteArray), i + g = ts.length ∧ j = .int .i64 i ∧ Hid (Back3 w wx q r (textAll (ts.drop i)) VA ns))
              case atStart => exact ⟨0, r, by omega, rfl, H6.out⟩
              case round =>
                obtain ⟨i, r, hi, rfl, HI⟩ := hrel
                clear H6
                by_cases hlt : i < ts.length
                · obtain ⟨s, hs⟩ : ∃ s, s = ts[i] := ⟨_, rfl⟩
                  have hdr : ts.drop i = s :: ts.drop (i + 1) := by rw [List.drop_eq_getElem_cons hlt, ← hs]
                  have hrl : r.data.toList = textB s ++ textAll (ts.drop (i + 1)) := by
                    have := HI.out.2.1
                    rw [hdr, textAll_cons] at this
                    exact this
                  obtain ⟨r', hr1, hr2⟩ := text_back r s _ hrl (HALL.out s (by rw [hs]; exact List.getElem_mem _))
                  have HC := hid (In_Text_all q r false 255)
                  rw [hr1] at HC
                  have HR2 := hid hr2
                  obtain ⟨b, off, rfl, hb, hcc⟩ := row_cell HTR.out (by intro e; have := congrArg List.length e; simp [strs] at this; subst this; simp at hlt)
                  have hcell := hcc i (.string s) (by rw [hs]; simp [strs, hlt])
                  rw [← HI.out.2.2.2.1.cell (p := ⟨b, off + i, none⟩) hb] at hcell
                  have hbq : b ≠ q := by have := HI.out.2.2.2.2.1; omega
                  have HBQ := hid hbq
                  clear hs hdr hrl hr1 hr2 hb hcc hbq
                  go_wp2_with fail
                  have xc : wr.drew.cell? ⟨b, off + i, none⟩ = some (.string s) := hcell
                  have hB := HI.out.drew
                  have CI : Hid (∀ w0, Back3 w w0 q r (textAll (ts.drop i)) VA ns → w0.cell? ⟨b, off + i, none⟩ = some (.string s) → Calls Try.prog 66 #[.pointer (some ⟨q, 0, none⟩), .int .i64 255] w0 fun e w' => e = .returned (.string s) ∧ Back3 w w' q r' (textAll (ts.drop (i + 1))) VA ns ∧ w'.cell? ⟨b, off + i, none⟩ = some (.string s)) := fun w0 h hcl => by
                    refine (HC.out w0 h.1).mono ?_
                    rintro e w' ⟨rfl, hk, hi⟩
                    exact ⟨rfl, h.next hk hi HR2.out, by rw [hk.cell (World.block_lt_of_cell? w0 _ hcl) (by simp; exact HBQ.out)]; exact hcl⟩
                  clear hcell HI HC
                  go_region_held3 (fun wx => wx.cell? ⟨b, off + i, none⟩ = some (.string s))
                    ((first | assumption | exact xc))
                    (first
                      | (go_at_call 66; with_reducible refine (CI.out _ hB xc).mono ?_; rintro e w' ⟨rfl, hB', xc'⟩; clear hB xc; have hB := hB'; have xc := xc'; clear hB' xc'))
                  all_goals
                    have HB := hid hB
                    clear xc hB CI
                    go_wp2_with fail
                    go_roundg (ts.length - (i + 1))
                    case measure => omega
                    case rel => exact ⟨i + 1, _, by omega, by go_num, HB.out⟩
                · have hin : i = ts.length := by omega
                  subst hin
                  have hr0 : r.size = 0 := by
                    have h1 := HI.out.2.1
                    rw [List.drop_eq_nil_of_le (Nat.le_refl _)] at h1
                    have h2 : r.data.toList.length = r.size := by simp
                    rw [h1] at h2
                    simpa [textAll] using h2.symm
                  have he : endE r false = 0 := by unfold endE; rw [hr0]; rfl
                  have HC := hid (In_End_any q r false wr HI.out.1)
                  rw [he] at HC
                  clear hr0 he
                  go_wp2_with fail
                  refine HC.out.mono ?_; rintro e w6 ⟨rfl, rfl⟩
                  have H7 := hid (show Row5 w wr VA ns from ⟨HI.out.2.2.1, HI.out.2.2.2.1⟩)
                  clear HC HI
                  go_wp2_with fail
                  go_loopg [17] xs.length (fun g j wx => ∃ k : Nat, k + g = xs.length ∧ j = .int .i64 ((k : Int) + 1) ∧ Hid (Row5 w wx VA ns))
                  case atStart => exact ⟨0, by omega, rfl, H7.out⟩
                  case round =>
                    obtain ⟨k, hk, rfl, HI⟩ := hrel
                    clear H7
                    by_cases hlt : k + 1 < xs.length
                    · have hl1 : k < ns.length := by rw [HN.out.1]; omega
                      have hl2 : k + 1 < ns.length := by rw [HN.out.1]; omega
                      have hf1 := HN.out.2 _ (List.getElem_mem hl1)
                      have hf2 := HN.out.2 _ (List.getElem_mem hl2)
                      obtain ⟨m1, hm1⟩ : ∃ m : Nat, ns[k] = (m : Int) := ⟨ns[k].toNat, by have := fitsB_nonneg hf1.1; omega⟩
                      obtain ⟨m2, hm2⟩ : ∃ m : Nat, ns[k + 1] = (m : Int) := ⟨ns[k + 1].toNat, by have := fitsB_nonneg hf2.1; omega⟩
                      rw [hm1] at hf1
                      rw [hm2] at hf2
                      have t1 := fits_lt HWW.out hf1.1 hf1.2
                      have t2 := fits_lt HWW.out hf2.1 hf2.2
                      rw [Int.toNat_natCast] at t1 t2
                      obtain ⟨rb, off, rfl, hrb, hcc⟩ := row_cell HI.out.1 (by intro e; have := congrArg List.length e; simp [i64s] at this; subst this; simp at hl1)
                      have d1 := hcc k (.int .i64 (m1 : Int)) (by simp [i64s, hl1, hm1])
                      have d2 := hcc (k + 1) (.int .i64 (m2 : Int)) (by simp [i64s, hl2, hm2])
                      have hklt : (k : Int) + 1 < (xs.length : Int) := by omega
                      have hk20 : (k : Int) ≤ 20 := by omega
                      obtain ⟨ga, hga⟩ : ∃ g, g = wr.heap.size := ⟨_, rfl⟩
                      obtain ⟨gb, hgb⟩ : ∃ g, g = wr.heap.size + 1 := ⟨_, rfl⟩
                      obtain ⟨W1, hW1⟩ : ∃ W1, W1 = (wr.alloc (.cells #[.pointer none, .slice none 0 0] 75)).alloc (.cells #[.pointer none, .slice none 0 0] 75) := ⟨_, rfl⟩
                      have hz1 : (wr.alloc (.cells #[.pointer none, .slice none 0 0] 75)).heap.size = wr.heap.size + 1 := by simp
                      have hzW : W1.heap.size = gb + 1 := by rw [hW1, hgb]; simp
                      have a2 := below_alloc (wr.alloc (.cells #[.pointer none, .slice none 0 0] 75)) (.cells #[.pointer none, .slice none 0 0] 75)
                      have hbW : Below wr.heap.size wr W1 := by rw [hW1]; exact bt (below_alloc _ _) a2
                      have oa : OutAt 75 W1 ga [] [ga] := by rw [hW1, hga]; exact (OutAt.new 75 wr).below a2
                      have ob : OutAt 75 W1 gb [] [gb] := by
                        have := OutAt.new 75 (wr.alloc (.cells #[.pointer none, .slice none 0 0] 75))
                        rw [hz1] at this
                        rw [hW1, hgb]; exact this
                      have x1 : W1.cell? ⟨rb, off + k, none⟩ = some (.int .i64 (m1 : Int)) := by rw [hbW.cell (p := ⟨rb, off + k, none⟩) hrb]; exact d1
                      have x2 : W1.cell? ⟨rb, off + (k + 1), none⟩ = some (.int .i64 (m2 : Int)) := by rw [hbW.cell (p := ⟨rb, off + (k + 1), none⟩) hrb]; exact d2
                      have hab : ga ≠ gb := by omega
                      have hrbg : rb ≠ ga ∧ rb ≠ gb := by omega
                      have hgw : wr.heap.size ≤ ga := by omega
                      have hgw2 : wr.heap.size ≤ gb := by omega
                      have HW1 := hid (And.intro oa (And.intro ob (And.intro hbW (And.intro hab (And.intro hrbg (And.intro hgw (And.intro hgw2 (And.intro hzW (show rb < ga by omega)))))))))
                      have HT := hid (And.intro t1 (And.intro t2 (And.intro hf1 hf2)))
                      have HWE := hid (And.intro hga (And.intro hgb hW1))
                      clear hf1 hf2 hm1 hm2 t1 t2 hcc d1 d2 hz1 hzW a2 hbW oa ob hab hrbg hgw hgw2 hga hgb hW1 hl1 hl2 hrb
                      have x1' := x1
                      have x2' := x2
                      rw [HWE.out.2.2] at x1'
                      go_wp2_with (with_reducible refine at_op (.buildSlice 37 1 #[(0, .tmp 133)]) rfl ?_; refine Stopped.go ?_)
                      rw [← HWE.out.2.2, ← HWE.out.2.1, ← HWE.out.1]
                      clear x1'
                      refine Stopped.mk ?_
                      go_wp2_with fail
                      have A1 := below_alloc W1 (.cells #[.int .i64 (m1 : Int)] 3)
                      have hfa : Fits W [(m1 : Int)] := fun n hn => by simp at hn; subst hn; exact HT.out.2.2.1
                      have hfb : Fits W [(m2 : Int)] := fun n hn => by simp at hn; subst hn; exact HT.out.2.2.2
                      have hW8m : W * 1 ≤ 140737488355328 := by omega
                      have hda : ∀ a, some (⟨W1.heap.size, 0, none⟩ : Addr) = some a → a.block ∉ [ga] := fun a ha hm => by
                        injection ha with ha; subst ha; simp at hm; have := HW1.out.1.lt; omega
                      refine (Out_Num_yes ga [] [ga] W [(m1 : Int)] (some ⟨W1.heap.size, 0, none⟩) 1 _ (HW1.out.1.below A1) (row_new W1 #[.int .i64 (m1 : Int)] 3) hda (by simp) HWW.out hfa.any (by simp only [List.length_nil, List.length_cons]; omega)).mono ?_
                      rintro e w7 ⟨rfl, Fa, k1, k2, k3⟩
                      rw [List.nil_append] at k1
                      have zA : (W1.alloc (.cells #[.int .i64 (m1 : Int)] 3)).heap.size = W1.heap.size + 1 := by simp
                      obtain ⟨oa, ob, hbel, hab, hrbg, hgw, hgw2, hzW, hrga⟩ := HW1.out
                      have ob7 : OutAt 75 w7 gb [] [gb] := (ob.below A1).keeps k2 (fun k hk hm => by simp at hk hm; omega)
                      have hFa : ∀ k, k ∈ Fa → (k = ga ∨ gb < k) ∧ k < w7.heap.size := fun k hk => ⟨by rcases k3 k hk with h | h; simp at h; exact .inl h; right; omega, k1.sizes k hk⟩
                      have hkW : Keeps [ga] W1 w7 := (Keeps.of A1).trans k2
                      have hb7 : Below wr.heap.size wr w7 := Keeps.below hbel hkW (fun k hk => by simp at hk; omega)
                      have y1 : w7.cell? ⟨rb, off + k, none⟩ = some (.int .i64 (m1 : Int)) := by rw [hkW.cell (World.block_lt_of_cell? W1 _ x1) (by simp; exact hrbg.1)]; exact x1
                      have y2 : w7.cell? ⟨rb, off + (k + 1), none⟩ = some (.int .i64 (m2 : Int)) := by rw [hkW.cell (World.block_lt_of_cell? W1 _ x2) (by simp; exact hrbg.1)]; exact x2
                      have H7 := hid (And.intro k1 (And.intro ob7 (And.intro hFa (And.intro hb7 hkW.size))))
                      have HG := hid (And.intro hab (And.intro hrbg (And.intro hgw (And.intro hgw2 (And.intro hzW hrga)))))
                      have HF2 := hid (And.intro hfb hW8m)
                      clear A1 hfa hfb hW8m hda k1 k2 k3 zA oa ob hbel hab hrbg hgw hgw2 hzW hrga ob7 hFa hkW hb7 x1 x2 HW1
                      go_wp2_with fail
                      have A2 := below_alloc w7 (.cells #[.int .i64 (m2 : Int)] 3)
                      have hdb : ∀ a, some (⟨w7.heap.size, 0, none⟩ : Addr) = some a → a.block ∉ [gb] := fun a ha hm => by
                        injection ha with ha; subst ha; simp at hm; have := H7.out.2.1.lt; omega
                      refine (Out_Num_yes gb [] [gb] W [(m2 : Int)] (some ⟨w7.heap.size, 0, none⟩) 1 _ (H7.out.2.1.below A2) (row_new w7 #[.int .i64 (m2 : Int)] 3) hdb (by simp) HWW.out HF2.out.1.any (by have := HF2.out.2; simp only [List.length_nil, List.length_cons]; omega)).mono ?_
                      rintro e w8 ⟨rfl, Fb, k1, k2, k3⟩
                      rw [List.nil_append] at k1
                      obtain ⟨oa7, ob7, hFa, hb7, hs7⟩ := H7.out
                      obtain ⟨hab, hrbg, hgw, hgw2, hzW, hrga⟩ := HG.out
                      have zB : (w7.alloc (.cells #[.int .i64 (m2 : Int)] 3)).heap.size = w7.heap.size + 1 := by simp
                      have hgb7 := ob7.lt
                      have oa8 : OutAt 75 w8 ga (beAll W [(m1 : Int)]) Fa := (oa7.below A2).keeps k2 (fun k hk hm => by have := (hFa k hk).1; simp at hm; omega)
                      have hkw : Keeps [gb] w7 w8 := (Keeps.of A2).trans k2
                      have hFb : ∀ k, k ∈ Fb → k = gb ∨ w7.heap.size < k := fun k hk => by
                        rcases k3 k hk with h | h
                        · simp at h; exact .inl h
                        · right; omega
                      have y1' : w8.cell? ⟨rb, off + k, none⟩ = some (.int .i64 (m1 : Int)) := by rw [hkw.cell (World.block_lt_of_cell? w7 _ y1) (by simp; exact hrbg.2)]; exact y1
                      have y2' : w8.cell? ⟨rb, off + (k + 1), none⟩ = some (.int .i64 (m2 : Int)) := by rw [hkw.cell (World.block_lt_of_cell? w7 _ y2) (by simp; exact hrbg.2)]; exact y2
                      have H8 : Back5 wr w8 ga (beAll W [(m1 : Int)]) Fa gb (beAll W [(m2 : Int)]) Fb rb (off + k) (off + (k + 1)) (.int .i64 (m1 : Int)) (.int .i64 (m2 : Int)) :=
                        ⟨oa8, k1, Keeps.below hb7 hkw (fun k hk => by simp at hk; omega), y1', y2'⟩
                      obtain ⟨la, hla⟩ : ∃ la, la = beAll W [(m1 : Int)] := ⟨_, rfl⟩
                      obtain ⟨lb, hlb⟩ : ∃ lb, lb = beAll W [(m2 : Int)] := ⟨_, rfl⟩
                      rw [← hla, ← hlb] at H8
                      have hg1 := HWE.out.1
                      have hg2 := HWE.out.2.1
                      have hFaw : ∀ k, k ∈ Fa → wr.heap.size ≤ k := fun k hk => by have := (hFa k hk).1; omega
                      have hFbw : ∀ k, k ∈ Fb → wr.heap.size ≤ k := fun k hk => by have := hFb k hk; omega
                      have hFab : ∀ k, k ∈ Fa → k ∉ Fb := fun k h1 h2 => by have e1 := hFa k h1; have e2 := hFb k h2; omega
                      have hrFa : rb ∉ Fa := fun h => by have := (hFa rb h).1; omega
                      have hrFb : rb ∉ Fb := fun h => by have := hFb rb h; omega
                      obtain ⟨sa, hsa⟩ : ∃ sa : ByteArray, sa = ⟨la.toArray⟩ := ⟨_, rfl⟩
                      obtain ⟨sb, hsb⟩ : ∃ sb : ByteArray, sb = ⟨lb.toArray⟩ := ⟨_, rfl⟩
                      have hless : Op.bytesLess sa.toList sb.toList = decide (m1 < m2) := by
                        have e1 : sa.toList = beB W m1 := by rw [hsa, hla, ByteArray.toList_eq]; simp [beAll]
                        have e2 : sb.toList = beB W m2 := by rw [hsb, hlb, ByteArray.toList_eq]; simp [beAll]
                        rw [e1, e2]
                        exact beB_less W m1 m2 HT.out.1 HT.out.2.1
                      have hlen : (la.length : Int) = (W : Int) := by rw [hla, beAll_length]; simp
                      have CA : Hid (∀ w0, Back5 wr w0 ga la Fa gb lb Fb rb (off + k) (off + (k + 1)) (.int .i64 (m1 : Int)) (.int .i64 (m2 : Int)) → Calls Try.prog 52 #[.pointer (some ⟨ga, 0, none⟩)] w0 fun e w' => e = .returned (.string sa) ∧ Back5 wr w' ga la Fa gb lb Fb rb (off + k) (off + (k + 1)) (.int .i64 (m1 : Int)) (.int .i64 (m2 : Int))) := fun w0 h => by
                        refine (Out_Bytes_any ga la Fa w0 h.1).mono ?_
                        rintro e w' ⟨rfl, h1, h2⟩
                        exact ⟨by rw [hsa], h.next h2 hFaw hrFa h1 (h.2.1.keeps h2 (fun k hk hm => hFab k hm hk))⟩
                      have CB : Hid (∀ w0, Back5 wr w0 ga la Fa gb lb Fb rb (off + k) (off + (k + 1)) (.int .i64 (m1 : Int)) (.int .i64 (m2 : Int)) → Calls Try.prog 52 #[.pointer (some ⟨gb, 0, none⟩)] w0 fun e w' => e = .returned (.string sb) ∧ Back5 wr w' ga la Fa gb lb Fb rb (off + k) (off + (k + 1)) (.int .i64 (m1 : Int)) (.int .i64 (m2 : Int))) := fun w0 h => by
                        refine (Out_Bytes_any gb lb Fb w0 h.2.1).mono ?_
                        rintro e w' ⟨rfl, h1, h2⟩
                        exact ⟨by rw [hsb], h.next h2 hFbw hrFb (h.1.keeps h2 (fun k hk hm => hFab k hk hm)) h1⟩
                      have CL : Hid (∀ w0, Back5 wr w0 ga la Fa gb lb Fb rb (off + k) (off + (k + 1)) (.int .i64 (m1 : Int)) (.int .i64 (m2 : Int)) → Calls Try.prog 53 #[.pointer (some ⟨ga, 0, none⟩)] w0 fun e w' => e = .returned (.int .i64 (W : Int)) ∧ Back5 wr w' ga la Fa gb lb Fb rb (off + k) (off + (k + 1)) (.int .i64 (m1 : Int)) (.int .i64 (m2 : Int))) := fun w0 h => by
                        refine (Out_Len_any ga la Fa w0 h.1).mono ?_
                        rintro e w' ⟨rfl, h1, h2⟩
                        exact ⟨by rw [hlen], h.next h2 hFaw hrFa h1 (h.2.1.keeps h2 (fun k hk hm => hFab k hm hk))⟩
                      have H9 := hid H8
                      clear oa7 ob7 hFa hb7 hs7 hab hrbg hgw hgw2 hzW hrga zB hgb7 oa8 hkw hFb y1 y2 y1' y2' H8 hla hlb hFaw hFbw hFab hrFa hrFb hsa hsb hlen hg1 hg2 k1 k2 k3 A2 hdb H7 HG HF2
                      rcases Nat.lt_or_ge m1 m2 with h12 | h12
                      · rw [decide_eq_true h12] at hless
                        have h12' : (m1 : Int) < (m2 : Int) := by omega
                        go_wp2_with fail
                        have hB := H9.out.drew
                        clear H9
                        obtain ⟨k2, hk2⟩ : ∃ k2, k2 = k + 1 := ⟨_, rfl⟩
                        have e2 : (k : Int) + 1 = (k2 : Int) := by omega
                        have e3 : IntKind.i64.wrap ((k2 : Int) - 1) = (k : Int) := by rw [IntKind.wrap_i64]; omega
                        have b0 : (0 : Int) ≤ (k : Int) := by omega
                        have b1 : (k : Int) < (xs.length : Int) := by omega
                        have b2 : (0 : Int) ≤ (k2 : Int) := by omega
                        have b3 : (k2 : Int) < (xs.length : Int) := by omega
                        rw [e2]
                        rw [← hk2] at hB CA CB CL
                        have HK2 := hid hk2
                        clear hk2 e2 hklt hk20
                        go_region_held3 (fun wx => wx.cell? ⟨rb, off + k, none⟩ = some (.int .i64 (m1 : Int)) ∧ wx.cell? ⟨rb, off + k2, none⟩ = some (.int .i64 (m2 : Int)))
                          ((first | assumption | exact ⟨hB.2.2.2.1, hB.2.2.2.2⟩))
                          (first
                            | (go_at_call 53; with_reducible refine (CL.out _ hB).mono ?_; rintro e w' ⟨rfl, hB'⟩; clear hB; have hB := hB'; clear hB')
                            | (go_at_call 52; with_reducible refine (CA.out _ hB).mono ?_; rintro e w' ⟨rfl, hB'⟩; clear hB; have hB := hB'; clear hB')
                            | (go_at_call 52; with_reducible refine (CB.out _ hB).mono ?_; rintro e w' ⟨rfl, hB'⟩; clear hB; have hB := hB'; clear hB'))
                        all_goals
                          have HB := hid hB
                          clear hB CA CB CL e3 b0 b1 b2
                          have hx20 : (xs.length : Int) ≤ 20 := by omega
                          go_wp2_with fail
                          go_roundg (xs.length - k2)
                          case measure => have := HK2.out; omega
                          case rel => exact ⟨k2, by omega, by go_num, HI.out.1.below HB.out.2.2.1, bt HI.out.2 HB.out.2.2.1⟩
                      · rw [decide_eq_false (by omega)] at hless
                        have h12' : decide ((m1 : Int) < (m2 : Int)) = false := by simp; omega
                        have h12n : decide (m1 < m2) = false := by simp; omega
                        have h12m : ¬ m1 < m2 := by omega
                        go_wp2_with fail
                        have hB := H9.out.drew
                        clear H9
                        obtain ⟨k2, hk2⟩ : ∃ k2, k2 = k + 1 := ⟨_, rfl⟩
                        have e2 : (k : Int) + 1 = (k2 : Int) := by omega
                        have e3 : IntKind.i64.wrap ((k2 : Int) - 1) = (k : Int) := by rw [IntKind.wrap_i64]; omega
                        have b0 : (0 : Int) ≤ (k : Int) := by omega
                        have b1 : (k : Int) < (xs.length : Int) := by omega
                        have b2 : (0 : Int) ≤ (k2 : Int) := by omega
                        have b3 : (k2 : Int) < (xs.length : Int) := by omega
                        rw [e2]
                        rw [← hk2] at hB CA CB CL
                        have HK2 := hid hk2
                        clear hk2 e2 hklt hk20
                        go_region_held3 (fun wx => wx.cell? ⟨rb, off + k, none⟩ = some (.int .i64 (m1 : Int)) ∧ wx.cell? ⟨rb, off + k2, none⟩ = some (.int .i64 (m2 : Int)))
                          ((first | assumption | exact ⟨hB.2.2.2.1, hB.2.2.2.2⟩))
                          (first
                            | (go_at_call 53; with_reducible refine (CL.out _ hB).mono ?_; rintro e w' ⟨rfl, hB'⟩; clear hB; have hB := hB'; clear hB')
                            | (go_at_call 52; with_reducible refine (CA.out _ hB).mono ?_; rintro e w' ⟨rfl, hB'⟩; clear hB; have hB := hB'; clear hB')
                            | (go_at_call 52; with_reducible refine (CB.out _ hB).mono ?_; rintro e w' ⟨rfl, hB'⟩; clear hB; have hB := hB'; clear hB'))
                        all_goals
                          have HB := hid hB
                          clear hB CA CB CL e3 b0 b1 b2
                          have hx20 : (xs.length : Int) ≤ 20 := by omega
                          go_wp2_with fail
                          go_roundg (xs.length - k2)
                          case measure => have := HK2.out; omega
                          case rel => exact ⟨k2, by omega, by go_num, HI.out.1.below HB.out.2.2.1, bt HI.out.2 HB.out.2.2.1⟩
                    · have hin : ¬ (k : Int) + 1 < (xs.length : Int) := by omega
                      go_wp2_with fail
                      go_ret
                      exact ⟨rfl, HI.out.2⟩

/-- in the row's words -/
theorem penBack_law (width : Int) (A : Option Addr) (cap : Nat) (xs : List Int) (B : Option Addr) (bcap : Nat) (ts : List ByteArray) (w : World) (_ : (Lit.int .i64 width).wf = true) (hr : Row w A (i64s xs)) (_ : ∀ n ∈ xs, (Lit.int .i64 n).wf = true) (hu : xs.length ≤ cap) (hm : cap ≤ maxLen)
    (htr : Row w B (strs ts)) (_ : ∀ s ∈ ts, s.size ≤ 140737488351232) (htu : ts.length ≤ bcap) (htm : bcap ≤ maxLen) :
    Calls Try.prog 15 #[.int .i64 width, .slice A xs.length cap, .slice B ts.length bcap] w fun e w' => e = .returned (.bool true) ∧ Below w.heap.size w w' :=
  penBack_walk width A cap xs B bcap ts w hr (by simp only [maxLen] at hm; omega) htr (by simp only [maxLen] at htm; omega)
end Go.Proofs.Ytapmnnfnhgopcaa
