/-
  PenReads, walked.
-/
import Derived.Test.YtapmnnfnhgopcaaPenWrites
import Derived.Test.YtapmnnfnhgopcaaPenRefIn
namespace Go.Proofs.Ytapmnnfnhgopcaa
open Go.RowKit

theorem endE_pos (r : ByteArray) (b : Bool) (h : 0 < (r.size : Int)) : endE r b = 5 := by
  unfold endE
  rw [if_pos]
  have : (r.size == 0) = false := by rw [beq_eq_false_iff_ne]; omega
  rw [this]; cases b <;> rfl
theorem endE_true (r : ByteArray) : endE r true = 5 := rfl
theorem endE_zero (r : ByteArray) (h : (r.size : Int) ≤ 0) : endE r false = 0 := by
  unfold endE
  rw [if_neg]
  have : (r.size == 0) = true := by rw [beq_iff_eq]; omega
  rw [this]; decide
theorem blk_drewN {w : World} {g : Nat} {e : TypeId} {vs : List Value} (h : Blk w g e vs) (n : Nat) : Blk (w.drewN n) g e vs := h
theorem below_drewN' {B : Nat} {a w : World} (h : Below B a w) (n : Nat) : Below B a (w.drewN n) := ⟨h.os, h.tape, h.output, h.size, h.block⟩
theorem left_quiet (p : Nat) (r : ByteArray) (b : Bool) (w : World) (h : InAt w p r b) (n : Nat) :
    Calls Try.prog 70 #[.pointer (some ⟨p, 0, none⟩)] (w.drewN n) fun e w' => e = .returned (.int .i64 r.size) ∧ ∃ m, w' = w.drewN m :=
  (In_Left_any p r b (w.drewN n) (blk_drewN h n)).mono fun _ _ ⟨he, hw⟩ => ⟨he, n, hw.symm⟩
theorem err_quiet (p : Nat) (r : ByteArray) (b : Bool) (w : World) (h : InAt w p r b) (v : Int) (hv : v = errE b) (n : Nat) :
    Calls Try.prog 71 #[.pointer (some ⟨p, 0, none⟩)] (w.drewN n) fun e w' => e = .returned (.int .i64 v) ∧ ∃ m, w' = w.drewN m :=
  hv ▸ (In_Err_any p r b (w.drewN n) (blk_drewN h n)).mono fun _ _ ⟨he, hw⟩ => ⟨he, n, hw.symm⟩
theorem end_quiet (p : Nat) (r : ByteArray) (b : Bool) (w : World) (h : InAt w p r b) (v : Int) (hv : v = endE r b) (n : Nat) :
    Calls Try.prog 72 #[.pointer (some ⟨p, 0, none⟩)] (w.drewN n) fun e w' => e = .returned (.int .i64 v) ∧ ∃ m, w' = w.drewN m :=
  hv ▸ (In_End_any p r b (w.drewN n) (blk_drewN h n)).mono fun _ _ ⟨he, hw⟩ => ⟨he, n, hw.symm⟩

set_option maxHeartbeats 16000000 in
set_option maxRecDepth 100000 in
theorem penReads_walk (s0 : ByteArray) (A : Option Addr) (cap : Nat) (xs : List Act6) (w : World) (hr : Row w A (xs.flatMap actCells)) (hm : xs.length ≤ 9223372036854775807) :
    Calls Try.prog 14 #[.string s0, .slice A xs.length cap] w fun e w' => e = .returned (.bool true) ∧ Below w.heap.size w w' := by
  have HR := hid hr; clear hr
  by_cases hs0 : (1024 : Int) < s0.size
  · go_enter Try.func14, Try.ntmps14
    go_wp2_with fail
    refine (awake01_any _).mono ?_; rintro e w1 ⟨rfl, hb⟩
    go_wp2_with fail
    go_ret
    exact ⟨rfl, hb⟩
  go_enter Try.func14, Try.ntmps14
  go_wp2_with fail
  refine (awake01_any _).mono ?_; rintro e w1 ⟨rfl, hb⟩
  go_wp2_with fail
  refine (pen_Of_any _ _).mono ?_; rintro e w2 ⟨rfl, hb2, hi2, hz2⟩
  clear hz2
  obtain ⟨p, hp⟩ : ∃ p, p = w1.heap.size := ⟨_, rfl⟩
  have hpg : w.heap.size ≤ p := by rw [hp]; exact hb.size
  rw [← hp] at hi2 ⊢
  replace hb := bt hb hb2
  clear hb2 hp
  have hA := below_alloc w2 (.cells #[.string s0, .bool false] 106)
  have hN := Blk.new w2 #[.string s0, .bool false] 106
  obtain ⟨q, hq⟩ : ∃ q, q = w2.heap.size := ⟨_, rfl⟩
  have hpq : p ≠ q := by have := hi2.lt; omega
  have hqg : w.heap.size ≤ q := by rw [hq]; exact hb.size
  rw [← hq] at hN
  have H0 := hid (show InAt (w2.alloc (.cells #[.string s0, .bool false] 106)) p s0 false ∧ RefAt (w2.alloc (.cells #[.string s0, .bool false] 106)) q s0 false ∧ Below w.heap.size w (w2.alloc (.cells #[.string s0, .bool false] 106)) from ⟨hi2.belowS hA, hN, bt hb hA⟩)
  have HPG := hid hpg; have HPQ := hid hpq; have HQG := hid hqg; have HQ := hid hq
  clear hA hN hi2 hb hpg hpq hqg hq
  go_wp2_with fail
  rw [← HQ.out]
  clear HQ
  generalize w2.alloc (.cells #[.string s0, .bool false] 106) = w3 at H0 ⊢
  go_loopg [7] xs.length (fun g v7 wx => ∃ (i : Nat) (r : ByteArray) (b : Bool), i + g = xs.length ∧ i ≤ 40 ∧ v7 = .int .i64 i ∧ Hid (InAt wx p r b ∧ RefAt wx q r b ∧ Below w.heap.size w wx))
  case atStart => exact ⟨0, s0, false, by omega, by omega, rfl, H0.out⟩
  case round =>
    clear H0
    obtain ⟨i, r, b, hik, hi40, rfl, HS⟩ := hrel
    by_cases hlt : i < xs.length
    · by_cases h40 : i < 40
      · have h40' : (i : Int) < 40 := by omega
        obtain ⟨bb, off, rfl, hbl, hc⟩ := row_cell HR.out (by intro e; have h := act_at xs i 0 xs[i] (.int .i64 xs[i].1) (by simp [hlt]) rfl; rw [e] at h; cases h)
        obtain ⟨⟨K, W, n, m, s, t⟩, hx⟩ : ∃ x, x = xs[i] := ⟨_, rfl⟩
        have hxi : xs[i]? = some (K, W, n, m, s, t) := by rw [hx]; simp [hlt]
        have d0 := hc _ _ (act_at xs i 0 _ (.int .i64 K) hxi rfl)
        rw [← HS.out.2.2.cell (p := ⟨bb, off + (i * 6 + 0), none⟩) hbl, ← Nat.add_assoc] at d0
        rw [Nat.add_zero] at d0
        have d1 := hc _ _ (act_at xs i 1 _ (.int .i64 W) hxi rfl)
        rw [← HS.out.2.2.cell (p := ⟨bb, off + (i * 6 + 1), none⟩) hbl, ← Nat.add_assoc] at d1
        have d2 := hc _ _ (act_at xs i 2 _ (.int .i64 n) hxi rfl)
        rw [← HS.out.2.2.cell (p := ⟨bb, off + (i * 6 + 2), none⟩) hbl, ← Nat.add_assoc] at d2
        have d3 := hc _ _ (act_at xs i 3 _ (.int .i64 m) hxi rfl)
        rw [← HS.out.2.2.cell (p := ⟨bb, off + (i * 6 + 3), none⟩) hbl, ← Nat.add_assoc] at d3
        have d4 := hc _ _ (act_at xs i 4 _ (.string s) hxi rfl)
        rw [← HS.out.2.2.cell (p := ⟨bb, off + (i * 6 + 4), none⟩) hbl, ← Nat.add_assoc] at d4
        have d5 := hc _ _ (act_at xs i 5 _ (.string t) hxi rfl)
        rw [← HS.out.2.2.cell (p := ⟨bb, off + (i * 6 + 5), none⟩) hbl, ← Nat.add_assoc] at d5
        clear hc hbl hx hxi
        by_cases h4 : K = 4
        · subst h4
          have hA := below_alloc wr (.cells #[.int .i64 4, .int .i64 W, .int .i64 n, .int .i64 m, .string s, .string t] 77)
          have BX := Blk.new wr #[.int .i64 4, .int .i64 W, .int .i64 n, .int .i64 m, .string s, .string t] 77
          obtain ⟨gx, hgx⟩ : ∃ g, g = wr.heap.size := ⟨_, rfl⟩
          rw [← hgx] at BX
          have hxp : gx ≠ p := by have := HS.out.1.lt; omega
          have hxq : gx ≠ q := by have := HS.out.2.1.lt; omega
          have HGX := hid hgx; have HXP := hid (And.intro hxp hxq)
          have HS2 := hid (show InAt (wr.alloc (.cells #[.int .i64 4, .int .i64 W, .int .i64 n, .int .i64 m, .string s, .string t] 77)) p r b ∧ RefAt (wr.alloc (.cells #[.int .i64 4, .int .i64 W, .int .i64 n, .int .i64 m, .string s, .string t] 77)) q r b ∧ Below w.heap.size w (wr.alloc (.cells #[.int .i64 4, .int .i64 W, .int .i64 n, .int .i64 m, .string s, .string t] 77)) from ⟨HS.out.1.belowS hA, HS.out.2.1.belowS hA, bt HS.out.2.2 hA⟩)
          clear hgx hA hxp hxq
          have x0 : (wr.alloc (.cells #[.int .i64 4, .int .i64 W, .int .i64 n, .int .i64 m, .string s, .string t] 77)).cell? ⟨gx, 0, none⟩ = some (.int .i64 4) := BX.at rfl
          have HBX := hid BX; clear BX
          go_wp2_with fail
          clear d0 d1 d2 d3 d4 d5 x0
          rw [← HGX.out]
          have BX := HBX.out; clear HBX
          generalize (wr.alloc (.cells #[.int .i64 4, .int .i64 W, .int .i64 n, .int .i64 m, .string s, .string t] 77)) = w2 at *
          obtain ⟨⟨v, r', b'⟩, hT⟩ : ∃ x, x = numT r b W := ⟨_, rfl⟩
          have HT := hid hT; clear hT
          have hI : InAt w2.drew p r b := HS2.out.1
          have hU : RefAt w2.drew q r b := HS2.out.2.1
          have hB : Below w.heap.size w w2.drew := HS2.out.2.2.drew
          have xc : w2.drew.cell? ⟨gx, 1, none⟩ = some (.int .i64 W) := BX.at rfl
          have hgl : gx < w2.drew.heap.size := BX.lt
          clear BX HS2
          have KI : Hid (∀ w0 w' ra ba, Keeps [p] w0 w' → w0.cell? ⟨gx, 1, none⟩ = some (.int .i64 W) → gx < w0.heap.size → RefAt w0 q ra ba → Below w.heap.size w w0 → w'.cell? ⟨gx, 1, none⟩ = some (.int .i64 W) ∧ gx < w'.heap.size ∧ RefAt w' q ra ba ∧ Below w.heap.size w w') :=
            fun w0 w' ra ba hk h1 h2 h3 h4 => ⟨(Keeps.cell hk h2 (by simp; exact HXP.out.1)).trans h1, Nat.lt_of_lt_of_le h2 hk.size, Blk.keeps h3 hk (by simp; exact Ne.symm HPQ.out), Keeps.below1 h4 hk HPG.out⟩
          have KU : Hid (∀ w0 w' ra ba, Keeps [q] w0 w' → w0.cell? ⟨gx, 1, none⟩ = some (.int .i64 W) → gx < w0.heap.size → InAt w0 p ra ba → Below w.heap.size w w0 → w'.cell? ⟨gx, 1, none⟩ = some (.int .i64 W) ∧ gx < w'.heap.size ∧ InAt w' p ra ba ∧ Below w.heap.size w w') :=
            fun w0 w' ra ba hk h1 h2 h3 h4 => ⟨(Keeps.cell hk h2 (by simp; exact HXP.out.2)).trans h1, Nat.lt_of_lt_of_le h2 hk.size, Blk.keeps h3 hk (by simp; exact HPQ.out), Keeps.below1 h4 hk HQG.out⟩
          have CI : Hid (∀ w0, InAt w0 p r b → Calls Try.prog 64 #[.pointer (some ⟨p, 0, none⟩), .int .i64 W] w0 fun e w' => e = .returned (.int .i64 v) ∧ Keeps [p] w0 w' ∧ InAt w' p r' b') := fun w0 h => by
            have h1 := In_Num_all p r b W w0 h; rw [← HT.out] at h1; exact h1
          have CU : Hid (∀ w0, RefAt w0 q r b → Calls Try.prog 65 #[.pointer (some ⟨q, 0, none⟩), .int .i64 W] w0 fun e w' => e = .returned (.int .i64 v) ∧ Keeps [q] w0 w' ∧ RefAt w' q r' b') := fun w0 h => by
            have h1 := rIn_Num_all q r b W w0 h; rw [← HT.out] at h1; exact h1
          go_region_held3 (fun wx => wx.cell? ⟨gx, 1, none⟩ = some (.int .i64 W))
            ((first | assumption | exact xc))
            (first
              | (go_at_call 64; with_reducible refine (CI.out _ hI).mono ?_; rintro e w' ⟨rfl, hk, hi⟩; have hh := KI.out _ _ _ _ hk xc hgl hU hB; clear xc hgl hU hB hI hk; obtain ⟨xc, hgl, hU, hB⟩ := hh; have hI := hi; clear hi)
              | (go_at_call 65; with_reducible refine (CU.out _ hU).mono ?_; rintro e w' ⟨rfl, hk, hi⟩; have hh := KU.out _ _ _ _ hk xc hgl hI hB; clear xc hgl hU hB hI hk; obtain ⟨xc, hgl, hI, hB⟩ := hh; have hU := hi; clear hi))
          all_goals clear KI KU CI CU
          all_goals
            clear xc hgl
            have HI := hid hI; have HU := hid hU; have HBB := hid hB; clear hI hU hB
            have KL : Hid (∀ n, Calls Try.prog 70 #[.pointer (some ⟨p, 0, none⟩)] (w'.drewN n) fun e wx => e = .returned (.int .i64 r'.size) ∧ ∃ m, wx = w'.drewN m) := fun n => left_quiet p r' b' w' HI.out n
            obtain ⟨ve, hve⟩ : ∃ v, v = errE b' := ⟨_, rfl⟩
            obtain ⟨vd, hvd⟩ : ∃ v, v = endE r' b' := ⟨_, rfl⟩
            have KE : Hid (∀ n, Calls Try.prog 71 #[.pointer (some ⟨p, 0, none⟩)] (w'.drewN n) fun e wx => e = .returned (.int .i64 ve) ∧ ∃ m, wx = w'.drewN m) := fun n => err_quiet p r' b' w' HI.out ve hve n
            have KD : Hid (∀ n, Calls Try.prog 72 #[.pointer (some ⟨p, 0, none⟩)] (w'.drewN n) fun e wx => e = .returned (.int .i64 vd) ∧ ∃ m, wx = w'.drewN m) := fun n => end_quiet p r' b' w' HI.out vd hvd n
            cases b'
            all_goals
              rcases Int.lt_or_le 0 (r'.size : Int) with hz | hz
              all_goals
                first
                | have h5 : vd = 5 := hvd.trans (endE_pos _ _ hz)
                | have h5 : vd = 5 := hvd.trans (endE_true _)
                | have h5 : vd = 0 := hvd.trans (endE_zero _ hz)
                first
                | (have h6 : ve = 5 := by (rw [hve]; rfl); skip)
                | (have h6 : ve = 0 := by (rw [hve]; rfl); skip)
                clear hve hvd
                subst h5 h6
                have u0 := HU.out.c0; have u1 := HU.out.c1
                go_wp2_with fail
                go_quiet (first | with_reducible exact KL.out _ | with_reducible exact KE.out _ | with_reducible exact KD.out _)
                clear u0 u1
                go_wp2_with fail
                go_roundg (xs.length - (i + 1))
                case measure => omega
                case rel => exact ⟨i + 1, r', _, by omega, by omega, by go_num, blk_drewN HI.out _, blk_drewN HU.out _, below_drewN' HBB.out _⟩
        have e4 : (K == 4) = false := by simpa using h4
        by_cases h5 : K = 5
        · subst h5
          have hA := below_alloc wr (.cells #[.int .i64 5, .int .i64 W, .int .i64 n, .int .i64 m, .string s, .string t] 77)
          have BX := Blk.new wr #[.int .i64 5, .int .i64 W, .int .i64 n, .int .i64 m, .string s, .string t] 77
          obtain ⟨gx, hgx⟩ : ∃ g, g = wr.heap.size := ⟨_, rfl⟩
          rw [← hgx] at BX
          have hxp : gx ≠ p := by have := HS.out.1.lt; omega
          have hxq : gx ≠ q := by have := HS.out.2.1.lt; omega
          have HGX := hid hgx; have HXP := hid (And.intro hxp hxq)
          have HS2 := hid (show InAt (wr.alloc (.cells #[.int .i64 5, .int .i64 W, .int .i64 n, .int .i64 m, .string s, .string t] 77)) p r b ∧ RefAt (wr.alloc (.cells #[.int .i64 5, .int .i64 W, .int .i64 n, .int .i64 m, .string s, .string t] 77)) q r b ∧ Below w.heap.size w (wr.alloc (.cells #[.int .i64 5, .int .i64 W, .int .i64 n, .int .i64 m, .string s, .string t] 77)) from ⟨HS.out.1.belowS hA, HS.out.2.1.belowS hA, bt HS.out.2.2 hA⟩)
          clear hgx hA hxp hxq
          have x0 : (wr.alloc (.cells #[.int .i64 5, .int .i64 W, .int .i64 n, .int .i64 m, .string s, .string t] 77)).cell? ⟨gx, 0, none⟩ = some (.int .i64 5) := BX.at rfl
          have HBX := hid BX; clear BX
          go_wp2_with fail
          clear d0 d1 d2 d3 d4 d5 x0
          rw [← HGX.out]
          have BX := HBX.out; clear HBX
          generalize (wr.alloc (.cells #[.int .i64 5, .int .i64 W, .int .i64 n, .int .i64 m, .string s, .string t] 77)) = w2 at *
          obtain ⟨⟨v, r', b'⟩, hT⟩ : ∃ x, x = textT r b n := ⟨_, rfl⟩
          have HT := hid hT; clear hT
          have hI : InAt w2.drew p r b := HS2.out.1
          have hU : RefAt w2.drew q r b := HS2.out.2.1
          have hB : Below w.heap.size w w2.drew := HS2.out.2.2.drew
          have xc : w2.drew.cell? ⟨gx, 2, none⟩ = some (.int .i64 n) := BX.at rfl
          have hgl : gx < w2.drew.heap.size := BX.lt
          clear BX HS2
          have KI : Hid (∀ w0 w' ra ba, Keeps [p] w0 w' → w0.cell? ⟨gx, 2, none⟩ = some (.int .i64 n) → gx < w0.heap.size → RefAt w0 q ra ba → Below w.heap.size w w0 → w'.cell? ⟨gx, 2, none⟩ = some (.int .i64 n) ∧ gx < w'.heap.size ∧ RefAt w' q ra ba ∧ Below w.heap.size w w') :=
            fun w0 w' ra ba hk h1 h2 h3 h4 => ⟨(Keeps.cell hk h2 (by simp; exact HXP.out.1)).trans h1, Nat.lt_of_lt_of_le h2 hk.size, Blk.keeps h3 hk (by simp; exact Ne.symm HPQ.out), Keeps.below1 h4 hk HPG.out⟩
          have KU : Hid (∀ w0 w' ra ba, Keeps [q] w0 w' → w0.cell? ⟨gx, 2, none⟩ = some (.int .i64 n) → gx < w0.heap.size → InAt w0 p ra ba → Below w.heap.size w w0 → w'.cell? ⟨gx, 2, none⟩ = some (.int .i64 n) ∧ gx < w'.heap.size ∧ InAt w' p ra ba ∧ Below w.heap.size w w') :=
            fun w0 w' ra ba hk h1 h2 h3 h4 => ⟨(Keeps.cell hk h2 (by simp; exact HXP.out.2)).trans h1, Nat.lt_of_lt_of_le h2 hk.size, Blk.keeps h3 hk (by simp; exact HPQ.out), Keeps.below1 h4 hk HQG.out⟩
          have CI : Hid (∀ w0, InAt w0 p r b → Calls Try.prog 66 #[.pointer (some ⟨p, 0, none⟩), .int .i64 n] w0 fun e w' => e = .returned (.string v) ∧ Keeps [p] w0 w' ∧ InAt w' p r' b') := fun w0 h => by
            have h1 := In_Text_all p r b n w0 h; rw [← HT.out] at h1; exact h1
          have CU : Hid (∀ w0, RefAt w0 q r b → Calls Try.prog 67 #[.pointer (some ⟨q, 0, none⟩), .int .i64 n] w0 fun e w' => e = .returned (.string v) ∧ Keeps [q] w0 w' ∧ RefAt w' q r' b') := fun w0 h => by
            have h1 := rIn_Text_all q r b n w0 h; rw [← HT.out] at h1; exact h1
          go_region_held3 (fun wx => wx.cell? ⟨gx, 2, none⟩ = some (.int .i64 n))
            ((first | assumption | exact xc))
            (first
              | (go_at_call 66; with_reducible refine (CI.out _ hI).mono ?_; rintro e w' ⟨rfl, hk, hi⟩; have hh := KI.out _ _ _ _ hk xc hgl hU hB; clear xc hgl hU hB hI hk; obtain ⟨xc, hgl, hU, hB⟩ := hh; have hI := hi; clear hi)
              | (go_at_call 67; with_reducible refine (CU.out _ hU).mono ?_; rintro e w' ⟨rfl, hk, hi⟩; have hh := KU.out _ _ _ _ hk xc hgl hI hB; clear xc hgl hU hB hI hk; obtain ⟨xc, hgl, hI, hB⟩ := hh; have hU := hi; clear hi))
          all_goals clear KI KU CI CU
          all_goals
            clear xc hgl
            have HI := hid hI; have HU := hid hU; have HBB := hid hB; clear hI hU hB
            have KL : Hid (∀ n, Calls Try.prog 70 #[.pointer (some ⟨p, 0, none⟩)] (w'.drewN n) fun e wx => e = .returned (.int .i64 r'.size) ∧ ∃ m, wx = w'.drewN m) := fun n => left_quiet p r' b' w' HI.out n
            obtain ⟨ve, hve⟩ : ∃ v, v = errE b' := ⟨_, rfl⟩
            obtain ⟨vd, hvd⟩ : ∃ v, v = endE r' b' := ⟨_, rfl⟩
            have KE : Hid (∀ n, Calls Try.prog 71 #[.pointer (some ⟨p, 0, none⟩)] (w'.drewN n) fun e wx => e = .returned (.int .i64 ve) ∧ ∃ m, wx = w'.drewN m) := fun n => err_quiet p r' b' w' HI.out ve hve n
            have KD : Hid (∀ n, Calls Try.prog 72 #[.pointer (some ⟨p, 0, none⟩)] (w'.drewN n) fun e wx => e = .returned (.int .i64 vd) ∧ ∃ m, wx = w'.drewN m) := fun n => end_quiet p r' b' w' HI.out vd hvd n
            cases b'
            all_goals
              rcases Int.lt_or_le 0 (r'.size : Int) with hz | hz
              all_goals
                first
                | have h5 : vd = 5 := hvd.trans (endE_pos _ _ hz)
                | have h5 : vd = 5 := hvd.trans (endE_true _)
                | have h5 : vd = 0 := hvd.trans (endE_zero _ hz)
                first
                | (have h6 : ve = 5 := by (rw [hve]; rfl); skip)
                | (have h6 : ve = 0 := by (rw [hve]; rfl); skip)
                clear hve hvd
                subst h5 h6
                have u0 := HU.out.c0; have u1 := HU.out.c1
                go_wp2_with fail
                go_quiet (first | with_reducible exact KL.out _ | with_reducible exact KE.out _ | with_reducible exact KD.out _)
                clear u0 u1
                go_wp2_with fail
                go_roundg (xs.length - (i + 1))
                case measure => omega
                case rel => exact ⟨i + 1, r', _, by omega, by omega, by go_num, blk_drewN HI.out _, blk_drewN HU.out _, below_drewN' HBB.out _⟩
        have e5 : (K == 5) = false := by simpa using h5
        have hA := below_alloc wr (.cells #[.int .i64 K, .int .i64 W, .int .i64 n, .int .i64 m, .string s, .string t] 77)
        have BX := Blk.new wr #[.int .i64 K, .int .i64 W, .int .i64 n, .int .i64 m, .string s, .string t] 77
        obtain ⟨gx, hgx⟩ : ∃ g, g = wr.heap.size := ⟨_, rfl⟩
        rw [← hgx] at BX
        have hxp : gx ≠ p := by have := HS.out.1.lt; omega
        have hxq : gx ≠ q := by have := HS.out.2.1.lt; omega
        have HGX := hid hgx; have HXP := hid (And.intro hxp hxq)
        have HS2 := hid (show InAt (wr.alloc (.cells #[.int .i64 K, .int .i64 W, .int .i64 n, .int .i64 m, .string s, .string t] 77)) p r b ∧ RefAt (wr.alloc (.cells #[.int .i64 K, .int .i64 W, .int .i64 n, .int .i64 m, .string s, .string t] 77)) q r b ∧ Below w.heap.size w (wr.alloc (.cells #[.int .i64 K, .int .i64 W, .int .i64 n, .int .i64 m, .string s, .string t] 77)) from ⟨HS.out.1.belowS hA, HS.out.2.1.belowS hA, bt HS.out.2.2 hA⟩)
        clear hgx hA hxp hxq
        have x0 : (wr.alloc (.cells #[.int .i64 K, .int .i64 W, .int .i64 n, .int .i64 m, .string s, .string t] 77)).cell? ⟨gx, 0, none⟩ = some (.int .i64 K) := BX.at rfl
        have HBX := hid BX; clear BX
        go_wp2_with fail
        clear d0 d1 d2 d3 d4 d5 x0
        rw [← HGX.out]
        have BX := HBX.out; clear HBX
        generalize (wr.alloc (.cells #[.int .i64 K, .int .i64 W, .int .i64 n, .int .i64 m, .string s, .string t] 77)) = w2 at *
        obtain ⟨⟨v, r', b'⟩, hT⟩ : ∃ x, x = rawT r b n := ⟨_, rfl⟩
        have HT := hid hT; clear hT
        have hI : InAt w2.drew p r b := HS2.out.1
        have hU : RefAt w2.drew q r b := HS2.out.2.1
        have hB : Below w.heap.size w w2.drew := HS2.out.2.2.drew
        have xc : w2.drew.cell? ⟨gx, 2, none⟩ = some (.int .i64 n) := BX.at rfl
        have hgl : gx < w2.drew.heap.size := BX.lt
        clear BX HS2
        have KI : Hid (∀ w0 w' ra ba, Keeps [p] w0 w' → w0.cell? ⟨gx, 2, none⟩ = some (.int .i64 n) → gx < w0.heap.size → RefAt w0 q ra ba → Below w.heap.size w w0 → w'.cell? ⟨gx, 2, none⟩ = some (.int .i64 n) ∧ gx < w'.heap.size ∧ RefAt w' q ra ba ∧ Below w.heap.size w w') :=
          fun w0 w' ra ba hk h1 h2 h3 h4 => ⟨(Keeps.cell hk h2 (by simp; exact HXP.out.1)).trans h1, Nat.lt_of_lt_of_le h2 hk.size, Blk.keeps h3 hk (by simp; exact Ne.symm HPQ.out), Keeps.below1 h4 hk HPG.out⟩
        have KU : Hid (∀ w0 w' ra ba, Keeps [q] w0 w' → w0.cell? ⟨gx, 2, none⟩ = some (.int .i64 n) → gx < w0.heap.size → InAt w0 p ra ba → Below w.heap.size w w0 → w'.cell? ⟨gx, 2, none⟩ = some (.int .i64 n) ∧ gx < w'.heap.size ∧ InAt w' p ra ba ∧ Below w.heap.size w w') :=
          fun w0 w' ra ba hk h1 h2 h3 h4 => ⟨(Keeps.cell hk h2 (by simp; exact HXP.out.2)).trans h1, Nat.lt_of_lt_of_le h2 hk.size, Blk.keeps h3 hk (by simp; exact HPQ.out), Keeps.below1 h4 hk HQG.out⟩
        have CI : Hid (∀ w0, InAt w0 p r b → Calls Try.prog 68 #[.pointer (some ⟨p, 0, none⟩), .int .i64 n] w0 fun e w' => e = .returned (.string v) ∧ Keeps [p] w0 w' ∧ InAt w' p r' b') := fun w0 h => by
          have h1 := In_Raw_all p r b n w0 h; rw [← HT.out] at h1; exact h1
        have CU : Hid (∀ w0, RefAt w0 q r b → Calls Try.prog 69 #[.pointer (some ⟨q, 0, none⟩), .int .i64 n] w0 fun e w' => e = .returned (.string v) ∧ Keeps [q] w0 w' ∧ RefAt w' q r' b') := fun w0 h => by
          have h1 := rIn_Raw_all q r b n w0 h; rw [← HT.out] at h1; exact h1
        go_region_held3 (fun wx => wx.cell? ⟨gx, 2, none⟩ = some (.int .i64 n))
          ((first | assumption | exact xc))
          (first
            | (go_at_call 68; with_reducible refine (CI.out _ hI).mono ?_; rintro e w' ⟨rfl, hk, hi⟩; have hh := KI.out _ _ _ _ hk xc hgl hU hB; clear xc hgl hU hB hI hk; obtain ⟨xc, hgl, hU, hB⟩ := hh; have hI := hi; clear hi)
            | (go_at_call 69; with_reducible refine (CU.out _ hU).mono ?_; rintro e w' ⟨rfl, hk, hi⟩; have hh := KU.out _ _ _ _ hk xc hgl hI hB; clear xc hgl hU hB hI hk; obtain ⟨xc, hgl, hI, hB⟩ := hh; have hU := hi; clear hi))
        all_goals clear KI KU CI CU
        all_goals
          clear xc hgl
          have HI := hid hI; have HU := hid hU; have HBB := hid hB; clear hI hU hB
          have KL : Hid (∀ n, Calls Try.prog 70 #[.pointer (some ⟨p, 0, none⟩)] (w'.drewN n) fun e wx => e = .returned (.int .i64 r'.size) ∧ ∃ m, wx = w'.drewN m) := fun n => left_quiet p r' b' w' HI.out n
          obtain ⟨ve, hve⟩ : ∃ v, v = errE b' := ⟨_, rfl⟩
          obtain ⟨vd, hvd⟩ : ∃ v, v = endE r' b' := ⟨_, rfl⟩
          have KE : Hid (∀ n, Calls Try.prog 71 #[.pointer (some ⟨p, 0, none⟩)] (w'.drewN n) fun e wx => e = .returned (.int .i64 ve) ∧ ∃ m, wx = w'.drewN m) := fun n => err_quiet p r' b' w' HI.out ve hve n
          have KD : Hid (∀ n, Calls Try.prog 72 #[.pointer (some ⟨p, 0, none⟩)] (w'.drewN n) fun e wx => e = .returned (.int .i64 vd) ∧ ∃ m, wx = w'.drewN m) := fun n => end_quiet p r' b' w' HI.out vd hvd n
          cases b'
          all_goals
            rcases Int.lt_or_le 0 (r'.size : Int) with hz | hz
            all_goals
              first
              | have h5 : vd = 5 := hvd.trans (endE_pos _ _ hz)
              | have h5 : vd = 5 := hvd.trans (endE_true _)
              | have h5 : vd = 0 := hvd.trans (endE_zero _ hz)
              first
              | (have h6 : ve = 5 := by (rw [hve]; rfl); skip)
              | (have h6 : ve = 0 := by (rw [hve]; rfl); skip)
              clear hve hvd
              subst h5 h6
              have u0 := HU.out.c0; have u1 := HU.out.c1
              go_wp2_with fail
              go_quiet (first | with_reducible exact KL.out _ | with_reducible exact KE.out _ | with_reducible exact KD.out _)
              clear u0 u1
              go_wp2_with fail
              go_roundg (xs.length - (i + 1))
              case measure => omega
              case rel => exact ⟨i + 1, r', _, by omega, by omega, by go_num, blk_drewN HI.out _, blk_drewN HU.out _, below_drewN' HBB.out _⟩
      · have h40' : (i : Int) = 40 := by omega
        have hb := HS.out.2.2
        clear HS HR
        go_wp2_with fail
        refine (In_Num_nil 1 _).mono ?_; rintro e w4 ⟨rfl, hb4⟩
        replace hb := bt hb hb4; clear hb4
        go_wp2_with fail
        refine (In_Text_nil 9 _).mono ?_; rintro e w5 ⟨rfl, hb5⟩
        replace hb := bt hb hb5; clear hb5
        rw [show emptyB = ⟨#[]⟩ from rfl]
        go_wp2_with fail
        refine (In_Raw_nil 0 _).mono ?_; rintro e w6 ⟨rfl, rfl⟩
        rw [show emptyB = ⟨#[]⟩ from rfl]
        go_wp2_with fail
        refine (In_Left_nil _).mono ?_; rintro e w6 ⟨rfl, rfl⟩
        go_wp2_with fail
        refine (In_Err_nil _).mono ?_; rintro e w6 ⟨rfl, rfl⟩
        go_wp2_with fail
        refine (In_End_nil _).mono ?_; rintro e w6 ⟨rfl, rfl⟩
        go_wp2_with fail
        go_ret
        exact ⟨rfl, hb⟩
    · have hin : i = xs.length := by omega
      subst hin
      have hb := HS.out.2.2
      clear HS HR
      go_wp2_with fail
      refine (In_Num_nil 1 _).mono ?_; rintro e w4 ⟨rfl, hb4⟩
      replace hb := bt hb hb4; clear hb4
      go_wp2_with fail
      refine (In_Text_nil 9 _).mono ?_; rintro e w5 ⟨rfl, hb5⟩
      replace hb := bt hb hb5; clear hb5
      rw [show emptyB = ⟨#[]⟩ from rfl]
      go_wp2_with fail
      refine (In_Raw_nil 0 _).mono ?_; rintro e w6 ⟨rfl, rfl⟩
      rw [show emptyB = ⟨#[]⟩ from rfl]
      go_wp2_with fail
      refine (In_Left_nil _).mono ?_; rintro e w6 ⟨rfl, rfl⟩
      go_wp2_with fail
      refine (In_Err_nil _).mono ?_; rintro e w6 ⟨rfl, rfl⟩
      go_wp2_with fail
      refine (In_End_nil _).mono ?_; rintro e w6 ⟨rfl, rfl⟩
      go_wp2_with fail
      go_ret
      exact ⟨rfl, hb⟩

/-- in the row's words -/
theorem penReads_law (s0 : ByteArray) (A : Option Addr) (cap : Nat) (xs : List Act6) (w : World) (_ : s0.size ≤ 140737488351232) (hr : Row w A (xs.flatMap actCells))
    (_ : ∀ x ∈ xs, (Lit.int .i64 x.1).wf = true ∧ (Lit.int .i64 x.2.1).wf = true ∧ (Lit.int .i64 x.2.2.1).wf = true ∧ (Lit.int .i64 x.2.2.2.1).wf = true ∧ x.2.2.2.2.1.size ≤ 140737488351232 ∧ x.2.2.2.2.2.size ≤ 140737488351232)
    (hu : xs.length ≤ cap) (hm : cap ≤ maxLen) :
    Calls Try.prog 14 #[.string s0, .slice A xs.length cap] w fun e w' => e = .returned (.bool true) ∧ Below w.heap.size w w' :=
  penReads_walk s0 A cap xs w hr (by simp only [maxLen] at hm; omega)
end Go.Proofs.Ytapmnnfnhgopcaa
