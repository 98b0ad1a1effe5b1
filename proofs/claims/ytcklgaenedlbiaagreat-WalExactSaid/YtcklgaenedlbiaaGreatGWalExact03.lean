/-
  The reader of layer 1, walked: Of, fail, Raw, Num, Text, Left, Err, End; of a nil one too.
  The writer of layer 1, walked: fits, Num, Text, Raw, Bytes, Len; of a nil one too.
-/
import Derived.Test.YtcklgaenedlbiaaGreatProg
import Derived.Test.YtcklgaenedlbiaaGreatGWalExact01
import Derived.Lib.Strings
import Derived.Test.YtcklgaenedlbiaaGreatGWalExact02
import Derived.Shelf.Abstract

namespace Go.Proofs.YtcklgaenedlbiaaGreat
open Go.RowKit

/-- a reader: what is left; whether something was wrong -/
def InAt (w : World) (p : Nat) (r : ByteArray) (b : Bool) : Prop := Blk w p 157 [.string r, .bool b]

theorem InAt.c0 {w : World} {p : Nat} {r : ByteArray} {b : Bool} (h : InAt w p r b) : w.cell? ⟨p, 0, none⟩ = some (.string r) := Blk.at h rfl
theorem InAt.c1 {w : World} {p : Nat} {r : ByteArray} {b : Bool} (h : InAt w p r b) : w.cell? ⟨p, 1, none⟩ = some (.bool b) := Blk.at h rfl
theorem InAt.f0 {w : World} {p : Nat} {r : ByteArray} {b : Bool} (h : InAt w p r b) : w.frozen? ⟨p, 0, none⟩ = false := Blk.free h (by simp)
theorem InAt.f1 {w : World} {p : Nat} {r : ByteArray} {b : Bool} (h : InAt w p r b) : w.frozen? ⟨p, 1, none⟩ = false := Blk.free h (by simp)

def emptyB : ByteArray := ⟨#[]⟩

set_option maxHeartbeats 400000 in
theorem pen_Of_any (s : ByteArray) (w : World) :
    Calls Tryz.prog 76 #[.string s] w fun e w' => e = .returned (.pointer (some ⟨w.heap.size, 0, none⟩)) ∧ Below w.heap.size w w' ∧ InAt w' w.heap.size s false ∧ w'.heap.size = w.heap.size + 1 := by
  go_enter Tryz.func76, Tryz.ntmps76
  go_wp2
  go_ret
  exact ⟨rfl, below_alloc _ _, Blk.new _ _ _, by simp⟩

set_option maxHeartbeats 400000 in
theorem In_fail_any (p : Nat) (r : ByteArray) (b : Bool) (w : World) (h : InAt w p r b) :
    Calls Tryz.prog 101 #[.pointer (some ⟨p, 0, none⟩)] w fun e w' => e = .returned (.tuple #[]) ∧ Keeps [p] w w' ∧ InAt w' p emptyB true := by
  have c0 := h.c0; have c1 := h.c1; have f0 := h.f0; have f1 := h.f1
  have H := hid h; clear h
  go_enter Tryz.func101, Tryz.ntmps101
  go_wp2
  go_end0
  exact ⟨rfl, ((Keeps.refl _ _).setCell (by simp) _).setCell (by simp) _, (Blk.set (Blk.set H.out 0 _) 1 _)⟩

set_option maxHeartbeats 1000000 in
theorem In_Raw_no (p : Nat) (r : ByteArray) (b : Bool) (n : Int) (w : World) (h : InAt w p r b) (hc : b = true ∨ n < 0 ∨ (r.size : Int) < n) :
    Calls Tryz.prog 100 #[.pointer (some ⟨p, 0, none⟩), .int .i64 n] w fun e w' => e = .returned (.string emptyB) ∧ Keeps [p] w w' ∧ InAt w' p emptyB true := by
  have c0 := h.c0; have c1 := h.c1
  have H := hid h; clear h
  cases b with
  | true =>
    go_enter Tryz.func100, Tryz.ntmps100
    go_wp2_with fail
    refine (In_fail_any p r _ _ H.out).mono ?_; rintro e w1 ⟨rfl, hk, hi⟩
    go_wp2_with fail
    go_ret
    exact ⟨rfl, hk, hi⟩
  | false =>
    by_cases hn : n < 0
    · go_enter Tryz.func100, Tryz.ntmps100
      go_wp2_with fail
      refine (In_fail_any p r _ _ H.out).mono ?_; rintro e w1 ⟨rfl, hk, hi⟩
      go_wp2_with fail
      go_ret
      exact ⟨rfl, hk, hi⟩
    · have hr : (r.size : Int) < n := by simp at hc; omega
      go_enter Tryz.func100, Tryz.ntmps100
      go_wp2_with fail
      refine (In_fail_any p r _ _ H.out).mono ?_; rintro e w1 ⟨rfl, hk, hi⟩
      go_wp2_with fail
      go_ret
      exact ⟨rfl, hk, hi⟩

set_option maxHeartbeats 1000000 in
theorem In_Raw_yes (p : Nat) (r : ByteArray) (n : Nat) (w : World) (h : InAt w p r false) (hc : n ≤ r.size) :
    Calls Tryz.prog 100 #[.pointer (some ⟨p, 0, none⟩), .int .i64 n] w fun e w' => e = .returned (.string (r.extract 0 n)) ∧ Keeps [p] w w' ∧ InAt w' p (r.extract n r.size) false := by
  have c0 := h.c0; have c1 := h.c1; have f0 := h.f0
  have b0 : (0 : Int) ≤ (n : Int) := by omega
  have b1 : (n : Int) ≤ (r.size : Int) := by omega
  have H := hid h; clear h
  go_enter Tryz.func100, Tryz.ntmps100
  go_wp2_with fail
  go_ret
  exact ⟨rfl, (Keeps.refl _ _).setCell (by simp) _, Blk.set H.out 0 _⟩

set_option maxHeartbeats 400000 in
theorem In_Raw_nil (n : Int) (w : World) :
    Calls Tryz.prog 100 #[.pointer none, .int .i64 n] w fun e w' => e = .returned (.string emptyB) ∧ w = w' := by
  go_enter Tryz.func100, Tryz.ntmps100
  go_wp2_with fail
  go_ret
  exact ⟨rfl, rfl⟩

/-- whether numbers may have so many bytes -/
def isW (n : Int) : Bool := n == 1 || n == 2 || n == 4 || n == 8
theorem isW_cases {n : Int} (h : isW n = true) : n = 1 ∨ n = 2 ∨ n = 4 ∨ n = 8 := by simp [isW] at h; omega
theorem isW_not {n : Int} (h : isW n = false) : ¬ n = 1 ∧ ¬ n = 2 ∧ ¬ n = 4 ∧ ¬ n = 8 := by simp [isW] at h; omega

set_option maxHeartbeats 400000 in
theorem isWidth_any (n : Int) (w : World) :
    Calls Tryz.prog 87 #[.int .i64 n] w fun e w' => e = .returned (.bool (isW n)) ∧ w = w' := by
  cases h : isW n with
  | true =>
    rcases isW_cases h with rfl | rfl | rfl | rfl
    all_goals
      clear h
      go_enter Tryz.func87, Tryz.ntmps87
      go_wp2_with fail
      go_ret
      exact ⟨rfl, rfl⟩
  | false =>
    obtain ⟨h1, h2, h3, h4⟩ := isW_not h
    have e1 : (n == 1) = false := by simp [h1]
    have e2 : (n == 2) = false := by simp [h2]
    have e3 : (n == 4) = false := by simp [h3]
    have e4 : (n == 8) = false := by simp [h4]
    clear h h1 h2 h3 h4
    go_enter Tryz.func87, Tryz.ntmps87
    go_wp2_with fail
    go_ret
    exact ⟨rfl, rfl⟩

/-- bytes as a number, the highest first -/
def be (l : List UInt8) : Nat := l.foldl (fun n b => n * 256 + b.toNat) 0
theorem be_snoc (l : List UInt8) (b : UInt8) : be (l ++ [b]) = be l * 256 + b.toNat := by simp [be]
theorem be_lt_from : ∀ (l : List UInt8) (n : Nat), l.foldl (fun n b => n * 256 + b.toNat) n < (n + 1) * 256 ^ l.length
  | [], n => by simp
  | b :: l, n => by
    have h := be_lt_from l (n * 256 + b.toNat)
    have hb := b.toNat_lt
    rw [List.foldl_cons, List.length_cons, Nat.pow_succ, Nat.mul_comm (256 ^ l.length) 256, ← Nat.mul_assoc]
    exact Nat.lt_of_lt_of_le h (Nat.mul_le_mul_right _ (by omega))
theorem be_lt (l : List UInt8) : be l < 256 ^ l.length := by
  have := be_lt_from l 0
  simpa [be] using this
theorem or_byte (N : Nat) (b : UInt8) (h : N < 2 ^ 56) : bits .or .i64 (wrap64 ((N : Int) * 256)) (b.toNat : Int) = wrap64 ((N * 256 + b.toNat : Nat) : Int) := by
  have hb := b.toNat_lt
  have e1 : (BitVec.ofInt 64 (wrap64 ((N : Int) * 256))).toNat = N * 256 := by
    rw [BitVec.toNat_ofInt]
    unfold wrap64
    omega
  have e2 : (BitVec.ofInt 64 (b.toNat : Int)).toNat = b.toNat := by
    rw [BitVec.toNat_ofInt]; omega
  simp only [bits, BitVec.toNat_or]
  show IntKind.i64.wrap (((BitVec.ofInt 64 (wrap64 ((N : Int) * 256))).toNat ||| (BitVec.ofInt 64 (b.toNat : Int)).toNat : Nat) : Int) = _
  rw [e1, e2, nat_join 8 (N * 256) b.toNat (by omega) (by omega)]
  rw [IntKind.wrap_i64]
  unfold wrap64
  rfl

set_option maxHeartbeats 1000000 in
theorem In_Num_no (p : Nat) (r : ByteArray) (b : Bool) (n : Int) (w : World) (h : InAt w p r b) (hc : isW n = false ∨ b = true ∨ (r.size : Int) < n) :
    Calls Tryz.prog 77 #[.pointer (some ⟨p, 0, none⟩), .int .i64 n] w fun e w' => e = .returned (.int .i64 0) ∧ Keeps [p] w w' ∧ InAt w' p emptyB true := by
  obtain ⟨m, hm⟩ : ∃ m : Int, m = if isW n then n else -1 := ⟨_, rfl⟩
  have hcm : b = true ∨ m < 0 ∨ (r.size : Int) < m := by
    rw [hm]
    rcases hc with h | h | h
    · rw [h]; right; left; simp
    · left; exact h
    · split
      · right; right; exact h
      · right; left; decide
  have HC := hid hc; clear hc
  cases hw : isW n with
  | true =>
    rw [hw] at hm
    simp only [if_true] at hm
    subst hm
    have H := hid h; clear h
    go_enter Tryz.func77, Tryz.ntmps77
    go_wp2_with fail
    refine (isWidth_any _ _).mono ?_; rintro e w1 ⟨rfl, rfl⟩
    go_wp2_with fail
    refine (In_Raw_no p r b m _ H.out hcm).mono ?_; rintro e w1 ⟨rfl, hk1, hi1⟩
    go_wp2_with (with_reducible refine at_op (.convert 9 62 (.tmp 13)) rfl ?_; refine Stopped.go ?_)
    refine Stopped.mk (wpList_bytes rfl _ _ 5 _ rfl emptyB rfl Tryz.underlying9 Tryz.underlying62 Tryz.underlying5 ?_)
    intro cp w2 hb2 hz2 hcp hB2
    have z : emptyB.size = 0 := rfl
    rw [z]
    clear hB2 hcp hz2 z
    go_wp2_with fail
    refine wp_loop_rounds 1 ?_
    rw [rounds_succ]
    go_wp2_with fail
    go_ret
    exact ⟨rfl, hk1.trans (Keeps.of hb2), Blk.belowS hi1 hb2⟩
  | false =>
    rw [hw] at hm
    simp only [Bool.false_eq_true, if_false] at hm
    subst hm
    have H := hid h; clear h
    go_enter Tryz.func77, Tryz.ntmps77
    go_wp2_with fail
    refine (isWidth_any _ _).mono ?_; rintro e w1 ⟨rfl, rfl⟩
    go_wp2_with fail
    refine (In_Raw_no p r b (-1) _ H.out hcm).mono ?_; rintro e w1 ⟨rfl, hk1, hi1⟩
    go_wp2_with (with_reducible refine at_op (.convert 9 62 (.tmp 13)) rfl ?_; refine Stopped.go ?_)
    refine Stopped.mk (wpList_bytes rfl _ _ 5 _ rfl emptyB rfl Tryz.underlying9 Tryz.underlying62 Tryz.underlying5 ?_)
    intro cp w2 hb2 hz2 hcp hB2
    have z : emptyB.size = 0 := rfl
    rw [z]
    clear hB2 hcp hz2 z
    go_wp2_with fail
    refine wp_loop_rounds 1 ?_
    rw [rounds_succ]
    go_wp2_with fail
    go_ret
    exact ⟨rfl, hk1.trans (Keeps.of hb2), Blk.belowS hi1 hb2⟩

set_option maxHeartbeats 2000000 in
set_option maxRecDepth 100000 in
/-- what is read: the number, if it is one -/
theorem In_Num_walk (p : Nat) (r : ByteArray) (n : Nat) (w : World) (h : InAt w p r false) (hw : isW (n : Int) = true) (hc : n ≤ r.size) (N : Nat) (hN : N = be (r.data.toList.take n)) (big : Bool) (hb : big = decide (9223372036854775808 ≤ N)) :
    Calls Tryz.prog 77 #[.pointer (some ⟨p, 0, none⟩), .int .i64 n] w fun e w' => e = .returned (.int .i64 (if big then 0 else (N : Int))) ∧ Keeps [p] w w' ∧ InAt w' p (if big then emptyB else r.extract n r.size) big := by
  have hn8 : n ≤ 8 := by rcases isW_cases hw with h | h | h | h <;> omega
  have H := hid h; clear h
  have HN := hid hN; have HB := hid hb
  clear hN hb
  go_enter Tryz.func77, Tryz.ntmps77
  go_wp2_with fail
  refine (isWidth_any _ _).mono ?_; rintro e w1 ⟨rfl, rfl⟩
  go_wp2_with fail
  refine (In_Raw_yes p r n _ H.out hc).mono ?_; rintro e w1 ⟨rfl, hk1, hi1⟩
  go_wp2_with (with_reducible refine at_op (.convert 9 62 (.tmp 13)) rfl ?_; refine Stopped.go ?_)
  refine Stopped.mk (wpList_bytes rfl _ _ 5 _ rfl (r.extract 0 n) rfl Tryz.underlying9 Tryz.underlying62 Tryz.underlying5 ?_)
  intro cp w2 hb2 hz2 hcp hB2
  have hsz : (r.extract 0 n).size = n := by simp; omega
  have hdt : (r.extract 0 n).data.toList = r.data.toList.take n := by rw [Lib.extract_data]; simp
  have HC : Hid (∀ j, j < n → w2.cell? ⟨w1.heap.size, j, none⟩ = some (.int .u8 ((r.data.toList.take n).getD j 0).toNat)) := by
    intro j hj
    have := bytes_at hB2 (j := j) (by omega)
    rwa [hdt] at this
  obtain ⟨l, hl⟩ : ∃ l, l = r.data.toList.take n := ⟨_, rfl⟩
  have hll : l.length = n := by rw [hl]; simp; omega
  rw [← hl] at HC HN
  rw [hsz]
  have HI := hid hi1; have HK := hid hk1; have HB2 := hid hb2; have HLL := hid hll
  clear hB2 hcp hz2 hsz hdt hl hi1 hk1 hb2 hll
  go_wp2_with fail
  go_loopg [5, 16] n (fun g v j wx => ∃ (k : Nat) (V : Int), k + g = n ∧ j = .int .i64 k ∧ v = .int .i64 V ∧ Hid (V = wrap64 (be (l.take k))) ∧ w2 = wx)
  case atStart => exact ⟨0, 0, by omega, rfl, rfl, (show (0 : Int) = wrap64 ((be (l.take 0) : Nat) : Int) by simp [be, wrap64]), rfl⟩
  case round =>
    obtain ⟨k, V, hk, rfl, rfl, HV, rfl⟩ := hrel
    by_cases hlt : k < n
    · have hcell := HC.out k hlt
      obtain ⟨x, hx⟩ : ∃ x, x = l.getD k 0 := ⟨_, rfl⟩
      rw [← hx] at hcell
      have hsn : l.take (k + 1) = l.take k ++ [x] := by
        have hkl : k < l.length := by rw [HLL.out]; exact hlt
        rw [List.take_succ_eq_append_getElem hkl, hx, List.getD_eq_getElem?_getD, List.getElem?_eq_getElem hkl]
        rfl
      obtain ⟨M, hM⟩ : ∃ M, M = be (l.take k) := ⟨_, rfl⟩
      have hMl : M < 72057594037927936 := by
        have h1 := be_lt (l.take k)
        have h2 : (l.take k).length ≤ 7 := by rw [List.length_take]; omega
        have h3 : 256 ^ (l.take k).length ≤ 256 ^ 7 := Nat.pow_le_pow_right (by decide) h2
        rw [← hM] at h1
        omega
      have hVM : V = (M : Int) := by rw [HV.out, ← hM]; unfold wrap64; omega
      subst hVM
      have e1 := or_byte M x hMl
      have hxl : x.toNat < 256 := x.toNat_lt
      obtain ⟨V2, hV2⟩ : ∃ V2, V2 = wrap64 ((M * 256 + x.toNat : Nat) : Int) := ⟨_, rfl⟩
      rw [← hV2] at e1
      have HV2 : Hid (V2 = wrap64 (be (l.take (k + 1)))) := by rw [hV2, hsn, be_snoc, ← hM]; rfl
      clear hx hsn hM hV2 HV
      go_wp2_with fail
      go_roundg (n - (k + 1))
      case measure => omega
      case rel => exact ⟨k + 1, V2, by omega, by go_num, rfl, HV2, rfl⟩
    · have hkn : k = n := by omega
      have hVN : V = wrap64 (N : Int) := by rw [HV.out, HN.out, List.take_of_length_le (by rw [HLL.out]; omega)]
      have hNl : N < 18446744073709551616 := by
        have h1 := be_lt l
        rw [HLL.out, ← HN.out] at h1
        have h3 : 256 ^ n ≤ 256 ^ 8 := Nat.pow_le_pow_right (by decide) hn8
        omega
      cases big with
      | true =>
        have hbig : 9223372036854775808 ≤ N := by have := HB.out; simpa using this.symm
        have hneg : V < 0 := by rw [hVN]; unfold wrap64; omega
        clear hVN hbig hNl hkn
        go_wp2_with fail
        refine (In_fail_any p _ _ _ (Blk.belowS HI.out HB2.out)).mono ?_; rintro e w3 ⟨rfl, hk3, hi3⟩
        go_wp2_with fail
        go_ret
        exact ⟨rfl, (HK.out.trans (Keeps.of HB2.out)).trans hk3, hi3⟩
      | false =>
        have hbig : ¬ 9223372036854775808 ≤ N := by have := HB.out; simpa using this.symm
        have hV : V = (N : Int) := by rw [hVN]; unfold wrap64; omega
        subst hV
        clear hVN hbig hNl hkn
        go_wp2_with fail
        go_ret
        exact ⟨rfl, HK.out.trans (Keeps.of HB2.out), Blk.belowS HI.out HB2.out⟩

set_option maxHeartbeats 1000000 in
theorem In_Num_nil (n : Int) (w : World) :
    Calls Tryz.prog 77 #[.pointer none, .int .i64 n] w fun e w' => e = .returned (.int .i64 0) ∧ Below w.heap.size w w' := by
  cases hw : isW n with
  | true =>
    go_enter Tryz.func77, Tryz.ntmps77
    go_wp2_with fail
    refine (isWidth_any _ _).mono ?_; rintro e w1 ⟨rfl, rfl⟩
    go_wp2_with fail
    refine (In_Raw_nil n _).mono ?_; rintro e w1 ⟨rfl, rfl⟩
    go_wp2_with (with_reducible refine at_op (.convert 9 62 (.tmp 13)) rfl ?_; refine Stopped.go ?_)
    refine Stopped.mk (wpList_bytes rfl _ _ 5 _ rfl emptyB rfl Tryz.underlying9 Tryz.underlying62 Tryz.underlying5 ?_)
    intro cp w2 hb2 hz2 hcp hB2
    have z : emptyB.size = 0 := rfl
    rw [z]
    clear hB2 hcp hz2 z
    go_wp2_with fail
    refine wp_loop_rounds 1 ?_
    rw [rounds_succ]
    go_wp2_with fail
    go_ret
    exact ⟨rfl, hb2⟩
  | false =>
    go_enter Tryz.func77, Tryz.ntmps77
    go_wp2_with fail
    refine (isWidth_any _ _).mono ?_; rintro e w1 ⟨rfl, rfl⟩
    go_wp2_with fail
    refine (In_Raw_nil (-1) _).mono ?_; rintro e w1 ⟨rfl, rfl⟩
    go_wp2_with (with_reducible refine at_op (.convert 9 62 (.tmp 13)) rfl ?_; refine Stopped.go ?_)
    refine Stopped.mk (wpList_bytes rfl _ _ 5 _ rfl emptyB rfl Tryz.underlying9 Tryz.underlying62 Tryz.underlying5 ?_)
    intro cp w2 hb2 hz2 hcp hB2
    have z : emptyB.size = 0 := rfl
    rw [z]
    clear hB2 hcp hz2 z
    go_wp2_with fail
    refine wp_loop_rounds 1 ?_
    rw [rounds_succ]
    go_wp2_with fail
    go_ret
    exact ⟨rfl, hb2⟩

/-- a byte is a number -/
theorem In_Num1 (p : Nat) (r : ByteArray) (w : World) (h : InAt w p r false) (x : UInt8) (hx : r.data.toList[0]? = some x) :
    Calls Tryz.prog 77 #[.pointer (some ⟨p, 0, none⟩), .int .i64 1] w fun e w' => e = .returned (.int .i64 x.toNat) ∧ Keeps [p] w w' ∧ InAt w' p (r.extract 1 r.size) false := by
  have hl : 0 < r.data.toList.length := (List.getElem?_eq_some_iff.1 hx).1
  have hsz : 1 ≤ r.size := by simp at hl; omega
  have ht : r.data.toList.take 1 = [x] := by
    cases hd : r.data.toList with
    | nil => rw [hd] at hl; simp at hl
    | cons y l => rw [hd] at hx; simp at hx; simp [hx]
  refine (In_Num_walk p r 1 w h rfl hsz x.toNat (by rw [ht]; simp [be]) false ?_).mono ?_
  · have := x.toNat_lt
    rw [eq_comm, decide_eq_false_iff_not]; omega
  · rintro e w' ⟨rfl, hk, hi⟩
    exact ⟨rfl, hk, hi⟩

set_option maxHeartbeats 1000000 in
theorem In_Text_no (p : Nat) (r : ByteArray) (b : Bool) (most : Int) (w : World) (h : InAt w p r b)
    (hc : b = true ∨ r.size = 0 ∨ ∃ x : UInt8, r.data.toList[0]? = some x ∧ (most < (x.toNat : Int) ∨ (r.size : Int) < x.toNat + 1)) :
    Calls Tryz.prog 102 #[.pointer (some ⟨p, 0, none⟩), .int .i64 most] w fun e w' => e = .returned (.string emptyB) ∧ Keeps [p] w w' ∧ InAt w' p emptyB true := by
  have H := hid h; clear h
  by_cases hs : b = true ∨ r.size = 0
  · have hno : isW 1 = false ∨ b = true ∨ (r.size : Int) < 1 := by
      rcases hs with h | h
      · exact .inr (.inl h)
      · right; right; omega
    clear hc hs
    by_cases hm : most < 0
    · go_enter Tryz.func102, Tryz.ntmps102
      go_wp2_with fail
      refine (In_Num_no p r b 1 _ H.out hno).mono ?_; rintro e w1 ⟨rfl, hk1, hi1⟩
      go_wp2_with fail
      refine (In_Raw_no p _ _ _ _ hi1 (.inl rfl)).mono ?_; rintro e w2 ⟨rfl, hk2, hi2⟩
      go_wp2_with fail
      go_ret
      exact ⟨rfl, hk1.trans hk2, hi2⟩
    · go_enter Tryz.func102, Tryz.ntmps102
      go_wp2_with fail
      refine (In_Num_no p r b 1 _ H.out hno).mono ?_; rintro e w1 ⟨rfl, hk1, hi1⟩
      go_wp2_with fail
      refine (In_Raw_no p _ _ _ _ hi1 (.inl rfl)).mono ?_; rintro e w2 ⟨rfl, hk2, hi2⟩
      go_wp2_with fail
      go_ret
      exact ⟨rfl, hk1.trans hk2, hi2⟩
  · have hbf : b = false := by cases b <;> simp_all
    obtain ⟨x, hx, hc⟩ : ∃ x : UInt8, r.data.toList[0]? = some x ∧ (most < (x.toNat : Int) ∨ (r.size : Int) < x.toNat + 1) := by
      rcases hc with h | h | h
      · exact absurd (.inl h) hs
      · exact absurd (.inr h) hs
      · exact h
    subst hbf
    clear hs
    have hr1 : (r.extract 1 r.size).size = r.size - 1 := by simp
    have HX := hid hx; clear hx
    have hxl : x.toNat < 256 := x.toNat_lt
    by_cases hm : most < (x.toNat : Int)
    · go_enter Tryz.func102, Tryz.ntmps102
      go_wp2_with fail
      refine (In_Num1 p r _ H.out x HX.out).mono ?_; rintro e w1 ⟨rfl, hk1, hi1⟩
      go_wp2_with fail
      refine (In_Raw_no p _ _ _ _ hi1 (.inr (.inl (by decide)))).mono ?_; rintro e w2 ⟨rfl, hk2, hi2⟩
      go_wp2_with fail
      go_ret
      exact ⟨rfl, hk1.trans hk2, hi2⟩
    · have hr0 : 1 ≤ r.size := by
        have := (List.getElem?_eq_some_iff.1 HX.out).1
        simp at this; omega
      have hc2 : ((r.extract 1 r.size).size : Int) < (x.toNat : Int) := by rw [hr1]; omega
      have HC2 := hid hc2
      clear hr1 hc hc2
      go_enter Tryz.func102, Tryz.ntmps102
      go_wp2_with fail
      refine (In_Num1 p r _ H.out x HX.out).mono ?_; rintro e w1 ⟨rfl, hk1, hi1⟩
      go_wp2_with fail
      refine (In_Raw_no p _ _ (x.toNat : Int) _ hi1 (.inr (.inr HC2.out))).mono ?_; rintro e w2 ⟨rfl, hk2, hi2⟩
      go_wp2_with fail
      go_ret
      exact ⟨rfl, hk1.trans hk2, hi2⟩

set_option maxHeartbeats 1000000 in
theorem In_Text_yes (p : Nat) (r : ByteArray) (most : Int) (w : World) (h : InAt w p r false) (x : UInt8) (hx : r.data.toList[0]? = some x) (hm : (x.toNat : Int) ≤ most) (hs : x.toNat + 1 ≤ r.size) :
    Calls Tryz.prog 102 #[.pointer (some ⟨p, 0, none⟩), .int .i64 most] w fun e w' => e = .returned (.string ((r.extract 1 r.size).extract 0 x.toNat)) ∧ Keeps [p] w w' ∧ InAt w' p ((r.extract 1 r.size).extract x.toNat (r.extract 1 r.size).size) false := by
  have H := hid h; clear h
  have hr1 : (r.extract 1 r.size).size = r.size - 1 := by simp
  have HX := hid hx; clear hx
  have HR := hid hr1; clear hr1
  have hxl : x.toNat < 256 := x.toNat_lt
  go_enter Tryz.func102, Tryz.ntmps102
  go_wp2_with fail
  refine (In_Num1 p r _ H.out x HX.out).mono ?_; rintro e w1 ⟨rfl, hk1, hi1⟩
  go_wp2_with fail
  refine (In_Raw_yes p _ x.toNat _ hi1 (by rw [HR.out]; omega)).mono ?_; rintro e w2 ⟨rfl, hk2, hi2⟩
  go_wp2_with fail
  go_ret
  exact ⟨rfl, hk1.trans hk2, hi2⟩

set_option maxHeartbeats 1000000 in
theorem In_Text_nil (most : Int) (w : World) :
    Calls Tryz.prog 102 #[.pointer none, .int .i64 most] w fun e w' => e = .returned (.string emptyB) ∧ Below w.heap.size w w' := by
  by_cases hm : most < 0
  · go_enter Tryz.func102, Tryz.ntmps102
    go_wp2_with fail
    refine (In_Num_nil 1 _).mono ?_; rintro e w1 ⟨rfl, hb1⟩
    go_wp2_with fail
    refine (In_Raw_nil _ _).mono ?_; rintro e w2 ⟨rfl, rfl⟩
    go_wp2_with fail
    go_ret
    exact ⟨rfl, hb1⟩
  · go_enter Tryz.func102, Tryz.ntmps102
    go_wp2_with fail
    refine (In_Num_nil 1 _).mono ?_; rintro e w1 ⟨rfl, hb1⟩
    go_wp2_with fail
    refine (In_Raw_nil _ _).mono ?_; rintro e w2 ⟨rfl, rfl⟩
    go_wp2_with fail
    go_ret
    exact ⟨rfl, hb1⟩

set_option maxHeartbeats 400000 in
theorem In_Left_any (p : Nat) (r : ByteArray) (b : Bool) (w : World) (h : InAt w p r b) :
    Calls Tryz.prog 105 #[.pointer (some ⟨p, 0, none⟩)] w fun e w' => e = .returned (.int .i64 r.size) ∧ w = w' := by
  have c0 := h.c0
  clear h
  go_enter Tryz.func105, Tryz.ntmps105
  go_wp2_with fail
  go_ret
  exact ⟨rfl, rfl⟩
set_option maxHeartbeats 400000 in
theorem In_Left_nil (w : World) :
    Calls Tryz.prog 105 #[.pointer none] w fun e w' => e = .returned (.int .i64 0) ∧ w = w' := by
  go_enter Tryz.func105, Tryz.ntmps105
  go_wp2_with fail
  go_ret
  exact ⟨rfl, rfl⟩
/-- an error's number where something was wrong; where bytes are left, too -/
def errE (b : Bool) : Int := if b then 5 else 0
def endE (r : ByteArray) (b : Bool) : Int := if b || !(r.size == 0) then 5 else 0

set_option maxHeartbeats 400000 in
theorem In_Err_any (p : Nat) (r : ByteArray) (b : Bool) (w : World) (h : InAt w p r b) :
    Calls Tryz.prog 104 #[.pointer (some ⟨p, 0, none⟩)] w fun e w' => e = .returned (.int .i64 (errE b)) ∧ w = w' := by
  have c1 := h.c1
  clear h
  cases b
  all_goals
    go_enter Tryz.func104, Tryz.ntmps104
    go_wp2_with fail
    go_ret
    exact ⟨rfl, rfl⟩
set_option maxHeartbeats 400000 in
theorem In_Err_nil (w : World) :
    Calls Tryz.prog 104 #[.pointer none] w fun e w' => e = .returned (.int .i64 2) ∧ w = w' := by
  go_enter Tryz.func104, Tryz.ntmps104
  go_wp2_with fail
  go_ret
  exact ⟨rfl, rfl⟩
set_option maxHeartbeats 400000 in
theorem In_End_any (p : Nat) (r : ByteArray) (b : Bool) (w : World) (h : InAt w p r b) :
    Calls Tryz.prog 80 #[.pointer (some ⟨p, 0, none⟩)] w fun e w' => e = .returned (.int .i64 (endE r b)) ∧ w = w' := by
  have H := hid h; clear h
  cases b with
  | true =>
    go_enter Tryz.func80, Tryz.ntmps80
    go_wp2_with fail
    refine (In_Err_any p r _ _ H.out).mono ?_; rintro e w1 ⟨rfl, rfl⟩; rw [show errE true = 5 from rfl]
    go_wp2_with fail
    go_ret
    exact ⟨rfl, rfl⟩
  | false =>
    by_cases hz : r.size = 0
    · have h0 : ((r.size : Int) == 0) = true := by rw [hz]; rfl
      have h1 : endE r false = 0 := by simp [endE, hz]
      have H1 := hid h1; clear h1 hz
      go_enter Tryz.func80, Tryz.ntmps80
      go_wp2_with fail
      refine (In_Err_any p r _ _ H.out).mono ?_; rintro e w1 ⟨rfl, rfl⟩; rw [show errE false = 0 from rfl]
      go_wp2_with fail
      refine (In_Left_any p r _ _ H.out).mono ?_; rintro e w1 ⟨rfl, rfl⟩
      go_wp2_with fail
      go_ret
      exact ⟨ret_int H1.out.symm, rfl⟩
    · have h0 : ((r.size : Int) == 0) = false := by rw [beq_eq_false_iff_ne]; omega
      have h1 : endE r false = 5 := by simp [endE, hz]
      have H1 := hid h1; clear h1 hz
      go_enter Tryz.func80, Tryz.ntmps80
      go_wp2_with fail
      refine (In_Err_any p r _ _ H.out).mono ?_; rintro e w1 ⟨rfl, rfl⟩; rw [show errE false = 0 from rfl]
      go_wp2_with fail
      refine (In_Left_any p r _ _ H.out).mono ?_; rintro e w1 ⟨rfl, rfl⟩
      go_wp2_with fail
      go_ret
      exact ⟨ret_int H1.out.symm, rfl⟩
set_option maxHeartbeats 400000 in
theorem In_End_nil (w : World) :
    Calls Tryz.prog 80 #[.pointer none] w fun e w' => e = .returned (.int .i64 2) ∧ w = w' := by
  go_enter Tryz.func80, Tryz.ntmps80
  go_wp2_with fail
  refine (In_Err_nil _).mono ?_; rintro e w1 ⟨rfl, rfl⟩
  go_wp2_with fail
  go_ret
  exact ⟨rfl, rfl⟩
end Go.Proofs.YtcklgaenedlbiaaGreat

namespace Go.Proofs.YtcklgaenedlbiaaGreat
open Go.RowKit

/-- whether a number has so many bytes at most -/
def fitsB (width n : Int) : Bool := decide (0 ≤ n) && (width == 8 || decide (n < 256 ^ width.toNat))

set_option maxHeartbeats 1000000 in
theorem fits_any (width n : Int) (hw : isW width = true) (w : World) :
    Calls Tryz.prog 90 #[.int .i64 width, .int .i64 n] w fun e w' => e = .returned (.bool (fitsB width n)) ∧ w = w' := by
  obtain ⟨f, hf⟩ : ∃ f, f = fitsB width n := ⟨_, rfl⟩
  rw [← hf]
  by_cases h0 : 0 ≤ n
  · have H0 := hid h0
    rcases isW_cases hw with rfl | rfl | rfl | rfl
    · by_cases h1 : n < 256
      · have hf1 : f = true := by rw [hf]; simp [fitsB, h0, h1]
        subst hf1
        clear hf hw
        go_enter Tryz.func90, Tryz.ntmps90
        go_wp2_with fail
        go_ret
        exact ⟨rfl, rfl⟩
      · have hf1 : f = false := by rw [hf]; simp [fitsB, h1]
        subst hf1
        clear hf hw
        go_enter Tryz.func90, Tryz.ntmps90
        go_wp2_with fail
        go_ret
        exact ⟨rfl, rfl⟩
    · by_cases h1 : n < 65536
      · have hf1 : f = true := by rw [hf]; simp [fitsB, h0, h1]
        subst hf1
        clear hf hw
        go_enter Tryz.func90, Tryz.ntmps90
        go_wp2_with fail
        go_ret
        exact ⟨rfl, rfl⟩
      · have hf1 : f = false := by rw [hf]; simp [fitsB, h1]
        subst hf1
        clear hf hw
        go_enter Tryz.func90, Tryz.ntmps90
        go_wp2_with fail
        go_ret
        exact ⟨rfl, rfl⟩
    · by_cases h1 : n < 4294967296
      · have hf1 : f = true := by rw [hf]; simp [fitsB, h0, h1]
        subst hf1
        clear hf hw
        go_enter Tryz.func90, Tryz.ntmps90
        go_wp2_with fail
        go_ret
        exact ⟨rfl, rfl⟩
      · have hf1 : f = false := by rw [hf]; simp [fitsB, h1]
        subst hf1
        clear hf hw
        go_enter Tryz.func90, Tryz.ntmps90
        go_wp2_with fail
        go_ret
        exact ⟨rfl, rfl⟩
    · have hf1 : f = true := by rw [hf]; simp [fitsB, h0]
      subst hf1
      clear hf hw
      go_enter Tryz.func90, Tryz.ntmps90
      go_wp2_with fail
      go_ret
      exact ⟨rfl, rfl⟩
  · have hf1 : f = false := by rw [hf]; simp [fitsB, h0]
    subst hf1
    clear hf hw
    go_enter Tryz.func90, Tryz.ntmps90
    go_wp2_with fail
    go_ret
    exact ⟨rfl, rfl⟩

set_option maxHeartbeats 1000000 in
theorem Num1_any (width n : Int) (hw : isW width = true) (B : Nat) (w : World) (hB : w.cell? ⟨B, 0, none⟩ = some (.int .i64 width)) :
    Calls Tryz.prog 89 #[.int .i64 n, .pointer (some ⟨B, 0, none⟩)] w fun e w' => e = .returned (.bool (!fitsB width n)) ∧ w = w' := by
  have HW := hid hw; clear hw
  go_enter Tryz.func89, Tryz.ntmps89
  go_wp2_with fail
  refine (fits_any width n HW.out _).mono ?_; rintro e w1 ⟨rfl, rfl⟩
  obtain ⟨f, hf⟩ : ∃ f, f = fitsB width n := ⟨_, rfl⟩
  rw [← hf]
  have HF := hid hf; clear hf
  go_wp2_with fail
  go_ret
  rw [← HF.out]
  exact ⟨rfl, rfl⟩

set_option maxHeartbeats 1000000 in
theorem Text1_any (s : ByteArray) (w : World) :
    Calls Tryz.prog 114 #[.string s] w fun e w' => e = .returned (.bool (decide (255 < s.size))) ∧ w = w' := by
  obtain ⟨f, hf⟩ : ∃ f, f = decide (255 < s.size) := ⟨_, rfl⟩
  rw [← hf]
  cases f with
  | true =>
    have h : (255 : Int) < s.size := by have := of_decide_eq_true hf.symm; omega
    clear hf
    go_enter Tryz.func114, Tryz.ntmps114
    go_wp2_with fail
    go_ret
    exact ⟨rfl, rfl⟩
  | false =>
    have h : ¬ (255 : Int) < s.size := by have := of_decide_eq_false hf.symm; omega
    clear hf
    go_enter Tryz.func114, Tryz.ntmps114
    go_wp2_with fail
    go_ret
    exact ⟨rfl, rfl⟩

set_option maxHeartbeats 1000000 in
set_option maxRecDepth 100000 in
theorem IndexFunc_ints (g : Nat) (lb : Array Value) (p : Int → Bool) (eg : ∀ args w, (callFunc g args).run Tryz.prog w = .ok (.enter g args) w) (A : Option Addr) (cap : Nat) (l : List Int) (hlen : l.length ≤ 9223372036854775807) (w : World) (hr : Row w A (i64s l))
    (hp : ∀ n, Calls Tryz.prog g (#[.int .i64 n] ++ lb) w fun e w' => e = .returned (.bool (p n)) ∧ w = w') :
    Calls Tryz.prog 110 #[.slice A l.length cap, .func (.func g) #[] lb] w fun e w' => (∃ i : Int, e = .returned (.int .i64 i) ∧ (0 ≤ i ↔ l.any p = true)) ∧ w = w' := by
  have HP := hid hp; clear hp
  cases hl : l with
  | nil =>
    subst hl
    go_enter Tryz.func110, Tryz.ntmps110
    go_wp2_with fail
    refine wp_loop_rounds 1 ?_
    rw [rounds_succ]
    go_wp2_with fail
    go_ret
    exact ⟨⟨_, rfl, by simp⟩, rfl⟩
  | cons x r =>
    rw [← hl]
    obtain ⟨b, off, rfl, hb, hc⟩ := row_cell hr (by rw [hl]; simp [i64s])
    clear hl hr
    have HC := hid hc; clear hc
    go_enter Tryz.func110, Tryz.ntmps110
    go_wp2_with fail
    go_loopg [8] l.length (fun g j wx => ∃ k : Nat, k + g = l.length ∧ j = .int .i64 k ∧ Hid (∀ i (h : i < l.length), i < k → p l[i] = false) ∧ w = wx)
    case atStart => exact ⟨0, by omega, rfl, (show ∀ i (h : i < l.length), i < 0 → p l[i] = false from fun i _ h => absurd h (by omega)), rfl⟩
    case round =>
      obtain ⟨k, hk, rfl, HN, rfl⟩ := hrel
      by_cases hlt : k < l.length
      · have hcell := HC.out k (.int .i64 l[k]) (by simp [i64s, hlt])
        obtain ⟨x, hx⟩ : ∃ x, x = l[k] := ⟨_, rfl⟩
        rw [← hx] at hcell
        have HX := hid hx; clear hx
        go_wp2_with fail
        refine (HP.out x).mono ?_; rintro e w1 ⟨rfl, rfl⟩
        obtain ⟨f, hf⟩ : ∃ f, f = p x := ⟨_, rfl⟩
        rw [← hf]
        have HF := hid hf; clear hf
        cases f with
        | true =>
          go_wp2_with fail
          go_ret
          refine ⟨⟨_, rfl, ?_⟩, rfl⟩
          rw [List.any_eq_true]
          exact ⟨fun _ => ⟨x, by rw [HX.out]; exact List.getElem_mem _, HF.out.symm⟩, fun _ => by omega⟩
        | false =>
          go_wp2_with fail
          go_roundg (l.length - (k + 1))
          case measure => omega
          case rel =>
            refine ⟨k + 1, by omega, by go_num, ?_, rfl⟩
            intro i hi hik
            by_cases e : i = k
            · subst e; rw [← HX.out]; exact HF.out.symm
            · exact HN.out i hi (by omega)
      · go_wp2_with fail
        go_ret
        refine ⟨⟨_, rfl, ?_⟩, rfl⟩
        rw [List.any_eq_true]
        constructor
        · intro h; exact absurd h (by decide)
        · rintro ⟨y, hy, hpy⟩
          obtain ⟨i, hi, rfl⟩ := List.getElem_of_mem hy
          rw [HN.out i hi (by omega)] at hpy
          cases hpy

set_option maxHeartbeats 1000000 in
theorem ContainsFunc_ints (g : Nat) (lb : Array Value) (p : Int → Bool) (eg : ∀ args w, (callFunc g args).run Tryz.prog w = .ok (.enter g args) w) (A : Option Addr) (cap : Nat) (l : List Int) (hlen : l.length ≤ 9223372036854775807) (w : World) (hr : Row w A (i64s l))
    (hp : ∀ n, Calls Tryz.prog g (#[.int .i64 n] ++ lb) w fun e w' => e = .returned (.bool (p n)) ∧ w = w') :
    Calls Tryz.prog 88 #[.slice A l.length cap, .func (.func g) #[] lb] w fun e w' => e = .returned (.bool (l.any p)) ∧ w = w' := by
  have HP := hid hp; clear hp
  have HR := hid hr; clear hr
  have HE := hid eg; clear eg
  obtain ⟨f, hf⟩ : ∃ f, f = l.any p := ⟨_, rfl⟩
  rw [← hf]
  go_enter Tryz.func88, Tryz.ntmps88
  go_wp2_with fail
  refine (IndexFunc_ints g lb p HE.out A cap l hlen _ HR.out HP.out).mono ?_; rintro e w1 ⟨⟨i, rfl, hi⟩, rfl⟩
  rw [← hf] at hi
  cases f with
  | true =>
    have h0 : 0 ≤ i := hi.2 rfl
    clear hi hf
    go_wp2_with fail
    go_ret
    exact ⟨rfl, rfl⟩
  | false =>
    have h0 : ¬ 0 ≤ i := fun h => by simpa using hi.1 h
    clear hi hf
    go_wp2_with fail
    go_ret
    exact ⟨ret_bool (decide_eq_false (by omega)), rfl⟩

set_option maxHeartbeats 1000000 in
set_option maxRecDepth 100000 in
theorem IndexFunc_strs (g : Nat) (lb : Array Value) (p : ByteArray → Bool) (eg : ∀ args w, (callFunc g args).run Tryz.prog w = .ok (.enter g args) w) (A : Option Addr) (cap : Nat) (l : List ByteArray) (hlen : l.length ≤ 9223372036854775807) (w : World) (hr : Row w A (strs l))
    (hp : ∀ n, Calls Tryz.prog g (#[.string n] ++ lb) w fun e w' => e = .returned (.bool (p n)) ∧ w = w') :
    Calls Tryz.prog 116 #[.slice A l.length cap, .func (.func g) #[] lb] w fun e w' => (∃ i : Int, e = .returned (.int .i64 i) ∧ (0 ≤ i ↔ l.any p = true)) ∧ w = w' := by
  have HP := hid hp; clear hp
  cases hl : l with
  | nil =>
    subst hl
    go_enter Tryz.func116, Tryz.ntmps116
    go_wp2_with fail
    refine wp_loop_rounds 1 ?_
    rw [rounds_succ]
    go_wp2_with fail
    go_ret
    exact ⟨⟨_, rfl, by simp⟩, rfl⟩
  | cons x r =>
    rw [← hl]
    obtain ⟨b, off, rfl, hb, hc⟩ := row_cell hr (by rw [hl]; simp [strs])
    clear hl hr
    have HC := hid hc; clear hc
    go_enter Tryz.func116, Tryz.ntmps116
    go_wp2_with fail
    go_loopg [8] l.length (fun g j wx => ∃ k : Nat, k + g = l.length ∧ j = .int .i64 k ∧ Hid (∀ i (h : i < l.length), i < k → p l[i] = false) ∧ w = wx)
    case atStart => exact ⟨0, by omega, rfl, (show ∀ i (h : i < l.length), i < 0 → p l[i] = false from fun i _ h => absurd h (by omega)), rfl⟩
    case round =>
      obtain ⟨k, hk, rfl, HN, rfl⟩ := hrel
      by_cases hlt : k < l.length
      · have hcell := HC.out k (.string l[k]) (by simp [strs, hlt])
        obtain ⟨x, hx⟩ : ∃ x, x = l[k] := ⟨_, rfl⟩
        rw [← hx] at hcell
        have HX := hid hx; clear hx
        go_wp2_with fail
        refine (HP.out x).mono ?_; rintro e w1 ⟨rfl, rfl⟩
        obtain ⟨f, hf⟩ : ∃ f, f = p x := ⟨_, rfl⟩
        rw [← hf]
        have HF := hid hf; clear hf
        cases f with
        | true =>
          go_wp2_with fail
          go_ret
          refine ⟨⟨_, rfl, ?_⟩, rfl⟩
          rw [List.any_eq_true]
          exact ⟨fun _ => ⟨x, by rw [HX.out]; exact List.getElem_mem _, HF.out.symm⟩, fun _ => by omega⟩
        | false =>
          go_wp2_with fail
          go_roundg (l.length - (k + 1))
          case measure => omega
          case rel =>
            refine ⟨k + 1, by omega, by go_num, ?_, rfl⟩
            intro i hi hik
            by_cases e : i = k
            · subst e; rw [← HX.out]; exact HF.out.symm
            · exact HN.out i hi (by omega)
      · go_wp2_with fail
        go_ret
        refine ⟨⟨_, rfl, ?_⟩, rfl⟩
        rw [List.any_eq_true]
        constructor
        · intro h; exact absurd h (by decide)
        · rintro ⟨y, hy, hpy⟩
          obtain ⟨i, hi, rfl⟩ := List.getElem_of_mem hy
          rw [HN.out i hi (by omega)] at hpy
          cases hpy

set_option maxHeartbeats 1000000 in
theorem ContainsFunc_strs (g : Nat) (lb : Array Value) (p : ByteArray → Bool) (eg : ∀ args w, (callFunc g args).run Tryz.prog w = .ok (.enter g args) w) (A : Option Addr) (cap : Nat) (l : List ByteArray) (hlen : l.length ≤ 9223372036854775807) (w : World) (hr : Row w A (strs l))
    (hp : ∀ n, Calls Tryz.prog g (#[.string n] ++ lb) w fun e w' => e = .returned (.bool (p n)) ∧ w = w') :
    Calls Tryz.prog 113 #[.slice A l.length cap, .func (.func g) #[] lb] w fun e w' => e = .returned (.bool (l.any p)) ∧ w = w' := by
  have HP := hid hp; clear hp
  have HR := hid hr; clear hr
  have HE := hid eg; clear eg
  obtain ⟨f, hf⟩ : ∃ f, f = l.any p := ⟨_, rfl⟩
  rw [← hf]
  go_enter Tryz.func113, Tryz.ntmps113
  go_wp2_with fail
  refine (IndexFunc_strs g lb p HE.out A cap l hlen _ HR.out HP.out).mono ?_; rintro e w1 ⟨⟨i, rfl, hi⟩, rfl⟩
  rw [← hf] at hi
  cases f with
  | true =>
    have h0 : 0 ≤ i := hi.2 rfl
    clear hi hf
    go_wp2_with fail
    go_ret
    exact ⟨rfl, rfl⟩
  | false =>
    have h0 : ¬ 0 ≤ i := fun h => by simpa using hi.1 h
    clear hi hf
    go_wp2_with fail
    go_ret
    exact ⟨ret_bool (decide_eq_false (by omega)), rfl⟩

/-- a number's bytes, the highest first -/
def beB : Nat → Nat → List UInt8
  | 0, _ => []
  | k + 1, n => UInt8.ofNat (n / 256 ^ k % 256) :: beB k n
def beAll (width : Nat) (ns : List Int) : List UInt8 := (ns.map fun n => beB width n.toNat).flatten
theorem beB_length (k n : Nat) : (beB k n).length = k := by
  induction k with
  | zero => rfl
  | succ k ih => simp [beB, ih]
theorem beAll_length (width : Nat) (ns : List Int) : (beAll width ns).length = width * ns.length := by
  induction ns with
  | nil => rfl
  | cons n ns ih => simp only [beAll, List.map_cons, List.flatten_cons, List.length_append, beB_length, List.length_cons] at *; rw [ih, Nat.mul_succ]; omega
theorem beAll_snoc (width : Nat) (ns : List Int) (n : Int) : beAll width (ns ++ [n]) = beAll width ns ++ beB width n.toNat := by simp [beAll]

theorem OutAt.drew {T : TypeId} {w : World} {b : Nat} {l : List UInt8} {F : List Nat} (h : OutAt T w b l F) : OutAt T w.drew b l F := h

/-- a byte of a number, in the walk's words -/
theorem shr_byte (n : Int) (k : Nat) (h0 : 0 ≤ n) : ∃ x : UInt8, IntKind.u8.wrap (n / 2 ^ (8 * k)) = (x.toNat : Int) ∧ x = UInt8.ofNat (n.toNat / 256 ^ k % 256) := by
  refine ⟨UInt8.ofNat (n.toNat / 256 ^ k % 256), ?_, rfl⟩
  have e1 : (256 : Nat) ^ k = 2 ^ (8 * k) := by rw [Nat.pow_mul]
  have e2 : (UInt8.ofNat (n.toNat / 256 ^ k % 256)).toNat = n.toNat / 256 ^ k % 256 := by simp
  have e3 : n = (n.toNat : Int) := by omega
  rw [e2, IntKind.wrap_u8, e1]
  rw [e3]
  have e4 : ((2 : Int) ^ (8 * k)) = ((2 ^ (8 * k) : Nat) : Int) := by push_cast; rfl
  rw [e4]
  simp only [Int.toNat_natCast]
  omega

set_option maxHeartbeats 2000000 in
set_option maxRecDepth 100000 in
theorem Out_Num_no (p : Nat) (width : Int) (ns : List Int) (A : Option Addr) (cap : Nat) (w : World) (hr : Row w A (i64s ns)) (hlen : ns.length ≤ 9223372036854775807) (hc : isW width = false ∨ (ns.any fun n => !fitsB width n) = true) :
    Calls Tryz.prog 61 #[.pointer (some ⟨p, 0, none⟩), .int .i64 width, .slice A ns.length cap] w fun e w' => e = .returned (.int .i64 1) ∧ Below w.heap.size w w' := by
  have HR := hid hr; clear hr
  cases hw : isW width with
  | false =>
    clear hc
    go_enter Tryz.func61, Tryz.ntmps61
    go_wp2_with fail
    refine (isWidth_any _ _).mono ?_; rintro e w1 ⟨rfl, rfl⟩
    go_wp2_with fail
    go_ret
    exact ⟨rfl, below_alloc _ _⟩
  | true =>
    have hc' : (ns.any fun n => !fitsB width n) = true := by rcases hc with h | h; rw [hw] at h; cases h; exact h
    have HC := hid hc'; have HW := hid hw; clear hc hc' hw
    go_enter Tryz.func61, Tryz.ntmps61
    go_wp2_with fail
    refine (isWidth_any _ _).mono ?_; rintro e w1 ⟨rfl, rfl⟩
    rw [HW.out]
    go_wp2_with fail
    refine (ContainsFunc_ints 89 #[.pointer (some ⟨w.heap.size, 0, none⟩)] (fun n => !fitsB width n) (enters_of Tryz.func89 (by kernel_rfl) rfl) A cap ns hlen _ (HR.out.below (below_alloc _ _)) (fun n => Num1_any width n HW.out w.heap.size _ (by simp))).mono ?_
    rintro e w1 ⟨rfl, rfl⟩
    rw [HC.out]
    go_wp2_with fail
    go_ret
    exact ⟨rfl, below_alloc _ _⟩

theorem fitsB_nonneg {width n : Int} (h : fitsB width n = true) : 0 ≤ n := by simp [fitsB] at h; exact h.1

set_option maxHeartbeats 4000000 in
set_option maxRecDepth 100000 in
theorem Out_Num_yes (p : Nat) (l : List UInt8) (F : List Nat) (width : Nat) (ns : List Int) (A : Option Addr) (cap : Nat) (w : World) (h : OutAt 113 w p l F) (hr : Row w A (i64s ns)) (hd : ∀ a, A = some a → a.block ∉ F)
    (hlen : ns.length ≤ 9223372036854775807) (hw : isW (width : Int) = true) (hf : (ns.any fun n => !fitsB width n) = false) (hroom : l.length + width * ns.length ≤ 140737488355328) :
    Calls Tryz.prog 61 #[.pointer (some ⟨p, 0, none⟩), .int .i64 width, .slice A ns.length cap] w fun e w' => e = .returned (.int .i64 0) ∧ ∃ F', OutAt 113 w' p (l ++ beAll width ns) F' ∧ Keeps F w w' ∧ ∀ k, k ∈ F' → k ∈ F ∨ w.heap.size ≤ k := by
  have hwid : width ≤ 8 := by rcases isW_cases hw with h | h | h | h <;> omega
  have HR := hid hr; clear hr
  have HC := hid hf; have HW := hid hw; have H := hid h; have HD := hid hd; have HL := hid hroom
  clear hf hw h hd hroom
  go_enter Tryz.func61, Tryz.ntmps61
  go_wp2_with fail
  refine (isWidth_any _ _).mono ?_; rintro e w1 ⟨rfl, rfl⟩
  rw [HW.out]
  go_wp2_with fail
  refine (ContainsFunc_ints 89 #[.pointer (some ⟨w.heap.size, 0, none⟩)] (fun n => !fitsB width n) (enters_of Tryz.func89 (by kernel_rfl) rfl) A cap ns hlen _ (HR.out.below (below_alloc _ _)) (fun n => Num1_any width n HW.out w.heap.size _ (by simp))).mono ?_
  rintro e w1 ⟨rfl, rfl⟩
  rw [HC.out]
  go_wp2_with fail
  have hb1 : Below w.heap.size w (w.alloc (.cells #[.int .i64 width] 3)) := below_alloc _ _
  have hz1 : (w.alloc (.cells #[.int .i64 width] 3)).heap.size = w.heap.size + 1 := by simp
  have hbox : (w.alloc (.cells #[.int .i64 width] 3)).cell? ⟨w.heap.size, 0, none⟩ = some (.int .i64 width) := by simp
  have HO := hid (H.out.below hb1)
  have HR1 := hid (HR.out.below hb1)
  have HK1 := hid (Keeps.of (F := F) hb1)
  have HB := hid hbox; have HZ := hid hz1
  have HS := hid H.out.sizes
  generalize hw2 : w.alloc (.cells #[.int .i64 width] 3) = w2 at *
  clear hw2 hb1 hz1 hbox
  go_loopg [24] ns.length (fun g j wx => ∃ (k : Nat) (F1 : List Nat), k + g = ns.length ∧ j = .int .i64 k ∧ Hid (OutAt 113 wx p (l ++ beAll width (ns.take k)) F1 ∧ Keeps F w2 wx ∧ ∀ x, x ∈ F1 → x ∈ F ∨ w2.heap.size ≤ x))
  case atStart => exact ⟨0, F, by omega, rfl, ⟨by simpa [beAll] using HO.out, Keeps.refl _ _, fun x h => .inl h⟩⟩
  case round =>
    obtain ⟨k, F1, hk, rfl, HI⟩ := hrel
    by_cases hlt : k < ns.length
    · obtain ⟨b, off, rfl, hb, hc⟩ := row_cell HR1.out (by intro e; have := congrArg List.length e; simp [i64s] at this; subst this; exact absurd hlt (by simp))
      have hcell := hc k (.int .i64 ns[k]) (by simp [i64s, hlt])
      rw [← HI.out.2.1.cell hb (HD.out _ rfl)] at hcell
      have hboxx := HB.out
      rw [← HI.out.2.1.cell (by rw [HZ.out]; omega) (fun h => by have := HS.out _ h; omega)] at hboxx
      obtain ⟨n, hn⟩ : ∃ n, n = ns[k] := ⟨_, rfl⟩
      rw [← hn] at hcell
      have hcell0 : fitsB width n = true := by
        have := HC.out
        rw [List.any_eq_false] at this
        have h2 := this n (by rw [hn]; exact List.getElem_mem _)
        simpa using h2
      have hn0 := fitsB_nonneg hcell0
      have HN := hid hn
      clear hn hb hc hcell0
      go_wp2_with fail
      have HI0 := HI; clear HI hboxx hcell
      go_loopg [9] (width + 1) (fun g j wx => ∃ (m : Nat) (done : List UInt8) (F2 : List Nat), m + 1 = g ∧ m ≤ width ∧ j = .int .i64 ((m : Int) - 1) ∧ Hid (done ++ beB m n.toNat = beB width n.toNat ∧ OutAt 113 wx p (l ++ beAll width (ns.take k) ++ done) F2 ∧ Keeps F w2 wx ∧ ∀ x, x ∈ F2 → x ∈ F ∨ w2.heap.size ≤ x))
      case atStart => exact ⟨width, [], F1, by omega, by omega, by go_num, ⟨by simp, by simpa using HI0.out.1, HI0.out.2.1, HI0.out.2.2⟩⟩
      case round =>
        obtain ⟨m, done, F2, hm, hmw, rfl, HJ⟩ := hrel
        cases m with
        | zero =>
          go_wp2_with fail
          go_roundg (ns.length - (k + 1))
          case measure => omega
          case rel =>
            refine ⟨k + 1, F2, by omega, by go_num, ?_, HJ.out.2.2.1, HJ.out.2.2.2⟩
            have h1 := HJ.out.1
            simp only [beB, List.append_nil] at h1
            have h2 := HJ.out.2.1
            rw [List.take_succ_eq_append_getElem hlt, beAll_snoc, ← HN.out, ← h1, ← List.append_assoc]
            exact h2
        | succ m =>
          rw [show ((m + 1 : Nat) : Int) - 1 = (m : Int) by omega]
          have hm8 : m < 8 := by omega
          obtain ⟨q, hq⟩ : ∃ q, q = 8 * m := ⟨_, rfl⟩
          have e8 : IntKind.i64.wrap (8 * (m : Int)) = (q : Int) := by rw [IntKind.wrap_i64]; omega
          have hq64 : (q : Int) < 64 := by omega
          obtain ⟨x, hx, hxe⟩ := shr_byte n m hn0
          rw [← hq] at hx
          have hroom : (l ++ beAll width (ns.take k) ++ done).length + 1 ≤ 140737488355328 := by
            have h1 := congrArg List.length HJ.out.1
            simp only [List.length_append, beB_length] at h1
            simp only [List.length_append, beAll_length, List.length_take]
            have h2 : min k ns.length = k := by omega
            have h3 : width * (k + 1) ≤ width * ns.length := Nat.mul_le_mul_left _ hlt
            rw [Nat.mul_succ] at h3
            have := HL.out
            rw [h2]
            omega
          have HX := hid hx; have HXE := hid hxe; have HRM := hid hroom
          clear hx hxe hroom hq
          go_wp2_with fail
          go_region_with (go_at_call 91; with_reducible refine (WriteByte_any 113 bt_Out p _ F2 _ x HX.out _ HJ.out.2.1.drew HRM.out).mono ?_; rintro e w3 ⟨rfl, F3, hO3, hK3, hF3⟩)
          have HO3 := hid hO3; have HK3 := hid hK3; have HF3 := hid hF3
          clear hO3 hK3 hF3
          go_wp2_with fail
          go_roundg (m + 1)
          case measure => omega
          case rel =>
            refine ⟨m, done ++ [x], F3, by omega, by omega, by go_num, ⟨?_, ?_, ?_, ?_⟩⟩
            · rw [← HJ.out.1, HXE.out]; simp [beB]
            · have := HO3.out; rwa [List.append_assoc] at this
            · exact (HJ.out.2.2.1.drew).go HK3.out HJ.out.2.2.2
            · intro y hy
              rcases HF3.out y hy with h | h
              · exact HJ.out.2.2.2 y h
              · exact .inr (Nat.le_trans HJ.out.2.2.1.size h)
    · go_wp2_with fail
      go_ret
      refine ⟨rfl, F1, ?_, HK1.out.trans HI.out.2.1, ?_⟩
      · have := HI.out.1
        rwa [List.take_of_length_le (by omega)] at this
      · intro x hx
        rcases HI.out.2.2 x hx with h | h
        · exact .inl h
        · right; have := HZ.out; omega

end Go.Proofs.YtcklgaenedlbiaaGreat
