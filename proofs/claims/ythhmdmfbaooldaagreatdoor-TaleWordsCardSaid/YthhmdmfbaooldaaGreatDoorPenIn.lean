/-
  The reader of layer 1, walked: Of, fail, Raw, Num, Text, Left, Err, End; of a nil one too.
-/
import Derived.Test.YthhmdmfbaooldaaGreatDoorProg
import Derived.Test.YthhmdmfbaooldaaGreatDoorKit
import Derived.Lib.Strings
namespace Go.Proofs.YthhmdmfbaooldaaGreatDoor
open Go.RowKit

/-- a reader: what is left; whether something was wrong -/
def InAt (w : World) (p : Nat) (r : ByteArray) (b : Bool) : Prop := Blk w p 146 [.string r, .bool b]

theorem InAt.c0 {w : World} {p : Nat} {r : ByteArray} {b : Bool} (h : InAt w p r b) : w.cell? ⟨p, 0, none⟩ = some (.string r) := Blk.at h rfl
theorem InAt.c1 {w : World} {p : Nat} {r : ByteArray} {b : Bool} (h : InAt w p r b) : w.cell? ⟨p, 1, none⟩ = some (.bool b) := Blk.at h rfl
theorem InAt.f0 {w : World} {p : Nat} {r : ByteArray} {b : Bool} (h : InAt w p r b) : w.frozen? ⟨p, 0, none⟩ = false := Blk.free h (by simp)
theorem InAt.f1 {w : World} {p : Nat} {r : ByteArray} {b : Bool} (h : InAt w p r b) : w.frozen? ⟨p, 1, none⟩ = false := Blk.free h (by simp)

def emptyB : ByteArray := ⟨#[]⟩

set_option maxHeartbeats 400000 in
theorem pen_Of_any (s : ByteArray) (w : World) :
    Calls Tryz.prog 108 #[.string s] w fun e w' => e = .returned (.pointer (some ⟨w.heap.size, 0, none⟩)) ∧ Below w.heap.size w w' ∧ InAt w' w.heap.size s false ∧ w'.heap.size = w.heap.size + 1 := by
  go_enter Tryz.func108, Tryz.ntmps108
  go_wp2
  go_ret
  exact ⟨rfl, below_alloc _ _, Blk.new _ _ _, by simp⟩

set_option maxHeartbeats 400000 in
theorem In_fail_any (p : Nat) (r : ByteArray) (b : Bool) (w : World) (h : InAt w p r b) :
    Calls Tryz.prog 109 #[.pointer (some ⟨p, 0, none⟩)] w fun e w' => e = .returned (.tuple #[]) ∧ Keeps [p] w w' ∧ InAt w' p emptyB true := by
  have c0 := h.c0; have c1 := h.c1; have f0 := h.f0; have f1 := h.f1
  have H := hid h; clear h
  go_enter Tryz.func109, Tryz.ntmps109
  go_wp2
  go_end0
  exact ⟨rfl, ((Keeps.refl _ _).setCell (by simp) _).setCell (by simp) _, (Blk.set (Blk.set H.out 0 _) 1 _)⟩

set_option maxHeartbeats 1000000 in
theorem In_Raw_no (p : Nat) (r : ByteArray) (b : Bool) (n : Int) (w : World) (h : InAt w p r b) (hc : b = true ∨ n < 0 ∨ (r.size : Int) < n) :
    Calls Tryz.prog 91 #[.pointer (some ⟨p, 0, none⟩), .int .i64 n] w fun e w' => e = .returned (.string emptyB) ∧ Keeps [p] w w' ∧ InAt w' p emptyB true := by
  have c0 := h.c0; have c1 := h.c1
  have H := hid h; clear h
  cases b with
  | true =>
    go_enter Tryz.func91, Tryz.ntmps91
    go_wp2_with fail
    refine (In_fail_any p r _ _ H.out).mono ?_; rintro e w1 ⟨rfl, hk, hi⟩
    go_wp2_with fail
    go_ret
    exact ⟨rfl, hk, hi⟩
  | false =>
    by_cases hn : n < 0
    · go_enter Tryz.func91, Tryz.ntmps91
      go_wp2_with fail
      refine (In_fail_any p r _ _ H.out).mono ?_; rintro e w1 ⟨rfl, hk, hi⟩
      go_wp2_with fail
      go_ret
      exact ⟨rfl, hk, hi⟩
    · have hr : (r.size : Int) < n := by simp at hc; omega
      go_enter Tryz.func91, Tryz.ntmps91
      go_wp2_with fail
      refine (In_fail_any p r _ _ H.out).mono ?_; rintro e w1 ⟨rfl, hk, hi⟩
      go_wp2_with fail
      go_ret
      exact ⟨rfl, hk, hi⟩

set_option maxHeartbeats 1000000 in
theorem In_Raw_yes (p : Nat) (r : ByteArray) (n : Nat) (w : World) (h : InAt w p r false) (hc : n ≤ r.size) :
    Calls Tryz.prog 91 #[.pointer (some ⟨p, 0, none⟩), .int .i64 n] w fun e w' => e = .returned (.string (r.extract 0 n)) ∧ Keeps [p] w w' ∧ InAt w' p (r.extract n r.size) false := by
  have c0 := h.c0; have c1 := h.c1; have f0 := h.f0
  have b0 : (0 : Int) ≤ (n : Int) := by omega
  have b1 : (n : Int) ≤ (r.size : Int) := by omega
  have H := hid h; clear h
  go_enter Tryz.func91, Tryz.ntmps91
  go_wp2_with fail
  go_ret
  exact ⟨rfl, (Keeps.refl _ _).setCell (by simp) _, Blk.set H.out 0 _⟩

set_option maxHeartbeats 400000 in
theorem In_Raw_nil (n : Int) (w : World) :
    Calls Tryz.prog 91 #[.pointer none, .int .i64 n] w fun e w' => e = .returned (.string emptyB) ∧ w = w' := by
  go_enter Tryz.func91, Tryz.ntmps91
  go_wp2_with fail
  go_ret
  exact ⟨rfl, rfl⟩

/-- whether numbers may have so many bytes -/
def isW (n : Int) : Bool := n == 1 || n == 2 || n == 4 || n == 8
theorem isW_cases {n : Int} (h : isW n = true) : n = 1 ∨ n = 2 ∨ n = 4 ∨ n = 8 := by simp [isW] at h; omega
theorem isW_not {n : Int} (h : isW n = false) : ¬ n = 1 ∧ ¬ n = 2 ∧ ¬ n = 4 ∧ ¬ n = 8 := by simp [isW] at h; omega

set_option maxHeartbeats 400000 in
theorem isWidth_any (n : Int) (w : World) :
    Calls Tryz.prog 116 #[.int .i64 n] w fun e w' => e = .returned (.bool (isW n)) ∧ w = w' := by
  cases h : isW n with
  | true =>
    rcases isW_cases h with rfl | rfl | rfl | rfl
    all_goals
      clear h
      go_enter Tryz.func116, Tryz.ntmps116
      go_wp2_with fail
      go_ret
      exact ⟨rfl, rfl⟩
  | false =>
    obtain ⟨h1, h2, h3, h4⟩ := isW_not h
    have e1 : (n == 1) = false := by simp [h1]
    have e2 : (n == 2) = false := by simp [h2]
    have e3 : (n == 4) = false := by simp [h3]
    have e4 : (n == 8) = false := by simp [h4]
    clear h h1 h2 h3 h4
    go_enter Tryz.func116, Tryz.ntmps116
    go_wp2_with fail
    go_ret
    exact ⟨rfl, rfl⟩

/-- bytes as a number, the highest first -/
def be (l : List UInt8) : Nat := l.foldl (fun n b => n * 256 + b.toNat) 0
theorem be_snoc (l : List UInt8) (b : UInt8) : be (l ++ [b]) = be l * 256 + b.toNat := by simp [be]
theorem be_lt_from : ∀ (l : List UInt8) (n : Nat), l.foldl (fun n b => n * 256 + b.toNat) n < (n + 1) * 256 ^ l.length
  | [], n => by simp
  | b :: l, n => by
    have h := be_lt_from l (n * 256 + b.toNat)
    have hb := b.toNat_lt
    rw [List.foldl_cons, List.length_cons, Nat.pow_succ, Nat.mul_comm (256 ^ l.length) 256, ← Nat.mul_assoc]
    exact Nat.lt_of_lt_of_le h (Nat.mul_le_mul_right _ (by omega))
theorem be_lt (l : List UInt8) : be l < 256 ^ l.length := by
  have := be_lt_from l 0
  simpa [be] using this
theorem or_byte (N : Nat) (b : UInt8) (h : N < 2 ^ 56) : bits .or .i64 (wrap64 ((N : Int) * 256)) (b.toNat : Int) = wrap64 ((N * 256 + b.toNat : Nat) : Int) := by
  have hb := b.toNat_lt
  have e1 : (BitVec.ofInt 64 (wrap64 ((N : Int) * 256))).toNat = N * 256 := by
    rw [BitVec.toNat_ofInt]
    unfold wrap64
    omega
  have e2 : (BitVec.ofInt 64 (b.toNat : Int)).toNat = b.toNat := by
    rw [BitVec.toNat_ofInt]; omega
  simp only [bits, BitVec.toNat_or]
  show IntKind.i64.wrap (((BitVec.ofInt 64 (wrap64 ((N : Int) * 256))).toNat ||| (BitVec.ofInt 64 (b.toNat : Int)).toNat : Nat) : Int) = _
  rw [e1, e2, nat_join 8 (N * 256) b.toNat (by omega) (by omega)]
  rw [IntKind.wrap_i64]
  unfold wrap64
  rfl

set_option maxHeartbeats 1000000 in
theorem In_Num_no (p : Nat) (r : ByteArray) (b : Bool) (n : Int) (w : World) (h : InAt w p r b) (hc : isW n = false ∨ b = true ∨ (r.size : Int) < n) :
    Calls Tryz.prog 105 #[.pointer (some ⟨p, 0, none⟩), .int .i64 n] w fun e w' => e = .returned (.int .i64 0) ∧ Keeps [p] w w' ∧ InAt w' p emptyB true := by
  obtain ⟨m, hm⟩ : ∃ m : Int, m = if isW n then n else -1 := ⟨_, rfl⟩
  have hcm : b = true ∨ m < 0 ∨ (r.size : Int) < m := by
    rw [hm]
    rcases hc with h | h | h
    · rw [h]; right; left; simp
    · left; exact h
    · split
      · right; right; exact h
      · right; left; decide
  have HC := hid hc; clear hc
  cases hw : isW n with
  | true =>
    rw [hw] at hm
    simp only [if_true] at hm
    subst hm
    have H := hid h; clear h
    go_enter Tryz.func105, Tryz.ntmps105
    go_wp2_with fail
    refine (isWidth_any _ _).mono ?_; rintro e w1 ⟨rfl, rfl⟩
    go_wp2_with fail
    refine (In_Raw_no p r b m _ H.out hcm).mono ?_; rintro e w1 ⟨rfl, hk1, hi1⟩
    go_wp2_with (with_reducible refine at_op (.convert 9 64 (.tmp 13)) rfl ?_; refine Stopped.go ?_)
    refine Stopped.mk (wpList_bytes rfl _ _ 5 _ rfl emptyB rfl Tryz.underlying9 Tryz.underlying64 Tryz.underlying5 ?_)
    intro cp w2 hb2 hz2 hcp hB2
    have z : emptyB.size = 0 := rfl
    rw [z]
    clear hB2 hcp hz2 z
    go_wp2_with fail
    refine wp_loop_rounds 1 ?_
    rw [rounds_succ]
    go_wp2_with fail
    go_ret
    exact ⟨rfl, hk1.trans (Keeps.of hb2), Blk.belowS hi1 hb2⟩
  | false =>
    rw [hw] at hm
    simp only [Bool.false_eq_true, if_false] at hm
    subst hm
    have H := hid h; clear h
    go_enter Tryz.func105, Tryz.ntmps105
    go_wp2_with fail
    refine (isWidth_any _ _).mono ?_; rintro e w1 ⟨rfl, rfl⟩
    go_wp2_with fail
    refine (In_Raw_no p r b (-1) _ H.out hcm).mono ?_; rintro e w1 ⟨rfl, hk1, hi1⟩
    go_wp2_with (with_reducible refine at_op (.convert 9 64 (.tmp 13)) rfl ?_; refine Stopped.go ?_)
    refine Stopped.mk (wpList_bytes rfl _ _ 5 _ rfl emptyB rfl Tryz.underlying9 Tryz.underlying64 Tryz.underlying5 ?_)
    intro cp w2 hb2 hz2 hcp hB2
    have z : emptyB.size = 0 := rfl
    rw [z]
    clear hB2 hcp hz2 z
    go_wp2_with fail
    refine wp_loop_rounds 1 ?_
    rw [rounds_succ]
    go_wp2_with fail
    go_ret
    exact ⟨rfl, hk1.trans (Keeps.of hb2), Blk.belowS hi1 hb2⟩

set_option maxHeartbeats 2000000 in
set_option maxRecDepth 100000 in
/-- what is read: the number, if it is one -/
theorem In_Num_walk (p : Nat) (r : ByteArray) (n : Nat) (w : World) (h : InAt w p r false) (hw : isW (n : Int) = true) (hc : n ≤ r.size) (N : Nat) (hN : N = be (r.data.toList.take n)) (big : Bool) (hb : big = decide (9223372036854775808 ≤ N)) :
    Calls Tryz.prog 105 #[.pointer (some ⟨p, 0, none⟩), .int .i64 n] w fun e w' => e = .returned (.int .i64 (if big then 0 else (N : Int))) ∧ Keeps [p] w w' ∧ InAt w' p (if big then emptyB else r.extract n r.size) big := by
  have hn8 : n ≤ 8 := by rcases isW_cases hw with h | h | h | h <;> omega
  have H := hid h; clear h
  have HN := hid hN; have HB := hid hb
  clear hN hb
  go_enter Tryz.func105, Tryz.ntmps105
  go_wp2_with fail
  refine (isWidth_any _ _).mono ?_; rintro e w1 ⟨rfl, rfl⟩
  go_wp2_with fail
  refine (In_Raw_yes p r n _ H.out hc).mono ?_; rintro e w1 ⟨rfl, hk1, hi1⟩
  go_wp2_with (with_reducible refine at_op (.convert 9 64 (.tmp 13)) rfl ?_; refine Stopped.go ?_)
  refine Stopped.mk (wpList_bytes rfl _ _ 5 _ rfl (r.extract 0 n) rfl Tryz.underlying9 Tryz.underlying64 Tryz.underlying5 ?_)
  intro cp w2 hb2 hz2 hcp hB2
  have hsz : (r.extract 0 n).size = n := by simp; omega
  have hdt : (r.extract 0 n).data.toList = r.data.toList.take n := by rw [Lib.extract_data]; simp
  have HC : Hid (∀ j, j < n → w2.cell? ⟨w1.heap.size, j, none⟩ = some (.int .u8 ((r.data.toList.take n).getD j 0).toNat)) := by
    intro j hj
    have := bytes_at hB2 (j := j) (by omega)
    rwa [hdt] at this
  obtain ⟨l, hl⟩ : ∃ l, l = r.data.toList.take n := ⟨_, rfl⟩
  have hll : l.length = n := by rw [hl]; simp; omega
  rw [← hl] at HC HN
  rw [hsz]
  have HI := hid hi1; have HK := hid hk1; have HB2 := hid hb2; have HLL := hid hll
  clear hB2 hcp hz2 hsz hdt hl hi1 hk1 hb2 hll
  go_wp2_with fail
  go_loopg [5, 16] n (fun g v j wx => ∃ (k : Nat) (V : Int), k + g = n ∧ j = .int .i64 k ∧ v = .int .i64 V ∧ Hid (V = wrap64 (be (l.take k))) ∧ w2 = wx)
  case atStart => exact ⟨0, 0, by omega, rfl, rfl, (show (0 : Int) = wrap64 ((be (l.take 0) : Nat) : Int) by simp [be, wrap64]), rfl⟩
  case round =>
    obtain ⟨k, V, hk, rfl, rfl, HV, rfl⟩ := hrel
    by_cases hlt : k < n
    · have hcell := HC.out k hlt
      obtain ⟨x, hx⟩ : ∃ x, x = l.getD k 0 := ⟨_, rfl⟩
      rw [← hx] at hcell
      have hsn : l.take (k + 1) = l.take k ++ [x] := by
        have hkl : k < l.length := by rw [HLL.out]; exact hlt
        rw [List.take_succ_eq_append_getElem hkl, hx, List.getD_eq_getElem?_getD, List.getElem?_eq_getElem hkl]
        rfl
      obtain ⟨M, hM⟩ : ∃ M, M = be (l.take k) := ⟨_, rfl⟩
      have hMl : M < 72057594037927936 := by
        have h1 := be_lt (l.take k)
        have h2 : (l.take k).length ≤ 7 := by rw [List.length_take]; omega
        have h3 : 256 ^ (l.take k).length ≤ 256 ^ 7 := Nat.pow_le_pow_right (by decide) h2
        rw [← hM] at h1
        omega
      have hVM : V = (M : Int) := by rw [HV.out, ← hM]; unfold wrap64; omega
      subst hVM
      have e1 := or_byte M x hMl
      have hxl : x.toNat < 256 := x.toNat_lt
      obtain ⟨V2, hV2⟩ : ∃ V2, V2 = wrap64 ((M * 256 + x.toNat : Nat) : Int) := ⟨_, rfl⟩
      rw [← hV2] at e1
      have HV2 : Hid (V2 = wrap64 (be (l.take (k + 1)))) := by rw [hV2, hsn, be_snoc, ← hM]; rfl
      clear hx hsn hM hV2 HV
      go_wp2_with fail
      go_roundg (n - (k + 1))
      case measure => omega
      case rel => exact ⟨k + 1, V2, by omega, by go_num, rfl, HV2, rfl⟩
    · have hkn : k = n := by omega
      have hVN : V = wrap64 (N : Int) := by rw [HV.out, HN.out, List.take_of_length_le (by rw [HLL.out]; omega)]
      have hNl : N < 18446744073709551616 := by
        have h1 := be_lt l
        rw [HLL.out, ← HN.out] at h1
        have h3 : 256 ^ n ≤ 256 ^ 8 := Nat.pow_le_pow_right (by decide) hn8
        omega
      cases big with
      | true =>
        have hbig : 9223372036854775808 ≤ N := by have := HB.out; simpa using this.symm
        have hneg : V < 0 := by rw [hVN]; unfold wrap64; omega
        clear hVN hbig hNl hkn
        go_wp2_with fail
        refine (In_fail_any p _ _ _ (Blk.belowS HI.out HB2.out)).mono ?_; rintro e w3 ⟨rfl, hk3, hi3⟩
        go_wp2_with fail
        go_ret
        exact ⟨rfl, (HK.out.trans (Keeps.of HB2.out)).trans hk3, hi3⟩
      | false =>
        have hbig : ¬ 9223372036854775808 ≤ N := by have := HB.out; simpa using this.symm
        have hV : V = (N : Int) := by rw [hVN]; unfold wrap64; omega
        subst hV
        clear hVN hbig hNl hkn
        go_wp2_with fail
        go_ret
        exact ⟨rfl, HK.out.trans (Keeps.of HB2.out), Blk.belowS HI.out HB2.out⟩

set_option maxHeartbeats 1000000 in
theorem In_Num_nil (n : Int) (w : World) :
    Calls Tryz.prog 105 #[.pointer none, .int .i64 n] w fun e w' => e = .returned (.int .i64 0) ∧ Below w.heap.size w w' := by
  cases hw : isW n with
  | true =>
    go_enter Tryz.func105, Tryz.ntmps105
    go_wp2_with fail
    refine (isWidth_any _ _).mono ?_; rintro e w1 ⟨rfl, rfl⟩
    go_wp2_with fail
    refine (In_Raw_nil n _).mono ?_; rintro e w1 ⟨rfl, rfl⟩
    go_wp2_with (with_reducible refine at_op (.convert 9 64 (.tmp 13)) rfl ?_; refine Stopped.go ?_)
    refine Stopped.mk (wpList_bytes rfl _ _ 5 _ rfl emptyB rfl Tryz.underlying9 Tryz.underlying64 Tryz.underlying5 ?_)
    intro cp w2 hb2 hz2 hcp hB2
    have z : emptyB.size = 0 := rfl
    rw [z]
    clear hB2 hcp hz2 z
    go_wp2_with fail
    refine wp_loop_rounds 1 ?_
    rw [rounds_succ]
    go_wp2_with fail
    go_ret
    exact ⟨rfl, hb2⟩
  | false =>
    go_enter Tryz.func105, Tryz.ntmps105
    go_wp2_with fail
    refine (isWidth_any _ _).mono ?_; rintro e w1 ⟨rfl, rfl⟩
    go_wp2_with fail
    refine (In_Raw_nil (-1) _).mono ?_; rintro e w1 ⟨rfl, rfl⟩
    go_wp2_with (with_reducible refine at_op (.convert 9 64 (.tmp 13)) rfl ?_; refine Stopped.go ?_)
    refine Stopped.mk (wpList_bytes rfl _ _ 5 _ rfl emptyB rfl Tryz.underlying9 Tryz.underlying64 Tryz.underlying5 ?_)
    intro cp w2 hb2 hz2 hcp hB2
    have z : emptyB.size = 0 := rfl
    rw [z]
    clear hB2 hcp hz2 z
    go_wp2_with fail
    refine wp_loop_rounds 1 ?_
    rw [rounds_succ]
    go_wp2_with fail
    go_ret
    exact ⟨rfl, hb2⟩

/-- a byte is a number -/
theorem In_Num1 (p : Nat) (r : ByteArray) (w : World) (h : InAt w p r false) (x : UInt8) (hx : r.data.toList[0]? = some x) :
    Calls Tryz.prog 105 #[.pointer (some ⟨p, 0, none⟩), .int .i64 1] w fun e w' => e = .returned (.int .i64 x.toNat) ∧ Keeps [p] w w' ∧ InAt w' p (r.extract 1 r.size) false := by
  have hl : 0 < r.data.toList.length := (List.getElem?_eq_some_iff.1 hx).1
  have hsz : 1 ≤ r.size := by simp at hl; omega
  have ht : r.data.toList.take 1 = [x] := by
    cases hd : r.data.toList with
    | nil => rw [hd] at hl; simp at hl
    | cons y l => rw [hd] at hx; simp at hx; simp [hx]
  refine (In_Num_walk p r 1 w h rfl hsz x.toNat (by rw [ht]; simp [be]) false ?_).mono ?_
  · have := x.toNat_lt
    rw [eq_comm, decide_eq_false_iff_not]; omega
  · rintro e w' ⟨rfl, hk, hi⟩
    exact ⟨rfl, hk, hi⟩

set_option maxHeartbeats 1000000 in
theorem In_Text_no (p : Nat) (r : ByteArray) (b : Bool) (most : Int) (w : World) (h : InAt w p r b)
    (hc : b = true ∨ r.size = 0 ∨ ∃ x : UInt8, r.data.toList[0]? = some x ∧ (most < (x.toNat : Int) ∨ (r.size : Int) < x.toNat + 1)) :
    Calls Tryz.prog 87 #[.pointer (some ⟨p, 0, none⟩), .int .i64 most] w fun e w' => e = .returned (.string emptyB) ∧ Keeps [p] w w' ∧ InAt w' p emptyB true := by
  have H := hid h; clear h
  by_cases hs : b = true ∨ r.size = 0
  · have hno : isW 1 = false ∨ b = true ∨ (r.size : Int) < 1 := by
      rcases hs with h | h
      · exact .inr (.inl h)
      · right; right; omega
    clear hc hs
    by_cases hm : most < 0
    · go_enter Tryz.func87, Tryz.ntmps87
      go_wp2_with fail
      refine (In_Num_no p r b 1 _ H.out hno).mono ?_; rintro e w1 ⟨rfl, hk1, hi1⟩
      go_wp2_with fail
      refine (In_Raw_no p _ _ _ _ hi1 (.inl rfl)).mono ?_; rintro e w2 ⟨rfl, hk2, hi2⟩
      go_wp2_with fail
      go_ret
      exact ⟨rfl, hk1.trans hk2, hi2⟩
    · go_enter Tryz.func87, Tryz.ntmps87
      go_wp2_with fail
      refine (In_Num_no p r b 1 _ H.out hno).mono ?_; rintro e w1 ⟨rfl, hk1, hi1⟩
      go_wp2_with fail
      refine (In_Raw_no p _ _ _ _ hi1 (.inl rfl)).mono ?_; rintro e w2 ⟨rfl, hk2, hi2⟩
      go_wp2_with fail
      go_ret
      exact ⟨rfl, hk1.trans hk2, hi2⟩
  · have hbf : b = false := by cases b <;> simp_all
    obtain ⟨x, hx, hc⟩ : ∃ x : UInt8, r.data.toList[0]? = some x ∧ (most < (x.toNat : Int) ∨ (r.size : Int) < x.toNat + 1) := by
      rcases hc with h | h | h
      · exact absurd (.inl h) hs
      · exact absurd (.inr h) hs
      · exact h
    subst hbf
    clear hs
    have hr1 : (r.extract 1 r.size).size = r.size - 1 := by simp
    have HX := hid hx; clear hx
    have hxl : x.toNat < 256 := x.toNat_lt
    by_cases hm : most < (x.toNat : Int)
    · go_enter Tryz.func87, Tryz.ntmps87
      go_wp2_with fail
      refine (In_Num1 p r _ H.out x HX.out).mono ?_; rintro e w1 ⟨rfl, hk1, hi1⟩
      go_wp2_with fail
      refine (In_Raw_no p _ _ _ _ hi1 (.inr (.inl (by decide)))).mono ?_; rintro e w2 ⟨rfl, hk2, hi2⟩
      go_wp2_with fail
      go_ret
      exact ⟨rfl, hk1.trans hk2, hi2⟩
    · have hr0 : 1 ≤ r.size := by
        have := (List.getElem?_eq_some_iff.1 HX.out).1
        simp at this; omega
      have hc2 : ((r.extract 1 r.size).size : Int) < (x.toNat : Int) := by rw [hr1]; omega
      have HC2 := hid hc2
      clear hr1 hc hc2
      go_enter Tryz.func87, Tryz.ntmps87
      go_wp2_with fail
      refine (In_Num1 p r _ H.out x HX.out).mono ?_; rintro e w1 ⟨rfl, hk1, hi1⟩
      go_wp2_with fail
      refine (In_Raw_no p _ _ (x.toNat : Int) _ hi1 (.inr (.inr HC2.out))).mono ?_; rintro e w2 ⟨rfl, hk2, hi2⟩
      go_wp2_with fail
      go_ret
      exact ⟨rfl, hk1.trans hk2, hi2⟩

set_option maxHeartbeats 1000000 in
theorem In_Text_yes (p : Nat) (r : ByteArray) (most : Int) (w : World) (h : InAt w p r false) (x : UInt8) (hx : r.data.toList[0]? = some x) (hm : (x.toNat : Int) ≤ most) (hs : x.toNat + 1 ≤ r.size) :
    Calls Tryz.prog 87 #[.pointer (some ⟨p, 0, none⟩), .int .i64 most] w fun e w' => e = .returned (.string ((r.extract 1 r.size).extract 0 x.toNat)) ∧ Keeps [p] w w' ∧ InAt w' p ((r.extract 1 r.size).extract x.toNat (r.extract 1 r.size).size) false := by
  have H := hid h; clear h
  have hr1 : (r.extract 1 r.size).size = r.size - 1 := by simp
  have HX := hid hx; clear hx
  have HR := hid hr1; clear hr1
  have hxl : x.toNat < 256 := x.toNat_lt
  go_enter Tryz.func87, Tryz.ntmps87
  go_wp2_with fail
  refine (In_Num1 p r _ H.out x HX.out).mono ?_; rintro e w1 ⟨rfl, hk1, hi1⟩
  go_wp2_with fail
  refine (In_Raw_yes p _ x.toNat _ hi1 (by rw [HR.out]; omega)).mono ?_; rintro e w2 ⟨rfl, hk2, hi2⟩
  go_wp2_with fail
  go_ret
  exact ⟨rfl, hk1.trans hk2, hi2⟩

set_option maxHeartbeats 1000000 in
theorem In_Text_nil (most : Int) (w : World) :
    Calls Tryz.prog 87 #[.pointer none, .int .i64 most] w fun e w' => e = .returned (.string emptyB) ∧ Below w.heap.size w w' := by
  by_cases hm : most < 0
  · go_enter Tryz.func87, Tryz.ntmps87
    go_wp2_with fail
    refine (In_Num_nil 1 _).mono ?_; rintro e w1 ⟨rfl, hb1⟩
    go_wp2_with fail
    refine (In_Raw_nil _ _).mono ?_; rintro e w2 ⟨rfl, rfl⟩
    go_wp2_with fail
    go_ret
    exact ⟨rfl, hb1⟩
  · go_enter Tryz.func87, Tryz.ntmps87
    go_wp2_with fail
    refine (In_Num_nil 1 _).mono ?_; rintro e w1 ⟨rfl, hb1⟩
    go_wp2_with fail
    refine (In_Raw_nil _ _).mono ?_; rintro e w2 ⟨rfl, rfl⟩
    go_wp2_with fail
    go_ret
    exact ⟨rfl, hb1⟩

/-- an error's number where something was wrong; where bytes are left, too -/
def errE (b : Bool) : Int := if b then 5 else 0
def endE (r : ByteArray) (b : Bool) : Int := if b || !(r.size == 0) then 5 else 0

end Go.Proofs.YthhmdmfbaooldaaGreatDoor
