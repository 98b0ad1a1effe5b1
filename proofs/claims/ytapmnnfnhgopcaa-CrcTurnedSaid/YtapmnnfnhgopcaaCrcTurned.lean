/-
  What is turned is told: the law, walked.
-/
import Derived.Test.YtapmnnfnhgopcaaCrcLaws
namespace Go.Proofs.Ytapmnnfnhgopcaa
open Go.RowKit

theorem xor8 (x : UInt8) (c : Nat) (c' : Int) (h : c < 256) (hc : c' = (c : Int)) : bits .xor .u8 (x.toNat : Int) c' = ((x ^^^ UInt8.ofNat c).toNat : Int) := by
  subst hc
  rw [u8_xor_nat _ _ x.toNat_lt h, UInt8.toNat_xor, UInt8.toNat_ofNat', Nat.mod_eq_of_lt h]
theorem cell_u8 {w : World} {g : Nat} {e : TypeId} {l : List UInt8} {vs : List Value} (h : Blk w g e (u8s l ++ vs)) {j : Nat} {x : UInt8} (hj : l[j]? = some x) : w.cell? ⟨g, j, none⟩ = some (.int .u8 (x.toNat : Int)) := by
  obtain ⟨hl, rfl⟩ := List.getElem?_eq_some_iff.1 hj
  rw [h.cell j, List.getElem?_append_left (by simpa [u8s] using hl), u8s_at hl]
theorem free_u8 {w : World} {g : Nat} {e : TypeId} {l : List UInt8} {vs : List Value} (h : Blk w g e (u8s l ++ vs)) {j : Nat} {x : UInt8} (hj : l[j]? = some x) : w.frozen? ⟨g, j, none⟩ = false := by
  obtain ⟨hl, rfl⟩ := List.getElem?_eq_some_iff.1 hj
  refine h.free ?_
  simp [u8s]; omega

set_option maxHeartbeats 2000000 in
set_option maxRecDepth 100000 in
theorem CrcTurned_walk (s : ByteArray) (a c : Int) (w : World) (hs : s.size ≤ 140737488351232) (_ha : (Lit.int .i64 a).wf = true) (hc : (Lit.int .u32 c).wf = true) :
    Calls Try.prog 6 #[.string s, .int .i64 a, .int .u32 c] w fun e w' => e = .returned (.bool true) ∧ Below w.heap.size w w' := by
  by_cases h1 : s.size ≤ 1024
  · by_cases h2 : 4 ≤ s.size
    · by_cases h3 : c = 0
      · have e3 : (c == 0) = true := by simp [h3]
        clear h3
        go_enter Try.func6, Try.ntmps6
        go_wp2_with fail
        refine (awake02_any _).mono ?_; rintro e w1 ⟨rfl, hb1⟩
        go_wp2_with fail
        go_ret
        exact ⟨rfl, hb1⟩
      · have e3 : (c == 0) = false := by simp [h3]
        go_enter Try.func6, Try.ntmps6
        go_wp2_with fail
        refine (awake02_any _).mono ?_; rintro e w1 ⟨rfl, hb1⟩
        obtain ⟨i, hi, hil⟩ := umod a ((s.size : Int) - 3) (by omega)
        have hcl := wf_u32 hc
        obtain ⟨C, rfl⟩ := Int.eq_ofNat_of_zero_le hcl.1
        obtain ⟨l, hl⟩ : ∃ l, l = s.data.toList := ⟨_, rfl⟩
        have hll : l.length = s.size := by rw [hl]; simp
        obtain ⟨x0, h0⟩ : ∃ x, l[i]? = some x := ⟨_, List.getElem?_eq_getElem (by omega)⟩
        obtain ⟨x1, h1'⟩ : ∃ x, l[i + 1]? = some x := ⟨_, List.getElem?_eq_getElem (by omega)⟩
        obtain ⟨x2, h2'⟩ : ∃ x, l[i + 2]? = some x := ⟨_, List.getElem?_eq_getElem (by omega)⟩
        obtain ⟨x3, h3'⟩ : ∃ x, l[i + 3]? = some x := ⟨_, List.getElem?_eq_getElem (by omega)⟩
        obtain ⟨y0, hy0⟩ : ∃ y, y = x0 ^^^ UInt8.ofNat (C % 256) := ⟨_, rfl⟩
        obtain ⟨y1, hy1⟩ : ∃ y, y = x1 ^^^ UInt8.ofNat (C / 256 % 256) := ⟨_, rfl⟩
        obtain ⟨y2, hy2⟩ : ∃ y, y = x2 ^^^ UInt8.ofNat (C / 65536 % 256) := ⟨_, rfl⟩
        obtain ⟨y3, hy3⟩ : ∃ y, y = x3 ^^^ UInt8.ofNat (C / 16777216) := ⟨_, rfl⟩
        have e0 : bits .xor .u8 (x0.toNat : Int) ((C : Int) % 256) = (y0.toNat : Int) := by rw [hy0]; exact xor8 x0 (C % 256) _ (by omega) (by omega)
        have e1 : bits .xor .u8 (x1.toNat : Int) ((C : Int) / 256 % 256) = (y1.toNat : Int) := by rw [hy1]; exact xor8 x1 (C / 256 % 256) _ (by omega) (by omega)
        have e2 : bits .xor .u8 (x2.toNat : Int) ((C : Int) / 65536 % 256) = (y2.toNat : Int) := by rw [hy2]; exact xor8 x2 (C / 65536 % 256) _ (by omega) (by omega)
        have e4 : bits .xor .u8 (x3.toNat : Int) ((C : Int) / 16777216) = (y3.toNat : Int) := by rw [hy3]; exact xor8 x3 (C / 16777216) _ (by omega) (by omega)
        obtain ⟨m, hm⟩ : ∃ m, m = Crc.set4 l i y0 y1 y2 y3 := ⟨_, rfl⟩
        have hml : m.length = s.size := by rw [hm]; simp [Crc.set4]; exact hll
        obtain ⟨n1, hn1⟩ : ∃ n, n = Crc.sum l := ⟨_, rfl⟩
        obtain ⟨n2, hn2⟩ : ∃ n, n = Crc.sum m := ⟨_, rfl⟩
        have hne : ((n2 : Int) != (n1 : Int)) = true := by
          rw [bne_iff_ne]
          intro hq
          have hq : n2 = n1 := by omega
          rw [hn2, hn1, hm] at hq
          obtain ⟨q0, q1, q2, q3⟩ := Crc.turned4 l i x0 x1 x2 x3 y0 y1 y2 y3 h0 h1' h2' h3' hq
          have := Crc.turns C (by omega) x0 x1 x2 x3 (by rw [← hy0]; exact q0) (by rw [← hy1]; exact q1) (by rw [← hy2]; exact q2) (by rw [← hy3]; exact q3)
          exact h3 (by omega)
        have N1 : Hid (Crc.sum s.data.toList = n1) := by rw [hn1, hl]; rfl
        have N2 : Hid (Crc.sum (ByteArray.mk m.toArray).data.toList = n2) := by rw [hn2]; rfl
        have HM := hid hm; have HML := hid hml
        clear hy0 hy1 hy2 hy3 hm hml hn1 hn2
        have H0 := hid h0; have H1 := hid h1'; have H2 := hid h2'; have H3 := hid h3'; have HL := hid hl; have HLL := hid hll
        clear h0 h1' h2' h3' hl hll
        go_wp2_with (with_reducible refine at_op (.convert 9 35 (.tmp 31)) rfl ?_; refine Stopped.go ?_)
        refine Stopped.mk (wpList_bytes rfl _ _ 5 _ rfl _ rfl Try.underlying9 Try.underlying35 Try.underlying5 ?_)
        intro cp w2 hb2 hz2 hcp hB2
        rw [← HL.out] at hB2
        have c0 : w2.cell? ⟨w1.heap.size, i, none⟩ = some (.int .u8 x0.toNat) := cell_u8 hB2 H0.out
        have c1 : w2.cell? ⟨w1.heap.size, i + 1, none⟩ = some (.int .u8 x1.toNat) := cell_u8 hB2 H1.out
        have c2 : w2.cell? ⟨w1.heap.size, i + 2, none⟩ = some (.int .u8 x2.toNat) := cell_u8 hB2 H2.out
        have c3 : w2.cell? ⟨w1.heap.size, i + 3, none⟩ = some (.int .u8 x3.toNat) := cell_u8 hB2 H3.out
        have f0 := free_u8 hB2 H0.out
        have f1 := free_u8 hB2 H1.out
        have f2 := free_u8 hB2 H2.out
        have f3 := free_u8 hB2 H3.out
        have HB := hid hB2; clear hB2
        go_wp2_with (with_reducible refine at_op (.convert 35 9 (.tmp 82)) rfl ?_; refine Stopped.go ?_)
        have hw : Blk ((((w2.setCell ⟨w1.heap.size, i, none⟩ (.int .u8 y0.toNat)).setCell ⟨w1.heap.size, i + 1, none⟩ (.int .u8 y1.toNat)).setCell ⟨w1.heap.size, i + 2, none⟩ (.int .u8 y2.toNat)).setCell ⟨w1.heap.size, i + 3, none⟩ (.int .u8 y3.toNat)) w1.heap.size 5 (u8s m ++ List.replicate (cp - s.size) (.int .u8 0)) := by
          have := (((HB.out.set i (.int .u8 (y0.toNat : Int))).set (i + 1) (.int .u8 (y1.toNat : Int))).set (i + 2) (.int .u8 (y2.toNat : Int))).set (i + 3) (.int .u8 (y3.toNat : Int))
          have hl := HLL.out
          rw [u8s_set _ _ _ _ (by omega), u8s_set _ _ _ _ (by simp; omega), u8s_set _ _ _ _ (by simp; omega), u8s_set _ _ _ _ (by simp; omega)] at this
          rw [HM.out]
          exact this
        refine Stopped.mk (wpList_string rfl _ _ 5 _ rfl ⟨w1.heap.size, 0, none⟩ s.size cp m rfl HML.out.symm Try.underlying35 Try.underlying5 Try.underlying9 hw.bytes ?_)
        have hbw : Below w.heap.size w ((((w2.setCell ⟨w1.heap.size, i, none⟩ (.int .u8 y0.toNat)).setCell ⟨w1.heap.size, i + 1, none⟩ (.int .u8 y1.toNat)).setCell ⟨w1.heap.size, i + 2, none⟩ (.int .u8 y2.toNat)).setCell ⟨w1.heap.size, i + 3, none⟩ (.int .u8 y3.toNat)) :=
          ((((bt hb1 hb2).setCell (p := ⟨w1.heap.size, i, none⟩) hb1.size _).setCell (p := ⟨w1.heap.size, i + 1, none⟩) hb1.size _).setCell (p := ⟨w1.heap.size, i + 2, none⟩) hb1.size _).setCell (p := ⟨w1.heap.size, i + 3, none⟩) hb1.size _
        clear hw c0 c1 c2 c3 f0 f1 f2 f3
        generalize ((((w2.setCell ⟨w1.heap.size, i, none⟩ (.int .u8 y0.toNat)).setCell ⟨w1.heap.size, i + 1, none⟩ (.int .u8 y1.toNat)).setCell ⟨w1.heap.size, i + 2, none⟩ (.int .u8 y2.toNat)).setCell ⟨w1.heap.size, i + 3, none⟩ (.int .u8 y3.toNat)) = w3 at hbw ⊢
        go_wp2_with fail
        refine (crc_Sum_1 n2 ⟨m.toArray⟩ _ _ (by have := HML.out; simp [ByteArray.size]; omega) N2.out (row_new _ _ _)).mono ?_; rintro e w4 ⟨rfl, hb4⟩
        go_wp2_with fail
        refine (crc_Sum_1 n1 s _ _ (by omega) N1.out (row_new _ _ _)).mono ?_; rintro e w5 ⟨rfl, hb5⟩
        go_wp2_with fail
        go_ret
        exact ⟨rfl, by repeat (first | exact Below.refl _ _ | assumption | (refine ba ?_ (by assumption)) | (refine bt ?_ (by assumption)) | (refine bt ?_ (below_alloc _ _)))⟩
    · go_enter Try.func6, Try.ntmps6
      go_wp2_with fail
      refine (awake02_any _).mono ?_; rintro e w1 ⟨rfl, hb1⟩
      go_wp2_with fail
      go_ret
      exact ⟨rfl, hb1⟩
  · go_enter Try.func6, Try.ntmps6
    go_wp2_with fail
    refine (awake02_any _).mono ?_; rintro e w1 ⟨rfl, hb1⟩
    go_wp2_with fail
    go_ret
    exact ⟨rfl, hb1⟩
end Go.Proofs.Ytapmnnfnhgopcaa
