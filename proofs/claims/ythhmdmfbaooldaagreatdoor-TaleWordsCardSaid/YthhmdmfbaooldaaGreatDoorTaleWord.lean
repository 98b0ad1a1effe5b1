/-
  tale.isPlain and tale.Word, walked.
-/
import Derived.Test.YthhmdmfbaooldaaGreatDoorBuilder
import Derived.Test.YthhmdmfbaooldaaGreatDoorTalePure
namespace Go.Proofs.YthhmdmfbaooldaaGreatDoor
open Go.RowKit

set_option maxHeartbeats 1000000 in
theorem isPlain_any (b : UInt8) (c : Int) (hc : c = (b.toNat : Int)) (w : World) :
    Calls Tryz.prog 31 #[.int .u8 c] w fun e w' => e = .returned (.bool (plainB b)) ∧ w = w' := by
  obtain ⟨f, hf⟩ : ∃ f, f = plainB b := ⟨_, rfl⟩
  rw [← hf]
  unfold plainB at hf
  have h256 := b.toNat_lt
  rcases (show (c < 48) ∨ (48 ≤ c ∧ c ≤ 57) ∨ (57 < c ∧ c < 97) ∨ (97 ≤ c ∧ c ≤ 122) ∨ 122 < c by omega) with h | ⟨h, h2⟩ | ⟨h, h2⟩ | ⟨h, h2⟩ | h
  all_goals
    obtain ⟨g, hg⟩ : ∃ g : Bool, f = g := ⟨f, rfl⟩
    have hfg : f = (decide (97 ≤ c) && decide (c ≤ 122) || decide (48 ≤ c) && decide (c ≤ 57)) := by
      rw [hf]
      have e1 : (97 : UInt8).toNat = 97 := rfl
      have e2 : (122 : UInt8).toNat = 122 := rfl
      have e3 : (48 : UInt8).toNat = 48 := rfl
      have e4 : (57 : UInt8).toNat = 57 := rfl
      simp only [UInt8.le_iff_toNat_le, e1, e2, e3, e4]
      congr 1 <;> congr 1 <;> (apply decide_eq_decide.2; omega)
    clear hf hg g
  · have : f = false := by rw [hfg]; simp; omega
    subst this
    clear hfg hc
    go_enter Tryz.func31, Tryz.ntmps31
    go_wp2_with fail
    go_ret
    exact ⟨ret_bool (by first | rfl | (simp; omega)), rfl⟩
  · have : f = true := by rw [hfg]; simp; omega
    subst this
    clear hfg hc
    have h3 : ¬ 97 ≤ c := by omega
    go_enter Tryz.func31, Tryz.ntmps31
    go_wp2_with fail
    go_ret
    exact ⟨ret_bool (by first | rfl | (simp; omega)), rfl⟩
  · have : f = false := by rw [hfg]; simp; omega
    subst this
    clear hfg hc
    have h3 : 48 ≤ c := by omega
    go_enter Tryz.func31, Tryz.ntmps31
    go_wp2_with fail
    go_ret
    exact ⟨ret_bool (by first | rfl | (simp; omega)), rfl⟩
  · have : f = true := by rw [hfg]; simp; omega
    subst this
    clear hfg hc
    go_enter Tryz.func31, Tryz.ntmps31
    go_wp2_with fail
    go_ret
    exact ⟨ret_bool (by first | rfl | (simp; omega)), rfl⟩
  · have : f = false := by rw [hfg]; simp; omega
    subst this
    clear hfg hc
    have h3 : 97 ≤ c := by omega
    have h4 : 48 ≤ c := by omega
    have h5 : 57 < c := by omega
    go_enter Tryz.func31, Tryz.ntmps31
    go_wp2_with fail
    go_ret
    exact ⟨ret_bool (by first | rfl | (simp; omega)), rfl⟩

def digsB : ByteArray := ⟨#[48, 49, 50, 51, 52, 53, 54, 55, 56, 57, 97, 98, 99, 100, 101, 102]⟩
theorem digs_at : ∀ n, (h : n < 16) → ∃ hd : n < digsB.size, (digsB[n]'hd) = digB n := by
  intro n h
  refine ⟨h, ?_⟩
  have hh : n = 0 ∨ n = 1 ∨ n = 2 ∨ n = 3 ∨ n = 4 ∨ n = 5 ∨ n = 6 ∨ n = 7 ∨ n = 8 ∨ n = 9 ∨ n = 10 ∨ n = 11 ∨ n = 12 ∨ n = 13 ∨ n = 14 ∨ n = 15 := by omega
  rcases hh with rfl | rfl | rfl | rfl | rfl | rfl | rfl | rfl | rfl | rfl | rfl | rfl | rfl | rfl | rfl | rfl <;> rfl
theorem wordL_take (s : ByteArray) (k : Nat) (h : k < s.size) : wordL (s.data.toList.take (k + 1)) = wordL (s.data.toList.take k) ++ word1 (s.data.toList.getD k 0) := by
  rw [take_snoc s k h]; simp [wordL]
theorem word1_len (b : UInt8) : (word1 b).length ≤ 3 := by unfold word1; split <;> simp
theorem wordL_len : ∀ l : List UInt8, (wordL l).length ≤ 3 * l.length
  | [] => Nat.le_refl _
  | b :: l => by
    have := wordL_len l
    have h1 := word1_len b
    show (word1 b ++ wordL l).length ≤ _
    rw [List.length_append, List.length_cons]; omega
theorem nat_shr4 (b : Nat) : b >>> 4 = b / 16 := by rw [Nat.shiftRight_eq_div_pow]
theorem u8_low : ∀ n : Fin 256, bits .and .u8 (n.val : Int) 15 = ((n.val % 16 : Nat) : Int) := by decide +kernel
/-- the builder so far -/
def WordI (w wx : World) (p : Nat) (l : List UInt8) : Prop := ∃ F, OutAt 73 wx p l F ∧ Keeps [p] w wx ∧ ∀ k, k ∈ F → k = p ∨ w.heap.size ≤ k
theorem WordI.step {w wx w' : World} {p : Nat} {m : List UInt8} {F : List Nat} (hb : Keeps [p] w wx) (hF : ∀ k, k ∈ F → k = p ∨ w.heap.size ≤ k)
    (h : ∃ F', OutAt 73 w' p m F' ∧ Keeps F wx w' ∧ ∀ k, k ∈ F' → k ∈ F ∨ wx.heap.size ≤ k) : WordI w w' p m := by
  obtain ⟨F', h1, h2, h3⟩ := h
  refine ⟨F', h1, hb.go h2 (fun x hx => by simpa using hF x hx), fun k hk => ?_⟩
  rcases h3 k hk with h | h
  · exact hF k h
  · exact .inr (Nat.le_trans hb.size h)
theorem WordI.kept {w wx : World} {p : Nat} {l : List UInt8} (h : WordI w wx p l) : Keeps [p] w wx := by obtain ⟨F, _, h, _⟩ := h; exact h
/-- one byte more -/
theorem WordI.byte {w wx : World} {p : Nat} {l : List UInt8} (h : WordI w wx p l) (c : Int) (x : UInt8) (hc : c = (x.toNat : Int)) (hl : l.length + 1 ≤ 140737488355328) :
    Calls Tryz.prog 32 #[.pointer (some ⟨p, 0, none⟩), .int .u8 c] wx fun e w' => e = .returned .nilIface ∧ WordI w w' p (l ++ [x]) := by
  obtain ⟨F, h1, h2, h3⟩ := h
  refine (WriteByte_any _ bt_Builder p l F c x hc wx h1 hl).mono ?_
  rintro e w' ⟨rfl, h⟩
  exact ⟨rfl, WordI.step h2 h3 h⟩
theorem WordI.string {w wx : World} {p : Nat} {l : List UInt8} (h : WordI w wx p l) :
    Calls Tryz.prog 33 #[.pointer (some ⟨p, 0, none⟩)] wx fun e w' => e = .returned (.string ⟨l.toArray⟩) ∧ WordI w w' p l := by
  obtain ⟨F, h1, h2, h3⟩ := h
  refine (String_any _ p l F wx h1).mono ?_
  rintro e w' ⟨rfl, h, hk⟩
  exact ⟨rfl, F, h, h2.go hk (fun x hx => by simpa using h3 x hx), h3⟩

set_option maxHeartbeats 4000000 in
set_option maxRecDepth 100000 in
theorem tale_Word_any (s : ByteArray) (hs : s.size ≤ 1000000) (w : World) :
    Calls Tryz.prog 15 #[.string s] w fun e w' => e = .returned (.string ⟨(wordT s.data.toList).toArray⟩) ∧ Below w.heap.size w w' := by
  by_cases h0 : s.size = 0
  · have hd : s.data.toList = [] := by
      have : s.data.toList.length = 0 := by simpa using h0
      exact List.length_eq_zero_iff.1 this
    have hs : s = ⟨#[]⟩ := by
      cases s with | mk d => rw [show d = #[] from Array.toList_inj.1 (by simpa using hd)]
    subst hs
    have he : wordT ([] : List UInt8) = [37] := rfl
    go_enter Tryz.func15, Tryz.ntmps15
    go_wp2_with fail
    go_ret
    exact ⟨rfl, Below.refl _ _⟩
  · have hne : s.toList = [] → False := by
      intro e
      rw [ByteArray.toList_eq] at e
      have : s.data.toList.length = 0 := by rw [e]; rfl
      exact h0 (by simpa using this)
    have hw : wordT s.data.toList = wordL s.data.toList := by
      unfold wordT
      rw [if_neg (fun e => hne (by rw [ByteArray.toList_eq]; exact e))]
    rw [hw]
    have hb0 : (s.toList == []) = false := by
      rw [beq_eq_false_iff_ne]; exact hne
    clear hw hne h0
    have hN0 := OutAt.new 73 w
    have hA0 := below_alloc w (.cells #[.pointer none, .slice none 0 0] 73)
    have HN := hid (And.intro hN0 hA0)
    clear hN0 hA0
    go_enter Tryz.func15, Tryz.ntmps15
    go_wp2_with (with_reducible refine at_op (.convert 9 64 (.tmp 8)) rfl ?_; refine Stopped.go ?_)
    refine Stopped.mk (wpList_bytes rfl _ _ 5 _ rfl _ rfl Tryz.underlying9 Tryz.underlying64 Tryz.underlying5 ?_)
    intro c w1 hb1 hz1 _ hB1
    have hz1' : w1.heap.size = w.heap.size + 2 := by rw [hz1]; simp
    have HC : Hid (∀ j, j < s.size → w1.cell? ⟨w.heap.size + 1, j, none⟩ = some (.int .u8 (s.data.toList.getD j 0).toNat)) := by
      intro j hj
      have := bytes_at hB1 hj
      rwa [show (w.alloc (.cells #[.pointer none, .slice none 0 0] 73)).heap.size = w.heap.size + 1 by simp] at this
    have HW : Hid (WordI w1 w1 w.heap.size [] ∧ Below w.heap.size w w1) := by
      refine ⟨⟨_, HN.out.1.below hb1, Keeps.refl _ _, by simp⟩, bt HN.out.2 hb1⟩
    clear hB1 hz1 hb1 HN
    go_wp2_with fail
    go_loopg [11] s.size (fun g i wx => ∃ k : Nat, k + g = s.size ∧ i = .int .i64 k ∧ Hid (WordI w1 wx w.heap.size (wordL (s.data.toList.take k))))
    case atStart => exact ⟨0, by omega, rfl, HW.out.1⟩
    case round =>
      obtain ⟨k, hk, rfl, HI⟩ := hrel
      by_cases hlt : k < s.size
      · have hcell := HC.out k hlt
        rw [← HI.out.kept.cell (b := w.heap.size + 1) (by omega) (by simp)] at hcell
        obtain ⟨b, hb⟩ : ∃ b, b = s.data.toList.getD k 0 := ⟨_, rfl⟩
        rw [← hb] at hcell
        have hlen := wordL_len (s.data.toList.take k)
        have hl2 : (s.data.toList.take k).length ≤ k := List.length_take_le _ _
        have HLEN := hid (show (wordL (s.data.toList.take k)).length ≤ 3000000 by omega)
        have hst := wordL_take s k hlt
        rw [← hb] at hst
        have HST := hid hst
        have HZ := hid hz1'
        clear hst hlen hl2 hb hz1'
        go_wp2_with fail
        refine (isPlain_any b _ rfl _).mono ?_; rintro e w2 ⟨rfl, rfl⟩
        cases hp : plainB b with
        | true =>
          go_wp2_with fail
          refine (HI.out.byte _ b rfl (by have := HLEN.out; omega)).mono ?_; rintro e w2 ⟨rfl, hI2⟩
          have HI2 : Hid (WordI w1 w2 w.heap.size (wordL (s.data.toList.take (k + 1)))) := by
            show WordI _ _ _ _
            rw [HST.out]; unfold word1; rw [if_pos hp]; exact hI2
          clear hI2 hcell
          go_wp2_with fail
          go_roundg (s.size - (k + 1))
          case measure => omega
          case rel => exact ⟨k + 1, by omega, by go_num, HI2.out⟩
        | false =>
          have hlt8 := b.toNat_lt
          obtain ⟨hd1, hdig1⟩ := digs_at (b.toNat / 16) (by omega)
          obtain ⟨hd2, hdig2⟩ := digs_at (b.toNat % 16) (by omega)
          go_wp2_with fail
          refine (HI.out.byte _ 37 rfl (by have := HLEN.out; omega)).mono ?_; rintro e w2 ⟨rfl, hI2⟩
          have HI2 := hid hI2
          clear hI2 hcell
          go_wp2_with fail
          refine (HI2.out.byte _ (digB (b.toNat / 16)) (by rw [← hdig1]; rfl) (by have := HLEN.out; simp; omega)).mono ?_; rintro e w3 ⟨rfl, hI3⟩
          have HI3 := hid hI3
          have e2 := u8_low ⟨b.toNat, hlt8⟩
          simp only at e2
          clear hI3 HI2 hdig1 hd1
          go_wp2_with fail
          refine (HI3.out.byte _ (digB (b.toNat % 16)) (by rw [← hdig2]; rfl) (by have := HLEN.out; simp; omega)).mono ?_; rintro e w4 ⟨rfl, hI4⟩
          have HI4 : Hid (WordI w1 w4 w.heap.size (wordL (s.data.toList.take (k + 1)))) := by
            show WordI _ _ _ _
            rw [HST.out]; unfold word1; rw [if_neg (by rw [hp]; decide)]; simpa using hI4
          clear hI4 HI3 hdig2 hd2 e2
          go_wp2_with fail
          go_roundg (s.size - (k + 1))
          case measure => omega
          case rel => exact ⟨k + 1, by omega, by go_num, HI4.out⟩
      · have hin : k = s.size := by omega
        subst hin
        go_wp2_with fail
        refine (HI.out.string).mono ?_; rintro e w2 ⟨rfl, hI2⟩
        have HE : Hid (Below w.heap.size w w2) := Keeps.below HW.out.2 hI2.kept (by simp)
        clear hI2
        go_wp2_with fail
        go_ret
        exact ⟨ret_str (by rw [take_all]), HE.out⟩
end Go.Proofs.YthhmdmfbaooldaaGreatDoor
