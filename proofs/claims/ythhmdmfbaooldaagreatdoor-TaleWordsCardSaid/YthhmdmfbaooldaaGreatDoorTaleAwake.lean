/-
  The document's examples of layer 28, walked.
-/
import Derived.Test.YthhmdmfbaooldaaGreatDoorTaleLaw
namespace Go.Proofs.YthhmdmfbaooldaaGreatDoor
open Go.RowKit

def aw28a : ByteArray := ⟨#[97, 100, 100, 32, 110, 32, 49, 56, 52, 52, 54, 55, 52, 52, 48, 55, 51, 55, 48, 57, 53, 53, 49, 54, 49, 53]⟩
def aw28b : ByteArray := ⟨#[97, 100, 100, 32, 110, 32, 49, 56, 52, 52, 54, 55, 52, 52, 48, 55, 51, 55, 48, 57, 53, 53, 49, 54, 49, 54]⟩
theorem nd_max : Lib.nDigits 18446744073709551615 = 20 := Lib.nDigits_unique 19 _ (by decide) (by decide)
theorem dec_max : Lib.decDigits 18446744073709551615 = [49, 56, 52, 52, 54, 55, 52, 52, 48, 55, 51, 55, 48, 57, 53, 53, 49, 54, 49, 53] := by
  rw [Lib.decDigits_eq, nd_max]; decide +kernel
theorem aw_line : ordB 1 ⟨#[65]⟩ ⟨#[]⟩ 0 ⟨#[]⟩ ⟨#[]⟩ = true ∧ lineB 1 ⟨#[65]⟩ ⟨#[]⟩ 0 ⟨#[]⟩ ⟨#[]⟩ = ⟨#[112, 117, 116, 32, 37, 52, 49, 32, 37]⟩ := by
  constructor
  · decide +kernel
  · decide +kernel
theorem aw_ord : ordB 3 ⟨#[110]⟩ ⟨#[]⟩ (18446744073709551615 : Nat) ⟨#[]⟩ ⟨#[]⟩ = true := by decide +kernel
theorem aw_a : aw28a = lineB 3 ⟨#[110]⟩ ⟨#[]⟩ 18446744073709551615 ⟨#[]⟩ ⟨#[]⟩ := by
  have h : dB 18446744073709551615 = ⟨#[49, 56, 52, 52, 54, 55, 52, 52, 48, 55, 51, 55, 48, 57, 53, 53, 49, 54, 49, 53]⟩ := by unfold dB; rw [dec_max]
  unfold lineB wordsB
  rw [h]
  decide +kernel
theorem aw_split : splitL aw28b.data.toList = [[97, 100, 100], [110], [49, 56, 52, 52, 54, 55, 52, 52, 48, 55, 51, 55, 48, 57, 53, 53, 49, 54, 49, 54]] := by decide +kernel
theorem aw_b : readIs aw28b = false := by
  cases h : readIs aw28b with
  | false => rfl
  | true =>
    exfalso
    obtain ⟨K, key, val, lo, hi, n, ho, hn, he⟩ := read_is h
    have hw := line_words K key val n lo hi
    rw [← he, aw_split] at hw
    obtain ⟨hk, _⟩ := ordB_parts ho
    have h0 : nameL K = [97, 100, 100] := by
      have := congrArg (fun l => l.headD []) hw
      exact this.symm
    have hkk := kind_name hk
    rw [h0] at hkk
    have h3 : kindL [97, 100, 100] = 3 := by decide
    rw [h3] at hkk
    obtain rfl : K = 3 := hkk.symm
    have h2 : Lib.decDigits n = [49, 56, 52, 52, 54, 55, 52, 52, 48, 55, 51, 55, 48, 57, 53, 53, 49, 54, 49, 54] := by
      have := congrArg (fun l => l.getD 2 []) hw
      exact this.symm
    have h4 := numT_dec n hn
    rw [h2] at h4
    have h5 : numT [49, 56, 52, 52, 54, 55, 52, 52, 48, 55, 51, 55, 48, 57, 53, 53, 49, 54, 49, 54] = none := by
      unfold numT
      have : Lib.parseUintB 64 [49, 56, 52, 52, 54, 55, 52, 52, 48, 55, 51, 55, 48, 57, 53, 53, 49, 54, 49, 54] = .range := by decide +kernel
      rw [this]
    rw [h5] at h4
    cases h4
theorem Read_yes {K : Int} {key val lo hi : ByteArray} {n : Nat} (ho : ordB K key val n lo hi = true) (hn : n < 18446744073709551616) (s : ByteArray) (hs : s = lineB K key val n lo hi) (hsz : s.size ≤ 50000) (w : World) (hL : Lib28 w) :
    Calls Tryz.prog 21 #[.string s] w fun e w' =>
      e = .returned (.tuple #[.agg #[.int .i64 K, .string key, .string val, .int .u64 n, .string lo, .string hi], .int .i64 0]) ∧ Below w.heap.size w w' := by
  obtain ⟨h1, h2, h3, h4, h5, h6, h7⟩ := read_line ho hn s hs
  refine (tale_Read_any s hsz w hL).mono ?_
  rintro e w' ⟨rfl, hb⟩
  rw [h1, h2, h3, h4, h5, h6, h7]
  exact ⟨rfl, hb⟩
theorem Read_no (s : ByteArray) (h : readIs s = false) (hsz : s.size ≤ 50000) (w : World) (hL : Lib28 w) :
    Calls Tryz.prog 21 #[.string s] w fun e w' =>
      e = .returned (.tuple #[.agg #[.int .i64 0, .string ⟨#[]⟩, .string ⟨#[]⟩, .int .u64 0, .string ⟨#[]⟩, .string ⟨#[]⟩], .int .i64 5]) ∧ Below w.heap.size w w' := by
  refine (tale_Read_any s hsz w hL).mono ?_
  rintro e w' ⟨rfl, hb⟩
  rw [h]
  exact ⟨rfl, hb⟩
theorem Line_yes {K : Int} {key val lo hi : ByteArray} {n : Nat} (ho : ordB K key val n lo hi = true) (hn : n < 18446744073709551616) (s : ByteArray) (hs : s = lineB K key val n lo hi) (w : World) (hL : Lib28 w) :
    Calls Tryz.prog 18 #[.agg #[.int .i64 K, .string key, .string val, .int .u64 n, .string lo, .string hi]] w fun e w' =>
      e = .returned (.tuple #[.string s, .int .i64 0]) ∧ Below w.heap.size w w' := by
  refine (tale_Line_any K key val lo hi n hn w hL).mono ?_
  rintro e w' ⟨rfl, hb⟩
  rw [ho, ← hs]
  exact ⟨rfl, hb⟩
theorem aw_tell1 : joinB (tellW 0 true ⟨#[120, 32, 121]⟩ [] [0, 0, 0, 0, 0, 0, 0, 0, 0]) = ⟨#[111, 107, 32, 104, 97, 115, 32, 118, 97, 108, 32, 120, 37, 50, 48, 121]⟩ := by decide +kernel
theorem aw_tell2 : joinB (tellW 4 false ⟨#[]⟩ [] [0, 0, 0, 0, 0, 0, 0, 0, 0]) = ⟨#[101, 114, 114, 111, 114, 32, 52]⟩ := by
  have h : iB 4 = ⟨#[52]⟩ := by
    unfold iB
    rw [show (4 : Int) = ((4 : Nat) : Int) from rfl, Lib.itoa_nonneg, Lib.decDigits_one (by decide)]; rfl
  unfold tellW tw1
  rw [h]
  decide +kernel

set_option maxHeartbeats 8000000 in
set_option maxRecDepth 100000 in
theorem awake28_any (w : World) (hL : Lib28 w) : Calls Tryz.prog 9 #[] w fun e w' => e = .returned (.bool true) ∧ Below w.heap.size w w' := by
  have hu := Tryz.underlying37
  have HL := hid hL; clear hL
  have C1 := hid (fun w' hw' => Line_yes (K := 1) (key := ⟨#[65]⟩) (val := ⟨#[]⟩) (lo := ⟨#[]⟩) (hi := ⟨#[]⟩) (n := 0) aw_line.1 (by decide) _ aw_line.2.symm w' hw')
  have C2 := hid (fun w' hw' => Read_yes aw_ord (by decide) _ aw_a (by decide) w' hw')
  have C3 := hid (fun w' hw' => Read_no _ aw_b (by decide) w' hw')
  have ht : textT [37, 54, 49] = none := by decide
  have C4 := fun w' => tale_Text_any ⟨#[37, 54, 49]⟩ (by decide) w'
  have C4 := hid (show ∀ w', Calls Tryz.prog 10 #[.string ⟨#[37, 54, 49]⟩] w' fun e w'' => e = .returned (.tuple #[.string ⟨#[]⟩, .int .i64 5]) ∧ Below w'.heap.size w' w'' by
    intro w'
    have := C4 w'
    rw [show (⟨#[37, 54, 49]⟩ : ByteArray).data.toList = [37, 54, 49] from rfl, (textA_none ht).1, (textA_none ht).2] at this
    exact this)
  have hz : ∀ n ∈ [(0 : Int), 0, 0, 0, 0, 0, 0, 0, 0], (Lit.int .i64 n).wf = true := by decide
  have C5 := fun w' hw' => tale_Tell_any 0 true ⟨#[120, 32, 121]⟩ none 0 [] 0 0 0 0 0 0 0 0 0 w' (by decide) (by decide) (Row.nil _ _) (by decide) (by simp) hz hw'
  have C6 := fun w' hw' => tale_Tell_any 4 false ⟨#[]⟩ none 0 [] 0 0 0 0 0 0 0 0 0 w' (by decide) (by decide) (Row.nil _ _) (by decide) (by simp) hz hw'
  rw [aw_tell1] at C5
  rw [aw_tell2] at C6
  have D5 := hid C5; have D6 := hid C6
  clear C5 C6 ht hz
  go_enter Tryz.func9, Tryz.ntmps9
  go_wp2_with fail
  refine (C1.out _ HL.out).mono ?_; rintro e w1 ⟨rfl, hb1⟩
  have H1 := hid hb1; clear hb1
  go_wp2_with fail
  refine (C2.out _ (HL.out.below H1.out)).mono ?_; rintro e w2 ⟨rfl, hb1⟩
  have H2 := hid (bt H1.out hb1); clear hb1 H1
  go_wp2_with fail
  have hN := Blk.new w2 #[.int .i64 3, .string ⟨#[110]⟩, .string ⟨#[]⟩, .int .u64 18446744073709551615, .string ⟨#[]⟩, .string ⟨#[]⟩] 37
  have hB := bt H2.out (below_alloc w2 (.cells #[.int .i64 3, .string ⟨#[110]⟩, .string ⟨#[]⟩, .int .u64 18446744073709551615, .string ⟨#[]⟩, .string ⟨#[]⟩] 37))
  obtain ⟨g, hg⟩ : ∃ g, g = w2.heap.size := ⟨_, rfl⟩
  rw [← hg] at hN ⊢
  clear hg H2
  generalize w2.alloc (.cells #[.int .i64 3, .string ⟨#[110]⟩, .string ⟨#[]⟩, .int .u64 18446744073709551615, .string ⟨#[]⟩, .string ⟨#[]⟩] 37) = w3 at hN hB ⊢
  have HN3 := hid (And.intro hN hB)
  clear hN hB
  refine (C3.out _ (HL.out.below HN3.out.2)).mono ?_; rintro e w4 ⟨rfl, hb1⟩
  have HN4 := hid (And.intro (HN3.out.1.belowS hb1) (bt HN3.out.2 hb1)); clear hb1 HN3
  go_wp2_with fail
  have HN5 := hid (And.intro (HN4.out.1.alloc (.cells #[.int .i64 0, .string ⟨#[]⟩, .string ⟨#[]⟩, .int .u64 0, .string ⟨#[]⟩, .string ⟨#[]⟩] 37)) (bt HN4.out.2 (below_alloc w4 (.cells #[.int .i64 0, .string ⟨#[]⟩, .string ⟨#[]⟩, .int .u64 0, .string ⟨#[]⟩, .string ⟨#[]⟩] 37))))
  clear HN4
  refine (C4.out _).mono ?_; rintro e w5 ⟨rfl, hb1⟩
  have HN6 := hid (And.intro (HN5.out.1.belowS hb1) (bt HN5.out.2 hb1)); clear hb1 HN5
  go_wp2_with fail
  refine (D5.out _ (HL.out.below HN6.out.2)).mono ?_; rintro e w6 ⟨rfl, hb1⟩
  have HN7 := hid (And.intro (HN6.out.1.belowS hb1) (bt HN6.out.2 hb1)); clear hb1 HN6
  have c0 : w6.cell? ⟨g, 0, none⟩ = some (.int .i64 3) := HN7.out.1.at (i := 0) rfl
  have c1 : w6.cell? ⟨g, 1, none⟩ = some (.string ⟨#[110]⟩) := HN7.out.1.at (i := 1) rfl
  have c2 : w6.cell? ⟨g, 2, none⟩ = some (.string ⟨#[]⟩) := HN7.out.1.at (i := 2) rfl
  have c3 : w6.cell? ⟨g, 3, none⟩ = some (.int .u64 18446744073709551615) := HN7.out.1.at (i := 3) rfl
  have c4 : w6.cell? ⟨g, 4, none⟩ = some (.string ⟨#[]⟩) := HN7.out.1.at (i := 4) rfl
  have c5 : w6.cell? ⟨g, 5, none⟩ = some (.string ⟨#[]⟩) := HN7.out.1.at (i := 5) rfl
  go_wp2_with fail
  refine (D6.out _ (HL.out.below HN7.out.2)).mono ?_; rintro e w7 ⟨rfl, hb1⟩
  have HE := hid (bt HN7.out.2 hb1); clear hb1 HN7 c0 c1 c2 c3 c4 c5
  go_wp2_with fail
  go_ret
  exact ⟨rfl, HE.out⟩
end Go.Proofs.YthhmdmfbaooldaaGreatDoor
