/-
  The way back from digits, walked: strings.IndexByte, Parse, digits.
-/
import Derived.Test.YtcklgaenedlbiaaCrcText
import Derived.Lib.Bytealg
namespace Go.Proofs.Ytcklgaenedlbiaa
open Go.RowKit

theorem bytealg_run (s : ByteArray) (c : Int) (w : World) :
    (callFunc 122 #[.string s, .int .u8 c]).run Try.prog w = .ok (.value (.int .i64 (Lib.indexByte s.data.toList c.toNat.toUInt8))) w := by
  rw [run_callFunc_extern (e := Extern.BytealgIndexByte.indexByte) Try.func122 (by kernel_rfl) (by kernel_rfl) (by kernel_rfl) (by kernel_rfl), Lib.run_indexByteString]
  rfl

set_option maxHeartbeats 400000 in
theorem stringslite_IndexByte_any (s : ByteArray) (c : Int) (w : World) :
    Calls Try.prog 102 #[.string s, .int .u8 c] w fun e w' => e = .returned (.int .i64 (Lib.indexByte s.data.toList c.toNat.toUInt8)) ∧ w = w' := by
  have h := bytealg_run s c
  go_enter Try.func102, Try.ntmps102
  go_wp2
  go_ret
  exact ⟨rfl, rfl⟩

set_option maxHeartbeats 400000 in
theorem strings_IndexByte_any (s : ByteArray) (c : Int) (w : World) :
    Calls Try.prog 80 #[.string s, .int .u8 c] w fun e w' => e = .returned (.int .i64 (Lib.indexByte s.data.toList c.toNat.toUInt8)) ∧ w = w' := by
  go_enter Try.func80, Try.ntmps80
  go_wp2_with (go_at_call 102; refine (stringslite_IndexByte_any s c _).mono ?_; rintro e w1 ⟨rfl, rfl⟩)
  go_ret
  exact ⟨rfl, rfl⟩

/-- a digit's number -/
def dv (b : UInt8) : Int := Lib.indexByte digs.data.toList b
/-- the number of digits, if all are -/
def pv : List UInt8 → Nat → Option Nat
  | [], n => some n
  | b :: l, n => if dv b < 0 then none else pv l (n * 16 + (dv b).toNat)

theorem indexByte_lt (l : List UInt8) (b : UInt8) : Lib.indexByte l b < (l.length : Int) := by
  induction l with
  | nil => show (-1 : Int) < 0; decide
  | cons x l ih =>
    unfold Lib.indexByte
    rw [List.length_cons]
    split
    · omega
    · split
      · omega
      · omega

theorem dv_all (b : UInt8) : -1 ≤ dv b ∧ dv b < 16 := ⟨Lib.indexByte_ge _ _, indexByte_lt digs.data.toList b⟩

theorem pv_append : ∀ (l m : List UInt8) (n : Nat), pv (l ++ m) n = (pv l n).bind (pv m)
  | [], m, n => rfl
  | b :: l, m, n => by
    simp only [List.cons_append, pv]
    split
    · rfl
    · exact pv_append l m _

set_option maxHeartbeats 1000000 in
set_option maxRecDepth 100000 in
theorem crc_Parse_any (s : ByteArray) (w : World) (hs : s.size ≤ 9223372036854775807) :
    Calls Try.prog 54 #[.string s] w fun e w' => Below w.heap.size w w' ∧
      e = .returned (.tuple #[.int .u32 (if s.size = 8 then (pv s.data.toList 0).getD 0 else 0 : Nat), .bool (decide (s.size = 8) && (pv s.data.toList 0).isSome)]) := by
  by_cases h8 : s.size = 8
  · have hn : (((s.size : Nat) : Int) != 8) = false := by simp; omega
    rw [if_pos h8, decide_eq_true h8, Bool.true_and]
    have H8 := hid h8; clear h8
    go_enter Try.func54, Try.ntmps54
    go_wp2_with (first | (with_reducible refine at_op (.convert 9 63 (.tmp 11)) rfl ?_; refine wpList_bytes rfl _ _ 5 _ rfl _ rfl Try.underlying9 Try.underlying63 Try.underlying5 ?_; intro c w1 hb1 hz1 _ hB1))
    have HC : Hid (∀ j, j < s.size → w1.cell? ⟨w.heap.size, j, none⟩ = some (.int .u8 (s.data.toList.getD j 0).toNat)) := fun j hj => bytes_at hB1 hj
    clear hB1
    go_loopg [4, 14] s.size (fun g n i wx => ∃ k N : Nat, k + g = s.size ∧ i = .int .i64 k ∧ n = .int .u32 N ∧ Hid (N < 16 ^ k) ∧ Hid (pv (s.data.toList.take k) 0 = some N) ∧ w1 = wx)
    case atStart => exact ⟨0, 0, by omega, rfl, rfl, show 0 < 1 by decide, rfl, rfl⟩
    case round =>
      obtain ⟨k, N, hk, rfl, rfl, HN, HP, rfl⟩ := hrel
      by_cases hlt : k < s.size
      · have hc := HC.out k hlt
        have hsn := take_snoc s k hlt
        obtain ⟨b, hb⟩ : ∃ b, b = s.data.toList.getD k 0 := ⟨_, rfl⟩
        rw [← hb] at hc hsn
        have hNl : N < 268435456 := by
          have h1 := HN.out
          have h2 : 16 ^ k ≤ 16 ^ 7 := Nat.pow_le_pow_right (by decide) (by have := H8.out; omega)
          omega
        have hd : Lib.indexByte digs.data.toList (b.toNat : Int).toNat.toUInt8 = dv b := by
          unfold dv; simp
        obtain ⟨hd1, hd2⟩ := dv_all b
        have hpv : pv (s.data.toList.take (k + 1)) 0 = if dv b < 0 then none else some (N * 16 + (dv b).toNat) := by
          rw [hsn, pv_append, HP.out]; rfl
        have HPV := hid hpv
        obtain ⟨d, hdd⟩ : ∃ d, d = dv b := ⟨_, rfl⟩
        rw [← hdd] at hd hd1 hd2 HPV
        have HSN := hid hsn
        clear hb hsn hpv hdd
        by_cases hneg : d < 0
        · have hnone : pv s.data.toList 0 = none := by
            rw [← List.take_append_drop (k + 1) s.data.toList, pv_append, HPV.out, if_pos hneg]; rfl
          have HNO := hid hnone; clear hnone
          go_wp2_with (go_at_call 80; refine (strings_IndexByte_any digs _ _).mono ?_; rintro e w2 ⟨rfl, rfl⟩; rw [hd])
          go_ret2
          refine ⟨hb1, ?_⟩
          rw [HNO.out]
          rfl
        · obtain ⟨m, rfl⟩ := Int.eq_ofNat_of_zero_le (show 0 ≤ d by omega)
          have e1 : bits .or .u32 ((N : Int) * 16) (m : Int) = ((N * 16 + m : Nat) : Int) := by
            have := u32_or_nat (N * 16) m (by omega) (by omega)
            rw [nat_join 4 (N * 16) m (by omega) (by omega)] at this
            rw [← this]
            congr 1
          obtain ⟨M, hM⟩ : ∃ M, M = N * 16 + m := ⟨_, rfl⟩
          rw [← hM] at e1
          have HM := hid hM; clear hM
          go_wp2_with (go_at_call 80; refine (strings_IndexByte_any digs _ _).mono ?_; rintro e w2 ⟨rfl, rfl⟩; rw [hd])
          go_roundg (s.size - (k + 1))
          case measure => omega
          case rel =>
            refine ⟨k + 1, M, by omega, by go_num, rfl, ?_, ?_, rfl⟩
            · have := HN.out
              have := HM.out
              show M < 16 ^ (k + 1)
              rw [Nat.pow_succ]; omega
            · show pv (s.data.toList.take (k + 1)) 0 = some M
              rw [HPV.out, if_neg (by omega), HM.out]; simp
      · have hp : pv s.data.toList 0 = some N := by
          rw [← HP.out, List.take_of_length_le (by simp; omega)]
        have HPP := hid hp; clear hp
        go_wp2
        go_ret2
        refine ⟨hb1, ?_⟩
        rw [HPP.out]
        rfl
  · have hn : (((s.size : Nat) : Int) != 8) = true := by simp; omega
    rw [if_neg h8, decide_eq_false h8, Bool.false_and]
    go_enter Try.func54, Try.ntmps54
    go_wp2
    go_ret2
    exact ⟨Below.refl _ _, rfl⟩

theorem crc_Parse_yes (s : ByteArray) (w : World) (n : Nat) (h8 : s.size = 8) (hp : pv s.data.toList 0 = some n) :
    Calls Try.prog 54 #[.string s] w fun e w' => e = .returned (.tuple #[.int .u32 n, .bool true]) ∧ Below w.heap.size w w' := by
  refine (crc_Parse_any s w (by omega)).mono ?_
  rintro e w' ⟨hb, rfl⟩
  refine ⟨?_, hb⟩
  rw [if_pos h8, hp, decide_eq_true h8]
  rfl
theorem crc_Parse_no (s : ByteArray) (w : World) (hs : s.size ≤ 9223372036854775807) (hp : s.size = 8 → pv s.data.toList 0 = none) :
    Calls Try.prog 54 #[.string s] w fun e w' => e = .returned (.tuple #[.int .u32 0, .bool false]) ∧ Below w.heap.size w w' := by
  refine (crc_Parse_any s w hs).mono ?_
  rintro e w' ⟨hb, rfl⟩
  refine ⟨?_, hb⟩
  by_cases h8 : s.size = 8
  · rw [if_pos h8, hp h8, decide_eq_true h8]
    rfl
  · rw [if_neg h8, decide_eq_false h8, Bool.false_and]
    rfl

/-- whether a byte is a digit's -/
def isd (b : UInt8) : Bool := (48 ≤ b.toNat && b.toNat ≤ 57) || (97 ≤ b.toNat && b.toNat ≤ 102)
/-- whether a word is a sum's -/
def digB (s : ByteArray) : Bool := s.data.toList.all isd && decide (s.size = 8)

end Go.Proofs.Ytcklgaenedlbiaa
