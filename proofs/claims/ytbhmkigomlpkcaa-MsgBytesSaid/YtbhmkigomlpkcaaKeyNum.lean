/-
  Numbers of layer 7: key.Number, key.Value, walked.
-/
import Derived.Test.YtbhmkigomlpkcaaPenText
namespace Go.Proofs.Ytbhmkigomlpkcaa
open Go.RowKit

theorem In_Num4 (p : Nat) (r : ByteArray) (w : World) (h : InAt w p r false) (hr : r.size = 4) (N : Nat) (hN : N = be r.data.toList) :
    Calls Try.prog 58 #[.pointer (some ⟨p, 0, none⟩), .int .i64 4] w fun e w' => e = .returned (.int .i64 (N : Int)) ∧ Keeps [p] w w' := by
  subst hN
  have hl : r.data.toList.length = 4 := by simpa using hr
  have ht : r.data.toList.take 4 = r.data.toList := List.take_of_length_le (by omega)
  have hb := be_lt r.data.toList
  rw [hl] at hb
  refine (In_Num_walk p r 4 w h rfl (by omega) (be r.data.toList) (by rw [ht]) false ?_).mono ?_
  · rw [eq_comm, decide_eq_false_iff_not]; omega
  · rintro e w' ⟨rfl, hk, _⟩
    exact ⟨rfl, hk⟩

theorem pen_Of_ex (s : ByteArray) (w : World) :
    Calls Try.prog 31 #[.string s] w fun e w' => ∃ p, e = .returned (.pointer (some ⟨p, 0, none⟩)) ∧ w.heap.size ≤ p ∧ Below w.heap.size w w' ∧ InAt w' p s false := by
  refine (pen_Of_any s w).mono ?_
  rintro e w' ⟨rfl, hb, hI, _⟩
  exact ⟨_, rfl, Nat.le_refl _, hb, hI⟩

def num8 (v : ByteArray) : Nat := be v.data.toList
theorem len_data (s : ByteArray) : s.data.toList.length = s.size := by simp
theorem split8 (v : ByteArray) (hv : v.size = 8) : v.data.toList = (v.extract 0 4).data.toList ++ (v.extract 4 8).data.toList := by
  have hl : v.data.toList.length = 8 := by simpa using hv
  rw [Lib.extract_data, Lib.extract_data]
  simp only [Nat.sub_zero, List.drop_zero]
  have e3 : (v.data.toList.drop 4).take (8 - 4) = v.data.toList.drop 4 := List.take_of_length_le (by rw [List.length_drop, hl]; omega)
  rw [e3, List.take_append_drop]
theorem or_half (a b : Nat) (ha : a < 4294967296) (hb : b < 4294967296) : bits .or .u64 ((a : Int) * 4294967296) (b : Int) = ((a * 4294967296 + b : Nat) : Int) := by
  have e1 : (BitVec.ofInt 64 ((a : Int) * 4294967296)).toNat = a * 4294967296 := by
    rw [BitVec.toNat_ofInt]; omega
  have e2 : (BitVec.ofInt 64 (b : Int)).toNat = b := by
    rw [BitVec.toNat_ofInt]; omega
  simp only [bits, BitVec.toNat_or]
  show IntKind.u64.wrap (((BitVec.ofInt 64 ((a : Int) * 4294967296)).toNat ||| (BitVec.ofInt 64 (b : Int)).toNat : Nat) : Int) = _
  rw [e1, e2, nat_join 32 (a * 4294967296) b (by omega) (by omega)]
  rw [IntKind.wrap_u64]
  omega
theorem be_from (b : List UInt8) : ∀ n : Nat, b.foldl (fun n b => n * 256 + b.toNat) n = n * 256 ^ b.length + be b := by
  induction b with
  | nil => intro n; simp [be]
  | cons x l ih =>
    intro n
    rw [List.foldl_cons, ih, List.length_cons, Nat.pow_succ]
    have : be (x :: l) = x.toNat * 256 ^ l.length + be l := by
      unfold be
      rw [List.foldl_cons, ih]
      simp [be]
    rw [this, Nat.add_mul, Nat.mul_assoc, Nat.mul_comm 256]
    omega
theorem be_append (a b : List UInt8) : be (a ++ b) = be a * 256 ^ b.length + be b := by
  rw [← be_from]
  unfold be
  rw [List.foldl_append]

set_option maxHeartbeats 1000000 in
theorem key_Number_no (v : ByteArray) (hv : v.size ≠ 8) (w : World) :
    Calls Try.prog 69 #[.string v] w fun e w' => e = .returned (.tuple #[.int .u64 0, .bool false]) ∧ w = w' := by
  have h0 : ((v.size : Int) != 8) = true := by simp; omega
  clear hv
  go_enter Try.func69, Try.ntmps69
  go_wp2_with fail
  go_ret2
  exact ⟨rfl, rfl⟩

set_option maxHeartbeats 2000000 in
set_option maxRecDepth 100000 in
theorem key_Number_yes (v : ByteArray) (hv : v.size = 8) (w : World) :
    Calls Try.prog 69 #[.string v] w fun e w' => e = .returned (.tuple #[.int .u64 (num8 v), .bool true]) ∧ Below w.heap.size w w' := by
  have h0 : ((v.size : Int) != 8) = false := by simp; omega
  have b0 : (4 : Int) ≤ v.size := by omega
  have hB : Below w.heap.size w w.drew := Below.drew (Below.refl _ _)
  have HV := hid hv
  have z1 : (v.extract 0 4).size = 4 := by simp; omega
  have z2 : (v.extract 4 8).size = 4 := by simp; omega
  have Z1 := hid z1; have Z2 := hid z2
  have hsum : num8 v = be (v.extract 0 4).data.toList * 4294967296 + be (v.extract 4 8).data.toList := by
    have e1 := split8 v hv
    unfold num8
    rw [e1, be_append, len_data (v.extract 4 8), z2]
  obtain ⟨N1, hN1⟩ : ∃ N1, N1 = be (v.extract 0 4).data.toList := ⟨_, rfl⟩
  obtain ⟨N2, hN2⟩ : ∃ N2, N2 = be (v.extract 4 8).data.toList := ⟨_, rfl⟩
  rw [← hN1, ← hN2] at hsum
  have hl1 : N1 < 4294967296 := by have := be_lt (v.extract 0 4).data.toList; rwa [← hN1, len_data (v.extract 0 4), z1] at this
  have hl2 : N2 < 4294967296 := by have := be_lt (v.extract 4 8).data.toList; rwa [← hN2, len_data (v.extract 4 8), z2] at this
  have HS := hid hsum; have HN1 := hid hN1; have HN2 := hid hN2
  clear z1 z2 hsum hN1 hN2
  go_enter Try.func69, Try.ntmps69
  go_wp2_with fail
  go_region_with (first
    | (go_at_call_of 31 (Value.string (v.extract 0 4)); with_reducible refine (pen_Of_ex _ _).mono ?_; rintro e w' ⟨p1, rfl, hp, hb, hI1⟩; have hp1 := Nat.le_trans hB.size hp; (try have hne := Nat.ne_of_lt (Nat.lt_of_lt_of_le hI2.lt hp)); (try replace hI2 := Blk.belowS hI2 hb); replace hB := bt hB hb; clear hp hb)
    | (go_at_call_of 31 (Value.string (v.extract 4 8)); with_reducible refine (pen_Of_ex _ _).mono ?_; rintro e w' ⟨p2, rfl, hp, hb, hI2⟩; have hp2 := Nat.le_trans hB.size hp; (try have hne := (Nat.ne_of_lt (Nat.lt_of_lt_of_le hI1.lt hp)).symm); (try replace hI1 := Blk.belowS hI1 hb); replace hB := bt hB hb; clear hp hb)
    | (go_at_call 58; with_reducible refine (In_Num4 _ _ _ hI1 Z1.out N1 HN1.out).mono ?_; rintro e w' ⟨rfl, hk⟩; (try replace hI2 := Blk.keeps hI2 hk (by simp; exact hne)); replace hB := Keeps.below1 hB hk hp1; clear hk hI1)
    | (go_at_call 58; with_reducible refine (In_Num4 _ _ _ hI2 Z2.out N2 HN2.out).mono ?_; rintro e w' ⟨rfl, hk⟩; (try replace hI1 := Blk.keeps hI1 hk (by simp; exact fun e => hne e.symm)); replace hB := Keeps.below1 hB hk hp2; clear hk hI2))
  go_wp2_with fail
  go_ret2
  refine ⟨?_, hB⟩
  rw [or_half N1 N2 hl1 hl2, ← HS.out]
  rfl

/-- a number's value -/
def val8 (n : Nat) : ByteArray := ⟨(beB 8 n).toArray⟩
theorem and_half (n : Nat) (hn : n < 18446744073709551616) : bits .and .u64 (n : Int) 4294967295 = ((n % 4294967296 : Nat) : Int) := by
  have e1 : (BitVec.ofInt 64 (n : Int)).toNat = n := by
    rw [BitVec.toNat_ofInt]; omega
  have e2 : (BitVec.ofInt 64 4294967295).toNat = 4294967295 := by decide
  simp only [bits, BitVec.toNat_and]
  show IntKind.u64.wrap (((BitVec.ofInt 64 (n : Int)).toNat &&& (BitVec.ofInt 64 4294967295).toNat : Nat) : Int) = _
  rw [e1, e2, show (4294967295 : Nat) = 2 ^ 32 - 1 from rfl, Nat.and_two_pow_sub_one_eq_mod]
  rw [IntKind.wrap_u64]
  omega
theorem beB_split (n : Nat) : beAll 4 [((n / 4294967296 : Nat) : Int), ((n % 4294967296 : Nat) : Int)] = beB 8 n := by
  simp only [beAll, List.map_cons, List.map_nil, List.flatten_cons, List.flatten_nil, List.append_nil, Int.toNat_natCast]
  have h : ∀ a b : Nat, a = b → UInt8.ofNat a = UInt8.ofNat b := fun a b h => by rw [h]
  simp only [beB, List.cons_append, List.nil_append]
  simp only [Nat.pow_succ, Nat.pow_zero]
  congr 1
  · exact h _ _ (by omega)
  congr 1
  · exact h _ _ (by omega)
  congr 1
  · exact h _ _ (by omega)
  congr 1
  · exact h _ _ (by omega)
  congr 1
  · exact h _ _ (by omega)
  congr 1
  · exact h _ _ (by omega)
  congr 1
  · exact h _ _ (by omega)
  congr 1
  · exact h _ _ (by omega)

set_option maxHeartbeats 2000000 in
set_option maxRecDepth 100000 in
theorem key_Value_any (n : Nat) (hn : n < 18446744073709551616) (w : World) :
    Calls Try.prog 51 #[.int .u64 (n : Int)] w fun e w' => e = .returned (.string (val8 n)) ∧ Below w.heap.size w w' := by
  have e1 := and_half n hn
  obtain ⟨a, ha⟩ : ∃ a : Nat, a = n / 4294967296 := ⟨_, rfl⟩
  obtain ⟨b, hb⟩ : ∃ b : Nat, b = n % 4294967296 := ⟨_, rfl⟩
  rw [← hb] at e1
  have e0 : (n : Int) / 4294967296 = (a : Int) := by omega
  have hal : (a : Int) < 4294967296 := by omega
  have hbl : (b : Int) < 4294967296 := by omega
  have hs := beB_split n
  rw [← ha, ← hb] at hs
  have HS := hid hs
  have HA := hid ha; have HBB := hid hb
  clear hs ha hb
  go_enter Try.func51, Try.ntmps51
  go_wp2_with fail
  have hO : OutAt 52 ((w.alloc (.cells #[.pointer none, .slice none 0 0] 52)).alloc (.cells #[.int .i64 a, .int .i64 b] 3)) w.heap.size [] [w.heap.size] := (OutAt.new _ w).below (below_alloc _ _)
  have hR : Row ((w.alloc (.cells #[.pointer none, .slice none 0 0] 52)).alloc (.cells #[.int .i64 a, .int .i64 b] 3)) (some ⟨w.heap.size + 1, 0, none⟩) (i64s [(a : Int), (b : Int)]) := row_new2 w _ _ _
  refine (Out_Num_yes w.heap.size [] [w.heap.size] 4 [(a : Int), (b : Int)] (some ⟨w.heap.size + 1, 0, none⟩) 2 _ hO hR ?_ (by simp) rfl ?_ (by simp)).mono ?_
  · intro x hx; simp at hx; subst hx; simp
  · have h1 : fitsB 4 a = true := by unfold fitsB; simp; omega
    have h2 : fitsB 4 b = true := by unfold fitsB; simp; omega
    simp only [List.any_cons, List.any_nil]
    rw [show ((4 : Nat) : Int) = 4 from rfl, h1, h2]; rfl
  rintro e w3 ⟨rfl, F3, hO3, hK3, hF3⟩
  have hO3 := hid hO3; have hK3 := hid hK3; have hF3 := hid hF3
  clear hO hR
  go_wp2_with fail
  refine (Out_Bytes_any _ _ F3 _ hO3.out).mono ?_
  rintro e w4 ⟨rfl, hO4, hK4⟩
  have hK4 := hid hK4
  clear hO4
  go_wp2_with fail
  go_ret
  refine ⟨?_, ?_⟩
  · rw [HS.out]; rfl
  · refine Keeps.toBelow (Keeps.go (F := []) (Keeps.go (F := []) (a := (w.alloc (.cells #[.pointer none, .slice none 0 0] 52)).alloc (.cells #[.int .i64 a, .int .i64 b] 3)) (((Keeps.refl _ w).alloc _).alloc _) hK3.out ?_) hK4.out ?_)
    · intro x hx; simp at hx; right; omega
    · intro x hx
      rcases hF3.out x hx with h | h
      · simp at h; right; omega
      · right; simp at h; omega
end Go.Proofs.Ytbhmkigomlpkcaa

