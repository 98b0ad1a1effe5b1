/-
  The statements of layer 23: a device over a log.
  Rows of messages, walked: awake, heavy.
-/
import Derived.Test.YtcklgaenedlbiaaGreatGWalExact30
import Derived.Test.YtcklgaenedlbiaaGreatGWalExact12
import Derived.Lib.QuietBelow

namespace Go.Proofs.YtcklgaenedlbiaaGreat
open Go.RowKit Go.Sort

/-! ## a device over a log -/

def overL (L : List ByteArray) : List ByteArray := [zerosB, zerosB] ++ L ++ List.replicate 54 zerosB
def overD (L : List ByteArray) : Dv := { Dv.new 64 with safe := (overL L).flatMap fun b => b.data.toList }
def overF (L : List ByteArray) (i : Nat) : ByteArray := (overL L).getD i zerosB
theorem overL_size {L : List ByteArray} (hs : ∀ b ∈ L, b.size = 256) : ∀ b ∈ overL L, b.size = 256 := by
  intro b hb
  simp only [overL, List.mem_append, List.mem_cons, List.not_mem_nil, or_false, List.mem_replicate] at hb
  rcases hb with ((rfl | rfl) | h) | ⟨_, rfl⟩
  · exact zerosB_size
  · exact zerosB_size
  · exact hs b h
  · exact zerosB_size
theorem overL_len {L : List ByteArray} (h8 : L.length = 8) : (overL L).length = 64 := by simp [overL, h8]
theorem overD_lies {L : List ByteArray} (h8 : L.length = 8) (hs : ∀ b ∈ L, b.size = 256) : DL (overD L) (overF L) := by
  refine ⟨⟨?_, fun i hi => ?_⟩, rfl, by show (-1 : Int) < 0; decide, rfl⟩
  · show ((overL L).flatMap fun b => b.data.toList).length = _
    rw [flat_lenW _ (overL_size hs), overL_len h8]
  · show blkAt ((overL L).flatMap fun b => b.data.toList) i = _
    rw [blkAt_flat _ (overL_size hs) i (by rw [overL_len h8]; exact hi)]
    unfold overF
    rw [List.getD_eq_getElem?_getD, List.getElem?_eq_getElem (by rw [overL_len h8]; exact hi)]; rfl
theorem overF_get {L : List ByteArray} (h8 : L.length = 8) (k : Nat) (hk : k < 8) : overF L (2 + k) = L[k] := by
  unfold overF overL
  rw [List.getD_eq_getElem?_getD, List.getElem?_append_left (by simp [h8]; omega), List.getElem?_append_right (by simp)]
  simp [h8, hk]
theorem overD_ok {L : List ByteArray} (h8 : L.length = 8) (hs : ∀ b ∈ L, b.size = 256) : DvOk 64 (overD L) :=
  ⟨by decide, by decide, (overD_lies h8 hs).lies.len, fun x hx => absurd hx (List.not_mem_nil), by show (-1 : Int) ≤ -1 ∧ (-1 : Int) ≤ 9223372036854775807; decide⟩
theorem cat_bytesW (a b : List UInt8) : (⟨a.toArray⟩ : ByteArray) ++ ⟨b.toArray⟩ = ⟨(a ++ b).toArray⟩ := by
  apply ba_ext1
  rw [ByteArray.toList_eq, ByteArray.toList_eq]
  simp
/-- what is laid together, after k of the blocks -/
def overB (L : List ByteArray) (k : Nat) : ByteArray := ⟨(([zerosB, zerosB] ++ L.take k).flatMap fun b => b.data.toList).toArray⟩
theorem overB_size {L : List ByteArray} (h8 : L.length = 8) (hs : ∀ b ∈ L, b.size = 256) (k : Nat) (hk : k ≤ 8) : (overB L k).size = 512 + 256 * k := by
  have h := flat_lenW ([zerosB, zerosB] ++ L.take k) (fun b hb => by
    simp only [List.mem_append, List.mem_cons, List.not_mem_nil, or_false] at hb
    rcases hb with (rfl | rfl) | h
    · exact zerosB_size
    · exact zerosB_size
    · exact hs b (List.mem_of_mem_take h))
  have h2 : ([zerosB, zerosB] ++ L.take k).length = 2 + k := by rw [List.length_append, List.length_take, h8]; simp; omega
  rw [h2] at h
  unfold overB
  show (List.toArray _).size = _
  rw [List.size_toArray, h]; omega
theorem overB_succ {L : List ByteArray} (k : Nat) (hk : k < L.length) : overB L k ++ L[k] = overB L (k + 1) := by
  have e : L[k] = (⟨L[k].data.toList.toArray⟩ : ByteArray) := rfl
  conv => lhs; rw [e]
  unfold overB
  rw [cat_bytesW, List.take_succ_eq_append_getElem hk, ← List.append_assoc, List.flatMap_append (xs := [zerosB, zerosB] ++ L.take k)]
  simp
theorem zeros_flat (n : Nat) : ((List.replicate n zerosB).flatMap fun b => b.data.toList) = List.replicate (256 * n) (0 : UInt8) := by
  induction n with
  | zero => rfl
  | succ n ih =>
    rw [List.replicate_succ, List.flatMap_cons, ih, show 256 * (n + 1) = 256 + 256 * n by omega, ← List.replicate_append_replicate]
    congr 1
theorem overB_end {L : List ByteArray} (h8 : L.length = 8) : overB L 8 ++ ⟨(List.replicate 13824 (0 : UInt8)).toArray⟩ = ⟨(overD L).safe.toArray⟩ := by
  unfold overB
  rw [cat_bytesW, List.take_of_length_le (by omega)]
  show _ = (⟨((overL L).flatMap fun b => b.data.toList).toArray⟩ : ByteArray)
  unfold overL
  rw [List.flatMap_append (xs := [zerosB, zerosB] ++ L), zeros_flat 54, show 256 * 54 = 13824 from rfl]
theorem overB_zero (L : List ByteArray) : (⟨(List.replicate 512 (0 : UInt8)).toArray⟩ : ByteArray) = overB L 0 := by
  unfold overB
  rw [List.take_zero, List.append_nil, show [zerosB, zerosB] = List.replicate 2 zerosB from rfl, zeros_flat 2, show 256 * 2 = 512 from rfl]

set_option maxHeartbeats 16000000 in
set_option maxRecDepth 100000 in
theorem law23_over {w0 w : World} (hb0 : Below w0.heap.size w0 w) (A : Option Addr) (cap : Nat) (L : List ByteArray) (h8 : L.length = 8) (hs : ∀ b ∈ L, b.size = 256) (hr : Row w A (strs L)) :
    Calls Tryz.prog 6 #[.slice A 8 cap] w fun e w' => ∃ p F, e = .returned (.pointer (some ⟨p, 0, none⟩)) ∧ Dev w0 w' p 64 (overD L) F ∧ Below w.heap.size w w' ∧ ∀ k, k ∈ F → w.heap.size ≤ k := by
  obtain ⟨b0, hi0, hz0, hz1, hz2⟩ := info_parts info_byteD
  have BI0 := hid hi0; have BZ0 := hid hz0; have BZ1 := hid hz1; have BZ2 := hid hz2
  clear hi0 hz0 hz1 hz2
  have HR := hid hr; have H8 := hid h8; have HS8 := hid hs; have HB00 := hid hb0
  clear hr h8 hs hb0
  go_enter Tryz.func6, Tryz.ntmps6
  go_wp2_with (with_reducible refine at_op (.makeSlice 62 (.const (.int .i64 512)) (.const (.int .i64 512))) rfl ?_; refine Stopped.go ?_)
  refine Stopped.mk (wpList_make_k rfl _ _ _ rfl 5 b0 (.int .u8 0) Tryz.underlying62 BI0.out BZ0.out BZ1.out rfl .i64 .i64 512 512 512 rfl rfl rfl rfl (by rw [BZ2.out]; decide) (by decide) ?_)
  intro w1 hB hb1 hs1
  have hB' : Blk w1 w.heap.size 5 (u8s (List.replicate 512 0)) := by simpa [u8s] using hB
  refine wpList_string rfl _ _ 5 _ rfl ⟨w.heap.size, 0, none⟩ 512 512 (List.replicate 512 0) rfl (by rw [List.length_replicate]) Tryz.underlying62 Tryz.underlying5 Tryz.underlying9 (fun j hj => hB'.bytes' j hj) ?_
  rw [overB_zero L]
  have HB1 := hid hb1
  clear hB hb1 hs1 hB'
  go_wp2_with fail
  go_loopg [4, 3] 8 (fun g x y wx => ∃ (k : Nat) (s : ByteArray), k + g = 8 ∧ x = .int .i64 (k : Nat) ∧ y = .string s ∧ Hid (s = overB L k) ∧ Hid (Below w.heap.size w wx))
  case atStart => exact ⟨0, _, by omega, rfl, rfl, rfl, HB1.out⟩
  case round =>
    obtain ⟨k, s, hk, rfl, rfl, HSS, HS⟩ := hrel
    have hsz : s.size = 512 + 256 * k := by rw [HSS.out]; exact overB_size H8.out HS8.out k (by omega)
    by_cases hlt : k < 8
    · have hltl : k < L.length := by have := H8.out; omega
      obtain ⟨b, off, rfl, hb, hc⟩ := row_cell HR.out (strs_ne hltl)
      have c0 := hc _ _ (strs_get L k hltl)
      rw [← HS.out.cell (p := ⟨b, off + k, none⟩) hb] at c0
      obtain ⟨x, hx⟩ : ∃ x, x = L[k] := ⟨_, rfl⟩
      have hxs : x.size = 256 := by rw [hx]; exact HS8.out _ (List.getElem_mem _)
      have hsx : s ++ x = overB L (k + 1) := by rw [HSS.out, hx]; exact overB_succ k hltl
      rw [← hx] at c0
      have q1 : ¬ 9223372036854775807 < s.size + x.size := by omega
      have HSX := hid hsx
      clear hc hb hx hxs hltl hsx hsz HSS
      go_wp2_with fail
      go_roundg (8 - (k + 1))
      case measure => omega
      case rel => exact ⟨k + 1, _, by omega, by go_num, rfl, HSX.out, HS.out⟩
    · obtain rfl : k = 8 := by omega
      have hsz' : (s.size : Int) = 2560 := by omega
      go_wp2_with (with_reducible refine at_op (.makeSlice 62 (.tmp 22) (.tmp 22)) rfl ?_; refine Stopped.go ?_)
      refine Stopped.mk (wpList_make_k rfl _ _ _ rfl 5 b0 (.int .u8 0) Tryz.underlying62 BI0.out BZ0.out BZ1.out rfl .i64 .i64 _ _ 13824 rfl rfl rfl rfl (by rw [BZ2.out]; decide) (by decide) ?_)
      intro w2 hB hb2 hs2
      obtain ⟨z, hz⟩ : ∃ z : List UInt8, z = List.replicate 13824 0 := ⟨_, rfl⟩
      have hzl : z.length = 13824 := by rw [hz, List.length_replicate]
      have hB' : Blk w2 wr.heap.size 5 (u8s z) := by
        have : u8s z = List.replicate 13824 (.int .u8 0) := by rw [hz]; unfold u8s; rw [List.map_replicate]; rfl
        rw [this]; exact hB
      refine wpList_string rfl _ _ 5 _ rfl ⟨wr.heap.size, 0, none⟩ 13824 13824 z rfl hzl.symm Tryz.underlying62 Tryz.underlying5 Tryz.underlying9 (fun j hj => hB'.bytes' j hj) ?_
      obtain ⟨zb, hzb⟩ : ∃ zb : ByteArray, zb = ⟨z.toArray⟩ := ⟨_, rfl⟩
      rw [← hzb]
      have hzs : zb.size = 13824 := by rw [hzb]; exact (List.size_toArray ..).trans hzl
      obtain ⟨S, hS⟩ : ∃ S, S = s ++ zb := ⟨_, rfl⟩
      have hSe : S = ⟨(overD L).safe.toArray⟩ := by rw [hS, HSS.out, hzb, hz]; exact overB_end H8.out
      have hSs : S.size = 16384 := by rw [hSe]; exact (List.size_toArray ..).trans (overD_lies H8.out HS8.out).lies.len
      have hSt : S.data.toList.take (256 * 64) = (overD L).safe := by
        rw [hSe]
        show (List.toArray _).toList.take _ = _
        rw [List.take_of_length_le (by rw [(overD_lies H8.out HS8.out).lies.len]; exact Nat.le_refl _)]
      have HBB := hid (bt HS.out hb2)
      have q1 : ¬ 9223372036854775807 < s.size + zb.size := by omega
      have HSE := hid (And.intro hSs hSt)
      have HSS2 := hid hS
      clear hB hb2 hs2 hB' hzl hz hzb hS hSe hSs hSt hzs hsz
      go_wp2_with fail
      rw [← HSS2.out]
      have HO := dev_Of w2 S 64 (by have := HSE.out.1; omega) (by decide) (by decide)
      rw [HSE.out.2] at HO
      refine HO.mono ?_
      clear HO
      rintro e w3 ⟨p, F, rfl, hD, hb3, hF⟩
      have HD := hid hD; have HB3 := hid (bt HBB.out hb3); have HF := hid (fun k hk => Nat.le_trans HBB.out.size (hF k hk))
      clear hD hb3 hF
      go_wp2_with fail
      go_ret
      exact ⟨p, F, rfl, ⟨HD.out, bt HB00.out HB3.out, fun k hk => Nat.le_trans HB00.out.size (HF.out k hk), overD_ok H8.out HS8.out, by show 0 ≤ 1000; decide, by show 0 ≤ 1000; decide⟩, HB3.out, HF.out⟩
end Go.Proofs.YtcklgaenedlbiaaGreat

namespace Go.Proofs.YtcklgaenedlbiaaGreat
open Go.RowKit Go.Sort

def aw1 : Msg3 := (2, ⟨#[97]⟩, ⟨#[]⟩)
def aw2 : Msg3 := (1, ⟨#[98]⟩, ⟨#[99]⟩)
theorem aw_g2 : g2 [] [aw1, aw2] = [[aw1, aw2]] := by kernel_rfl
theorem aw_bytes : bytesG [aw1, aw2] = ⟨#[2, 2, 1, 97, 0, 1, 1, 98, 1, 99]⟩ := by kernel_rfl
theorem aw_parse1 : parseR ⟨#[1, 2, 1, 97, 0]⟩ = some [aw1] := by kernel_rfl
theorem aw_parse2 : parseR ⟨#[0]⟩ = none := by kernel_rfl
theorem aw_is : isB aw1 = true ∧ isB aw2 = true := ⟨by kernel_rfl, by kernel_rfl⟩
theorem aw_not : ([((0, ⟨#[]⟩, ⟨#[]⟩) : Msg3)].any fun x => !isB x) = true := by kernel_rfl

theorem aw_Texts (w : World) (A : Option Addr) (hr : Row w A ([aw1, aw2].flatMap msgCells)) :
    Calls Tryz.prog 37 #[.slice A 2 2] w fun e w' => ∃ A' cap', e = .returned (.tuple #[.slice A' 1 cap', .int .i64 0]) ∧ Row w' A' [.string ⟨#[2, 2, 1, 97, 0, 1, 1, 98, 1, 99]⟩] ∧ Below w.heap.size w w' := by
  have h := rec_Texts_yes A 2 [aw1, aw2] (by simp) (by simp) (by intro x hx; simp at hx; rcases hx with rfl | rfl; exact aw_is.1; exact aw_is.2) w hr
  rw [aw_g2] at h
  simp only [List.map_cons, List.map_nil, aw_bytes] at h
  exact h
theorem aw_Texts2 (w : World) (A : Option Addr) (hr : Row w A ([((0, ⟨#[]⟩, ⟨#[]⟩) : Msg3)].flatMap msgCells)) :
    Calls Tryz.prog 37 #[.slice A 1 1] w fun e w' => e = .returned (.tuple #[.slice none 0 0, .int .i64 1]) ∧ Below w.heap.size w w' :=
  rec_Texts_no A 1 [((0, ⟨#[]⟩, ⟨#[]⟩) : Msg3)] (by simp) aw_not w hr
theorem aw_Parse1 (w : World) :
    Calls Tryz.prog 49 #[.string ⟨#[1, 2, 1, 97, 0]⟩] w fun e w' => ∃ A' cap', e = .returned (.tuple #[.slice A' 1 cap', .int .i64 0]) ∧ Row w' A' [.int .i64 2, .string ⟨#[97]⟩, .string ⟨#[]⟩] ∧ Below w.heap.size w w' := by
  refine (rec_Parse_any _ w).mono ?_
  rintro e w' ⟨_, h2, h3⟩
  obtain ⟨A, cap, h4, _, h5⟩ := h2 _ aw_parse1
  exact ⟨A, cap, h4, h5, h3⟩
theorem aw_Parse2 (w : World) :
    Calls Tryz.prog 49 #[.string ⟨#[0]⟩] w fun e w' => e = .returned (.tuple #[.slice none 0 0, .int .i64 5]) ∧ Below w.heap.size w w' := by
  refine (rec_Parse_any _ w).mono ?_
  rintro e w' ⟨h1, _, h3⟩
  exact ⟨h1 aw_parse2, h3⟩
theorem aw_Count (w : World) :
    Calls Tryz.prog 33 #[.slice none 0 0] w fun e w' => e = .returned (.int .i64 0) ∧ Below w.heap.size w w' :=
  rec_Count_any none 0 [] (by simp) w (Row.nil _ _)

/-- whether a row is too heavy -/
def heavyB (l : List Msg3) : Bool := (l.take 201).any (fun x => decide (512 < x.2.1.size) || decide (512 < x.2.2.size)) || decide (200 < l.length)
end Go.Proofs.YtcklgaenedlbiaaGreat
