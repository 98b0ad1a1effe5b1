/-
  grangerref28.Word, Digits, Signed, walked.
-/
import Derived.Test.YthhmdmfbaooldaaGreatDoorTaleTell
import Derived.Deep.QuietTactic
import Derived.BigQuiet
namespace Go.Proofs.YthhmdmfbaooldaaGreatDoor
open Go.RowKit

theorem ba_same {x y : ByteArray} (h : x.data.toList = y.data.toList) : x = y := by
  cases x; cases y
  congr 1
  exact Array.ext' h
theorem hex_ext (q : Nat) (h : q < 16) : digsB.extract q (q + 1) = ⟨#[digB q]⟩ := by
  revert q; decide
theorem hex_slice (q : Nat) (h : q < 16) (W : World) : (Instr.sliceAt 9 (.string digsB) (some (.int .u8 (q : Int))) (some (.int .u8 ((q + 1 : Nat) : Int))) none).run Tryz.prog W = .ok (.string ⟨#[digB q]⟩) W := by
  have h1 := hex_ext q h
  have h2 : digsB.size = 16 := rfl
  rw [← h1]
  go_simp
  rw [if_pos (by omega), if_pos (by omega)]
theorem ext_data (s : ByteArray) (k : Nat) (h : k < s.size) : (s.extract k (k + 1)).data.toList = [s.data.toList.getD k 0] := by
  rw [Lib.extract_data]
  have hl : k < s.data.toList.length := by simpa using h
  rw [show k + 1 - k = 1 by omega, List.drop_eq_getElem_cons hl]
  simp
  rw [Array.getElem?_eq_getElem (by simpa using hl)]
  rfl
set_option maxHeartbeats 2000000 in
theorem refWord_any (s : ByteArray) (hs : s.size ≤ 1000000) (w : World) :
    Calls Tryz.prog 16 #[.string s] w fun e w' => e = .returned (.string (wB s.data.toList)) ∧ Below w.heap.size w w' := by
  by_cases h0 : s.size = 0
  · have hd : s.data.toList = [] := by
      have : s.data.toList.length = 0 := by simpa using h0
      exact List.length_eq_zero_iff.1 this
    have hs : s = ⟨#[]⟩ := by
      cases s with | mk d => rw [show d = #[] from Array.toList_inj.1 (by simpa using hd)]
    subst hs
    have he : wB ([] : List UInt8) = ⟨#[37]⟩ := rfl
    go_enter Tryz.func16, Tryz.ntmps16
    go_wp2_with fail
    go_ret
    exact ⟨rfl, Below.refl _ _⟩
  · have hne : ¬ s.data.toList = [] := by
      intro e
      have : s.data.toList.length = 0 := by rw [e]; rfl
      exact h0 (by simpa using this)
    obtain ⟨X, hX⟩ : ∃ X, X = wB s.data.toList := ⟨_, rfl⟩
    rw [← hX]
    have hw : X.data.toList = wordL s.data.toList := by
      rw [hX]
      show wordT _ = _
      unfold wordT
      rw [if_neg hne]
    have HW := hid hw
    clear hw hX hne
    have hz : ((s.size : Int) == 0) = false := by rw [beq_eq_false_iff_ne]; omega
    clear h0
    go_enter Tryz.func16, Tryz.ntmps16
    go_wp2_with fail
    go_loopg [4, 5] s.size (fun gg v i wx => ∃ (k : Nat) (out : ByteArray), k + gg = s.size ∧ v = .string out ∧ i = .int .i64 k ∧ Hid (out.data.toList = wordL (s.data.toList.take k)) ∧ out.size ≤ 3 * k ∧ Hid (Below w.heap.size w wx))
    case atStart => exact ⟨0, ByteArray.empty, by omega, rfl, rfl, hid rfl, by simp, hid (Below.refl _ _)⟩
    case round =>
      obtain ⟨k, out, hk, rfl, rfl, HI, hsz, HB⟩ := hrel
      by_cases hlt : k < s.size
      · obtain ⟨b, hb⟩ : ∃ b, b = s.data.toList.getD k 0 := ⟨_, rfl⟩
        have hst := wordL_take s k hlt
        rw [← hb] at hst
        have HST := hid hst
        have hbb : s[k]'hlt = b := by
          rw [hb]
          have hl : k < s.data.toList.length := by simpa using hlt
          rw [List.getD_eq_getElem?_getD, List.getElem?_eq_getElem hl]
          simp; rfl
        have hxt := ext_data s k hlt
        rw [← hb] at hxt
        obtain ⟨one, hone⟩ : ∃ x, x = s.extract k (k + 1) := ⟨_, rfl⟩
        rw [← hone] at hxt
        have h1 : one.size = 1 := by
          have : one.data.toList.length = 1 := by rw [hxt]; rfl
          simpa using this
        have HXT := hid hxt
        clear hst hxt hb
        have hsl : ∀ W, (Instr.sliceAt 9 (.string s) (some (.int .i64 (k : Int))) (some (.int .i64 ((k : Int) + 1))) none).run Tryz.prog W = .ok (.string one) W := fun W => by
          rw [hone]; go_simp
          rw [if_pos (by omega), if_pos (by omega)]
        clear hone
        have q1 : ¬ (9223372036854775807 < out.size + one.size) := by omega
        have hfg : plainB b = (decide (97 ≤ (b.toNat : Int)) && decide ((b.toNat : Int) ≤ 122) || decide (48 ≤ (b.toNat : Int)) && decide ((b.toNat : Int) ≤ 57)) := by
          unfold plainB
          have e1 : (97 : UInt8).toNat = 97 := rfl
          have e2 : (122 : UInt8).toNat = 122 := rfl
          have e3 : (48 : UInt8).toNat = 48 := rfl
          have e4 : (57 : UInt8).toNat = 57 := rfl
          simp only [UInt8.le_iff_toNat_le, e1, e2, e3, e4]
          congr 1 <;> congr 1 <;> (apply decide_eq_decide.2; omega)
        have h256 := b.toNat_lt
        obtain ⟨c, hc⟩ : ∃ c : Int, c = (b.toNat : Int) := ⟨_, rfl⟩
        rw [← hc] at hfg
        have hb0 : ((s[k]'hlt).toNat : Int) = c := by rw [hbb, hc]
        have YES : plainB b = true → Hid (∀ o : ByteArray, o = out ++ one → o.data.toList = wordL (s.data.toList.take (k + 1)) ∧ o.size ≤ 3 * (k + 1)) := fun hp => by
          intro o ho
          rw [ho, ByteArray.size_append, ByteArray.data_append, Array.toList_append, HI.out, HXT.out, HST.out]
          unfold word1
          rw [if_pos hp]
          exact ⟨rfl, by omega⟩
        obtain ⟨q, hq⟩ : ∃ q, q = b.toNat / 16 := ⟨_, rfl⟩
        obtain ⟨r, hr⟩ : ∃ q, q = b.toNat % 16 := ⟨_, rfl⟩
        have NO : plainB b = false → Hid (∀ o : ByteArray, o = out ++ ⟨#[37]⟩ ++ digsB.extract q (q + 1) ++ digsB.extract r (r + 1) → o.data.toList = wordL (s.data.toList.take (k + 1)) ∧ o.size ≤ 3 * (k + 1)) := fun hp => by
          intro o ho
          rw [ho, hex_ext q (by omega), hex_ext r (by omega), ByteArray.size_append, ByteArray.size_append, ByteArray.size_append, ByteArray.data_append, Array.toList_append, ByteArray.data_append, Array.toList_append, ByteArray.data_append, Array.toList_append, HI.out, HST.out]
          unfold word1
          rw [if_neg (by rw [hp]; decide), ← hq, ← hr]
          refine ⟨by simp, ?_⟩
          have z1 : (⟨#[37]⟩ : ByteArray).size = 1 := rfl
          have z2 : (⟨#[digB q]⟩ : ByteArray).size = 1 := rfl
          have z3 : (⟨#[digB r]⟩ : ByteArray).size = 1 := rfl
          omega
        have hq16 : q < 16 := by omega
        have hr16 : r < 16 := by omega
        have t1 : c.tdiv 16 = (q : Int) := by rw [hc, hq]; exact (Int.ofNat_tdiv _ _).symm
        have t2 : c.tmod 16 = (r : Int) := by rw [hc, hr]; exact (Int.ofNat_tmod _ _).symm
        have t3 : IntKind.u8.wrap ((q : Int) + 1) = ((q + 1 : Nat) : Int) := by rw [IntKind.wrap_u8]; omega
        have t4 : IntKind.u8.wrap ((r : Int) + 1) = ((r + 1 : Nat) : Int) := by rw [IntKind.wrap_u8]; omega
        have s1 := fun W => hex_slice q hq16 W
        have s2 := fun W => hex_slice r hr16 W
        have p1 : ¬ (9223372036854775807 < out.size + 1) := by omega
        clear hq hr hbb hc h256
        rcases (show (c < 48) ∨ (48 ≤ c ∧ c ≤ 57) ∨ (57 < c ∧ c < 97) ∨ (97 ≤ c ∧ c ≤ 122) ∨ 122 < c by omega) with h | ⟨h, h2⟩ | ⟨h, h2⟩ | ⟨h, h2⟩ | h
        · have hp : plainB b = false := by rw [hfg]; simp; omega
          have hN := NO hp
          clear NO YES hfg
          have x1 : ¬ (48 : Int) ≤ c := by omega
          have x2 : ¬ (97 : Int) ≤ c := by omega
          go_wp2_with fail
          go_quiet (fail)
          go_wp2_with fail
          go_roundg (s.size - (k + 1))
          case measure => omega
          case rel => exact ⟨k + 1, _, by omega, rfl, by go_num, hid (hN.out _ rfl).1, (hN.out _ rfl).2, (show Below _ _ _ from bdnT HB.out _)⟩
        · have hp : plainB b = true := by rw [hfg]; simp; omega
          have hN := YES hp
          clear NO YES hfg
          have x2 : ¬ (97 : Int) ≤ c := by omega
          go_wp2_with fail
          go_roundg (s.size - (k + 1))
          case measure => omega
          case rel => exact ⟨k + 1, _, by omega, rfl, by go_num, hid (hN.out _ rfl).1, (hN.out _ rfl).2, HB⟩
        · have hp : plainB b = false := by rw [hfg]; simp; omega
          have hN := NO hp
          clear NO YES hfg
          have x1 : (48 : Int) ≤ c := by omega
          have x3 : ¬ c ≤ 57 := by omega
          have x2 : ¬ (97 : Int) ≤ c := by omega
          go_wp2_with fail
          go_quiet (fail)
          go_wp2_with fail
          go_roundg (s.size - (k + 1))
          case measure => omega
          case rel => exact ⟨k + 1, _, by omega, rfl, by go_num, hid (hN.out _ rfl).1, (hN.out _ rfl).2, (show Below _ _ _ from bdnT HB.out _)⟩
        · have hp : plainB b = true := by rw [hfg]; simp; omega
          have hN := YES hp
          clear NO YES hfg
          have x1 : (48 : Int) ≤ c := by omega
          have x3 : ¬ c ≤ 57 := by omega
          go_wp2_with fail
          go_roundg (s.size - (k + 1))
          case measure => omega
          case rel => exact ⟨k + 1, _, by omega, rfl, by go_num, hid (hN.out _ rfl).1, (hN.out _ rfl).2, HB⟩
        · have hp : plainB b = false := by rw [hfg]; simp; omega
          have hN := NO hp
          clear NO YES hfg
          have x1 : (48 : Int) ≤ c := by omega
          have x3 : ¬ c ≤ 57 := by omega
          have x2 : (97 : Int) ≤ c := by omega
          have x4 : ¬ c ≤ 122 := by omega
          go_wp2_with fail
          go_quiet (fail)
          go_wp2_with fail
          go_roundg (s.size - (k + 1))
          case measure => omega
          case rel => exact ⟨k + 1, _, by omega, rfl, by go_num, hid (hN.out _ rfl).1, (hN.out _ rfl).2, (show Below _ _ _ from bdnT HB.out _)⟩
      · have hall : s.data.toList.take k = s.data.toList := List.take_of_length_le (by simp; omega)
        have hE : out = X := by
          apply ba_same
          rw [HI.out, HW.out, hall]
        clear hall
        go_wp2_with fail
        go_ret
        exact ⟨ret_str hE, HB.out⟩

theorem dig_u8 (n : Nat) (h : n < 10) : (UInt8.ofNat (48 + n)).toNat = 48 + n := by
  simp; omega
theorem dec_more (n : Nat) : Lib.decDigits n = (if n < 10 then [] else Lib.decDigits (n / 10)) ++ [UInt8.ofNat (48 + n % 10)] := by
  rw [Lib.decDigits]
  split
  · rename_i h; rw [Nat.mod_eq_of_lt h]; rfl
  · rfl
theorem dig_cell (c : Int) (d : UInt8) (hc : c = (d.toNat : Int)) (wx : World) (j : Nat) (hj : j < [d].length) : (wx.alloc (.cells #[.int .u8 c] 5)).cell? ((⟨wx.heap.size, 0, none⟩ : Addr).add j) = some (.int .u8 (([d][j].toNat : Nat) : Int)) := by
  obtain rfl : j = 0 := by simp at hj; omega
  subst hc
  exact (Blk.new wx #[.int .u8 (d.toNat : Int)] 5).at (i := 0) rfl
set_option maxHeartbeats 2000000 in
set_option maxRecDepth 100000 in
theorem refDigits_any (n : Nat) (hn : n < 18446744073709551616) (w : World) :
    Calls Tryz.prog 14 #[.int .u64 n] w fun e w' => e = .returned (.string (dB n)) ∧ Below w.heap.size w w' := by
  obtain ⟨X, hX⟩ : ∃ X, X = dB n := ⟨_, rfl⟩
  rw [← hX]
  have HX := hid hX; clear hX
  obtain ⟨d, hd⟩ : ∃ d, d = UInt8.ofNat (48 + n % 10) := ⟨_, rfl⟩
  have hdc : 48 + (n : Int) % 10 = (d.toNat : Int) := by rw [hd, dig_u8 _ (by omega)]; omega
  have HD := hid (show Lib.decDigits n = (if n < 10 then [] else Lib.decDigits (n / 10)) ++ [d] by rw [hd]; exact dec_more n)
  have HLN := hid (dec_len n hn)
  have HDC := hid hdc
  clear hd hdc
  go_enter Tryz.func14, Tryz.ntmps14
  go_wp2_with (with_reducible refine at_op (.convert 64 9 (.tmp 8)) rfl ?_; refine Stopped.go ?_)
  refine Stopped.mk (wpList_string rfl _ _ 5 _ rfl ⟨w.heap.size, 0, none⟩ 1 1 [d] rfl rfl Tryz.underlying64 Tryz.underlying5 Tryz.underlying9 (dig_cell _ d HDC.out w) ?_)
  have HB := hid (below_alloc w (.cells #[.int .u8 (48 + (n : Int) % 10)] 5))
  generalize w.alloc (.cells #[.int .u8 (48 + (n : Int) % 10)] 5) = w1 at HB ⊢
  go_wp2_with fail
  go_loopg [0, 3] (n + 1) (fun gg v0 v3 wx => ∃ (m : Nat) (s : ByteArray), m + 1 = gg ∧ m ≤ n ∧ v0 = .int .u64 m ∧ v3 = .string s ∧ Hid (Lib.decDigits n = (if m < 10 then [] else Lib.decDigits (m / 10)) ++ s.data.toList) ∧ Hid (Below w.heap.size w wx))
  case atStart => exact ⟨n, _, rfl, Nat.le_refl _, rfl, rfl, HD, HB⟩
  case round =>
    obtain ⟨m, s, hg, hm, rfl, rfl, HI, HW⟩ := hrel
    by_cases hlt : m < 10
    · go_wp2_with fail
      go_ret
      refine ⟨ret_str ?_, HW.out⟩
      apply ba_same
      have := HI.out
      rw [if_pos hlt, List.nil_append] at this
      rw [HX.out, ← this]; rfl
    · have hsz : s.size ≤ 1000 := by
        have h1 := congrArg List.length HI.out
        have h2 := HLN.out
        rw [List.length_append] at h1
        have h3 : s.data.toList.length = s.size := by simp
        omega
      obtain ⟨x, hx⟩ : ∃ d, d = UInt8.ofNat (48 + m / 10 % 10) := ⟨_, rfl⟩
      have hxc : 48 + (m : Int) / 10 % 10 = (x.toNat : Int) := by rw [hx, dig_u8 _ (by omega)]; omega
      have HD2 := hid (show Lib.decDigits (m / 10) = (if m / 10 < 10 then [] else Lib.decDigits (m / 10 / 10)) ++ [x] by rw [hx]; exact dec_more (m / 10))
      clear hx
      have HM2 := hid (show ((m : Int) / 10) = ((m / 10 : Nat) : Int) by omega)
      have HXC := hid hxc
      clear hxc
      go_wp2_with (with_reducible refine at_op (.convert 64 9 (.tmp 18)) rfl ?_; refine Stopped.go ?_)
      refine Stopped.mk (wpList_string rfl _ _ 5 _ rfl ⟨wr.heap.size, 0, none⟩ 1 1 [x] rfl rfl Tryz.underlying64 Tryz.underlying5 Tryz.underlying9 (dig_cell _ x HXC.out wr) ?_)
      have HB2 := hid (bt HW.out (below_alloc wr (.cells #[.int .u8 (48 + (m : Int) / 10 % 10)] 5)))
      generalize wr.alloc (.cells #[.int .u8 (48 + (m : Int) / 10 % 10)] 5) = w2 at HB2 ⊢
      clear HXC HW
      obtain ⟨one, hone⟩ : ∃ o : ByteArray, o = ⟨[x].toArray⟩ := ⟨_, rfl⟩
      have h1 : one.size = 1 := by rw [hone]; rfl
      have HI2 := hid (show Lib.decDigits n = (if m / 10 < 10 then [] else Lib.decDigits (m / 10 / 10)) ++ (one ++ s).data.toList by
        rw [HI.out, if_neg hlt, HD2.out, ByteArray.data_append, Array.toList_append, hone, List.append_assoc])
      rw [← hone]
      clear hone HI HD2
      have q1 : ¬ (9223372036854775807 < one.size + s.size) := by omega
      go_wp2_with fail
      go_roundg (m / 10 + 1)
      case measure => omega
      case rel => exact ⟨m / 10, one ++ s, rfl, by omega, by first | rfl | rw [HM2.out], rfl, HI2, HB2⟩
end Go.Proofs.YthhmdmfbaooldaaGreatDoor
