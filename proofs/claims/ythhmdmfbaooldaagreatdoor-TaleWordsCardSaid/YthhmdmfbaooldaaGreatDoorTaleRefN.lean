/-
  grangerref28.Number, walked.
-/
import Derived.Test.YthhmdmfbaooldaaGreatDoorTaleRef
import Derived.Test.YthhmdmfbaooldaaGreatDoorTaleLaw
namespace Go.Proofs.YthhmdmfbaooldaaGreatDoor
open Go.RowKit

def dval (l : List UInt8) : Nat := l.foldl (fun a c => a * 10 + (c.toNat - 48)) 0
theorem dval_snoc (l : List UInt8) (c : UInt8) : dval (l ++ [c]) = dval l * 10 + (c.toNat - 48) := by unfold dval; rw [List.foldl_append]; rfl
theorem dval_le : ∀ (b : List UInt8) (x : Nat), x ≤ b.foldl (fun a c => a * 10 + (c.toNat - 48)) x
  | [], x => Nat.le_refl _
  | c :: b, x => Nat.le_trans (by omega) (dval_le b (x * 10 + (c.toNat - 48)))
theorem dval_mono (a b : List UInt8) : dval a ≤ dval (a ++ b) := by unfold dval; rw [List.foldl_append]; exact dval_le b _
theorem dval_dec (u : Nat) : dval (Lib.decDigits u) = u := by
  induction u using Nat.strongRecOn with
  | _ u ih =>
    rw [Lib.decDigits]
    split
    · rename_i h
      show 0 * 10 + ((UInt8.ofNat (48 + u)).toNat - 48) = u
      rw [dig_u8 u h]; omega
    · rw [dval_snoc, ih (u / 10) (by omega), dig_u8 _ (Nat.mod_lt _ (by decide))]; omega
theorem dec_zero_head : ∀ (u : Nat) (r : List UInt8), Lib.decDigits u = 48 :: r → u = 0 := by
  intro u
  induction u using Nat.strongRecOn with
  | _ u ih =>
    intro r h
    have hv := dval_dec u
    rw [Lib.decDigits] at h
    split at h
    · rename_i hu
      injection h with h1 h2
      have := congrArg UInt8.toNat h1
      rw [dig_u8 u hu] at this
      have e : (48 : UInt8).toNat = 48 := rfl
      omega
    · cases h2 : Lib.decDigits (u / 10) with
      | nil => exact absurd h2 (dec_ne _)
      | cons a t =>
        rw [h2, List.cons_append] at h
        injection h with h3 h4
        have := ih (u / 10) (by omega) t (by rw [h2, h3])
        omega
theorem dec_dval (n : Nat) : ∀ (l : List UInt8), l.length = n → l ≠ [] → (∀ c ∈ l, 48 ≤ c.toNat ∧ c.toNat ≤ 57) → (1 < l.length → l.head? ≠ some 48) → Lib.decDigits (dval l) = l := by
  induction n with
  | zero => intro l h h0; exact absurd (List.eq_nil_of_length_eq_zero h) h0
  | succ n ih =>
    intro l hl hne hd hz
    obtain ⟨m, c, rfl⟩ : ∃ m c, l = m ++ [c] := ⟨l.dropLast, l.getLast hne, (List.dropLast_concat_getLast hne).symm⟩
    have hc := hd c (by simp)
    rw [dval_snoc]
    by_cases hm : m = []
    · subst hm
      have e : dval ([] : List UInt8) = 0 := rfl
      rw [e, Nat.zero_mul, Nat.zero_add, Lib.decDigits_one (by omega)]
      have : UInt8.ofNat (48 + (c.toNat - 48)) = c := by
        rw [show 48 + (c.toNat - 48) = c.toNat by omega]; exact UInt8.ofNat_toNat
      rw [this]; rfl
    · have hlm : m.length = n := by simp at hl; omega
      have hpos : 0 < m.length := by cases m with | nil => exact absurd rfl hm | cons _ _ => simp
      have hhead : m.head? ≠ some 48 := by
        have := hz (by rw [List.length_append]; simp; omega)
        cases m with
        | nil => exact absurd rfl hm
        | cons a t => simpa using this
      have im := ih m hlm hm (fun x hx => hd x (by simp [hx])) (fun _ => hhead)
      have h1 : 1 ≤ dval m := by
        rcases Nat.eq_zero_or_pos (dval m) with h0 | h0
        · exfalso
          rw [h0, Lib.decDigits_one (by decide)] at im
          apply hhead
          rw [← im]; rfl
        · exact h0
      rw [Lib.decDigits, dif_neg (by omega), show (dval m * 10 + (c.toNat - 48)) / 10 = dval m by omega, show (dval m * 10 + (c.toNat - 48)) % 10 = c.toNat - 48 by omega, im]
      have : UInt8.ofNat (48 + (c.toNat - 48)) = c := by
        rw [show 48 + (c.toNat - 48) = c.toNat by omega]; exact UInt8.ofNat_toNat
      rw [this]
theorem num_none {l : List UInt8} (h : ∀ u, u < 18446744073709551616 → l ≠ Lib.decDigits u) : numT l = none := by
  cases hn : numT l with
  | none => rfl
  | some u => exact absurd (numT_some hn).1 (h u (numT_some hn).2)
theorem num_yes {l : List UInt8} (hne : l ≠ []) (hd : ∀ c ∈ l, 48 ≤ c.toNat ∧ c.toNat ≤ 57) (hz : 1 < l.length → l.head? ≠ some 48) (hv : dval l < 18446744073709551616) : numT l = some (dval l) := by
  have := numT_dec (dval l) hv
  rwa [dec_dval _ l rfl hne hd hz] at this
theorem num_nil {l : List UInt8} (h : l = []) : numT l = none := num_none fun u _ e => dec_ne u (by rw [← e, h])
theorem num_long {l : List UInt8} (h : 20 < l.length) : numT l = none := num_none fun u hu e => by
  have := dec_len u hu
  rw [← e] at this; omega
theorem num_zero {l : List UInt8} (h1 : 1 < l.length) (h : l.getD 0 0 = 48) : numT l = none := num_none fun u hu e => by
  cases l with
  | nil => simp at h1
  | cons a t =>
    have ha : a = 48 := h
    have h0 := dec_zero_head u t (by rw [← e, ha])
    subst h0
    have hz : Lib.decDigits 0 = [48] := Lib.decDigits_one (by decide)
    rw [hz] at e
    injection e with _ e2
    rw [e2] at h1; simp at h1
theorem num_other {l : List UInt8} {k : Nat} (hk : k < l.length) (h : (l.getD k 0).toNat < 48 ∨ 57 < (l.getD k 0).toNat) : numT l = none := num_none fun u hu e => by
  have hm : l.getD k 0 ∈ Lib.decDigits u := by
    rw [← e, List.getD_eq_getElem?_getD, List.getElem?_eq_getElem hk]; exact List.getElem_mem hk
  have hp := dec_print u _ hm
  have e1 : (48 : UInt8).toNat = 48 := rfl
  have e2 : (57 : UInt8).toNat = 57 := rfl
  rw [UInt8.le_iff_toNat_le, UInt8.le_iff_toNat_le, e1, e2] at hp
  omega
theorem num_big {l : List UInt8} {k : Nat} (h : 18446744073709551616 ≤ dval (l.take k)) : numT l = none := num_none fun u hu e => by
  have h1 := dval_mono (l.take k) (l.drop k)
  rw [List.take_append_drop, e, dval_dec] at h1
  rw [e] at h
  omega
theorem dval_take {l : List UInt8} {k : Nat} (h : k < l.length) : dval (l.take (k + 1)) = dval (l.take k) * 10 + ((l.getD k 0).toNat - 48) := by
  rw [List.take_succ_eq_append_getElem h, dval_snoc, List.getD_eq_getElem?_getD, List.getElem?_eq_getElem h]; rfl
def numB (l : List UInt8) : Bool := (numT l).isSome
theorem numB_none {l : List UInt8} (h : numT l = none) : numA l = 0 ∧ numB l = false := by unfold numA numB; rw [h]; exact ⟨rfl, rfl⟩
theorem numB_some {l : List UInt8} {u : Nat} (h : numT l = some u) : numA l = u ∧ numB l = true := by unfold numA numB; rw [h]; exact ⟨rfl, rfl⟩

set_option maxHeartbeats 2000000 in
set_option maxRecDepth 100000 in
theorem refNumber_any (s : ByteArray) (hs : s.size ≤ 100000) (w : World) :
    Calls Tryz.prog 13 #[.string s] w fun e w' => e = .returned (.tuple #[.int .u64 (numA s.data.toList), .bool (numB s.data.toList)]) ∧ w = w' := by
  have hl : s.data.toList.length = s.size := by simp
  have HL := hid hl; clear hl
  by_cases z0 : s.size = 0
  · have HN := hid (numB_none (num_nil (List.eq_nil_of_length_eq_zero (HL.out.trans z0))))
    have hq : ((s.size : Int) == 0) = true := by rw [z0]; rfl
    clear z0
    go_enter Tryz.func13, Tryz.ntmps13
    go_wp2_with fail
    go_ret2
    rw [HN.out.1, HN.out.2]
    exact ⟨rfl, rfl⟩
  have hq0 : ((s.size : Int) == 0) = false := by rw [beq_eq_false_iff_ne]; omega
  by_cases z1 : 20 < s.size
  · have HN := hid (numB_none (num_long (by rw [HL.out]; exact z1)))
    have hq : (20 : Int) < (s.size : Int) := by omega
    clear z1 z0
    go_enter Tryz.func13, Tryz.ntmps13
    go_wp2_with fail
    go_ret2
    rw [HN.out.1, HN.out.2]
    exact ⟨rfl, rfl⟩
  have hq1 : ¬ (20 : Int) < (s.size : Int) := by omega
  have hlt0 : 0 < s.size := by omega
  have hc0 : s[0]'hlt0 = s.data.toList.getD 0 0 := (data_getD s 0 hlt0).symm
  by_cases z2 : 1 < s.size ∧ s.data.toList.getD 0 0 = 48
  · have HN := hid (numB_none (num_zero (by rw [HL.out]; exact z2.1) z2.2))
    have hq2 : (1 : Int) < (s.size : Int) := by omega
    have hq3 : (((s[0]'hlt0).toNat : Int) == 48) = true := by rw [hc0, z2.2]; rfl
    clear z2 hc0 z0 z1
    go_enter Tryz.func13, Tryz.ntmps13
    go_wp2_with fail
    go_ret2
    rw [HN.out.1, HN.out.2]
    exact ⟨rfl, rfl⟩
  have hz : 1 < s.data.toList.length → s.data.toList.head? ≠ some 48 := by
    intro h e
    apply z2
    refine ⟨by rw [← HL.out]; exact h, ?_⟩
    rw [List.getD_eq_getElem?_getD, ← List.head?_eq_getElem?, e]; rfl
  have hne : s.data.toList ≠ [] := fun e => by
    have := HL.out
    rw [e] at this; exact z0 this.symm
  have HZ := hid (And.intro hne hz)
  clear hz hne
  have main : ∀ (f1 : Bool), (decide ((1 : Int) < (s.size : Int))) = f1 → (f1 = true → (((s[0]'hlt0).toNat : Int) == 48) = false) →
      Calls Tryz.prog 13 #[.string s] w fun e w' => e = .returned (.tuple #[.int .u64 (numA s.data.toList), .bool (numB s.data.toList)]) ∧ w = w' := by
    intro f1 hf1 hf2
    cases f1
    all_goals
      first
        | (have hq2 : (1 : Int) < (s.size : Int) := of_decide_eq_true hf1
           have hq3 := hf2 rfl
           clear hf1 hf2)
        | (have hq2 : ¬ (1 : Int) < (s.size : Int) := of_decide_eq_false hf1
           clear hf1 hf2)
      clear z0 z1 z2 hc0
      go_enter Tryz.func13, Tryz.ntmps13
      go_wp2_with fail
      go_loopg [4, 5] s.size (fun gg v i wx => ∃ (k n : Nat), k + gg = s.size ∧ v = .int .u64 n ∧ i = .int .i64 k ∧ n < 18446744073709551616 ∧ Hid (n = dval (s.data.toList.take k) ∧ ∀ c ∈ s.data.toList.take k, 48 ≤ c.toNat ∧ c.toNat ≤ 57) ∧ w = wx)
      case atStart => exact ⟨0, 0, by omega, rfl, rfl, by decide, hid ⟨rfl, by simp⟩, rfl⟩
      case round =>
        obtain ⟨k, n, hk, rfl, rfl, hn, HI, rfl⟩ := hrel
        by_cases hlt : k < s.size
        · have hkl : k < s.data.toList.length := by rw [HL.out]; exact hlt
          obtain ⟨b, hb⟩ : ∃ b, b = s.data.toList.getD k 0 := ⟨_, rfl⟩
          have hbb : s[k]'hlt = b := by rw [hb, data_getD s k hlt]
          have hdt := dval_take hkl
          rw [← hb] at hdt
          have h256 := b.toNat_lt
          obtain ⟨c, hc⟩ : ∃ c : Int, c = (b.toNat : Int) := ⟨_, rfl⟩
          have hcc : ((s[k]'hlt).toNat : Int) = c := by rw [hbb, hc]
          by_cases y1 : c < 48
          · have HN := hid (numB_none (num_other hkl (by rw [← hb]; omega)))
            clear hdt hbb hb hc hkl
            go_wp2_with fail
            go_ret2
            rw [HN.out.1, HN.out.2]
            exact ⟨rfl, rfl⟩
          · by_cases y2 : 57 < c
            · have HN := hid (numB_none (num_other hkl (by rw [← hb]; omega)))
              clear hdt hbb hb hc hkl
              go_wp2_with fail
              go_ret2
              rw [HN.out.1, HN.out.2]
              exact ⟨rfl, rfl⟩
            · obtain ⟨d, hd⟩ : ∃ d : Nat, d = b.toNat - 48 := ⟨_, rfl⟩
              rw [← hd] at hdt
              have hcd : c - 48 = (d : Int) := by omega
              have hd9 : d ≤ 9 := by omega
              have HD := hid (show ∀ x ∈ s.data.toList.take (k + 1), 48 ≤ x.toNat ∧ x.toNat ≤ 57 by
                intro x hx
                rw [List.take_succ_eq_append_getElem hkl] at hx
                rcases List.mem_append.1 hx with h | h
                · exact HI.out.2 x h
                · rw [List.mem_singleton.1 h]
                  have : s.data.toList[k] = b := by rw [hb, List.getD_eq_getElem?_getD, List.getElem?_eq_getElem hkl]; rfl
                  rw [this]; omega)
              have HDT := hid hdt
              have y1' : ¬ c < 48 := y1
              clear hdt hbb hb hc
              by_cases y3 : (18446744073709551615 - d) / 10 < n
              · have HN := hid (numB_none (num_big (k := k + 1) (show 18446744073709551616 ≤ dval (s.data.toList.take (k + 1)) by rw [HDT.out, ← HI.out.1]; omega)))
                have y3' : (18446744073709551615 - (d : Int)) / 10 < (n : Int) := by omega
                clear y3 hkl
                go_wp2_with fail
                go_ret2
                rw [HN.out.1, HN.out.2]
                exact ⟨rfl, rfl⟩
              · have y3' : ¬ (18446744073709551615 - (d : Int)) / 10 < (n : Int) := by omega
                have hn2 : n * 10 + d < 18446744073709551616 := by omega
                have HN2 := hid (show n * 10 + d = dval (s.data.toList.take (k + 1)) by rw [HDT.out, ← HI.out.1])
                clear y3 hkl
                go_wp2_with fail
                go_roundg (s.size - (k + 1))
                case measure => omega
                case rel => exact ⟨k + 1, n * 10 + d, by omega, by rw [hd]; simp, by go_num, hn2, hid ⟨HN2.out, HD.out⟩, rfl⟩
        · have hall : s.data.toList.take k = s.data.toList := List.take_of_length_le (by rw [HL.out]; omega)
          have HN := hid (numB_some (num_yes HZ.out.1 (by have := HI.out.2; rwa [hall] at this) HZ.out.2 (by have := HI.out.1; rw [hall] at this; omega)))
          have hnv : n = dval s.data.toList := by have := HI.out.1; rwa [hall] at this
          have HNV := hid hnv
          clear hall hnv
          go_wp2_with fail
          go_ret2
          rw [HN.out.1, HN.out.2, HNV.out]
          exact ⟨rfl, rfl⟩
  by_cases h : (1 : Int) < (s.size : Int)
  · refine main true (decide_eq_true h) (fun _ => ?_)
    rw [hc0, beq_eq_false_iff_ne]
    intro e
    apply z2
    refine ⟨by omega, ?_⟩
    have e2 : (s.data.toList.getD 0 0).toNat = 48 := by omega
    have := congrArg UInt8.ofNat e2
    rwa [UInt8.ofNat_toNat] at this
  · exact main false (decide_eq_false h) (fun e => by cases e)
end Go.Proofs.YthhmdmfbaooldaaGreatDoor
