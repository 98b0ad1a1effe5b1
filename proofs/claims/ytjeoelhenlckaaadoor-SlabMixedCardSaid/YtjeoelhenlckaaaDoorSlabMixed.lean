/-
  SlabMixed: walked.
-/
import Derived.Test.YtjeoelhenlckaaaDoorSlabStamped
namespace Go.Proofs.YtjeoelhenlckaaaDoor
open Go.RowKit

theorem sec_split (b : List UInt8) (i : Nat) : (b.drop (64 * i)).take 64 = markOf b i ++ partOf b i := by
  unfold markOf partOf
  rw [show (64 : Nat) = 8 + 56 from rfl, List.take_add, List.drop_drop]
/-- sectors of two blocks, mixed -/
def mixN (kp : Nat → Bool) (A B : List UInt8) : Nat → List UInt8
  | 0 => []
  | k + 1 => mixN kp A B k ++ ((if kp k then B else A).drop (64 * k)).take 64
def cntN (kp : Nat → Bool) : Nat → Nat
  | 0 => 0
  | k + 1 => cntN kp k + (if kp k then 1 else 0)
theorem cntN_le (kp : Nat → Bool) : ∀ k, cntN kp k ≤ k
  | 0 => Nat.le_refl _
  | k + 1 => by
    have := cntN_le kp k
    simp only [cntN]
    split <;> omega
theorem mixN_cat (kp : Nat → Bool) (A B : List UInt8) : mixN kp A B 4 = cat4 (fun i => markOf (if kp i then B else A) i) (fun i => partOf (if kp i then B else A) i) := by
  simp only [mixN, cat4, sec_split, List.nil_append, List.append_assoc]
theorem self_cat {e q : Nat} {f : List UInt8} (hf : f.length = 224) : cat4 (fun i => markOf (stampB e q f) i) (fun i => partOf (stampB e q f) i) = stampB e q f := by
  have h := fun i hi => stampB_marks e q f hf i hi
  unfold cat4
  simp only []
  rw [(h 0 (by decide)).1, (h 1 (by decide)).1, (h 2 (by decide)).1, (h 3 (by decide)).1, (h 0 (by decide)).2, (h 1 (by decide)).2, (h 2 (by decide)).2, (h 3 (by decide)).2, stampB_cat]
  rfl
/-- what is read of it -/
theorem mixed_read {e1 q1 e2 q2 : Nat} {f g : List UInt8} (hf : f.length = 224) (hg : g.length = 224) (hq1 : q1 < 4294967296) (hq2 : q2 < 4294967296) (hne : q1 ≠ q2) (kp : Nat → Bool) :
    (cntN kp 4 = 0 ∧ mixN kp (stampB e1 q1 f) (stampB e2 q2 g) 4 = stampB e1 q1 f) ∨ (cntN kp 4 = 4 ∧ mixN kp (stampB e1 q1 f) (stampB e2 q2 g) 4 = stampB e2 q2 g) ∨
      (cntN kp 4 ≠ 0 ∧ cntN kp 4 ≠ 4 ∧ readR (mixN kp (stampB e1 q1 f) (stampB e2 q2 g) 4) = .error 5) := by
  rw [mixN_cat]
  have hm : ∀ i, i < 4 → markOf (if kp i then stampB e2 q2 g else stampB e1 q1 f) i = if kp i then markB e2 q2 else markB e1 q1 := by
    intro i hi
    split
    · exact (stampB_marks e2 q2 g hg i hi).1
    · exact (stampB_marks e1 q1 f hf i hi).1
  have hml : ∀ i, i < 4 → (markOf (if kp i then stampB e2 q2 g else stampB e1 q1 f) i).length = 8 := by
    intro i hi
    rw [hm i hi]
    split <;> exact markB_length _ _
  have hpl : ∀ i, i < 4 → (partOf (if kp i then stampB e2 q2 g else stampB e1 q1 f) i).length = 56 := by
    intro i hi
    split
    · rw [(stampB_marks e2 q2 g hg i hi).2]; exact part_length g hg i hi
    · rw [(stampB_marks e1 q1 f hf i hi).2]; exact part_length f hf i hi
  have hmix : ∀ i j, i < 4 → j < 4 → kp i = true → kp j = false → readR (cat4 (fun i => markOf (if kp i then stampB e2 q2 g else stampB e1 q1 f) i) (fun i => partOf (if kp i then stampB e2 q2 g else stampB e1 q1 f) i)) = .error 5 := by
    intro i j hi hj h1 h2
    refine readR_mixed _ _ hml hpl i j hi hj ?_
    rw [hm i hi, hm j hj, h1, h2]
    intro h
    simp only [if_true, Bool.false_eq_true, if_false] at h
    exact hne (markB_inj hq1 hq2 h.symm)
  have hc : cntN kp 4 = (if kp 0 then 1 else 0) + (if kp 1 then 1 else 0) + (if kp 2 then 1 else 0) + (if kp 3 then 1 else 0) := by
    simp [cntN]
  rw [hc]
  cases h0 : kp 0 <;> cases h1 : kp 1 <;> cases h2 : kp 2 <;> cases h3 : kp 3
  case false.false.false.false =>
    left
    refine ⟨rfl, ?_⟩
    unfold cat4
    simp only [h0, h1, h2, h3, Bool.false_eq_true, if_false]
    exact self_cat hf
  case true.true.true.true =>
    right; left
    refine ⟨rfl, ?_⟩
    unfold cat4
    simp only [h0, h1, h2, h3, if_true]
    exact self_cat hg
  all_goals
    right; right
    refine ⟨by decide, by decide, ?_⟩
    first
      | exact hmix 0 1 (by decide) (by decide) h0 h1
      | exact hmix 0 2 (by decide) (by decide) h0 h2
      | exact hmix 0 3 (by decide) (by decide) h0 h3
      | exact hmix 1 0 (by decide) (by decide) h1 h0
      | exact hmix 2 0 (by decide) (by decide) h2 h0
      | exact hmix 3 0 (by decide) (by decide) h3 h0
      | exact hmix 1 2 (by decide) (by decide) h1 h2
      | exact hmix 1 3 (by decide) (by decide) h1 h3
      | exact hmix 2 1 (by decide) (by decide) h2 h1
      | exact hmix 2 3 (by decide) (by decide) h2 h3
      | exact hmix 3 1 (by decide) (by decide) h3 h1
      | exact hmix 3 2 (by decide) (by decide) h3 h2

set_option maxHeartbeats 16000000 in
set_option maxRecDepth 100000 in
theorem slabMixed_walk (s t : ByteArray) (n m : Int) (b0 b1 b2 b3 : Bool) (w : World) :
    Calls Tryd.prog 6 #[.string s, .string t, .int .i64 n, .int .i64 m, .agg #[.bool b0, .bool b1, .bool b2, .bool b3]] w fun e w' => e = .returned (.bool true) ∧ Below w.heap.size w w' := by
  by_cases hs : 218 < s.size
  · have hs' : (218 : Int) < (s.size : Int) := by omega
    go_enter Tryd.func6, Tryd.ntmps6
    go_wp2_with fail
    refine (awake04_any _).mono ?_; rintro ee w1 ⟨rfl, hb1⟩
    have H1 := hid (bt (below_alloc _ _) hb1); clear hb1
    go_wp2_with fail
    go_ret
    exact ⟨rfl, H1.out⟩
  have hs' : ¬ (218 : Int) < (s.size : Int) := by omega
  by_cases htt : 218 < t.size
  · have ht' : (218 : Int) < (t.size : Int) := by omega
    go_enter Tryd.func6, Tryd.ntmps6
    go_wp2_with fail
    refine (awake04_any _).mono ?_; rintro ee w1 ⟨rfl, hb1⟩
    have H1 := hid (bt (below_alloc _ _) hb1); clear hb1
    go_wp2_with fail
    go_ret
    exact ⟨rfl, H1.out⟩
  have ht' : ¬ (218 : Int) < (t.size : Int) := by omega
  obtain ⟨i0, hi, hil⟩ := umod n 1000 (by decide)
  obtain ⟨k, hk, hkl⟩ := umod m 1000 (by decide)
  obtain ⟨I, hI⟩ : ∃ I, I = 1 + i0 := ⟨_, rfl⟩
  obtain ⟨K1, hK1⟩ : ∃ I, I = k + 1 := ⟨_, rfl⟩
  obtain ⟨k2, hk2⟩ : ∃ I, I = k % 2 := ⟨_, rfl⟩
  obtain ⟨I2, hI2⟩ : ∃ J, J = I + k2 := ⟨_, rfl⟩
  have e1 : IntKind.i64.wrap (i0 : Int) = (i0 : Int) := by rw [IntKind.wrap_i64]; omega
  have e2 : IntKind.i64.wrap (1 + (i0 : Int)) = (I : Int) := by rw [IntKind.wrap_i64]; omega
  have e3 : IntKind.i64.wrap (k : Int) = (k : Int) := by rw [IntKind.wrap_i64]; omega
  have e4 : IntKind.i64.wrap ((k : Int) + 1) = (K1 : Int) := by rw [IntKind.wrap_i64]; omega
  have e5 : (k : Int).tmod 2 = (k2 : Int) := by rw [Int.tmod_eq_emod_of_nonneg (by omega)]; omega
  have e6 : IntKind.i64.wrap ((I : Int) + (k2 : Int)) = (I2 : Int) := by rw [IntKind.wrap_i64]; omega
  have e7 : IntKind.i64.wrap (k2 : Int) = (k2 : Int) := by rw [IntKind.wrap_i64]; omega
  have hsl : s.data.toList.length = s.size := by simp
  have htl : t.data.toList.length = t.size := by simp
  obtain ⟨a1, a2, a3⟩ := readV_stamp (e := (I : Int)) (q := (k : Int)) (show s.size ≤ 218 by omega) (by omega) (by omega) (by omega) (by omega)
  obtain ⟨b1', b2', b3'⟩ := readV_stamp (e := (I2 : Int)) (q := (K1 : Int)) (show t.size ≤ 218 by omega) (by omega) (by omega) (by omega) (by omega)
  have C1 := hid (fun w' => slab_Stamp (I : Int) (k : Int) s w')
  have C2 := hid (fun w' => slab_Stamp (I2 : Int) (K1 : Int) t w')
  obtain ⟨a, ha⟩ : ∃ a, a = (stampV (I : Int) (k : Int) s).1 := ⟨_, rfl⟩
  obtain ⟨b, hb⟩ : ∃ a, a = (stampV (I2 : Int) (K1 : Int) t).1 := ⟨_, rfl⟩
  rw [show stampV (I : Int) (k : Int) s = (a, 0) by rw [ha, a1]] at C1
  rw [show stampV (I2 : Int) (K1 : Int) t = (b, 0) by rw [hb, b1']] at C2
  rw [← ha] at a2 a3
  rw [← hb] at b2' b3'
  obtain ⟨kp, hkp⟩ : ∃ kp : Nat → Bool, kp = fun j => [b0, b1, b2, b3].getD j false := ⟨_, rfl⟩
  have hal : a.data.toList = stampB I k (frameB 224 s.data.toList) := by rw [ha, a1]; simp
  have hbl : b.data.toList = stampB I2 K1 (frameB 224 t.data.toList) := by rw [hb, b1']; simp
  have hR := mixed_read (e1 := I) (q1 := k) (e2 := I2) (q2 := K1) (f := frameB 224 s.data.toList) (g := frameB 224 t.data.toList) (frameB_length (by omega)) (frameB_length (by omega)) (by omega) (by omega) (by omega) kp
  rw [← hal, ← hbl] at hR
  have HA3 := hid a3; have HB3 := hid b3'; have HRR := hid hR
  have HK : Hid (∀ j, j < 4 → [Value.bool b0, .bool b1, .bool b2, .bool b3][j]? = some (.bool (kp j))) := by
    intro j hj
    have : j = 0 ∨ j = 1 ∨ j = 2 ∨ j = 3 := by omega
    rcases this with rfl | rfl | rfl | rfl <;> rw [hkp] <;> rfl
  have BK := hid (Blk.new w #[.bool b0, .bool b1, .bool b2, .bool b3] 42)
  have HA0 := hid (below_alloc w (.cells #[.bool b0, .bool b1, .bool b2, .bool b3] 42))
  have hss := beq_self s; have htt2 := beq_self t
  clear a1 a3 b1' b3' ha hb hkp hal hbl hR hI hK1 hk2 hI2
  go_enter Tryd.func6, Tryd.ntmps6
  go_wp2_with fail
  refine (awake04_any _).mono ?_; rintro ee w1 ⟨rfl, hb1⟩
  have H1 := hid (And.intro (bt HA0.out hb1) (BK.out.belowS hb1)); clear hb1 HA0 BK
  go_wp2_with fail
  refine (C1.out w1).mono ?_; rintro ee w2 ⟨rfl, hb1⟩
  have H2 := hid (And.intro (bt H1.out.1 hb1) (H1.out.2.belowS hb1)); clear hb1 H1 C1
  go_wp2_with fail
  refine (C2.out w2).mono ?_; rintro ee w3 ⟨rfl, hb1⟩
  have H3 := hid (And.intro (bt H2.out.1 hb1) (H2.out.2.belowS hb1)); clear hb1 H2 C2
  go_wp2_with fail
  go_loopg [17, 18, 19] 4 (fun g x y z wx => ∃ (j : Nat) (o : ByteArray) (c : Nat), j + g = 4 ∧ z = .int .i64 j ∧ x = .string o ∧ y = .int .i64 c ∧ o.size = 64 * j ∧ c ≤ j ∧ wx = w3 ∧ Hid (o.data.toList = mixN kp a.data.toList b.data.toList j ∧ c = cntN kp j))
  case atStart => exact ⟨0, ⟨#[]⟩, 0, rfl, rfl, rfl, rfl, rfl, Nat.le_refl _, rfl, rfl, rfl⟩
  case round =>
    obtain ⟨j, o, c, hj, rfl, rfl, rfl, hos, hcj, rfl, HS⟩ := hrel
    by_cases hlt : j < 4
    · have hlt' : (j : Int) < 4 := by omega
      obtain ⟨p, hp⟩ : ∃ a, a = 64 * j := ⟨_, rfl⟩
      obtain ⟨q, hq⟩ : ∃ b, b = p + 64 := ⟨_, rfl⟩
      have f1 : IntKind.i64.wrap (64 * (j : Int)) = (p : Int) := by rw [IntKind.wrap_i64]; omega
      have f2 : IntKind.i64.wrap ((p : Int) + 64) = (q : Int) := by rw [IntKind.wrap_i64]; omega
      have g1 : (q : Int) ≤ (a.size : Int) := by omega
      have g2 : (q : Int) ≤ (b.size : Int) := by omega
      have g3 : (p : Int) ≤ (q : Int) := by omega
      have g4 : ¬ 9223372036854775807 < o.size + (q - p) := by omega
      have hc : wr.cell? ⟨w.heap.size, j, none⟩ = some (.bool (kp j)) := by
        rw [H3.out.2.cell j]; exact HK.out j hlt
      have hx : ∀ z : ByteArray, z.size = 256 → (z.extract p q).data.toList = (z.data.toList.drop (64 * j)).take 64 ∧ (z.extract p q).size = 64 := by
        intro z hz
        refine ⟨?_, by simp; omega⟩
        rw [cut_list, hp, hq, hp, List.drop_take]; congr 1; omega
      obtain ⟨xa, za⟩ := hx a a2
      obtain ⟨xb, zb⟩ := hx b b2'
      obtain ⟨f, hf⟩ : ∃ f, f = kp j := ⟨_, rfl⟩
      rw [← hf] at hc
      have XA := hid xa; have XB := hid xb; have ZA := hid za; have ZB := hid zb; have HF := hid hf
      clear hp hq hx xa xb za zb hf
      cases f with
      | true =>
        go_wp2_with fail
        go_roundg (4 - (j + 1))
        case measure => omega
        case rel =>
          refine ⟨j + 1, o ++ b.extract p q, c + 1, by omega, by go_num, rfl, by go_num, ?_, by omega, rfl, ?_, ?_⟩
          · rw [show (o ++ b.extract p q).size = o.size + (b.extract p q).size by simp, ZB.out]; omega
          · rw [app_list, HS.out.1, XB.out]
            show _ = mixN kp _ _ j ++ ((if kp j then b.data.toList else a.data.toList).drop (64 * j)).take 64
            rw [← HF.out]; rfl
          · show c + 1 = cntN kp j + (if kp j then 1 else 0)
            rw [← HF.out, HS.out.2]; rfl
      | false =>
        go_wp2_with fail
        go_roundg (4 - (j + 1))
        case measure => omega
        case rel =>
          refine ⟨j + 1, o ++ a.extract p q, c, by omega, by go_num, rfl, rfl, ?_, by omega, rfl, ?_, ?_⟩
          · rw [show (o ++ a.extract p q).size = o.size + (a.extract p q).size by simp, ZA.out]; omega
          · rw [app_list, HS.out.1, XA.out]
            show _ = mixN kp _ _ j ++ ((if kp j then b.data.toList else a.data.toList).drop (64 * j)).take 64
            rw [← HF.out]; rfl
          · show c = cntN kp j + (if kp j then 1 else 0)
            rw [← HF.out, HS.out.2]; rfl
    · have hj4 : j = 4 := by omega
      subst hj4
      have hlt' : ¬ ((4 : Nat) : Int) < 4 := by omega
      have C3 := hid (fun w' => slab_Read o w')
      have fin : (c = 0 ∧ readV o = ((I : Int), (k : Int), s, 0)) ∨ (c = 4 ∧ readV o = ((I2 : Int), (K1 : Int), t, 0)) ∨ (c ≠ 0 ∧ c ≠ 4 ∧ readV o = (0, 0, ⟨#[]⟩, 5)) := by
        obtain ⟨h1, h2⟩ := HS.out
        rcases HRR.out with ⟨r1, r2⟩ | ⟨r1, r2⟩ | ⟨r1, r2, r3⟩
        · left; rw [h2, r1]
          rw [r2] at h1
          rw [ba_of h1, HA3.out]; exact ⟨rfl, rfl⟩
        · right; left; rw [h2, r1]
          rw [r2] at h1
          rw [ba_of h1, HB3.out]; exact ⟨rfl, rfl⟩
        · right; right; rw [h2]
          refine ⟨r1, r2, ?_⟩
          unfold readV
          rw [if_pos (by omega), h1, r3]
      rcases fin with ⟨rfl, hr⟩ | ⟨rfl, hr⟩ | ⟨n0, n4, hr⟩
      · rw [hr] at C3
        clear hr
        go_wp2_with fail
        refine (C3.out wr).mono ?_; rintro ee w4 ⟨rfl, hb1⟩
        have H4 := hid (bt H3.out.1 hb1); clear hb1 C3 H3
        go_wp2_with fail
        go_ret
        exact ⟨rfl, H4.out⟩
      · rw [hr] at C3
        clear hr
        go_wp2_with fail
        refine (C3.out wr).mono ?_; rintro ee w4 ⟨rfl, hb1⟩
        have H4 := hid (bt H3.out.1 hb1); clear hb1 C3 H3
        go_wp2_with fail
        go_ret
        exact ⟨rfl, H4.out⟩
      · rw [hr] at C3
        have z0 : ((c : Int) == 0) = false := by rw [beq_eq_false_iff_ne]; omega
        have z4 : ((c : Int) == 4) = false := by rw [beq_eq_false_iff_ne]; omega
        clear hr
        go_wp2_with fail
        refine (C3.out wr).mono ?_; rintro ee w4 ⟨rfl, hb1⟩
        have H4 := hid (bt H3.out.1 hb1); clear hb1 C3 H3
        go_wp2_with fail
        go_ret
        exact ⟨rfl, H4.out⟩
theorem slabMixed_row (s t : ByteArray) (n m : Int) (b0 b1 b2 b3 : Bool) (w : World) (_ : s.size ≤ 140737488351232) (_ : t.size ≤ 140737488351232) (_ : (Lit.int .i64 n).wf = true) (_ : (Lit.int .i64 m).wf = true) :
    Calls Tryd.prog 6 #[.string s, .string t, .int .i64 n, .int .i64 m, .agg #[.bool b0, .bool b1, .bool b2, .bool b3]] w fun e w' => e = .returned (.bool true) ∧ Below w.heap.size w w' := slabMixed_walk s t n m b0 b1 b2 b3 w
end Go.Proofs.YtjeoelhenlckaaaDoor
