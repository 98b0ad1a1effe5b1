/-
  SlabBack: walked.
-/
import Derived.Test.YtjeoelhenlckaaaDoorSlabStamped
namespace Go.Proofs.YtjeoelhenlckaaaDoor
open Go.RowKit

theorem lay_beq {s t : ByteArray} (hs : s.size ≤ 250) (ht : t.size ≤ 250) : ((layV s).1.toList == (layV t).1.toList) = (s.toList == t.toList) := by
  rw [beq_bytes, beq_bytes, Bool.eq_iff_iff, decide_eq_true_eq, decide_eq_true_eq]
  constructor
  · intro h
    have h1 := (openV_lay hs).2.2
    rw [ba_of h, (openV_lay ht).2.2] at h1
    injection h1 with h1
    rw [h1]
  · intro h
    rw [ba_of h]
theorem stamp_beq {e q : Int} {s t : ByteArray} (hs : s.size ≤ 218) (ht : t.size ≤ 218) (h1 : 1 ≤ e) (h2 : e ≤ 2147483647) (h3 : 0 ≤ q) (h4 : q ≤ 2147483647) : ((stampV e q s).1.toList == (stampV e q t).1.toList) = (s.toList == t.toList) := by
  rw [beq_bytes, beq_bytes, Bool.eq_iff_iff, decide_eq_true_eq, decide_eq_true_eq]
  constructor
  · intro h
    have g1 := (readV_stamp hs h1 h2 h3 h4).2.2
    rw [ba_of h, (readV_stamp ht h1 h2 h3 h4).2.2] at g1
    simp only [Prod.mk.injEq] at g1
    rw [g1.2.2.1]
  · intro h
    rw [ba_of h]
theorem stamp_ne {e q q' : Int} {s : ByteArray} (hs : s.size ≤ 218) (h1 : 1 ≤ e) (h2 : e ≤ 2147483647) (h3 : 0 ≤ q) (h4 : q ≤ 2147483647) (h5 : 0 ≤ q') (h6 : q' ≤ 2147483647) (hne : q' ≠ q) : ((stampV e q' s).1.toList == (stampV e q s).1.toList) = false := by
  rw [beq_bytes, decide_eq_false_iff_not]
  intro h
  have g1 := (readV_stamp hs h1 h2 h5 h6).2.2
  rw [ba_of h, (readV_stamp hs h1 h2 h3 h4).2.2] at g1
  simp only [Prod.mk.injEq] at g1
  exact hne g1.2.1.symm
theorem open_turned {s : ByteArray} (hs : s.size ≤ 218) {p : Nat} {x y : UInt8} (hx : (layV s).1.data.toList[p]? = some x) (hne : y ≠ x) : (openV ⟨((layV s).1.data.toList.set p y).toArray⟩).2 ≠ 0 := by
  have hl : s.data.toList.length = s.size := by simp
  obtain ⟨h1, h2, _⟩ := openV_lay (show s.size ≤ 250 by omega)
  rw [h1] at hx h2 ⊢
  simp only at hx h2 ⊢
  have hz : (⟨((frameB 256 s.data.toList).set p y).toArray⟩ : ByteArray).size = 256 := by
    show ((frameB 256 s.data.toList).set p y).toArray.size = 256
    rw [List.size_toArray, List.length_set, frameB_length (by omega)]
  unfold openV
  rw [if_pos hz]
  show (textV ((frameB 256 s.data.toList).set p y)).2 ≠ 0
  have ht := textR_turned (size := 256) (s := s.data.toList) (by omega) (by decide) p x y hx hne
  unfold textV
  cases h : textR ((frameB 256 s.data.toList).set p y) with
  | ok t => exact absurd h (ht t)
  | error k => rcases textR_err h with rfl | rfl <;> decide
theorem read_turned {e q : Int} {s : ByteArray} (hs : s.size ≤ 218) (h1 : 1 ≤ e) (h2 : e ≤ 2147483647) (h3 : 0 ≤ q) (h4 : q ≤ 2147483647) {p : Nat} {x y : UInt8} (hx : (stampV e q s).1.data.toList[p]? = some x) (hne : y ≠ x) : (readV ⟨((stampV e q s).1.data.toList.set p y).toArray⟩).2.2.2 ≠ 0 := by
  have hl : s.data.toList.length = s.size := by simp
  obtain ⟨g1, g2, _⟩ := readV_stamp hs h1 h2 h3 h4
  rw [g1] at hx g2 ⊢
  simp only at hx g2 ⊢
  have hf : (frameB 224 s.data.toList).length = 224 := frameB_length (by omega)
  have hz : (⟨((stampB e.toNat q.toNat (frameB 224 s.data.toList)).set p y).toArray⟩ : ByteArray).size = 256 := by
    show ((stampB e.toNat q.toNat (frameB 224 s.data.toList)).set p y).toArray.size = 256
    rw [List.size_toArray, List.length_set, stampB_length _ _ _ hf]
  have ht := readR_turned (e := e.toNat) (q := q.toNat) (s := s.data.toList) (by omega) p x y hx hne
  unfold readV
  rw [if_pos hz]
  show (match readR ((stampB e.toNat q.toNat (frameB 224 s.data.toList)).set p y) with | .ok (e, q, s) => ((e : Int), (q : Int), (⟨s.toArray⟩ : ByteArray), (0 : Int)) | .error k => (0, 0, ⟨#[]⟩, k)).2.2.2 ≠ 0
  cases h : readR ((stampB e.toNat q.toNat (frameB 224 s.data.toList)).set p y) with
  | ok t => exact absurd h (ht t)
  | error k =>
    simp only
    have : k = 5 ∨ k = 6 := by
      unfold readR at h
      split at h
      · injection h with h; exact .inl h.symm
      · split at h
        · injection h with h; exact .inl h.symm
        · split at h
          · rename_i k' hk'
            injection h with h
            rw [← h]; exact textR_err hk'
          · cases h
    rcases this with rfl | rfl <;> decide
theorem xor_other {x b : UInt8} (h : b ≠ 0) : x ^^^ b ≠ x := by
  intro e
  have := congrArg (x ^^^ ·) e
  simp only [← UInt8.xor_assoc, UInt8.xor_self, UInt8.zero_xor] at this
  exact h this
theorem xor8b (x : UInt8) (c : Nat) (h : c < 256) : bits .xor .u8 (x.toNat : Int) (c : Int) = ((x ^^^ UInt8.ofNat c).toNat : Int) := by
  rw [u8_xor_nat _ _ x.toNat_lt h, UInt8.toNat_xor, UInt8.toNat_ofNat', Nat.mod_eq_of_lt h]
theorem cell_u8b {w : World} {g : Nat} {e : TypeId} {l : List UInt8} {vs : List Value} (h : Blk w g e (u8s l ++ vs)) {j : Nat} {x : UInt8} (hj : l[j]? = some x) : w.cell? ⟨g, j, none⟩ = some (.int .u8 (x.toNat : Int)) := by
  obtain ⟨hl, rfl⟩ := List.getElem?_eq_some_iff.1 hj
  rw [h.cell j, List.getElem?_append_left (by simpa [u8s] using hl), u8s_at hl]
theorem free_u8b {w : World} {g : Nat} {e : TypeId} {l : List UInt8} {vs : List Value} (h : Blk w g e (u8s l ++ vs)) {j : Nat} {x : UInt8} (hj : l[j]? = some x) : w.frozen? ⟨g, j, none⟩ = false := by
  obtain ⟨hl, rfl⟩ := List.getElem?_eq_some_iff.1 hj
  refine h.free ?_
  simp [u8s]; omega

set_option maxHeartbeats 16000000 in
set_option maxRecDepth 100000 in
theorem slabBack_walk (s t : ByteArray) (n m at_ by_ : Int) (hby : (Lit.int .u8 by_).wf = true) (w : World) :
    Calls Tryd.prog 5 #[.string s, .string t, .int .i64 n, .int .i64 m, .int .i64 at_, .int .u8 by_] w fun e w' => e = .returned (.bool true) ∧ Below w.heap.size w w' := by
  by_cases hs : 218 < s.size
  · have hs' : (218 : Int) < (s.size : Int) := by omega
    go_enter Tryd.func5, Tryd.ntmps5
    go_wp2_with fail
    refine (awake04_any _).mono ?_; rintro ee w1 ⟨rfl, hb1⟩
    have H1 := hid hb1; clear hb1
    go_wp2_with fail
    go_ret
    exact ⟨rfl, H1.out⟩
  have hs' : ¬ (218 : Int) < (s.size : Int) := by omega
  by_cases htt : 218 < t.size
  · have ht' : (218 : Int) < (t.size : Int) := by omega
    go_enter Tryd.func5, Tryd.ntmps5
    go_wp2_with fail
    refine (awake04_any _).mono ?_; rintro ee w1 ⟨rfl, hb1⟩
    have H1 := hid hb1; clear hb1
    go_wp2_with fail
    go_ret
    exact ⟨rfl, H1.out⟩
  have ht' : ¬ (218 : Int) < (t.size : Int) := by omega
  obtain ⟨i0, hi, hil⟩ := umod n 1000 (by decide)
  obtain ⟨k, hk, hkl⟩ := umod m 1000 (by decide)
  obtain ⟨p, hp, hpl⟩ := umod at_ 256 (by decide)
  obtain ⟨I, hI⟩ : ∃ I, I = 1 + i0 := ⟨_, rfl⟩
  obtain ⟨K1, hK1⟩ : ∃ I, I = k + 1 := ⟨_, rfl⟩
  have e1 : IntKind.i64.wrap (i0 : Int) = (i0 : Int) := by rw [IntKind.wrap_i64]; omega
  have e2 : IntKind.i64.wrap (1 + (i0 : Int)) = (I : Int) := by rw [IntKind.wrap_i64]; omega
  have e3 : IntKind.i64.wrap (k : Int) = (k : Int) := by rw [IntKind.wrap_i64]; omega
  have e4 : IntKind.i64.wrap ((k : Int) + 1) = (K1 : Int) := by rw [IntKind.wrap_i64]; omega
  obtain ⟨a1, a2, a3⟩ := openV_lay (show s.size ≤ 250 by omega)
  obtain ⟨b1, b2, b3⟩ := openV_lay (show t.size ≤ 250 by omega)
  obtain ⟨c1, c2, c3⟩ := readV_stamp (e := (I : Int)) (q := (k : Int)) (show s.size ≤ 218 by omega) (by omega) (by omega) (by omega) (by omega)
  obtain ⟨d1, _, _⟩ := readV_stamp (e := (I : Int)) (q := (k : Int)) (show t.size ≤ 218 by omega) (by omega) (by omega) (by omega) (by omega)
  obtain ⟨o1, _, _⟩ := readV_stamp (e := (I : Int)) (q := (K1 : Int)) (show s.size ≤ 218 by omega) (by omega) (by omega) (by omega) (by omega)
  have hab := lay_beq (show s.size ≤ 250 by omega) (show t.size ≤ 250 by omega)
  have hcd := stamp_beq (e := (I : Int)) (q := (k : Int)) (show s.size ≤ 218 by omega) (show t.size ≤ 218 by omega) (by omega) (by omega) (by omega) (by omega)
  have hoc := stamp_ne (e := (I : Int)) (q := (k : Int)) (q' := (K1 : Int)) (show s.size ≤ 218 by omega) (by omega) (by omega) (by omega) (by omega) (by omega) (by omega) (by omega)
  have T1 : Hid (∀ {x y : UInt8}, (layV s).1.data.toList[p]? = some x → y ≠ x → (openV ⟨((layV s).1.data.toList.set p y).toArray⟩).2 ≠ 0) := fun hx hne => open_turned (by omega) hx hne
  have T2 : Hid (∀ {x y : UInt8}, (stampV (I : Int) (k : Int) s).1.data.toList[p]? = some x → y ≠ x → (readV ⟨((stampV (I : Int) (k : Int) s).1.data.toList.set p y).toArray⟩).2.2.2 ≠ 0) := fun hx hne => read_turned (by omega) (by omega) (by omega) (by omega) (by omega) hx hne
  have C1 := hid (fun w' => slab_Lay s w')
  have C2 := hid (fun w' => slab_Lay t w')
  have C3 := hid (fun w' => slab_Stamp (I : Int) (k : Int) s w')
  have C4 := hid (fun w' => slab_Stamp (I : Int) (k : Int) t w')
  have C5 := hid (fun w' => slab_Stamp (I : Int) (K1 : Int) s w')
  obtain ⟨a, ha⟩ : ∃ a, a = (layV s).1 := ⟨_, rfl⟩
  obtain ⟨b, hb⟩ : ∃ a, a = (layV t).1 := ⟨_, rfl⟩
  obtain ⟨c, hc⟩ : ∃ a, a = (stampV (I : Int) (k : Int) s).1 := ⟨_, rfl⟩
  obtain ⟨d, hd⟩ : ∃ a, a = (stampV (I : Int) (k : Int) t).1 := ⟨_, rfl⟩
  obtain ⟨o, ho⟩ : ∃ a, a = (stampV (I : Int) (K1 : Int) s).1 := ⟨_, rfl⟩
  rw [show layV s = (a, 0) by rw [ha, a1]] at C1
  rw [show layV t = (b, 0) by rw [hb, b1]] at C2
  rw [show stampV (I : Int) (k : Int) s = (c, 0) by rw [hc, c1]] at C3
  rw [show stampV (I : Int) (k : Int) t = (d, 0) by rw [hd, d1]] at C4
  rw [show stampV (I : Int) (K1 : Int) s = (o, 0) by rw [ho, o1]] at C5
  rw [← ha] at a2 a3 hab T1
  rw [← hc] at c2 c3 hcd hoc T2
  rw [← hb] at hab
  rw [← hd] at hcd
  rw [← ho] at hoc
  have C6 := hid (fun w' => slab_Open a w')
  have C7 := hid (fun w' => slab_Read c w')
  rw [a3] at C6
  rw [c3] at C7
  have hss := beq_self s
  obtain ⟨β, hβ⟩ : ∃ β, β = (s.toList == t.toList) := ⟨_, rfl⟩
  rw [← hβ] at hab hcd
  have hβ' := hβ.symm
  have pa : (p : Int) < (a.size : Int) := by rw [a2]; exact hpl
  have pc : (p : Int) < (c.size : Int) := by rw [c2]; exact hpl
  have A2 := hid a2; have C2S := hid c2
  obtain ⟨B, rfl⟩ : ∃ B : Nat, by_ = (B : Int) := ⟨by_.toNat, by have := (wf_u8 hby).1; omega⟩
  have hB := (wf_u8 hby).2
  clear a1 a3 b1 b2 b3 c1 c3 d1 o1 ha hb hc hd ho hβ hI hK1 a2 c2 hby
  by_cases h0 : B = 0
  · subst h0
    cases β
    all_goals
      go_enter Tryd.func5, Tryd.ntmps5
      go_wp2_with fail
      refine (awake04_any _).mono ?_; rintro ee w1 ⟨rfl, hb1⟩
      have H1 := hid hb1; clear hb1
      go_wp2_with fail
      refine (C1.out w1).mono ?_; rintro ee w2 ⟨rfl, hb1⟩
      have H2 := hid (bt H1.out hb1); clear hb1 H1 C1
      go_wp2_with fail
      refine (C2.out w2).mono ?_; rintro ee w3 ⟨rfl, hb1⟩
      have H3 := hid (bt H2.out hb1); clear hb1 H2 C2
      go_wp2_with fail
      refine (C3.out w3).mono ?_; rintro ee w4 ⟨rfl, hb1⟩
      have H4 := hid (bt H3.out hb1); clear hb1 H3 C3
      go_wp2_with fail
      refine (C4.out w4).mono ?_; rintro ee w5 ⟨rfl, hb1⟩
      have H5 := hid (bt H4.out hb1); clear hb1 H4 C4
      go_wp2_with fail
      refine (C5.out w5).mono ?_; rintro ee w6 ⟨rfl, hb1⟩
      have H6 := hid (bt H5.out hb1); clear hb1 H5 C5
      go_wp2_with fail
      refine (C6.out w6).mono ?_; rintro ee w7 ⟨rfl, hb1⟩
      have H7 := hid (bt H6.out hb1); clear hb1 H6 C6
      go_wp2_with fail
      refine (C7.out w7).mono ?_; rintro ee w8 ⟨rfl, hb1⟩
      have H8 := hid (bt H7.out hb1); clear hb1 H7 C7
      go_wp2_with fail
      go_ret
      exact ⟨rfl, H8.out⟩
  have hB0 : ((B : Int) == 0) = false := by rw [beq_eq_false_iff_ne]; omega
  obtain ⟨x, hx⟩ : ∃ x, a.data.toList[p]? = some x := ⟨_, List.getElem?_eq_getElem (by rw [show a.data.toList.length = a.size by simp]; omega)⟩
  obtain ⟨u, hu⟩ : ∃ x, c.data.toList[p]? = some x := ⟨_, List.getElem?_eq_getElem (by rw [show c.data.toList.length = c.size by simp]; omega)⟩
  obtain ⟨y, hy⟩ : ∃ y, y = x ^^^ UInt8.ofNat B := ⟨_, rfl⟩
  obtain ⟨v, hv⟩ : ∃ y, y = u ^^^ UInt8.ofNat B := ⟨_, rfl⟩
  have hBne : UInt8.ofNat B ≠ 0 := by
    intro h
    have := congrArg UInt8.toNat h
    simp at this; omega
  have x1 : bits .xor .u8 (x.toNat : Int) (B : Int) = (y.toNat : Int) := by rw [hy]; exact xor8b x B (by omega)
  have x2 : bits .xor .u8 (u.toNat : Int) (B : Int) = (v.toNat : Int) := by rw [hv]; exact xor8b u B (by omega)
  have t1 := T1.out hx (show y ≠ x by rw [hy]; exact xor_other hBne)
  have t2 := T2.out hu (show v ≠ u by rw [hv]; exact xor_other hBne)
  obtain ⟨za, hza⟩ : ∃ z : ByteArray, z = ⟨(a.data.toList.set p y).toArray⟩ := ⟨_, rfl⟩
  obtain ⟨zc, hzc⟩ : ∃ z : ByteArray, z = ⟨(c.data.toList.set p v).toArray⟩ := ⟨_, rfl⟩
  rw [← hza] at t1
  rw [← hzc] at t2
  have C8 := hid (fun w' => slab_Open za w')
  have C9 := hid (fun w' => slab_Read zc w')
  obtain ⟨⟨g1, g2⟩, hg⟩ : ∃ g, g = openV za := ⟨_, rfl⟩
  obtain ⟨⟨r1, r2, r3, r4⟩, hr⟩ : ∃ g, g = readV zc := ⟨_, rfl⟩
  rw [← hg] at C8 t1
  rw [← hr] at C9 t2
  have n1 : (g2 != 0) = true := by rw [bne_iff_ne]; exact t1
  have n2 : (r4 != 0) = true := by rw [bne_iff_ne]; exact t2
  have HX := hid hx; have HU := hid hu; have HZA := hid hza; have HZC := hid hzc
  clear hx hu hy hv hBne t1 t2 hza hzc hg hr T1 T2 h0
  cases β
  all_goals
    go_enter Tryd.func5, Tryd.ntmps5
    go_wp2_with fail
    refine (awake04_any _).mono ?_; rintro ee w1 ⟨rfl, hb1⟩
    have H1 := hid hb1; clear hb1
    go_wp2_with fail
    refine (C1.out w1).mono ?_; rintro ee w2 ⟨rfl, hb1⟩
    have H2 := hid (bt H1.out hb1); clear hb1 H1 C1
    go_wp2_with fail
    refine (C2.out w2).mono ?_; rintro ee w3 ⟨rfl, hb1⟩
    have H3 := hid (bt H2.out hb1); clear hb1 H2 C2
    go_wp2_with fail
    refine (C3.out w3).mono ?_; rintro ee w4 ⟨rfl, hb1⟩
    have H4 := hid (bt H3.out hb1); clear hb1 H3 C3
    go_wp2_with fail
    refine (C4.out w4).mono ?_; rintro ee w5 ⟨rfl, hb1⟩
    have H5 := hid (bt H4.out hb1); clear hb1 H4 C4
    go_wp2_with fail
    refine (C5.out w5).mono ?_; rintro ee w6 ⟨rfl, hb1⟩
    have H6 := hid (bt H5.out hb1); clear hb1 H5 C5
    go_wp2_with fail
    refine (C6.out w6).mono ?_; rintro ee w7 ⟨rfl, hb1⟩
    have H7 := hid (bt H6.out hb1); clear hb1 H6 C6
    go_wp2_with fail
    refine (C7.out w7).mono ?_; rintro ee w8 ⟨rfl, hb1⟩
    have H8 := hid (bt H7.out hb1); clear hb1 H7 C7
    go_wp2_with (with_reducible refine at_op (.convert 9 40 (.tmp 170)) rfl ?_; refine Stopped.go ?_)
    refine Stopped.mk (wpList_bytes rfl _ _ 5 _ rfl a rfl Tryd.underlying9 Tryd.underlying40 Tryd.underlying5 ?_)
    intro cp w9 hb9 hz9 hcp hB9
    have c0 : w9.cell? ⟨w8.heap.size, p, none⟩ = some (.int .u8 x.toNat) := cell_u8b hB9 HX.out
    have f0 := free_u8b hB9 HX.out
    have HB9 := hid hB9
    have H9 := hid (And.intro (bt H8.out hb9) H8.out.size)
    clear hb9 hz9 hcp hB9 H8
    go_wp2_with (with_reducible refine at_op (.convert 40 9 (.tmp 186)) rfl ?_; refine Stopped.go ?_)
    have hlt : p < a.data.toList.length := (List.getElem?_eq_some_iff.1 HX.out).1
    have hw := HB9.out.set p (.int .u8 (y.toNat : Int))
    rw [u8s_set _ _ _ _ hlt] at hw
    have hbw := H9.out.1.setCell (p := ⟨w8.heap.size, p, none⟩) H9.out.2 (.int .u8 (y.toNat : Int))
    refine Stopped.mk (wpList_string rfl _ _ 5 _ rfl ⟨w8.heap.size, 0, none⟩ a.size cp (a.data.toList.set p y) rfl (by rw [List.length_set]; simp) Tryd.underlying40 Tryd.underlying5 Tryd.underlying9 hw.bytes ?_)
    rw [← HZA.out]
    clear c0 f0 hw HB9 H9 hlt
    generalize w9.setCell ⟨w8.heap.size, p, none⟩ (.int .u8 (y.toNat : Int)) = w10 at hbw ⊢
    have H10 := hid hbw
    clear hbw
    go_wp2_with fail
    refine (C8.out w10).mono ?_; rintro ee w11 ⟨rfl, hb1⟩
    have H11 := hid (bt H10.out hb1); clear hb1 H10 C8
    go_wp2_with (with_reducible refine at_op (.convert 9 40 (.tmp 191)) rfl ?_; refine Stopped.go ?_)
    refine Stopped.mk (wpList_bytes rfl _ _ 5 _ rfl c rfl Tryd.underlying9 Tryd.underlying40 Tryd.underlying5 ?_)
    intro cp w12 hb9 hz9 hcp hB9
    have c0 : w12.cell? ⟨w11.heap.size, p, none⟩ = some (.int .u8 u.toNat) := cell_u8b hB9 HU.out
    have f0 := free_u8b hB9 HU.out
    have HB9 := hid hB9
    have H9 := hid (And.intro (bt H11.out hb9) H11.out.size)
    clear hb9 hz9 hcp hB9 H11
    go_wp2_with (with_reducible refine at_op (.convert 40 9 (.tmp 207)) rfl ?_; refine Stopped.go ?_)
    have hlt : p < c.data.toList.length := (List.getElem?_eq_some_iff.1 HU.out).1
    have hw := HB9.out.set p (.int .u8 (v.toNat : Int))
    rw [u8s_set _ _ _ _ hlt] at hw
    have hbw := H9.out.1.setCell (p := ⟨w11.heap.size, p, none⟩) H9.out.2 (.int .u8 (v.toNat : Int))
    refine Stopped.mk (wpList_string rfl _ _ 5 _ rfl ⟨w11.heap.size, 0, none⟩ c.size cp (c.data.toList.set p v) rfl (by rw [List.length_set]; simp) Tryd.underlying40 Tryd.underlying5 Tryd.underlying9 hw.bytes ?_)
    rw [← HZC.out]
    clear c0 f0 hw HB9 H9 hlt
    generalize w12.setCell ⟨w11.heap.size, p, none⟩ (.int .u8 (v.toNat : Int)) = w13 at hbw ⊢
    have H13 := hid hbw
    clear hbw
    go_wp2_with fail
    refine (C9.out w13).mono ?_; rintro ee w14 ⟨rfl, hb1⟩
    have H14 := hid (bt H13.out hb1); clear hb1 H13 C9
    go_wp2_with fail
    go_ret
    exact ⟨rfl, H14.out⟩
theorem slabBack_row (s t : ByteArray) (n m at_ by_ : Int) (w : World) (_ : s.size ≤ 140737488351232) (_ : t.size ≤ 140737488351232) (_ : (Lit.int .i64 n).wf = true) (_ : (Lit.int .i64 m).wf = true) (_ : (Lit.int .i64 at_).wf = true) (hby : (Lit.int .u8 by_).wf = true) :
    Calls Tryd.prog 5 #[.string s, .string t, .int .i64 n, .int .i64 m, .int .i64 at_, .int .u8 by_] w fun e w' => e = .returned (.bool true) ∧ Below w.heap.size w w' := slabBack_walk s t n m at_ by_ hby w
end Go.Proofs.YtjeoelhenlckaaaDoor
