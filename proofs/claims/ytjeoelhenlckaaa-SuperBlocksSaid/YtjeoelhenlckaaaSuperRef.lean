/-
  The document's superblocks: walked.
-/
import Derived.Test.YtjeoelhenlckaaaSuperPure
import Derived.Test.YtjeoelhenlckaaaSuperLaid
import Derived.Test.YtjeoelhenlckaaaSlabRef2
import Derived.Test.YtjeoelhenlckaaaSlabRef3
import Derived.Test.YtjeoelhenlckaaaPenRefIn
namespace Go.Proofs.Ytjeoelhenlckaaa
open Go.RowKit Go.Sort

set_option maxHeartbeats 1000000 in
theorem law21_form (s : Sup) (w : World) :
    Calls Try.prog 25 #[.agg s.vals] w fun x w' => x = .returned (.agg s.vals) ∧ Below w.heap.size w w' := by
  obtain ⟨B, E, R, F, N, I, W⟩ := s
  simp only [Sup.vals]
  have hb1 := below_alloc w (.cells #[.int .i64 B, .int .i64 E, .int .i64 R, .int .i64 F, .int .i64 N, .int .i64 I, .int .i64 W] 45)
  have hb2 := below_alloc (w.alloc (.cells #[.int .i64 B, .int .i64 E, .int .i64 R, .int .i64 F, .int .i64 N, .int .i64 I, .int .i64 W] 45)) (.cells #[.int .i64 0, .int .i64 0, .int .i64 0, .int .i64 0, .int .i64 0, .int .i64 0, .int .i64 0] 50)
  have hb3 := below_alloc (w.alloc (.cells #[.int .i64 B, .int .i64 E, .int .i64 R, .int .i64 F, .int .i64 N, .int .i64 I, .int .i64 W] 45)) (.cells #[.int .i64 B, .int .i64 E, .int .i64 R, .int .i64 F, .int .i64 N, .int .i64 I, .int .i64 W] 50)
  have HA := hid (bt hb1 hb3)
  have h1 : R0 (w.alloc (.cells #[.int .i64 B, .int .i64 E, .int .i64 R, .int .i64 F, .int .i64 N, .int .i64 I, .int .i64 W] 45)) w.heap.size 45 #[.int .i64 B, .int .i64 E, .int .i64 R, .int .i64 F, .int .i64 N, .int .i64 I, .int .i64 W] := heap_alloc_new w _
  obtain ⟨y0, y1, y2, y3, y4, y5, y6⟩ := cells7 (h1.belowS hb2).blk
  have hN : ((w.alloc (.cells #[.int .i64 B, .int .i64 E, .int .i64 R, .int .i64 F, .int .i64 N, .int .i64 I, .int .i64 W] 45)).alloc (.cells #[.int .i64 B, .int .i64 E, .int .i64 R, .int .i64 F, .int .i64 N, .int .i64 I, .int .i64 W] 50)).heap[w.heap.size + 1]? = some (.cells #[.int .i64 B, .int .i64 E, .int .i64 R, .int .i64 F, .int .i64 N, .int .i64 I, .int .i64 W] 50 (0, 0)) := by
    have := heap_alloc_new (w.alloc (.cells #[.int .i64 B, .int .i64 E, .int .i64 R, .int .i64 F, .int .i64 N, .int .i64 I, .int .i64 W] 45)) (.cells #[.int .i64 B, .int .i64 E, .int .i64 R, .int .i64 F, .int .i64 N, .int .i64 I, .int .i64 W] 50)
    rwa [show (w.alloc (.cells #[.int .i64 B, .int .i64 E, .int .i64 R, .int .i64 F, .int .i64 N, .int .i64 I, .int .i64 W] 45)).heap.size = w.heap.size + 1 by simp] at this
  have HN := hid hN
  have hu := Try.underlying50
  clear hb1 hb2 hb3 h1 hN
  go_enter Try.func25, Try.ntmps25
  go_wp2_with fail
  (try simp only [Exit.inBlock, Exit.then])
  exact bodyPost_ret (results_cell_row rfl _ _ (w.heap.size + 1) _ _ (0, 0) _ rfl HN.out hu rfl (by kernel_rfl)) rfl ⟨rfl, HA.out⟩

set_option maxHeartbeats 1000000 in
theorem law21_back (s : Sup) (w : World) :
    Calls Try.prog 28 #[.agg s.vals] w fun x w' => x = .returned (.agg s.vals) ∧ Below w.heap.size w w' := by
  obtain ⟨B, E, R, F, N, I, W⟩ := s
  simp only [Sup.vals]
  have hb1 := below_alloc w (.cells #[.int .i64 B, .int .i64 E, .int .i64 R, .int .i64 F, .int .i64 N, .int .i64 I, .int .i64 W] 50)
  have hb2 := below_alloc (w.alloc (.cells #[.int .i64 B, .int .i64 E, .int .i64 R, .int .i64 F, .int .i64 N, .int .i64 I, .int .i64 W] 50)) (.cells #[.int .i64 0, .int .i64 0, .int .i64 0, .int .i64 0, .int .i64 0, .int .i64 0, .int .i64 0] 45)
  have hb3 := below_alloc (w.alloc (.cells #[.int .i64 B, .int .i64 E, .int .i64 R, .int .i64 F, .int .i64 N, .int .i64 I, .int .i64 W] 50)) (.cells #[.int .i64 B, .int .i64 E, .int .i64 R, .int .i64 F, .int .i64 N, .int .i64 I, .int .i64 W] 45)
  have HA := hid (bt hb1 hb3)
  have h1 : R0 (w.alloc (.cells #[.int .i64 B, .int .i64 E, .int .i64 R, .int .i64 F, .int .i64 N, .int .i64 I, .int .i64 W] 50)) w.heap.size 50 #[.int .i64 B, .int .i64 E, .int .i64 R, .int .i64 F, .int .i64 N, .int .i64 I, .int .i64 W] := heap_alloc_new w _
  obtain ⟨y0, y1, y2, y3, y4, y5, y6⟩ := cells7 (h1.belowS hb2).blk
  have hN : ((w.alloc (.cells #[.int .i64 B, .int .i64 E, .int .i64 R, .int .i64 F, .int .i64 N, .int .i64 I, .int .i64 W] 50)).alloc (.cells #[.int .i64 B, .int .i64 E, .int .i64 R, .int .i64 F, .int .i64 N, .int .i64 I, .int .i64 W] 45)).heap[w.heap.size + 1]? = some (.cells #[.int .i64 B, .int .i64 E, .int .i64 R, .int .i64 F, .int .i64 N, .int .i64 I, .int .i64 W] 45 (0, 0)) := by
    have := heap_alloc_new (w.alloc (.cells #[.int .i64 B, .int .i64 E, .int .i64 R, .int .i64 F, .int .i64 N, .int .i64 I, .int .i64 W] 50)) (.cells #[.int .i64 B, .int .i64 E, .int .i64 R, .int .i64 F, .int .i64 N, .int .i64 I, .int .i64 W] 45)
    rwa [show (w.alloc (.cells #[.int .i64 B, .int .i64 E, .int .i64 R, .int .i64 F, .int .i64 N, .int .i64 I, .int .i64 W] 50)).heap.size = w.heap.size + 1 by simp] at this
  have HN := hid hN
  have hu := Try.underlying45
  clear hb1 hb2 hb3 h1 hN
  go_enter Try.func28, Try.ntmps28
  go_wp2_with fail
  (try simp only [Exit.inBlock, Exit.then])
  exact bodyPost_ret (results_cell_row rfl _ _ (w.heap.size + 1) _ _ (0, 0) _ rfl HN.out hu rfl (by kernel_rfl)) rfl ⟨rfl, HA.out⟩

theorem num2 (n : Int) (h0 : 0 ≤ n) (h1 : n < 9223372036854775808) (W : Int) (hW : isW W = true) (w : World) :
    ∃ f, Calls Try.prog 63 #[.int .i64 W, .int .i64 n] w fun e w' => e = .returned (.tuple #[.string (numS W.toNat n.toNat), .bool f]) ∧ Below w.heap.size w w' := ⟨_, ref01_Num_yes W n hW h0 h1 w⟩
def lay4 (s : Sup) : List Int := [s.blocks, s.root, s.from_, s.nodes]

set_option maxHeartbeats 8000000 in
set_option maxRecDepth 100000 in
theorem ref21_Lay (s : Sup) (w : World) :
    Calls Try.prog 24 #[.agg s.vals] w fun e w' => e = .returned (.tuple #[.string (superLayV s).1, .bool (decide ((superLayV s).2 = 0))]) ∧ Below w.heap.size w w' := by
  have HI := hid (fun w' => ref21_Good s w')
  by_cases hg : goodB s = true
  case neg =>
    rw [show goodB s = false by simpa using hg] at HI
    rw [superLay_no hg]
    obtain ⟨B, E, R, F, N, I, W⟩ := s
    simp only [Sup.vals] at HI ⊢
    have HA := hid (below_alloc w (.cells #[.int .i64 B, .int .i64 E, .int .i64 R, .int .i64 F, .int .i64 N, .int .i64 I, .int .i64 W] 50))
    clear hg
    go_enter Try.func24, Try.ntmps24
    go_wp2_with fail
    refine (HI.out _).mono ?_; rintro e w1 ⟨rfl, hb1⟩
    have H1 := hid (bt HA.out hb1); clear hb1 HI
    go_wp2_with fail
    go_ret2
    exact ⟨rfl, H1.out⟩
  rw [hg] at HI
  obtain ⟨p, hp, f1, f2, f3, f4, f5, f6, f6', f7, f8, f9, f10, f11, f12, f13, f14, f15, f16, f17⟩ := good_facts hg
  have hv : superLayV s = stampV s.epoch 0 (superS s) := by unfold superLayV; rw [hg]; rfl
  have hr : rstampV s.epoch 0 (superS s) = ((superLayV s).1, decide ((superLayV s).2 = 0)) := by
    rw [hv]
    unfold rstampV stampV
    have hc : (superS s).size ≤ 218 := by rw [superS_size]; decide
    rw [if_pos ⟨hc, f3, f4, by decide, by decide⟩, if_pos (by first | exact ⟨hc, f3, f4, by decide, by decide⟩ | exact ⟨f3, f4, by decide, by decide, hc⟩)]
    first | rfl | simp
  have HST := hid (fun w' => ref04_Stamp s.epoch 0 (superS s) (by rw [superS_size]; decide) w')
  rw [hr] at HST
  obtain ⟨v, hvv⟩ : ∃ v, v = (superLayV s).1 := ⟨_, rfl⟩
  obtain ⟨o, ho⟩ : ∃ o, o = decide ((superLayV s).2 = 0) := ⟨_, rfl⟩
  rw [← hvv, ← ho] at HST ⊢
  have hin : ∀ j (h : j < 4), ∃ n, (lay4 s)[j]? = some n ∧ 0 ≤ n ∧ n < 9223372036854775808 := by
    intro j hj
    have : j = 0 ∨ j = 1 ∨ j = 2 ∨ j = 3 := by omega
    rcases this with rfl | rfl | rfl | rfl
    · exact ⟨_, rfl, by omega, by omega⟩
    · exact ⟨_, rfl, by omega, by omega⟩
    · exact ⟨_, rfl, by omega, by omega⟩
    · exact ⟨_, rfl, by omega, by omega⟩
  obtain ⟨T, hT⟩ : ∃ T, T = superT s := ⟨_, rfl⟩
  have hTS : superS s = ⟨T.toArray⟩ := by rw [hT]; rfl
  rw [hTS] at HST
  unfold superT at hT
  rw [show [s.blocks, s.root, s.from_, s.nodes] = lay4 s from rfl, show beAll 4 [s.items, s.weight] = beB 4 s.items.toNat ++ beB 4 s.weight.toNat by simp [beAll]] at hT
  obtain ⟨L, hL⟩ : ∃ L, L = lay4 s := ⟨_, rfl⟩
  have hLl : L.length = 4 := by rw [hL]; rfl
  rw [← hL] at hin hT
  have hLL : L = [s.blocks, s.root, s.from_, s.nodes] := hL
  have i0 : 0 ≤ s.items ∧ s.items < 9223372036854775808 := by omega
  have i1 : 0 ≤ s.weight ∧ s.weight < 9223372036854775808 := by omega
  have HIN := hid hin; have HT := hid hT; have HLL := hid hLL; have HLEN := hid hLl; have I0 := hid i0; have I1 := hid i1
  clear hv hr hvv ho hin hT hTS hL hLl hLL hg hp f1 f2 f3 f4 f5 f6 f6' f7 f8 f9 f10 f11 f12 f13 f14 f15 f16 f17 i0 i1
  obtain ⟨B, E, R, F, N, I, W⟩ := s
  simp only [Sup.vals] at HI ⊢
  simp only at HST HT HLL I0 I1
  have HA := hid (below_alloc w (.cells #[.int .i64 B, .int .i64 E, .int .i64 R, .int .i64 F, .int .i64 N, .int .i64 I, .int .i64 W] 50))
  have HN := hid (show R0 (w.alloc (.cells #[.int .i64 B, .int .i64 E, .int .i64 R, .int .i64 F, .int .i64 N, .int .i64 I, .int .i64 W] 50)) w.heap.size 50 #[.int .i64 B, .int .i64 E, .int .i64 R, .int .i64 F, .int .i64 N, .int .i64 I, .int .i64 W] from heap_alloc_new w _)
  go_enter Try.func24, Try.ntmps24
  go_wp2_with fail
  refine (HI.out _).mono ?_; rintro e w1 ⟨rfl, hb1⟩
  have h1 := HN.out.belowS hb1
  obtain ⟨y0, y1, y2, y3, y4, y5, y6⟩ := cells7 h1.blk
  have hA := below_alloc w1 (.cells #[.int .i64 B, .int .i64 R, .int .i64 F, .int .i64 N] 3)
  have hN : Blk (w1.alloc (.cells #[.int .i64 B, .int .i64 R, .int .i64 F, .int .i64 N] 3)) w1.heap.size 3 (L.map (Value.int .i64)) := by
    rw [HLL.out]
    exact Blk.new w1 #[.int .i64 B, .int .i64 R, .int .i64 F, .int .i64 N] 3
  obtain ⟨g, hg⟩ : ∃ g, g = w1.heap.size := ⟨_, rfl⟩
  rw [← hg] at hN
  have H1 := hid (And.intro (bt (bt HA.out hb1) hA) (And.intro (h1.belowS hA) hN)); have HG := hid hg
  clear hb1 HI hA hN hg h1 HN HA
  go_wp2_with fail
  rw [← HG.out]
  clear HG y0 y1 y2 y3 y4 y5 y6
  generalize w1.alloc (.cells #[.int .i64 B, .int .i64 R, .int .i64 F, .int .i64 N] 3) = w2 at H1 ⊢
  go_loopg [4, 6] 4 (fun k x y wx => ∃ (j : Nat) (o : ByteArray), j + k = 4 ∧ y = .int .i64 j ∧ x = .string o ∧ o.size = 7 + 2 * j ∧ Hid (o.data.toList = nameS.data.toList ++ beAll 2 (L.take j) ∧ Below w.heap.size w wx ∧ R0 wx w.heap.size 50 #[.int .i64 B, .int .i64 E, .int .i64 R, .int .i64 F, .int .i64 N, .int .i64 I, .int .i64 W] ∧ Blk wx g 3 (L.map (Value.int .i64))))
  case atStart => exact ⟨0, nameS, rfl, rfl, rfl, rfl, by simp [beAll], H1.out⟩
  case round =>
    clear H1
    obtain ⟨j, t, hj, rfl, rfl, hts, HS⟩ := hrel
    by_cases hlt : j < 4
    · have hlt' : (j : Int) < 4 := by omega
      obtain ⟨n, hn, n0, n1⟩ := HIN.out j hlt
      have hc : wr.cell? ⟨g, j, none⟩ = some (.int .i64 n) := HS.out.2.2.2.at (by rw [List.getElem?_map, hn]; rfl)
      obtain ⟨f, hC⟩ := num2 n n0 n1 2 (by decide) wr
      have hC2 := hC
      have hx : (numS 2 n.toNat).data.toList = beB 2 n.toNat := by unfold numS; simp
      have hxs : (numS 2 n.toNat).size = 2 := by show (beB 2 n.toNat).toArray.size = 2; rw [List.size_toArray, beB_length]
      rw [show (2 : Int).toNat = 2 from rfl] at hC
      obtain ⟨x, hxx⟩ : ∃ x, x = numS 2 n.toNat := ⟨_, rfl⟩
      rw [← hxx] at hC hx hxs
      have HC := hid hC; have HX := hid hx; have HN := hid hn
      have g4 : ¬ 9223372036854775807 < t.size + x.size := by omega
      clear hC hC2 hx hxx hn n0 n1
      go_wp2_with fail
      refine HC.out.mono ?_; rintro e w3 ⟨rfl, hb3⟩
      have H3 := hid (And.intro (bt HS.out.2.1 hb3) (And.intro (HS.out.2.2.1.belowS hb3) (HS.out.2.2.2.belowS hb3)))
      have HT1 := hid HS.out.1
      clear hb3 HC HS hc
      go_wp2_with fail
      go_roundg (4 - (j + 1))
      case measure => omega
      case rel =>
        refine ⟨j + 1, t ++ x, by omega, by go_num, rfl, ?_, ?_, H3.out⟩
        · rw [show (t ++ x).size = t.size + x.size by simp]; omega
        · rw [app_list, HT1.out, HX.out, List.append_assoc, ← beAll_snoc]
          congr 2
          rw [List.take_add_one, HN.out]; rfl
    · have hj4 : j = 4 := by omega
      subst hj4
      have hlt' : ¬ ((4 : Nat) : Int) < 4 := by omega
      obtain ⟨y0, y1, y2, y3, y4, y5, y6⟩ := cells7 HS.out.2.2.1.blk
      obtain ⟨fa, hCa⟩ := num2 I I0.out.1 I0.out.2 4 (by decide) wr
      have hxs : (numS (4 : Int).toNat I.toNat).size = 4 := by show (beB 4 I.toNat).toArray.size = 4; rw [List.size_toArray, beB_length]
      have hx : (numS (4 : Int).toNat I.toNat).data.toList = beB 4 I.toNat := by unfold numS; simp
      obtain ⟨x, hxx⟩ : ∃ x, x = numS (4 : Int).toNat I.toNat := ⟨_, rfl⟩
      rw [← hxx] at hCa hx hxs
      have HCa := hid hCa; have HX := hid hx
      clear hCa hx hxx
      go_wp2_with fail
      refine HCa.out.mono ?_; rintro e w3 ⟨rfl, hb3⟩
      have H3 := hid (And.intro (bt HS.out.2.1 hb3) (HS.out.2.2.1.belowS hb3))
      have HT1 := hid HS.out.1
      clear hb3 HCa HS y0 y1 y2 y3 y4 y5 y6
      obtain ⟨y0, y1, y2, y3, y4, y5, y6⟩ := cells7 H3.out.2.blk
      obtain ⟨fb, hCb⟩ := num2 W I1.out.1 I1.out.2 4 (by decide) w3
      have hys : (numS (4 : Int).toNat W.toNat).size = 4 := by show (beB 4 W.toNat).toArray.size = 4; rw [List.size_toArray, beB_length]
      have hy : (numS (4 : Int).toNat W.toNat).data.toList = beB 4 W.toNat := by unfold numS; simp
      obtain ⟨y, hyy⟩ : ∃ x, x = numS (4 : Int).toNat W.toNat := ⟨_, rfl⟩
      rw [← hyy] at hCb hy hys
      have HCb := hid hCb; have HY := hid hy
      clear hCb hy hyy
      go_wp2_with fail
      refine HCb.out.mono ?_; rintro e w4 ⟨rfl, hb4⟩
      have H4 := hid (And.intro (bt H3.out.1 hb4) (H3.out.2.belowS hb4))
      clear hb4 HCb H3 y0 y1 y2 y3 y4 y5 y6
      obtain ⟨y0, y1, y2, y3, y4, y5, y6⟩ := cells7 H4.out.2.blk
      have g4 : ¬ 9223372036854775807 < t.size + x.size := by omega
      have hs2 : (t ++ x).size = t.size + x.size := by simp
      have g5 : ¬ 9223372036854775807 < t.size + x.size + y.size := by omega
      have htxt : t ++ x ++ y = ⟨T.toArray⟩ := ba_of (by
        rw [app_list, app_list, HT1.out, HX.out, HY.out]
        show _ = T
        rw [HT.out, List.take_of_length_le (by rw [HLEN.out]; exact Nat.le_refl _)]
        simp only [List.append_assoc])
      have HTXT := hid htxt
      clear htxt
      go_wp2_with fail
      rw [HTXT.out]
      refine (HST.out _).mono ?_; rintro e w5 ⟨rfl, hb5⟩
      have H5 := hid (bt H4.out.1 hb5); clear hb5 H4
      go_wp2_with fail
      go_ret2
      exact ⟨rfl, H5.out⟩
end Go.Proofs.Ytjeoelhenlckaaa
