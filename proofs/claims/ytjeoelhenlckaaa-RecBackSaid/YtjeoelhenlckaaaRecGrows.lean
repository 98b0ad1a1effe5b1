/-
  RecGrows, walked.
-/
import Derived.Test.YtjeoelhenlckaaaRecAwake
import Derived.Deep.RegionLaw
namespace Go.Proofs.Ytjeoelhenlckaaa
open Go.RowKit

section
variable {P : Program}
/-- append as one step of a region that draws: onto a row that the call made -/
theorem step_append_row {ops : Array Oper} {o : Oper} {a : Act} {w : World} {K : Act → World → Prop} {Q : Exit → Act → World → Prop} {E : Prop}
    (hg : o.guard = none) (s x : Operand) (t e : TypeId) (hop : o.op = Op.call { callee := Callee.builtin Builtin.append, args := #[s, x], argTypes := #[t, t] })
    (i : TypeInfo) (z : Value) (size bytes : Nat) (ht : P.underlying t = some (.slice e)) (hi : P.info? e = some i) (hz : i.zero = some z)
    (hsize : i.size = size) (hby : i.bytes = bytes) (hzs : z.cells.size = size) (hsz : 0 < size)
    (v : Value) (n : Nat) (xs : List Value) (hs : a.eval s = v) (hown : w.ownsRowF 0 e size v n xs)
    (A : Option Addr) (m c : Nat) (news : List Value) (hx : a.eval x = .slice A m c) (hl : news.length = m * size) (hr : Row w A news) (h1 : ∀ u ∈ news, u.oneCell' = true)
    (h63 : n + m ≤ maxLen) (hbytes : (n + m) * bytes ≤ 140737488355328)
    (hK : ∀ v' w', w'.ownsRowF 0 e size v' (n + m) (xs ++ news) → Keeps v.ownBlock.toList w w' → (∀ k, v'.ownBlock = some k → v.ownBlock = some k ∨ w.heap.size ≤ k) → K (a.put o.dst v') w') :
    if Region.wanted o (yielded ops a.tmps) = true then Oper.wp P o a w K Q else E := by
  have hw : Region.wanted o (yielded ops a.tmps) = true := by simp [Region.wanted, hg]
  rw [if_pos hw]
  obtain ⟨v', w', hrun, r1, r2, r3⟩ : ∃ v' w', (Builtin.append_ #[t, t] o.type #[v, .slice A m c]).run P w = .ok v' w' ∧ w'.ownsRowF 0 e size v' (n + m) (xs ++ news) ∧ Keeps v.ownBlock.toList w w' ∧ (∀ k, v'.ownBlock = some k → v.ownBlock = some k ∨ w.heap.size ≤ k) := by
    cases A with
    | none =>
      have hn : news = [] := by
        rcases hr with h | ⟨_, _, h, _⟩
        · exact h
        · cases h
      subst hn
      have hm : m = 0 := by
        rcases Nat.mul_eq_zero.1 hl.symm with h | h
        · exact h
        · omega
      subst hm
      refine ⟨v, w, ?_, by rw [List.append_nil]; exact hown, Keeps.refl _ _, fun k hk => .inl hk⟩
      rcases hown.2 with ⟨rfl, rfl⟩ | ⟨g, cap, cur, fz, rfl, _, _, _, hnc, _, _, _⟩
      · simp [Builtin.append_, run_underlying ht, sizeOf, typeInfo, hi, Builtin.lenOf, Builtin.firstCells]
      · simp [Builtin.append_, run_underlying ht, sizeOf, typeInfo, hi, Builtin.lenOf, Builtin.firstCells, hnc, storeCells]
    | some ad =>
      obtain ⟨v', w', r1, r2, r3, r4⟩ := append_where (P := P) (w := w) t o.type e i z size bytes ht hi hz hsize hby hzs hsz v n xs hown ad m c news hl (fun j u hj => by
        rcases hr with h | ⟨b, off, h, _, hc⟩
        · rw [h] at hj; cases hj
        · injection h with h
          subst h
          rw [Addr.add_mid]
          exact hc j u hj) h1 h63 hbytes
      exact ⟨v', w', r1, r2, keeps_grown r3, r4⟩
  unfold Oper.wp
  simp [execOp, hop, resolve, invoke, builtin, hs, hx, hrun, Result.andThen]
  exact hK v' w' r1 r2 r3
theorem ownsRowF_empty (w : World) (e : TypeId) (size : Nat) : (w.alloc (.cells #[] e)).ownsRowF 0 e size (.slice (some ⟨w.heap.size, 0, none⟩) 0 0) 0 [] :=
  ⟨by simp, .inr ⟨w.heap.size, 0, #[], (0, 0), rfl, Nat.zero_le _, heap_alloc_new w _, Nat.zero_le _, Nat.zero_le _, Nat.zero_le _, by simp, by simp⟩⟩
end

theorem heavyB_no {l : List Msg3} (h : heavyB l = false) : l.length ≤ 200 ∧ ∀ x ∈ l, x.2.1.size ≤ 512 ∧ x.2.2.size ≤ 512 := by
  unfold heavyB at h
  rw [Bool.or_eq_false_iff] at h
  have h2 : l.length ≤ 200 := by have := of_decide_eq_false h.2; omega
  refine ⟨h2, fun x hx => ?_⟩
  rw [List.take_of_length_le (by omega)] at h
  have := List.any_eq_false.1 h.1 x hx
  simp at this
  omega

/-- the number of texts, of a message more -/
theorem grows_plain (l : List Msg3) (m : Msg3) : (isB m = false → (g2 [] ((l ++ [m]).filter isB)).length = (g2 [] (l.filter isB)).length) ∧
    (isB m = true → ((g2 [] ((l ++ [m]).filter isB)).length = (g2 [] (l.filter isB)).length ∨ (g2 [] ((l ++ [m]).filter isB)).length = (g2 [] (l.filter isB)).length + 1) ∧ 1 ≤ (g2 [] ((l ++ [m]).filter isB)).length ∧ (g2 [] ((l ++ [m]).filter isB)).length ≤ (l.length + 8) / 8) := by
  rw [List.filter_append]
  constructor
  · intro h
    rw [List.filter_cons_of_neg (by rw [h]; decide), List.filter_nil, List.append_nil]
  · intro h
    rw [List.filter_cons_of_pos h, List.filter_nil]
    have hb := g2_bound (l.filter isB ++ [m]) [] (by simp) (fun x hx => by
      rcases List.mem_append.1 hx with hx | hx
      · exact isB_wt (List.mem_filter.1 hx).2
      · rw [List.mem_singleton.1 hx]; exact isB_wt h) (by simp)
    have hfl := List.length_filter_le isB l
    simp only [List.length_append, List.length_cons, List.length_nil] at hb
    exact ⟨g2_snoc _ _ _, hb.2, by omega⟩

set_option maxHeartbeats 8000000 in
set_option maxRecDepth 100000 in
theorem recGrows_walk (A : Option Addr) (cap : Nat) (l : List Msg3) (K : Int) (kk v : ByteArray) (hlen : l.length ≤ 9223372036854775807) (w : World) (hr : Row w A (l.flatMap msgCells)) :
    Calls Try.prog 6 #[.slice A l.length cap, .agg #[.int .i64 K, .string kk, .string v]] w fun e w' => e = .returned (.bool true) ∧ Below w.heap.size w w' := by
  obtain ⟨i0, hi0, hz0, hz1, hz2⟩ := info_parts info_msg
  have HI0 := hid hi0; have HZ0 := hid hz0; have HZ1 := hid hz1; have HZ2 := hid hz2
  clear hi0 hz0 hz1 hz2
  have HR := hid hr; clear hr
  obtain ⟨L, hL⟩ : ∃ L, L = l.length := ⟨_, rfl⟩
  have HV := hid (heavy_any A cap l hlen)
  rw [← hL] at hlen HV ⊢
  have HL := hid hL; clear hL
  go_enter Try.func6, Try.ntmps6
  go_wp2_with (with_reducible refine at_op (.box 39 (.tmp 1)) rfl ?_; refine Stopped.go ?_)
  refine Stopped.mk (wpList_box rfl #[.int .i64 K, .string kk, .string v] 39 (by go_simp) ?_)
  intro g w1 hg_ Bg hb_ hz_
  have hgB : w.heap.size ≤ g := by omega
  have HB1 := hid hb_; have HBg := hid (show Blk w1 g 39 [.int .i64 K, .string kk, .string v] from Bg); have HGB := hid hgB
  clear hg_ hz_ hb_ Bg hgB
  go_wp2_with fail
  refine (awake22_any _).mono ?_; rintro e w2 ⟨rfl, hb_⟩
  have H2 := hid (show Below w.heap.size w w2 ∧ Blk w2 g 39 [.int .i64 K, .string kk, .string v] from ⟨bt HB1.out hb_, HBg.out.belowS hb_⟩)
  clear hb_ HB1 HBg
  have x0 : w2.cell? ⟨g, 0, none⟩ = some (.int .i64 K) := H2.out.2.at rfl
  have x1 : w2.cell? ⟨g, 1, none⟩ = some (.string kk) := H2.out.2.at rfl
  have x2 : w2.cell? ⟨g, 2, none⟩ = some (.string v) := H2.out.2.at rfl
  obtain ⟨f1, hf1⟩ : ∃ f, f = heavyB l := ⟨_, rfl⟩
  rw [← hf1] at HV
  have HF1 := hid hf1; clear hf1
  cases f1 with
  | true =>
    go_wp2_with fail
    refine (HV.out w2 (HR.out.below H2.out.1)).mono ?_; rintro e w3 ⟨rfl, rfl⟩
    go_wp2_with fail
    go_ret
    exact ⟨rfl, H2.out.1⟩
  | false =>
    have hA := below_alloc w2 (.cells #[.int .i64 K, .string kk, .string v] 39)
    have hR1 := row_new w2 #[.int .i64 K, .string kk, .string v] 39
    have HV2 := hid (heavy_any _ 1 [(K, kk, v)] (by simp) _ hR1)
    have H3 := hid (show Below w.heap.size w (w2.alloc (.cells #[.int .i64 K, .string kk, .string v] 39)) ∧ Blk (w2.alloc (.cells #[.int .i64 K, .string kk, .string v] 39)) g 39 [.int .i64 K, .string kk, .string v] from ⟨bt H2.out.1 hA, H2.out.2.belowS hA⟩)
    clear hA hR1
    obtain ⟨f2, hf2⟩ : ∃ f, f = heavyB [(K, kk, v)] := ⟨_, rfl⟩
    rw [← hf2] at HV2
    have HF2 := hid hf2; clear hf2
    obtain ⟨hl200, hsz⟩ := heavyB_no HF1.out.symm
    cases f2 with
    | true =>
      clear hl200 hsz
      go_wp2_with fail
      refine (HV.out w2 (HR.out.below H2.out.1)).mono ?_; rintro e w3 ⟨rfl, rfl⟩
      go_wp2_with fail
      refine HV2.out.mono ?_; rintro e w4 ⟨rfl, rfl⟩
      go_wp2_with fail
      go_ret
      exact ⟨rfl, H3.out.1⟩
    | false =>
      have hm := (heavyB_no HF2.out.symm).2 _ (List.mem_singleton.2 rfl)
      have HM := hid hm; have HSZ := hid hsz; have HL200 := hid hl200
      clear hm hsz hl200
      go_wp2_with fail
      refine (HV.out w2 (HR.out.below H2.out.1)).mono ?_; rintro e w3 ⟨rfl, rfl⟩
      go_wp2_with fail
      refine HV2.out.mono ?_; rintro e w4 ⟨rfl, rfl⟩
      clear HV HV2 x0 x1 x2
      generalize w2.alloc (.cells #[.int .i64 K, .string kk, .string v] 39) = w4 at H3 ⊢
      clear H2
      have hcount := rec_Count_any A cap l (by have := HL200.out; omega) w4 (HR.out.below H3.out.1)
      rw [← HL.out] at hcount
      obtain ⟨n, hn⟩ : ∃ n, n = (g2 [] (l.filter isB)).length := ⟨_, rfl⟩
      rw [← hn] at hcount
      have HC := hid hcount; have HN := hid hn
      clear hcount hn
      go_wp2_with fail
      refine HC.out.mono ?_; rintro e w5 ⟨rfl, hb5⟩
      have H5 := hid (show Below w.heap.size w w5 ∧ Blk w5 g 39 [.int .i64 K, .string kk, .string v] from ⟨bt H3.out.1 hb5, H3.out.2.belowS hb5⟩)
      clear hb5 H3 HC
      go_wp2_with fail
      have y0 : w5.drew.cell? ⟨g, 0, none⟩ = some (.int .i64 K) := H5.out.2.at rfl
      have y1 : w5.drew.cell? ⟨g, 1, none⟩ = some (.string kk) := H5.out.2.at rfl
      have y2 : w5.drew.cell? ⟨g, 2, none⟩ = some (.string v) := H5.out.2.at rfl
      have u0 : (w5.alloc (.cells #[] 39)).cell? ⟨g, 0, none⟩ = some (.int .i64 K) := (H5.out.2.belowS (below_alloc _ _)).at rfl
      have u1 : (w5.alloc (.cells #[] 39)).cell? ⟨g, 1, none⟩ = some (.string kk) := (H5.out.2.belowS (below_alloc _ _)).at rfl
      have u2 : (w5.alloc (.cells #[] 39)).cell? ⟨g, 2, none⟩ = some (.string v) := (H5.out.2.belowS (below_alloc _ _)).at rfl
      have HRD := hid (show Row w5.drew A (l.flatMap msgCells) from HR.out.below ⟨H5.out.1.os, H5.out.1.tape, H5.out.1.output, H5.out.1.size, H5.out.1.block⟩)
      have HD := hid (show Below w.heap.size w w5.drew ∧ Blk w5.drew g 39 [.int .i64 K, .string kk, .string v] ∧ g < w5.heap.size ∧ w.heap.size ≤ w5.heap.size from ⟨⟨H5.out.1.os, H5.out.1.tape, H5.out.1.output, H5.out.1.size, H5.out.1.block⟩, H5.out.2, H5.out.2.lt, H5.out.1.size⟩)
      clear H5
      have OWN0 := hid (show (w5.drew.alloc (.cells #[] 39)).ownsRowF 0 39 3 (.slice (some ⟨w5.heap.size, 0, none⟩) 0 0) 0 [] from ownsRowF_empty _ _ _)
      have OWN04 := hid (show ((w5.drew.alloc (.cells #[] 39)).alloc (.cells #[.int .i64 K, .string kk, .string v] 39)).ownsRowF 0 39 3 (.slice (some ⟨w5.heap.size, 0, none⟩) 0 0) 0 [] from ownsRowF_below (ownsRowF_empty w5.drew _ _) (below_alloc _ _))
      have OWN40 := hid (show ((w5.drew.alloc (.cells #[.int .i64 K, .string kk, .string v] 39)).alloc (.cells #[] 39)).ownsRowF 0 39 3 (.slice (some ⟨w5.heap.size + 1, 0, none⟩) 0 0) 0 [] from by
        have := ownsRowF_empty (w5.drew.alloc (.cells #[.int .i64 K, .string kk, .string v] 39)) 39 3
        rwa [show (w5.drew.alloc (.cells #[.int .i64 K, .string kk, .string v] 39)).heap.size = w5.heap.size + 1 by simp] at this)
      have ROW0 := hid (show Row (w5.drew.alloc (.cells #[] 39)) A (l.flatMap msgCells) from HRD.out.below (below_alloc _ _))
      have ROW04 := hid (show Row ((w5.drew.alloc (.cells #[] 39)).alloc (.cells #[.int .i64 K, .string kk, .string v] 39)) A (l.flatMap msgCells) from ROW0.out.below (below_alloc _ _))
      have ROW40 := hid (show Row ((w5.drew.alloc (.cells #[.int .i64 K, .string kk, .string v] 39)).alloc (.cells #[] 39)) A (l.flatMap msgCells) from (HRD.out.below (below_alloc _ _)).below (below_alloc _ _))
      have B0 := hid (show Below w.heap.size w (w5.drew.alloc (.cells #[] 39)) ∧ Blk (w5.drew.alloc (.cells #[] 39)) g 39 [.int .i64 K, .string kk, .string v] from ⟨bt HD.out.1 (below_alloc _ _), HD.out.2.1.belowS (below_alloc _ _)⟩)
      have B04 := hid (show (Below w.heap.size w ((w5.drew.alloc (.cells #[] 39)).alloc (.cells #[.int .i64 K, .string kk, .string v] 39)) ∧ Blk ((w5.drew.alloc (.cells #[] 39)).alloc (.cells #[.int .i64 K, .string kk, .string v] 39)) g 39 [.int .i64 K, .string kk, .string v]) ∧ Blk ((w5.drew.alloc (.cells #[] 39)).alloc (.cells #[.int .i64 K, .string kk, .string v] 39)) (w5.heap.size + 1) 39 [.int .i64 K, .string kk, .string v] from ⟨⟨bt B0.out.1 (below_alloc _ _), B0.out.2.belowS (below_alloc _ _)⟩, by
        have := Blk.new (w5.drew.alloc (.cells #[] 39)) #[.int .i64 K, .string kk, .string v] 39
        rwa [show (w5.drew.alloc (.cells #[] 39)).heap.size = w5.heap.size + 1 by simp] at this⟩)
      have B40 := hid (show (Below w.heap.size w ((w5.drew.alloc (.cells #[.int .i64 K, .string kk, .string v] 39)).alloc (.cells #[] 39)) ∧ Blk ((w5.drew.alloc (.cells #[.int .i64 K, .string kk, .string v] 39)).alloc (.cells #[] 39)) g 39 [.int .i64 K, .string kk, .string v]) ∧ Blk ((w5.drew.alloc (.cells #[.int .i64 K, .string kk, .string v] 39)).alloc (.cells #[] 39)) w5.heap.size 39 [.int .i64 K, .string kk, .string v] from ⟨⟨bt (bt HD.out.1 (below_alloc _ _)) (below_alloc _ _), (HD.out.2.1.belowS (below_alloc _ _)).belowS (below_alloc _ _)⟩, Blk.belowS (Blk.new w5.drew #[.int .i64 K, .string kk, .string v] 39) (below_alloc _ _)⟩)
      obtain ⟨k, hk⟩ : ∃ k, k = (g2 [] ((l ++ [(K, kk, v)]).filter isB)).length := ⟨_, rfl⟩
      have HKK := hid hk; clear hk
      go_region_law (first
        | (refine step_append_row rfl (.tmp 18) (.tmp 19) 22 39 rfl i0 _ 3 40 Try.underlying22 HI0.out HZ0.out HZ1.out HZ2.out rfl (by decide) (.slice (some ⟨_, 0, none⟩) 0 0) 0 [] rfl (by first | exact OWN0.out | exact OWN04.out | exact OWN40.out) A L cap (l.flatMap msgCells) rfl (by rw [flat_len, HL.out]) (by first | exact ROW0.out | exact ROW04.out | exact ROW40.out) (msgCells_one l) (by have := HL200.out; have := HL.out; simp only [maxLen]; omega) (by have := HL200.out; have := HL.out; omega) ?_
           intro V6 w6 hown6 hkp6 hvb6
           obtain ⟨d1, d2, d3, d4⟩ := HD.out
           have hdr : w5.drew.heap.size = w5.heap.size := rfl
           have HB6 : Hid (Below w.heap.size w w6) := Keeps.below (by first | exact B0.out.1 | exact B04.out.1.1 | exact B40.out.1.1) hkp6 (fun x hx => by simp [Value.ownBlock] at hx; omega)
           have BK6 : Blk w6 g 39 [.int .i64 K, .string kk, .string v] := Blk.keeps (by first | exact B0.out.2 | exact B04.out.1.2 | exact B40.out.1.2) hkp6 (by simp [Value.ownBlock]; omega)
           have HV6 : Hid (∀ b, V6.ownBlock = some b → w5.heap.size ≤ b) := fun b hb => by rcases hvb6 b hb with h | h <;> simp [Value.ownBlock] at h <;> omega
           try have RW6 := hid (Blk.row (Blk.keeps B04.out.2 hkp6 (by simp [Value.ownBlock])))
           try have RW6 := hid (Blk.row (Blk.keeps B40.out.2 hkp6 (by simp [Value.ownBlock])))
           have z0 : w6.cell? ⟨g, 0, none⟩ = some (.int .i64 K) := BK6.at rfl
           have z1 : w6.cell? ⟨g, 1, none⟩ = some (.string kk) := BK6.at rfl
           have z2 : w6.cell? ⟨g, 2, none⟩ = some (.string v) := BK6.at rfl
           have HO6 := hid hown6; have HBK6 := hid BK6
           clear hown6 hkp6 hvb6 d1 d2 d3 d4 BK6 hdr)
        | (refine step_append_row rfl (.tmp 20) (.tmp 22) 22 39 rfl i0 _ 3 40 Try.underlying22 HI0.out HZ0.out HZ1.out HZ2.out rfl (by decide) V6 (0 + L) ([] ++ l.flatMap msgCells) rfl (by first | exact HO6.out | exact ownsRowF_below HO6.out (below_alloc _ _)) _ 1 1 (msgCells (K, kk, v)) rfl rfl (by first | exact RW6.out | exact row_new w6 #[.int .i64 K, .string kk, .string v] _) (by intro u hu; simp only [msgCells, List.mem_cons, List.not_mem_nil, or_false] at hu; rcases hu with rfl | rfl | rfl <;> rfl) (by have := HL200.out; have := HL.out; simp only [maxLen]; omega) (by have := HL200.out; have := HL.out; omega) ?_
           intro V7 w7 hown7 hkp7 hvb7
           have HB7 : Hid (Below w.heap.size w w7 ∧ Blk w7 g 39 [.int .i64 K, .string kk, .string v]) := ⟨Keeps.below (by first | exact HB6.out | exact bt HB6.out (below_alloc _ _)) hkp7 (fun x hx => by have := HV6.out x (Option.mem_toList.1 hx); have := HD.out.2.2.2; omega), Blk.keeps (by first | exact HBK6.out | exact HBK6.out.belowS (below_alloc _ _)) hkp7 (fun h => by have := HV6.out g (Option.mem_toList.1 h); have := HD.out.2.2.1; omega)⟩
           obtain ⟨A7, cap7, rfl, hr7⟩ := ownsRowF_row hown7
           have HC7 := hid (rec_Count_any A7 cap7 (l ++ [(K, kk, v)]) (by have := HL200.out; simp; omega) w7 (by rw [List.flatMap_append]; simpa using hr7))
           clear hown7 hkp7 hvb7 hr7)
        | (rw [if_pos (by rfl)]
           go_simp
           have hlq : (l ++ [(K, kk, v)]).length = L + 1 := by have := HL.out; simp; omega
           rw [hlq] at HC7
           rw [← HKK.out] at HC7
           refine HC7.out.mono ?_; rintro e w8 ⟨rfl, hb8⟩))
      all_goals
        have H8 := hid (show Below w.heap.size w w8 ∧ Blk w8 g 39 [.int .i64 K, .string kk, .string v] from ⟨bt HB7.out.1 hb8, HB7.out.2.belowS hb8⟩)
        clear hb8 HB7 HC7 HB6 HBK6 HV6 HO6 hlq z0 z1 z2
        have z0 : w8.cell? ⟨g, 0, none⟩ = some (.int .i64 K) := H8.out.2.at rfl
        have z1 : w8.cell? ⟨g, 1, none⟩ = some (.string kk) := H8.out.2.at rfl
        have z2 : w8.cell? ⟨g, 2, none⟩ = some (.string v) := H8.out.2.at rfl
        have hp := grows_plain l (K, kk, v)
        rw [← HKK.out, ← HN.out] at hp
        obtain ⟨f, hf⟩ : ∃ f, f = msgIs K kk v := ⟨_, rfl⟩
        rw [show isB (K, kk, v) = f from hf.symm] at hp
        have HF := hid hf; clear hf
        cases f with
        | false =>
          have hkn := hp.1 rfl
          subst hkn
          clear hp
          go_wp2_with fail
          refine (msg_Is_any K kk v _).mono ?_; rintro e w9 ⟨rfl, hb9⟩; rw [← HF.out]
          have HB9 := hid (bt H8.out.1 hb9); clear hb9 z0 z1 z2
          go_wp2_with fail
          go_ret
          exact ⟨rfl, HB9.out⟩
        | true =>
          obtain ⟨hkn, hk1, hk2⟩ := hp.2 rfl
          clear hp
          have hL := HL.out; have hl2 := HL200.out
          rw [← hL] at hk2 hl2
          obtain ⟨q, hq⟩ : ∃ q, q = (L + 8) / 8 := ⟨_, rfl⟩
          rw [← hq] at hk2
          have e2 : IntKind.i64.wrap ((L : Int) + 8) = (L : Int) + 8 := by rw [IntKind.wrap_i64]; omega
          have e3 : IntKind.i64.wrap (((L : Int) + 8).tdiv 8) = (q : Int) := by
            rw [Int.tdiv_eq_ediv_of_nonneg (by omega), IntKind.wrap_i64]; omega
          have e4 : (1 : Int) ≤ (k : Int) := by omega
          have e5 : (k : Int) ≤ (q : Int) := by omega
          have e1 : IntKind.i64.wrap ((n : Int) + 1) = (n : Int) + 1 := by rw [IntKind.wrap_i64]; omega
          clear hL hl2 hq hk1 hk2
          rcases hkn with hkn | hkn
          · subst hkn
            go_wp2_with fail
            refine (msg_Is_any K kk v _).mono ?_; rintro e w9 ⟨rfl, hb9⟩; rw [← HF.out]
            have HB9 := hid (bt H8.out.1 hb9); clear hb9 z0 z1 z2
            go_wp2_with fail
            go_ret
            exact ⟨rfl, HB9.out⟩
          · have hne : ¬ (k : Int) = (n : Int) := by omega
            have heq : (k : Int) = (n : Int) + 1 := by omega
            have e6 : (n : Int) + 1 ≤ (q : Int) := by omega
            clear hkn
            go_wp2_with fail
            refine (msg_Is_any K kk v _).mono ?_; rintro e w9 ⟨rfl, hb9⟩; rw [← HF.out]
            have HB9 := hid (bt H8.out.1 hb9); clear hb9 z0 z1 z2
            go_wp2_with fail
            go_ret
            first | exact ⟨rfl, HB9.out⟩ | exact ⟨ret_bool (decide_eq_true e6), HB9.out⟩
end Go.Proofs.Ytjeoelhenlckaaa
