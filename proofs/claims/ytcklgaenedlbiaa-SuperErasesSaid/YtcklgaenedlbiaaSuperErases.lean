/-
  SuperErases: walked.
-/
import Derived.Test.YtcklgaenedlbiaaSuperLaid
import Derived.Test.YtcklgaenedlbiaaSuperSaves
namespace Go.Proofs.Ytcklgaenedlbiaa
open Go.RowKit Go.Sort

section
variable {P : Program} {ops : Array Oper} {o : Oper} {a : Act} {w : World} {K : Act → World → Prop} {Q : Exit → Act → World → Prop} {E : Prop}
theorem step_make (hg : o.guard = none) (l c : Operand) (t : TypeId) (hop : o.op = Op.makeSlice t l c)
    (e : TypeId) (i : TypeInfo) (z : Value) (h1 : P.underlying t = some (.slice e)) (h2 : P.info? e = some i) (h3 : i.zero = some z) (h4 : i.size = 1) (hz1 : z.cells = #[z])
    (kl kc : IntKind) (L C : Int) (n : Nat) (hl : a.eval l = .int kl L) (hc : a.eval c = .int kc C) (hL : L = (n : Int)) (hC : C = (n : Int)) (b2 : (i.bytes : Int) * (n : Int) ≤ 281474976710656) (b3 : (n : Int) ≤ 9223372036854775807)
    (hK : ∀ w', Blk w' w.heap.size e (List.replicate n z) → Below w.heap.size w w' → K (a.put o.dst (.slice (some ⟨w.heap.size, 0, none⟩) n n)) w') :
    if Region.wanted o (yielded ops a.tmps) = true then Oper.wp P o a w K Q else E := by
  rw [if_pos (by simp [Region.wanted, hg])]
  have hr := run_make (P := P) w t e i z h1 h2 h3 kl kc n n (by omega) (Int.le_refl _) b2 b3
  simp only [Int.toNat_natCast, h4, Nat.mul_one, hz1] at hr
  subst hL hC
  unfold Oper.wp
  simp only [execOp, hop, hl, hc, Sem.run_bind, hr, Result.andThen, Sem.run_pure]
  refine hK _ ?_ (below_alloc _ _)
  have := Blk.new w (madeCells #[z] n) e
  rwa [toList_madeCells_one] at this
theorem step_string (hg : o.guard = none) (src dst e : TypeId) (x : Operand) (ho : o.op = .convert src dst x) (A : Addr) (n cap : Nat) (l : List UInt8) (hx : a.eval x = .slice (some A) n cap) (hn : n = l.length)
    (hs : P.underlying src = some (.slice e)) (he : P.underlying e = some (.int .u8)) (hd : P.underlying dst = some .string)
    (hc : ∀ j (hj : j < l.length), w.cell? (A.add j) = some (.int .u8 (l[j].toNat : Int)))
    (h : K (a.put o.dst (.string ⟨l.toArray⟩)) w) : if Region.wanted o (yielded ops a.tmps) = true then Oper.wp P o a w K Q else E := by
  rw [if_pos (by simp [Region.wanted, hg])]
  subst hn
  unfold Oper.wp
  simp only [execOp, ho, hx, Sem.run_bind, run_convert_bytes_back w src dst e A cap l hs he hd hc, Result.andThen, Sem.run_pure]
  exact h
theorem cut_region {c : Code} (R : Act → Act → World → Prop) (h1 : c.wp P (fun e a' w' => e = .normal ∧ R a a' w') a w) (h2 : ∀ a' w', R a a' w' → Q .normal a' w') : c.wp P Q a w :=
  Code.wp_mono (fun e a' w' h => by rw [h.1]; exact h2 a' w' h.2) h1
end
def laidA (a : Act) (v22 v24 : Value) (p : Nat) : Act :=
  (((((((((a.put (some 22) v22).put (some 23) (.string zeros256)).put (some 24) v24).put (some 25) (.string zeros256)).put (some 26) (.tuple #[.pointer (some ⟨p, 0, none⟩), .bool true])).put (some 21) (.tuple #[.pointer (some ⟨p, 0, none⟩), .bool true])).put (some 27) (.pointer (some ⟨p, 0, none⟩))).put (some 28) (.bool true)).put (some 9) (.pointer (some ⟨p, 0, none⟩))).put (some 10) (.bool true)

theorem erase_round {d : Dv} (h : Still 64 d) (he : (best2 64 (blkL d.safe)).epoch ≠ 0) (keep : List Bool) :
    ∃ c d2, eraseV d 64 = (c, d2) ∧ Still 64 (again d2 keep) ∧ (again d2 keep).room ≤ d.room + 8 ∧
      ((c = 0 ∧ best2 64 (blkL (again d2 keep).safe) = zeroSup) ∨ (c = 4 ∧ (best2 64 (blkL (again d2 keep).safe) = zeroSup ∨ best2 64 (blkL (again d2 keep).safe) = best2 64 (blkL d.safe)))) := by
  have hr := eraseV_room d 64
  have hr2 := again_room (eraseV d 64).2 keep
  rcases eraseV_still h (by decide) with ⟨c, st, hb⟩ | ⟨c, st, _, hb⟩
  · obtain ⟨a1, a2, a3⟩ := st.again keep
    exact ⟨0, (eraseV d 64).2, Prod.ext c rfl, a1, by omega, .inl ⟨rfl, by rw [a3]; exact hb⟩⟩
  · obtain ⟨a1, a2, a3⟩ := st.again keep
    exact ⟨4, (eraseV d 64).2, Prod.ext c rfl, a1, by omega, .inr ⟨rfl, by rw [a3]; exact hb he⟩⟩
theorem save_plain {d : Dv} {s : Sup} (h : Still 64 d) (hf : d.fuse < 0) (hg : goodB s = true) (hb : s.blocks = 64) :
    ∃ d2, saveV d 64 s = (0, d2) ∧ Still 64 d2 ∧ d2.fuse < 0 ∧ d2.room ≤ d.room + 6 ∧ (∀ i, i < 64 → i ≠ placeOf s → blkL d2.safe i = blkL d.safe i) ∧ blkL d2.safe (placeOf s) = (superLayV s).1.data.toList := by
  have hr := saveV_room d 64 s
  rcases saveV_still h (by decide) hg hb with ⟨c, st, f, _, o, w⟩ | ⟨_, _, hh, _⟩
  · exact ⟨_, Prod.ext c rfl, st, f hf, hr, o, w⟩
  · exfalso; omega
theorem laid_none : ∀ i, i < 2 → Bad (blkL (laidV zeros256 zeros256).safe i) := by
  obtain ⟨_, _, h0, h1, _⟩ := laid_still zeros256_size zeros256_size
  intro i hi
  have : i = 0 ∨ i = 1 := by omega
  rcases this with rfl | rfl
  · rw [h0, zeros256_list]; exact bad_zeros
  · rw [h1, zeros256_list]; exact bad_zeros

set_option maxHeartbeats 32000000 in
set_option maxRecDepth 100000 in
theorem superErases_walk (x y : Sup) (fu : Int) (KA : Option Addr) (kcap : Nat) (keep : List Bool) (w : World) (hkr : Row w KA (bools keep)) :
    Calls Try.prog 5 #[.agg x.vals, .agg y.vals, .int .i64 fu, .slice KA keep.length kcap] w fun e w' => e = .returned (.bool true) ∧ Below w.heap.size w w' := by
  have HKR := hid hkr
  clear hkr
  obtain ⟨xB, xE, xR, xF, xN, xI, xW⟩ := x
  obtain ⟨yB, yE, yR, yF, yN, yI, yW⟩ := y
  simp only [Sup.vals]
  have HB0 := hid (show R0 ((w.alloc (.cells #[.int .i64 xB, .int .i64 xE, .int .i64 xR, .int .i64 xF, .int .i64 xN, .int .i64 xI, .int .i64 xW] 60)).alloc (.cells #[.int .i64 yB, .int .i64 yE, .int .i64 yR, .int .i64 yF, .int .i64 yN, .int .i64 yI, .int .i64 yW] 60)) w.heap.size 60 #[.int .i64 xB, .int .i64 xE, .int .i64 xR, .int .i64 xF, .int .i64 xN, .int .i64 xI, .int .i64 xW] ∧ R0 ((w.alloc (.cells #[.int .i64 xB, .int .i64 xE, .int .i64 xR, .int .i64 xF, .int .i64 xN, .int .i64 xI, .int .i64 xW] 60)).alloc (.cells #[.int .i64 yB, .int .i64 yE, .int .i64 yR, .int .i64 yF, .int .i64 yN, .int .i64 yI, .int .i64 yW] 60)) (w.heap.size + 1) 60 #[.int .i64 yB, .int .i64 yE, .int .i64 yR, .int .i64 yF, .int .i64 yN, .int .i64 yI, .int .i64 yW] ∧ Below w.heap.size w ((w.alloc (.cells #[.int .i64 xB, .int .i64 xE, .int .i64 xR, .int .i64 xF, .int .i64 xN, .int .i64 xI, .int .i64 xW] 60)).alloc (.cells #[.int .i64 yB, .int .i64 yE, .int .i64 yR, .int .i64 yF, .int .i64 yN, .int .i64 yI, .int .i64 yW] 60)) from by
    have b1 := below_alloc w (.cells #[.int .i64 xB, .int .i64 xE, .int .i64 xR, .int .i64 xF, .int .i64 xN, .int .i64 xI, .int .i64 xW] 60)
    have b2 := below_alloc (w.alloc (.cells #[.int .i64 xB, .int .i64 xE, .int .i64 xR, .int .i64 xF, .int .i64 xN, .int .i64 xI, .int .i64 xW] 60)) (.cells #[.int .i64 yB, .int .i64 yE, .int .i64 yR, .int .i64 yF, .int .i64 yN, .int .i64 yI, .int .i64 yW] 60)
    have h1 : R0 (w.alloc (.cells #[.int .i64 xB, .int .i64 xE, .int .i64 xR, .int .i64 xF, .int .i64 xN, .int .i64 xI, .int .i64 xW] 60)) w.heap.size 60 #[.int .i64 xB, .int .i64 xE, .int .i64 xR, .int .i64 xF, .int .i64 xN, .int .i64 xI, .int .i64 xW] := heap_alloc_new w _
    refine ⟨h1.belowS b2, ?_, bt b1 b2⟩
    have := heap_alloc_new (w.alloc (.cells #[.int .i64 xB, .int .i64 xE, .int .i64 xR, .int .i64 xF, .int .i64 xN, .int .i64 xI, .int .i64 xW] 60)) (.cells #[.int .i64 yB, .int .i64 yE, .int .i64 yR, .int .i64 yF, .int .i64 yN, .int .i64 yI, .int .i64 yW] 60)
    rwa [show (w.alloc (.cells #[.int .i64 xB, .int .i64 xE, .int .i64 xR, .int .i64 xF, .int .i64 xN, .int .i64 xI, .int .i64 xW] 60)).heap.size = w.heap.size + 1 by simp] at this)
  by_cases h40 : 40 < keep.length
  · have h40' : (40 : Int) < (keep.length : Int) := by omega
    go_enter Try.func5, Try.ntmps5
    go_wp2_with fail
    refine (awake21_any _).mono ?_; rintro ee w1 ⟨rfl, hb1⟩
    have H1 := hid (bt HB0.out.2.2 hb1); clear hb1
    go_wp2_with fail
    go_ret
    exact ⟨rfl, H1.out⟩
  have h40' : ¬ (40 : Int) < (keep.length : Int) := by omega
  obtain ⟨i0, hi0, hz0, hz1, hz2⟩ := info_parts info_byte
  have HI0 := hid hi0; have HZ0 := hid hz0; have HZ1 := hid hz1; have HZ2 := hid hz2
  clear hi0 hz0 hz1 hz2
  obtain ⟨m, hm, hml⟩ := umod fu 6 (by decide)
  have e2 : IntKind.i64.wrap (m : Int) = (m : Int) := by rw [IntKind.wrap_i64]; omega
  go_enter Try.func5, Try.ntmps5
  go_wp2_with fail
  refine (awake21_any _).mono ?_; rintro ee w1 ⟨rfl, hb1⟩
  have H1 := hid (And.intro (bt HB0.out.2.2 hb1) (And.intro (HB0.out.1.belowS hb1) (HB0.out.2.1.belowS hb1))); clear hb1 HB0
  go_wp2_with fail
  refine cut_region (fun a a' w' => ∃ v22 v24 p F, a' = laidA a v22 v24 p ∧ Dev w w' p 64 (laidV zeros256 zeros256) F ∧ Below w1.heap.size w1 w' ∧ ∀ k, k ∈ F → w1.heap.size ≤ k) ?_ ?_
  · refine wp_region_any (by kernel_rfl) ?_
    have hbel : Below w1.heap.size w1 w1.drew := (Below.refl _ _).drew
    refine wpAny_all (rs := [0,2]) (fuel := 9) (by kernel_rfl) (by simp) ?_
    intro ix hix
    obtain rfl | rfl : ix = 0 ∨ ix = 2 := by simpa using hix
    · clear hix
      refine wpOp_step rfl (fun KK hKK => ?_)
      refine step_make rfl _ _ 63 rfl 5 i0 (.int .u8 0) Try.underlying63 HI0.out HZ0.out HZ1.out rfl .i64 .i64 256 256 256 rfl rfl rfl rfl (by rw [HZ2.out]; decide) (by decide) ?_
      intro wq1 hB0 hb
      refine hKK _ _ ?_
      clear hKK KK
      have hbel := bt hbel hb
      clear hb
      refine wpAny_all (rs := [1,2]) (fuel := 8) (by kernel_rfl) (by simp) ?_
      intro ix hix
      obtain rfl | rfl : ix = 1 ∨ ix = 2 := by simpa using hix
      · clear hix
        refine wpOp_step rfl (fun KK hKK => ?_)
        refine step_string rfl _ _ 5 _ rfl ⟨_, 0, none⟩ 256 256 (List.replicate 256 0) rfl (by rw [List.length_replicate]) Try.underlying63 Try.underlying5 Try.underlying9 (fun j hj => Blk.bytes' (l := List.replicate 256 0) (by simpa [u8s] using hB0) j hj) ?_
        refine hKK _ _ ?_
        clear hKK KK
        refine wpAny_all (rs := [2]) (fuel := 7) (by kernel_rfl) (by simp) ?_
        intro ix hix
        obtain rfl : ix = 2 := by simpa using hix
        clear hix
        refine wpOp_step rfl (fun KK hKK => ?_)
        refine step_make rfl _ _ 63 rfl 5 i0 (.int .u8 0) Try.underlying63 HI0.out HZ0.out HZ1.out rfl .i64 .i64 256 256 256 rfl rfl rfl rfl (by rw [HZ2.out]; decide) (by decide) ?_
        intro wq3 hB2 hb
        refine hKK _ _ ?_
        clear hKK KK
        have hbel := bt hbel hb
        replace hB0 := hB0.belowS hb
        clear hb
        refine wpAny_all (rs := [3]) (fuel := 6) (by kernel_rfl) (by simp) ?_
        intro ix hix
        obtain rfl : ix = 3 := by simpa using hix
        clear hix
        refine wpOp_step rfl (fun KK hKK => ?_)
        refine step_string rfl _ _ 5 _ rfl ⟨_, 0, none⟩ 256 256 (List.replicate 256 0) rfl (by rw [List.length_replicate]) Try.underlying63 Try.underlying5 Try.underlying9 (fun j hj => Blk.bytes' (l := List.replicate 256 0) (by simpa [u8s] using hB2) j hj) ?_
        refine hKK _ _ ?_
        clear hKK KK
        refine wpAny_all (rs := [4]) (fuel := 5) (by kernel_rfl) (by simp) ?_
        intro ix hix
        obtain rfl : ix = 4 := by simpa using hix
        clear hix
        refine wpOp_step rfl (fun KK hKK => ?_)
        rw [if_pos (by rfl)]
        go_simp
        refine (law21_laid (w0 := w) (bt H1.out.1 hbel) zeros256 zeros256 zeros256_size zeros256_size).mono ?_; rintro ee wl ⟨p, F, rfl, hD, hbl, hFl⟩
        refine hKK _ _ ?_
        clear hKK KK
        refine wpAny_take (i := 5) (v := _) (fuel := 4) rfl (by kernel_rfl) (by kernel_rfl) (by kernel_rfl) (fun _ _ _ h => by cases h.1) (Or.inl ⟨by rfl, fun w => rfl⟩) ?_
        refine wpAny_take (i := 6) (v := _) (fuel := 3) rfl (by kernel_rfl) (by kernel_rfl) (by kernel_rfl) (fun _ _ _ h => by cases h.1) (Or.inl ⟨by rfl, fun w => rfl⟩) ?_
        refine wpAny_take (i := 7) (v := _) (fuel := 2) rfl (by kernel_rfl) (by kernel_rfl) (by kernel_rfl) (fun _ _ _ h => by cases h.1) (Or.inl ⟨by rfl, fun w => rfl⟩) ?_
        refine wpAny_take (i := 8) (v := _) (fuel := 1) rfl (by kernel_rfl) (by kernel_rfl) (by kernel_rfl) (fun _ _ _ h => by cases h.1) (Or.inl ⟨by rfl, fun w => rfl⟩) ?_
        refine wpAny_take (i := 9) (v := _) (fuel := 0) rfl (by kernel_rfl) (by kernel_rfl) (by kernel_rfl) (fun _ _ _ h => by cases h.1) (Or.inl ⟨by rfl, fun w => rfl⟩) ?_
        exact wpAny_done (by kernel_rfl) ⟨rfl, _, _, p, F, rfl, hD, bt hbel hbl, fun k hk => Nat.le_trans hbel.size (hFl k hk)⟩ _
      · clear hix
        refine wpOp_step rfl (fun KK hKK => ?_)
        refine step_make rfl _ _ 63 rfl 5 i0 (.int .u8 0) Try.underlying63 HI0.out HZ0.out HZ1.out rfl .i64 .i64 256 256 256 rfl rfl rfl rfl (by rw [HZ2.out]; decide) (by decide) ?_
        intro wq6 hB2 hb
        refine hKK _ _ ?_
        clear hKK KK
        have hbel := bt hbel hb
        replace hB0 := hB0.belowS hb
        clear hb
        refine wpAny_all (rs := [1,3]) (fuel := 7) (by kernel_rfl) (by simp) ?_
        intro ix hix
        obtain rfl | rfl : ix = 1 ∨ ix = 3 := by simpa using hix
        · clear hix
          refine wpOp_step rfl (fun KK hKK => ?_)
          refine step_string rfl _ _ 5 _ rfl ⟨_, 0, none⟩ 256 256 (List.replicate 256 0) rfl (by rw [List.length_replicate]) Try.underlying63 Try.underlying5 Try.underlying9 (fun j hj => Blk.bytes' (l := List.replicate 256 0) (by simpa [u8s] using hB0) j hj) ?_
          refine hKK _ _ ?_
          clear hKK KK
          refine wpAny_all (rs := [3]) (fuel := 6) (by kernel_rfl) (by simp) ?_
          intro ix hix
          obtain rfl : ix = 3 := by simpa using hix
          clear hix
          refine wpOp_step rfl (fun KK hKK => ?_)
          refine step_string rfl _ _ 5 _ rfl ⟨_, 0, none⟩ 256 256 (List.replicate 256 0) rfl (by rw [List.length_replicate]) Try.underlying63 Try.underlying5 Try.underlying9 (fun j hj => Blk.bytes' (l := List.replicate 256 0) (by simpa [u8s] using hB2) j hj) ?_
          refine hKK _ _ ?_
          clear hKK KK
          refine wpAny_all (rs := [4]) (fuel := 5) (by kernel_rfl) (by simp) ?_
          intro ix hix
          obtain rfl : ix = 4 := by simpa using hix
          clear hix
          refine wpOp_step rfl (fun KK hKK => ?_)
          rw [if_pos (by rfl)]
          go_simp
          refine (law21_laid (w0 := w) (bt H1.out.1 hbel) zeros256 zeros256 zeros256_size zeros256_size).mono ?_; rintro ee wl ⟨p, F, rfl, hD, hbl, hFl⟩
          refine hKK _ _ ?_
          clear hKK KK
          refine wpAny_take (i := 5) (v := _) (fuel := 4) rfl (by kernel_rfl) (by kernel_rfl) (by kernel_rfl) (fun _ _ _ h => by cases h.1) (Or.inl ⟨by rfl, fun w => rfl⟩) ?_
          refine wpAny_take (i := 6) (v := _) (fuel := 3) rfl (by kernel_rfl) (by kernel_rfl) (by kernel_rfl) (fun _ _ _ h => by cases h.1) (Or.inl ⟨by rfl, fun w => rfl⟩) ?_
          refine wpAny_take (i := 7) (v := _) (fuel := 2) rfl (by kernel_rfl) (by kernel_rfl) (by kernel_rfl) (fun _ _ _ h => by cases h.1) (Or.inl ⟨by rfl, fun w => rfl⟩) ?_
          refine wpAny_take (i := 8) (v := _) (fuel := 1) rfl (by kernel_rfl) (by kernel_rfl) (by kernel_rfl) (fun _ _ _ h => by cases h.1) (Or.inl ⟨by rfl, fun w => rfl⟩) ?_
          refine wpAny_take (i := 9) (v := _) (fuel := 0) rfl (by kernel_rfl) (by kernel_rfl) (by kernel_rfl) (fun _ _ _ h => by cases h.1) (Or.inl ⟨by rfl, fun w => rfl⟩) ?_
          exact wpAny_done (by kernel_rfl) ⟨rfl, _, _, p, F, rfl, hD, bt hbel hbl, fun k hk => Nat.le_trans hbel.size (hFl k hk)⟩ _
        · clear hix
          refine wpOp_step rfl (fun KK hKK => ?_)
          refine step_string rfl _ _ 5 _ rfl ⟨_, 0, none⟩ 256 256 (List.replicate 256 0) rfl (by rw [List.length_replicate]) Try.underlying63 Try.underlying5 Try.underlying9 (fun j hj => Blk.bytes' (l := List.replicate 256 0) (by simpa [u8s] using hB2) j hj) ?_
          refine hKK _ _ ?_
          clear hKK KK
          refine wpAny_all (rs := [1]) (fuel := 6) (by kernel_rfl) (by simp) ?_
          intro ix hix
          obtain rfl : ix = 1 := by simpa using hix
          clear hix
          refine wpOp_step rfl (fun KK hKK => ?_)
          refine step_string rfl _ _ 5 _ rfl ⟨_, 0, none⟩ 256 256 (List.replicate 256 0) rfl (by rw [List.length_replicate]) Try.underlying63 Try.underlying5 Try.underlying9 (fun j hj => Blk.bytes' (l := List.replicate 256 0) (by simpa [u8s] using hB0) j hj) ?_
          refine hKK _ _ ?_
          clear hKK KK
          refine wpAny_all (rs := [4]) (fuel := 5) (by kernel_rfl) (by simp) ?_
          intro ix hix
          obtain rfl : ix = 4 := by simpa using hix
          clear hix
          refine wpOp_step rfl (fun KK hKK => ?_)
          rw [if_pos (by rfl)]
          go_simp
          refine (law21_laid (w0 := w) (bt H1.out.1 hbel) zeros256 zeros256 zeros256_size zeros256_size).mono ?_; rintro ee wl ⟨p, F, rfl, hD, hbl, hFl⟩
          refine hKK _ _ ?_
          clear hKK KK
          refine wpAny_take (i := 5) (v := _) (fuel := 4) rfl (by kernel_rfl) (by kernel_rfl) (by kernel_rfl) (fun _ _ _ h => by cases h.1) (Or.inl ⟨by rfl, fun w => rfl⟩) ?_
          refine wpAny_take (i := 6) (v := _) (fuel := 3) rfl (by kernel_rfl) (by kernel_rfl) (by kernel_rfl) (fun _ _ _ h => by cases h.1) (Or.inl ⟨by rfl, fun w => rfl⟩) ?_
          refine wpAny_take (i := 7) (v := _) (fuel := 2) rfl (by kernel_rfl) (by kernel_rfl) (by kernel_rfl) (fun _ _ _ h => by cases h.1) (Or.inl ⟨by rfl, fun w => rfl⟩) ?_
          refine wpAny_take (i := 8) (v := _) (fuel := 1) rfl (by kernel_rfl) (by kernel_rfl) (by kernel_rfl) (fun _ _ _ h => by cases h.1) (Or.inl ⟨by rfl, fun w => rfl⟩) ?_
          refine wpAny_take (i := 9) (v := _) (fuel := 0) rfl (by kernel_rfl) (by kernel_rfl) (by kernel_rfl) (fun _ _ _ h => by cases h.1) (Or.inl ⟨by rfl, fun w => rfl⟩) ?_
          exact wpAny_done (by kernel_rfl) ⟨rfl, _, _, p, F, rfl, hD, bt hbel hbl, fun k hk => Nat.le_trans hbel.size (hFl k hk)⟩ _
    · clear hix
      refine wpOp_step rfl (fun KK hKK => ?_)
      refine step_make rfl _ _ 63 rfl 5 i0 (.int .u8 0) Try.underlying63 HI0.out HZ0.out HZ1.out rfl .i64 .i64 256 256 256 rfl rfl rfl rfl (by rw [HZ2.out]; decide) (by decide) ?_
      intro wq13 hB2 hb
      refine hKK _ _ ?_
      clear hKK KK
      have hbel := bt hbel hb
      clear hb
      refine wpAny_all (rs := [0,3]) (fuel := 8) (by kernel_rfl) (by simp) ?_
      intro ix hix
      obtain rfl | rfl : ix = 0 ∨ ix = 3 := by simpa using hix
      · clear hix
        refine wpOp_step rfl (fun KK hKK => ?_)
        refine step_make rfl _ _ 63 rfl 5 i0 (.int .u8 0) Try.underlying63 HI0.out HZ0.out HZ1.out rfl .i64 .i64 256 256 256 rfl rfl rfl rfl (by rw [HZ2.out]; decide) (by decide) ?_
        intro wq14 hB0 hb
        refine hKK _ _ ?_
        clear hKK KK
        have hbel := bt hbel hb
        replace hB2 := hB2.belowS hb
        clear hb
        refine wpAny_all (rs := [1,3]) (fuel := 7) (by kernel_rfl) (by simp) ?_
        intro ix hix
        obtain rfl | rfl : ix = 1 ∨ ix = 3 := by simpa using hix
        · clear hix
          refine wpOp_step rfl (fun KK hKK => ?_)
          refine step_string rfl _ _ 5 _ rfl ⟨_, 0, none⟩ 256 256 (List.replicate 256 0) rfl (by rw [List.length_replicate]) Try.underlying63 Try.underlying5 Try.underlying9 (fun j hj => Blk.bytes' (l := List.replicate 256 0) (by simpa [u8s] using hB0) j hj) ?_
          refine hKK _ _ ?_
          clear hKK KK
          refine wpAny_all (rs := [3]) (fuel := 6) (by kernel_rfl) (by simp) ?_
          intro ix hix
          obtain rfl : ix = 3 := by simpa using hix
          clear hix
          refine wpOp_step rfl (fun KK hKK => ?_)
          refine step_string rfl _ _ 5 _ rfl ⟨_, 0, none⟩ 256 256 (List.replicate 256 0) rfl (by rw [List.length_replicate]) Try.underlying63 Try.underlying5 Try.underlying9 (fun j hj => Blk.bytes' (l := List.replicate 256 0) (by simpa [u8s] using hB2) j hj) ?_
          refine hKK _ _ ?_
          clear hKK KK
          refine wpAny_all (rs := [4]) (fuel := 5) (by kernel_rfl) (by simp) ?_
          intro ix hix
          obtain rfl : ix = 4 := by simpa using hix
          clear hix
          refine wpOp_step rfl (fun KK hKK => ?_)
          rw [if_pos (by rfl)]
          go_simp
          refine (law21_laid (w0 := w) (bt H1.out.1 hbel) zeros256 zeros256 zeros256_size zeros256_size).mono ?_; rintro ee wl ⟨p, F, rfl, hD, hbl, hFl⟩
          refine hKK _ _ ?_
          clear hKK KK
          refine wpAny_take (i := 5) (v := _) (fuel := 4) rfl (by kernel_rfl) (by kernel_rfl) (by kernel_rfl) (fun _ _ _ h => by cases h.1) (Or.inl ⟨by rfl, fun w => rfl⟩) ?_
          refine wpAny_take (i := 6) (v := _) (fuel := 3) rfl (by kernel_rfl) (by kernel_rfl) (by kernel_rfl) (fun _ _ _ h => by cases h.1) (Or.inl ⟨by rfl, fun w => rfl⟩) ?_
          refine wpAny_take (i := 7) (v := _) (fuel := 2) rfl (by kernel_rfl) (by kernel_rfl) (by kernel_rfl) (fun _ _ _ h => by cases h.1) (Or.inl ⟨by rfl, fun w => rfl⟩) ?_
          refine wpAny_take (i := 8) (v := _) (fuel := 1) rfl (by kernel_rfl) (by kernel_rfl) (by kernel_rfl) (fun _ _ _ h => by cases h.1) (Or.inl ⟨by rfl, fun w => rfl⟩) ?_
          refine wpAny_take (i := 9) (v := _) (fuel := 0) rfl (by kernel_rfl) (by kernel_rfl) (by kernel_rfl) (fun _ _ _ h => by cases h.1) (Or.inl ⟨by rfl, fun w => rfl⟩) ?_
          exact wpAny_done (by kernel_rfl) ⟨rfl, _, _, p, F, rfl, hD, bt hbel hbl, fun k hk => Nat.le_trans hbel.size (hFl k hk)⟩ _
        · clear hix
          refine wpOp_step rfl (fun KK hKK => ?_)
          refine step_string rfl _ _ 5 _ rfl ⟨_, 0, none⟩ 256 256 (List.replicate 256 0) rfl (by rw [List.length_replicate]) Try.underlying63 Try.underlying5 Try.underlying9 (fun j hj => Blk.bytes' (l := List.replicate 256 0) (by simpa [u8s] using hB2) j hj) ?_
          refine hKK _ _ ?_
          clear hKK KK
          refine wpAny_all (rs := [1]) (fuel := 6) (by kernel_rfl) (by simp) ?_
          intro ix hix
          obtain rfl : ix = 1 := by simpa using hix
          clear hix
          refine wpOp_step rfl (fun KK hKK => ?_)
          refine step_string rfl _ _ 5 _ rfl ⟨_, 0, none⟩ 256 256 (List.replicate 256 0) rfl (by rw [List.length_replicate]) Try.underlying63 Try.underlying5 Try.underlying9 (fun j hj => Blk.bytes' (l := List.replicate 256 0) (by simpa [u8s] using hB0) j hj) ?_
          refine hKK _ _ ?_
          clear hKK KK
          refine wpAny_all (rs := [4]) (fuel := 5) (by kernel_rfl) (by simp) ?_
          intro ix hix
          obtain rfl : ix = 4 := by simpa using hix
          clear hix
          refine wpOp_step rfl (fun KK hKK => ?_)
          rw [if_pos (by rfl)]
          go_simp
          refine (law21_laid (w0 := w) (bt H1.out.1 hbel) zeros256 zeros256 zeros256_size zeros256_size).mono ?_; rintro ee wl ⟨p, F, rfl, hD, hbl, hFl⟩
          refine hKK _ _ ?_
          clear hKK KK
          refine wpAny_take (i := 5) (v := _) (fuel := 4) rfl (by kernel_rfl) (by kernel_rfl) (by kernel_rfl) (fun _ _ _ h => by cases h.1) (Or.inl ⟨by rfl, fun w => rfl⟩) ?_
          refine wpAny_take (i := 6) (v := _) (fuel := 3) rfl (by kernel_rfl) (by kernel_rfl) (by kernel_rfl) (fun _ _ _ h => by cases h.1) (Or.inl ⟨by rfl, fun w => rfl⟩) ?_
          refine wpAny_take (i := 7) (v := _) (fuel := 2) rfl (by kernel_rfl) (by kernel_rfl) (by kernel_rfl) (fun _ _ _ h => by cases h.1) (Or.inl ⟨by rfl, fun w => rfl⟩) ?_
          refine wpAny_take (i := 8) (v := _) (fuel := 1) rfl (by kernel_rfl) (by kernel_rfl) (by kernel_rfl) (fun _ _ _ h => by cases h.1) (Or.inl ⟨by rfl, fun w => rfl⟩) ?_
          refine wpAny_take (i := 9) (v := _) (fuel := 0) rfl (by kernel_rfl) (by kernel_rfl) (by kernel_rfl) (fun _ _ _ h => by cases h.1) (Or.inl ⟨by rfl, fun w => rfl⟩) ?_
          exact wpAny_done (by kernel_rfl) ⟨rfl, _, _, p, F, rfl, hD, bt hbel hbl, fun k hk => Nat.le_trans hbel.size (hFl k hk)⟩ _
      · clear hix
        refine wpOp_step rfl (fun KK hKK => ?_)
        refine step_string rfl _ _ 5 _ rfl ⟨_, 0, none⟩ 256 256 (List.replicate 256 0) rfl (by rw [List.length_replicate]) Try.underlying63 Try.underlying5 Try.underlying9 (fun j hj => Blk.bytes' (l := List.replicate 256 0) (by simpa [u8s] using hB2) j hj) ?_
        refine hKK _ _ ?_
        clear hKK KK
        refine wpAny_all (rs := [0]) (fuel := 7) (by kernel_rfl) (by simp) ?_
        intro ix hix
        obtain rfl : ix = 0 := by simpa using hix
        clear hix
        refine wpOp_step rfl (fun KK hKK => ?_)
        refine step_make rfl _ _ 63 rfl 5 i0 (.int .u8 0) Try.underlying63 HI0.out HZ0.out HZ1.out rfl .i64 .i64 256 256 256 rfl rfl rfl rfl (by rw [HZ2.out]; decide) (by decide) ?_
        intro wq22 hB0 hb
        refine hKK _ _ ?_
        clear hKK KK
        have hbel := bt hbel hb
        replace hB2 := hB2.belowS hb
        clear hb
        refine wpAny_all (rs := [1]) (fuel := 6) (by kernel_rfl) (by simp) ?_
        intro ix hix
        obtain rfl : ix = 1 := by simpa using hix
        clear hix
        refine wpOp_step rfl (fun KK hKK => ?_)
        refine step_string rfl _ _ 5 _ rfl ⟨_, 0, none⟩ 256 256 (List.replicate 256 0) rfl (by rw [List.length_replicate]) Try.underlying63 Try.underlying5 Try.underlying9 (fun j hj => Blk.bytes' (l := List.replicate 256 0) (by simpa [u8s] using hB0) j hj) ?_
        refine hKK _ _ ?_
        clear hKK KK
        refine wpAny_all (rs := [4]) (fuel := 5) (by kernel_rfl) (by simp) ?_
        intro ix hix
        obtain rfl : ix = 4 := by simpa using hix
        clear hix
        refine wpOp_step rfl (fun KK hKK => ?_)
        rw [if_pos (by rfl)]
        go_simp
        refine (law21_laid (w0 := w) (bt H1.out.1 hbel) zeros256 zeros256 zeros256_size zeros256_size).mono ?_; rintro ee wl ⟨p, F, rfl, hD, hbl, hFl⟩
        refine hKK _ _ ?_
        clear hKK KK
        refine wpAny_take (i := 5) (v := _) (fuel := 4) rfl (by kernel_rfl) (by kernel_rfl) (by kernel_rfl) (fun _ _ _ h => by cases h.1) (Or.inl ⟨by rfl, fun w => rfl⟩) ?_
        refine wpAny_take (i := 6) (v := _) (fuel := 3) rfl (by kernel_rfl) (by kernel_rfl) (by kernel_rfl) (fun _ _ _ h => by cases h.1) (Or.inl ⟨by rfl, fun w => rfl⟩) ?_
        refine wpAny_take (i := 7) (v := _) (fuel := 2) rfl (by kernel_rfl) (by kernel_rfl) (by kernel_rfl) (fun _ _ _ h => by cases h.1) (Or.inl ⟨by rfl, fun w => rfl⟩) ?_
        refine wpAny_take (i := 8) (v := _) (fuel := 1) rfl (by kernel_rfl) (by kernel_rfl) (by kernel_rfl) (fun _ _ _ h => by cases h.1) (Or.inl ⟨by rfl, fun w => rfl⟩) ?_
        refine wpAny_take (i := 9) (v := _) (fuel := 0) rfl (by kernel_rfl) (by kernel_rfl) (by kernel_rfl) (fun _ _ _ h => by cases h.1) (Or.inl ⟨by rfl, fun w => rfl⟩) ?_
        exact wpAny_done (by kernel_rfl) ⟨rfl, _, _, p, F, rfl, hD, bt hbel hbl, fun k hk => Nat.le_trans hbel.size (hFl k hk)⟩ _
  rintro a' w2 ⟨v22, v24, p, F, rfl, hD, hbl, hFl⟩
  unfold laidA
  simp only [Act.put, List.setIfInBounds_toArray, List.set_cons_zero, List.set_cons_succ]
  have hg0 := H1.out.2.1.lt
  have hg1 := H1.out.2.2.lt
  have H2 := hid (show St w w2 p (laidV zeros256 zeros256) F [(w.heap.size, #[.int .i64 xB, .int .i64 xE, .int .i64 xR, .int .i64 xF, .int .i64 xN, .int .i64 xI, .int .i64 xW]), (w.heap.size + 1, #[.int .i64 yB, .int .i64 yE, .int .i64 yR, .int .i64 yF, .int .i64 yN, .int .i64 yI, .int .i64 yW])] from ⟨hD, fun x hx => by
    rcases List.mem_cons.1 hx with rfl | hx
    · exact ⟨fun hh => by have := hFl _ hh; simp only at this; omega, Nat.le_refl _, H1.out.2.1.belowS hbl⟩
    · rcases List.mem_cons.1 hx with rfl | hx
      · exact ⟨fun hh => by have := hFl _ hh; simp only at this; omega, Nat.le_succ _, H1.out.2.2.belowS hbl⟩
      · cases hx⟩)
  clear hD hbl hFl hg0 hg1 H1
  go_wp2_with (with_reducible refine at_op (.fieldAddr 60 (.tmp 4) 0) rfl ?_; refine Stopped.go ?_)
  have hgF := H2.out.box (w.heap.size, #[.int .i64 xB, .int .i64 xE, .int .i64 xR, .int .i64 xF, .int .i64 xN, .int .i64 xI, .int .i64 xW]) (by simp)
  have hset := hgF.2.2.set 0 (.int .i64 64)
  have fz : w2.frozen? ⟨w.heap.size, 0, none⟩ = false := hgF.2.2.blk.free (by simp)
  have z0 : w2.cell? ⟨w.heap.size, 0, none⟩ = some (.int .i64 xB) := hgF.2.2.blk.at rfl
  have H3 := hid (show St w (w2.setCell ⟨w.heap.size, 0, none⟩ (.int .i64 64)) p (laidV zeros256 zeros256) F [(w.heap.size, #[.int .i64 64, .int .i64 xE, .int .i64 xR, .int .i64 xF, .int .i64 xN, .int .i64 xI, .int .i64 xW]), (w.heap.size + 1, #[.int .i64 yB, .int .i64 yE, .int .i64 yR, .int .i64 yF, .int .i64 yN, .int .i64 yI, .int .i64 yW])] from H2.out.store hgF.1 hgF.2.1 hset.2 hset.1 (fun x hx => by
    rcases List.mem_cons.1 hx with rfl | hx
    · exact .inl rfl
    · rcases List.mem_cons.1 hx with rfl | hx
      · exact .inr ⟨by simp, by simp⟩
      · cases hx))
  clear hgF hset H2
  refine Stopped.mk ?_
  go_wp2_with (with_reducible refine at_op (.fieldAddr 60 (.tmp 5) 0) rfl ?_; refine Stopped.go ?_)
  clear fz z0
  generalize w2.setCell ⟨w.heap.size, 0, none⟩ (.int .i64 64) = w3 at H3 ⊢
  have hgF := H3.out.box (w.heap.size + 1, #[.int .i64 yB, .int .i64 yE, .int .i64 yR, .int .i64 yF, .int .i64 yN, .int .i64 yI, .int .i64 yW]) (by simp)
  have hset := hgF.2.2.set 0 (.int .i64 64)
  have fz : w3.frozen? ⟨w.heap.size + 1, 0, none⟩ = false := hgF.2.2.blk.free (by simp)
  have z0 : w3.cell? ⟨w.heap.size + 1, 0, none⟩ = some (.int .i64 yB) := hgF.2.2.blk.at rfl
  have H4 := hid (show St w (w3.setCell ⟨w.heap.size + 1, 0, none⟩ (.int .i64 64)) p (laidV zeros256 zeros256) F [(w.heap.size, #[.int .i64 64, .int .i64 xE, .int .i64 xR, .int .i64 xF, .int .i64 xN, .int .i64 xI, .int .i64 xW]), (w.heap.size + 1, #[.int .i64 64, .int .i64 yE, .int .i64 yR, .int .i64 yF, .int .i64 yN, .int .i64 yI, .int .i64 yW])] from H3.out.store hgF.1 hgF.2.1 hset.2 hset.1 (fun x hx => by
    rcases List.mem_cons.1 hx with rfl | hx
    · exact .inr ⟨by simp, by simp⟩
    · rcases List.mem_cons.1 hx with rfl | hx
      · exact .inl rfl
      · cases hx))
  clear hgF hset H3
  refine Stopped.mk ?_
  go_wp2_with (with_reducible refine at_op (.load 60 (.tmp 4)) rfl ?_; refine Stopped.go ?_)
  clear fz z0
  generalize w3.setCell ⟨w.heap.size + 1, 0, none⟩ (.int .i64 64) = w4 at H4 ⊢
  obtain ⟨st0, fu0, -, -, rm0⟩ := laid_still zeros256_size zeros256_size
  have hln := laid_none
  obtain ⟨D0, hD0⟩ : ∃ d, d = laidV zeros256 zeros256 := ⟨_, rfl⟩
  rw [← hD0] at st0 fu0 rm0 hln H4
  clear hD0
  obtain ⟨SX, hSX⟩ : ∃ s : Sup, s = ⟨64, xE, xR, xF, xN, xI, xW⟩ := ⟨_, rfl⟩
  obtain ⟨SY, hSY⟩ : ∃ s : Sup, s = ⟨64, yE, yR, yF, yN, yI, yW⟩ := ⟨_, rfl⟩
  have hxb : SX.blocks = 64 := by rw [hSX]
  have hyb : SY.blocks = 64 := by rw [hSY]
  have hC := dv_Save H4.out.dev (by decide) (by omega) SX
  obtain ⟨y0, y1, y2, y3, y4, y5, y6⟩ := H4.out.cells (show (w.heap.size, #[.int .i64 64, .int .i64 xE, .int .i64 xR, .int .i64 xF, .int .i64 xN, .int .i64 xI, .int .i64 xW]) ∈ _ by simp)
  by_cases hgx : goodB SX = true
  case neg =>
    rw [show saveV D0 64 SX = (1, D0) by unfold saveV; rw [if_neg (fun h => hgx h.1)], hSX] at hC
    simp only [Sup.vals] at hC
    have HC := hid hC
    clear hC hxb hyb st0 fu0 rm0 hln hgx hSX hSY
    refine Stopped.mk ?_
    go_wp2_with fail
    refine HC.out.mono ?_; rintro ee w5 ⟨rfl, hP⟩
    obtain ⟨F5, h5⟩ := H4.out.deed hP
    have H5 := hid h5
    clear hP h5 HC y0 y1 y2 y3 y4 y5 y6
    go_wp2_with fail
    go_ret
    exact ⟨rfl, H5.out.dev.bel⟩
  obtain ⟨D1, hs1, st1, fu1, rm1, o1, w1x⟩ := save_plain st0 fu0 hgx hxb
  rw [hs1, hSX] at hC
  simp only [Sup.vals] at hC
  have HC := hid hC; have HSX := hid hSX; have HSY := hid hSY
  have HP0 := hid (And.intro st0 (And.intro fu0 (And.intro rm0 (And.intro hln (And.intro hgx hxb)))))
  have HP1 := hid (And.intro st1 (And.intro fu1 (And.intro rm1 (And.intro o1 w1x)))); have HYB := hid hyb
  clear hC hs1 st0 fu0 rm0 hln hgx hxb hyb st1 fu1 rm1 o1 w1x hSX hSY
  refine Stopped.mk ?_
  go_wp2_with fail
  refine HC.out.mono ?_; rintro ee w5 ⟨rfl, hP⟩
  obtain ⟨F5, h5⟩ := H4.out.deed hP
  have H5 := hid h5
  clear hP h5 HC H4 y0 y1 y2 y3 y4 y5 y6
  obtain ⟨y0, y1, y2, y3, y4, y5, y6⟩ := H5.out.cells (show (w.heap.size + 1, #[.int .i64 64, .int .i64 yE, .int .i64 yR, .int .i64 yF, .int .i64 yN, .int .i64 yI, .int .i64 yW]) ∈ _ by simp)
  have hC := dv_Save H5.out.dev (by decide) (by have := HP1.out.2.2.1; have := HP0.out.2.2.1; omega) SY
  by_cases hgy : goodB SY = true
  case neg =>
    rw [show saveV D1 64 SY = (1, D1) by unfold saveV; rw [if_neg (fun h => hgy h.1)], HSY.out] at hC
    simp only [Sup.vals] at hC
    have HC := hid hC
    clear hC hgy
    go_wp2_with fail
    refine HC.out.mono ?_; rintro ee w6 ⟨rfl, hP⟩
    obtain ⟨F6, h6⟩ := H5.out.deed hP
    have H6 := hid h6
    clear hP h6 HC y0 y1 y2 y3 y4 y5 y6
    go_wp2_with fail
    go_ret
    exact ⟨rfl, H6.out.dev.bel⟩
  obtain ⟨D2, hs2, st2, fu2, rm2, o2, w2y⟩ := save_plain HP1.out.1 HP1.out.2.1 hgy HYB.out
  rw [hs2, HSY.out] at hC
  simp only [Sup.vals] at hC
  have htwo : best2 64 (blkL D2.safe) = SX ∨ best2 64 (blkL D2.safe) = SY :=
    best_two (B := blkL D1.safe) HP0.out.2.2.2.2.1 HP0.out.2.2.2.2.2 hgy HYB.out HP1.out.2.2.2.2 (fun i hi hne => by rw [HP1.out.2.2.2.1 i (by omega) hne]; exact HP0.out.2.2.2.1 i hi) w2y (fun i hi hne => o2 i (by omega) hne)
  have hep : 1 ≤ SX.epoch ∧ 1 ≤ SY.epoch := by
    obtain ⟨_, _, _, _, e1, _⟩ := good_facts HP0.out.2.2.2.2.1
    obtain ⟨_, _, _, _, e3, _⟩ := good_facts hgy
    exact ⟨e1, e3⟩
  have HC := hid hC; have HEP := hid hep
  have HP2 := hid (And.intro st2 (show D2.room ≤ 20 by have := HP0.out.2.2.1; have := HP1.out.2.2.1; omega))
  clear hC hs2 st2 fu2 rm2 o2 w2y hgy hep HP0 HP1 HYB
  go_wp2_with fail
  refine HC.out.mono ?_; rintro ee w6 ⟨rfl, hP⟩
  obtain ⟨F6, h6⟩ := H5.out.deed hP
  have H6 := hid h6
  clear hP h6 HC H5 y0 y1 y2 y3 y4 y5 y6
  have hB := dv_Best H6.out.dev (by decide) HP2.out.1.on (by have := HP2.out.2; omega)
  rw [HP2.out.1.best] at hB
  obtain ⟨D3, hD3⟩ : ∃ d, d = { D2 with rd := D2.rd + 2 } := ⟨_, rfl⟩
  rw [← hD3] at hB
  have hs3 : D3.safe = D2.safe := by rw [hD3]
  have st3 : Still 64 D3 := by rw [hD3]; exact HP2.out.1.rd _
  have rm3 : D3.room ≤ 22 := by have := HP2.out.2; rw [hD3]; unfold Dv.room at this ⊢; simp only; omega
  have HP3 := hid (And.intro st3 rm3)
  rw [← hs3] at hB htwo
  clear hs3 st3 rm3 hD3 HP2
  have hxy : best2 64 (blkL D3.safe) = SX ∨ (best2 64 (blkL D3.safe) = SY ∧ ¬ SY = SX) := by
    rcases htwo with h | h
    · exact .inl h
    · by_cases he : SY = SX
      · exact .inl (h.trans he)
      · exact .inr ⟨h, he⟩
  clear htwo
  rcases hxy with hbest | ⟨hbest, hne⟩
  · have HBS := hid hbest
    have HSS := hid (show SX = ⟨64, xE, xR, xF, xN, xI, xW⟩ from HSX.out)
    rw [hbest, bestO_good (by have := HEP.out.1; omega), HSS.out] at hB
    simp only [Sup.vals] at hB
    have HB := hid hB
    clear hB hbest
    go_wp2_with fail
    refine HB.out.mono ?_; rintro ee w7 ⟨rfl, hD7, hk7⟩
    have h7 := (H6.out.look hD7 hk7).push #[.int .i64 64, .int .i64 xE, .int .i64 xR, .int .i64 xF, .int .i64 xN, .int .i64 xI, .int .i64 xW]
    obtain ⟨g3, hg3⟩ : ∃ g, g = w7.heap.size := ⟨_, rfl⟩
    rw [← hg3] at h7
    have H7 := hid h7; have HG3 := hid hg3
    clear h7 hg3 hD7 hk7 HB H6
    go_wp2_with (with_reducible refine at_op (.binOp .neq 36 (.tmp 48) (.const (.int .i64 0)) 36) rfl ?_; refine Stopped.go ?_)
    rw [← HG3.out]
    clear HG3
    generalize w7.alloc (.cells #[.int .i64 64, .int .i64 xE, .int .i64 xR, .int .i64 xF, .int .i64 xN, .int .i64 xI, .int .i64 xW] 60) = w8 at H7 ⊢
    obtain ⟨y0, y1, y2, y3, y4, y5, y6⟩ := H7.out.cells (show (g3, #[.int .i64 64, .int .i64 xE, .int .i64 xR, .int .i64 xF, .int .i64 xN, .int .i64 xI, .int .i64 xW]) ∈ _ by simp)
    obtain ⟨z0, z1, z2, z3, z4, z5, z6⟩ := H7.out.cells (show (w.heap.size, #[.int .i64 64, .int .i64 xE, .int .i64 xR, .int .i64 xF, .int .i64 xN, .int .i64 xI, .int .i64 xW]) ∈ _ by simp)
    obtain ⟨u0, u1, u2, u3, u4, u5, u6⟩ := H7.out.cells (show (w.heap.size + 1, #[.int .i64 64, .int .i64 yE, .int .i64 yR, .int .i64 yF, .int .i64 yN, .int .i64 yI, .int .i64 yW]) ∈ _ by simp)
    refine Stopped.mk ?_
    go_wp2_with fail
    clear y0 y1 y2 y3 y4 y5 y6 z0 z1 z2 z3 z4 z5 z6 u0 u1 u2 u3 u4 u5 u6
    refine (dv_Fuse H7.out.dev (m : Int) (by omega) KA kcap keep (HKR.out.below H7.out.dev.bel) (by omega)).mono ?_; rintro ee w9 ⟨rfl, F', k1, k2, k3⟩
    obtain ⟨F9, h9⟩ := H7.out.deed ⟨F', k1, k2, k3⟩
    have H9 := hid h9
    clear k1 k2 k3 h9 H7
    obtain ⟨c, d2, hev, a1, a2, hcase⟩ := erase_round (d := { D3 with fuse := max (m : Int) (-1), keep := keep }) ⟨⟨HP3.out.1.ok.n1, HP3.out.1.ok.n2, HP3.out.1.ok.size, HP3.out.1.ok.loose, by simp only; omega⟩, HP3.out.1.loose, HP3.out.1.on⟩ (by
      simp only
      rw [HBS.out]; have := HEP.out.1; omega) keep
    have hE := dv_Erase H9.out.dev (by decide) HP3.out.1.on (by have h1 := HP3.out.2; unfold Dv.room at h1 ⊢; simp only at h1 ⊢; omega)
    rw [hev] at hE
    have HE := hid hE
    have HA := hid (And.intro a1 (show (again d2 keep).room ≤ 30 by have h1 := HP3.out.2; unfold Dv.room at h1 a2 ⊢; simp only at h1 a2 ⊢; omega))
    have HCASE := hid hcase
    clear hev a1 a2 hcase hE
    go_wp2_with fail
    refine HE.out.mono ?_; rintro ee w10 ⟨rfl, hP⟩
    obtain ⟨F10, h10⟩ := H9.out.deed hP
    have H10 := hid h10
    clear hP h10 H9 HE
    go_wp2_with fail
    refine (dv_Cut H10.out.dev KA kcap keep (HKR.out.below H10.out.dev.bel) (by omega)).mono ?_; rintro ee w11 ⟨rfl, k1, k2⟩
    have H11 := hid (H10.out.look k1 k2); clear k1 k2 H10
    go_wp2_with fail
    refine (dv_Come H11.out.dev).mono ?_; rintro ee w12 ⟨rfl, k1, k2⟩
    have H12 := hid (show St w w12 p (again d2 keep) _ _ from H11.out.look k1 k2); clear k1 k2 H11
    have hB := dv_Best H12.out.dev (by decide) HA.out.1.on (by have := HA.out.2; omega)
    rw [HA.out.1.best] at hB
    rcases HCASE.out with ⟨rfl, hbn⟩ | ⟨rfl, hbn | hbn⟩
    · clear HCASE
      rw [hbn, show bestO zeroSup = (zeroSup, 7) from rfl] at hB
      clear hbn
      simp only [zeroSup, Sup.vals] at hB
      have HB := hid hB
      clear hB
      go_wp2_with fail
      refine HB.out.mono ?_; rintro ee w13 ⟨rfl, hD13, hk13⟩
      have h13 := (H12.out.look hD13 hk13).push #[.int .i64 0, .int .i64 0, .int .i64 0, .int .i64 0, .int .i64 0, .int .i64 0, .int .i64 0]
      obtain ⟨g4, hg4⟩ : ∃ g, g = w13.heap.size := ⟨_, rfl⟩
      rw [← hg4] at h13
      have H13 := hid h13; have HG4 := hid hg4
      clear h13 hg4 hD13 hk13 HB H12
      go_wp2_with (with_reducible refine at_op (.binOp .eql 36 (.tmp 79) (.const (.int .i64 0)) 36) rfl ?_; refine Stopped.go ?_)
      rw [← HG4.out]
      clear HG4
      generalize w13.alloc (.cells #[.int .i64 0, .int .i64 0, .int .i64 0, .int .i64 0, .int .i64 0, .int .i64 0, .int .i64 0] 60) = w14 at H13 ⊢
      obtain ⟨y0, y1, y2, y3, y4, y5, y6⟩ := H13.out.cells (show (g4, #[.int .i64 0, .int .i64 0, .int .i64 0, .int .i64 0, .int .i64 0, .int .i64 0, .int .i64 0]) ∈ _ by simp)
      obtain ⟨z0, z1, z2, z3, z4, z5, z6⟩ := H13.out.cells (show (g3, #[.int .i64 64, .int .i64 xE, .int .i64 xR, .int .i64 xF, .int .i64 xN, .int .i64 xI, .int .i64 xW]) ∈ _ by simp)
      refine Stopped.mk ?_
      go_wp2_with fail
      go_ret
      exact ⟨rfl, H13.out.dev.bel⟩
    · clear HCASE
      rw [hbn, show bestO zeroSup = (zeroSup, 7) from rfl] at hB
      clear hbn
      simp only [zeroSup, Sup.vals] at hB
      have HB := hid hB
      clear hB
      go_wp2_with fail
      refine HB.out.mono ?_; rintro ee w13 ⟨rfl, hD13, hk13⟩
      have h13 := (H12.out.look hD13 hk13).push #[.int .i64 0, .int .i64 0, .int .i64 0, .int .i64 0, .int .i64 0, .int .i64 0, .int .i64 0]
      obtain ⟨g4, hg4⟩ : ∃ g, g = w13.heap.size := ⟨_, rfl⟩
      rw [← hg4] at h13
      have H13 := hid h13; have HG4 := hid hg4
      clear h13 hg4 hD13 hk13 HB H12
      go_wp2_with (with_reducible refine at_op (.binOp .eql 36 (.tmp 79) (.const (.int .i64 0)) 36) rfl ?_; refine Stopped.go ?_)
      rw [← HG4.out]
      clear HG4
      generalize w13.alloc (.cells #[.int .i64 0, .int .i64 0, .int .i64 0, .int .i64 0, .int .i64 0, .int .i64 0, .int .i64 0] 60) = w14 at H13 ⊢
      obtain ⟨y0, y1, y2, y3, y4, y5, y6⟩ := H13.out.cells (show (g4, #[.int .i64 0, .int .i64 0, .int .i64 0, .int .i64 0, .int .i64 0, .int .i64 0, .int .i64 0]) ∈ _ by simp)
      obtain ⟨z0, z1, z2, z3, z4, z5, z6⟩ := H13.out.cells (show (g3, #[.int .i64 64, .int .i64 xE, .int .i64 xR, .int .i64 xF, .int .i64 xN, .int .i64 xI, .int .i64 xW]) ∈ _ by simp)
      refine Stopped.mk ?_
      go_wp2_with fail
      go_ret
      exact ⟨rfl, H13.out.dev.bel⟩
    · clear HCASE
      rw [hbn, show best2 64 (blkL (Dv.safe { D3 with fuse := max (m : Int) (-1), keep := keep })) = SX from HBS.out, bestO_good (by have := HEP.out.1; omega), HSS.out] at hB
      clear hbn
      simp only [Sup.vals] at hB
      have HB := hid hB
      clear hB
      go_wp2_with fail
      refine HB.out.mono ?_; rintro ee w13 ⟨rfl, hD13, hk13⟩
      have h13 := (H12.out.look hD13 hk13).push #[.int .i64 64, .int .i64 xE, .int .i64 xR, .int .i64 xF, .int .i64 xN, .int .i64 xI, .int .i64 xW]
      obtain ⟨g4, hg4⟩ : ∃ g, g = w13.heap.size := ⟨_, rfl⟩
      rw [← hg4] at h13
      have H13 := hid h13; have HG4 := hid hg4
      clear h13 hg4 hD13 hk13 HB H12
      go_wp2_with (with_reducible refine at_op (.binOp .eql 36 (.tmp 79) (.const (.int .i64 0)) 36) rfl ?_; refine Stopped.go ?_)
      rw [← HG4.out]
      clear HG4
      generalize w13.alloc (.cells #[.int .i64 64, .int .i64 xE, .int .i64 xR, .int .i64 xF, .int .i64 xN, .int .i64 xI, .int .i64 xW] 60) = w14 at H13 ⊢
      obtain ⟨y0, y1, y2, y3, y4, y5, y6⟩ := H13.out.cells (show (g4, #[.int .i64 64, .int .i64 xE, .int .i64 xR, .int .i64 xF, .int .i64 xN, .int .i64 xI, .int .i64 xW]) ∈ _ by simp)
      obtain ⟨z0, z1, z2, z3, z4, z5, z6⟩ := H13.out.cells (show (g3, #[.int .i64 64, .int .i64 xE, .int .i64 xR, .int .i64 xF, .int .i64 xN, .int .i64 xI, .int .i64 xW]) ∈ _ by simp)
      refine Stopped.mk ?_
      go_wp2_with fail
      go_ret
      exact ⟨rfl, H13.out.dev.bel⟩
  · have HBS := hid hbest
    have HSS := hid (show SY = ⟨64, yE, yR, yF, yN, yI, yW⟩ from HSY.out)
    rw [hbest, bestO_good (by have := HEP.out.2; omega), HSS.out] at hB
    simp only [Sup.vals] at hB
    have HB := hid hB
    clear hB hbest
    rw [HSX.out, HSY.out] at hne
    have HXY := hid hne
    clear hne
    go_wp2_with fail
    refine HB.out.mono ?_; rintro ee w7 ⟨rfl, hD7, hk7⟩
    have h7 := (H6.out.look hD7 hk7).push #[.int .i64 64, .int .i64 yE, .int .i64 yR, .int .i64 yF, .int .i64 yN, .int .i64 yI, .int .i64 yW]
    obtain ⟨g3, hg3⟩ : ∃ g, g = w7.heap.size := ⟨_, rfl⟩
    rw [← hg3] at h7
    have H7 := hid h7; have HG3 := hid hg3
    clear h7 hg3 hD7 hk7 HB H6
    go_wp2_with (with_reducible refine at_op (.binOp .neq 36 (.tmp 48) (.const (.int .i64 0)) 36) rfl ?_; refine Stopped.go ?_)
    rw [← HG3.out]
    clear HG3
    generalize w7.alloc (.cells #[.int .i64 64, .int .i64 yE, .int .i64 yR, .int .i64 yF, .int .i64 yN, .int .i64 yI, .int .i64 yW] 60) = w8 at H7 ⊢
    obtain ⟨y0, y1, y2, y3, y4, y5, y6⟩ := H7.out.cells (show (g3, #[.int .i64 64, .int .i64 yE, .int .i64 yR, .int .i64 yF, .int .i64 yN, .int .i64 yI, .int .i64 yW]) ∈ _ by simp)
    obtain ⟨z0, z1, z2, z3, z4, z5, z6⟩ := H7.out.cells (show (w.heap.size, #[.int .i64 64, .int .i64 xE, .int .i64 xR, .int .i64 xF, .int .i64 xN, .int .i64 xI, .int .i64 xW]) ∈ _ by simp)
    obtain ⟨u0, u1, u2, u3, u4, u5, u6⟩ := H7.out.cells (show (w.heap.size + 1, #[.int .i64 64, .int .i64 yE, .int .i64 yR, .int .i64 yF, .int .i64 yN, .int .i64 yI, .int .i64 yW]) ∈ _ by simp)
    refine Stopped.mk ?_
    go_wp2_with fail
    all_goals (try (exfalso; apply HXY.out; congr; done))
    all_goals (try (have hq_ : yE = xE := (by assumption); subst hq_))
    all_goals (try (have hq_ : yR = xR := (by assumption); subst hq_))
    all_goals (try (have hq_ : yF = xF := (by assumption); subst hq_))
    all_goals (try (have hq_ : yN = xN := (by assumption); subst hq_))
    all_goals (try (have hq_ : yI = xI := (by assumption); subst hq_))
    all_goals (try (have hq_ : yW = xW := (by assumption); subst hq_))
    all_goals
      clear y0 y1 y2 y3 y4 y5 y6 z0 z1 z2 z3 z4 z5 z6 u0 u1 u2 u3 u4 u5 u6
      refine (dv_Fuse H7.out.dev (m : Int) (by omega) KA kcap keep (HKR.out.below H7.out.dev.bel) (by omega)).mono ?_; rintro ee w9 ⟨rfl, F', k1, k2, k3⟩
      obtain ⟨F9, h9⟩ := H7.out.deed ⟨F', k1, k2, k3⟩
      have H9 := hid h9
      clear k1 k2 k3 h9 H7
      obtain ⟨c, d2, hev, a1, a2, hcase⟩ := erase_round (d := { D3 with fuse := max (m : Int) (-1), keep := keep }) ⟨⟨HP3.out.1.ok.n1, HP3.out.1.ok.n2, HP3.out.1.ok.size, HP3.out.1.ok.loose, by simp only; omega⟩, HP3.out.1.loose, HP3.out.1.on⟩ (by
        simp only
        rw [HBS.out]; have := HEP.out.2; omega) keep
      have hE := dv_Erase H9.out.dev (by decide) HP3.out.1.on (by have h1 := HP3.out.2; unfold Dv.room at h1 ⊢; simp only at h1 ⊢; omega)
      rw [hev] at hE
      have HE := hid hE
      have HA := hid (And.intro a1 (show (again d2 keep).room ≤ 30 by have h1 := HP3.out.2; unfold Dv.room at h1 a2 ⊢; simp only at h1 a2 ⊢; omega))
      have HCASE := hid hcase
      clear hev a1 a2 hcase hE
      go_wp2_with fail
      refine HE.out.mono ?_; rintro ee w10 ⟨rfl, hP⟩
      obtain ⟨F10, h10⟩ := H9.out.deed hP
      have H10 := hid h10
      clear hP h10 H9 HE
      go_wp2_with fail
      refine (dv_Cut H10.out.dev KA kcap keep (HKR.out.below H10.out.dev.bel) (by omega)).mono ?_; rintro ee w11 ⟨rfl, k1, k2⟩
      have H11 := hid (H10.out.look k1 k2); clear k1 k2 H10
      go_wp2_with fail
      refine (dv_Come H11.out.dev).mono ?_; rintro ee w12 ⟨rfl, k1, k2⟩
      have H12 := hid (show St w w12 p (again d2 keep) _ _ from H11.out.look k1 k2); clear k1 k2 H11
      have hB := dv_Best H12.out.dev (by decide) HA.out.1.on (by have := HA.out.2; omega)
      rw [HA.out.1.best] at hB
      rcases HCASE.out with ⟨rfl, hbn⟩ | ⟨rfl, hbn | hbn⟩
      · clear HCASE
        rw [hbn, show bestO zeroSup = (zeroSup, 7) from rfl] at hB
        clear hbn
        simp only [zeroSup, Sup.vals] at hB
        have HB := hid hB
        clear hB
        go_wp2_with fail
        refine HB.out.mono ?_; rintro ee w13 ⟨rfl, hD13, hk13⟩
        have h13 := (H12.out.look hD13 hk13).push #[.int .i64 0, .int .i64 0, .int .i64 0, .int .i64 0, .int .i64 0, .int .i64 0, .int .i64 0]
        obtain ⟨g4, hg4⟩ : ∃ g, g = w13.heap.size := ⟨_, rfl⟩
        rw [← hg4] at h13
        have H13 := hid h13; have HG4 := hid hg4
        clear h13 hg4 hD13 hk13 HB H12
        go_wp2_with (with_reducible refine at_op (.binOp .eql 36 (.tmp 79) (.const (.int .i64 0)) 36) rfl ?_; refine Stopped.go ?_)
        rw [← HG4.out]
        clear HG4
        generalize w13.alloc (.cells #[.int .i64 0, .int .i64 0, .int .i64 0, .int .i64 0, .int .i64 0, .int .i64 0, .int .i64 0] 60) = w14 at H13 ⊢
        obtain ⟨y0, y1, y2, y3, y4, y5, y6⟩ := H13.out.cells (show (g4, #[.int .i64 0, .int .i64 0, .int .i64 0, .int .i64 0, .int .i64 0, .int .i64 0, .int .i64 0]) ∈ _ by simp)
        obtain ⟨z0, z1, z2, z3, z4, z5, z6⟩ := H13.out.cells (show (g3, #[.int .i64 64, .int .i64 yE, .int .i64 yR, .int .i64 yF, .int .i64 yN, .int .i64 yI, .int .i64 yW]) ∈ _ by simp)
        refine Stopped.mk ?_
        go_wp2_with fail
        go_ret
        exact ⟨rfl, H13.out.dev.bel⟩
      · clear HCASE
        rw [hbn, show bestO zeroSup = (zeroSup, 7) from rfl] at hB
        clear hbn
        simp only [zeroSup, Sup.vals] at hB
        have HB := hid hB
        clear hB
        go_wp2_with fail
        refine HB.out.mono ?_; rintro ee w13 ⟨rfl, hD13, hk13⟩
        have h13 := (H12.out.look hD13 hk13).push #[.int .i64 0, .int .i64 0, .int .i64 0, .int .i64 0, .int .i64 0, .int .i64 0, .int .i64 0]
        obtain ⟨g4, hg4⟩ : ∃ g, g = w13.heap.size := ⟨_, rfl⟩
        rw [← hg4] at h13
        have H13 := hid h13; have HG4 := hid hg4
        clear h13 hg4 hD13 hk13 HB H12
        go_wp2_with (with_reducible refine at_op (.binOp .eql 36 (.tmp 79) (.const (.int .i64 0)) 36) rfl ?_; refine Stopped.go ?_)
        rw [← HG4.out]
        clear HG4
        generalize w13.alloc (.cells #[.int .i64 0, .int .i64 0, .int .i64 0, .int .i64 0, .int .i64 0, .int .i64 0, .int .i64 0] 60) = w14 at H13 ⊢
        obtain ⟨y0, y1, y2, y3, y4, y5, y6⟩ := H13.out.cells (show (g4, #[.int .i64 0, .int .i64 0, .int .i64 0, .int .i64 0, .int .i64 0, .int .i64 0, .int .i64 0]) ∈ _ by simp)
        obtain ⟨z0, z1, z2, z3, z4, z5, z6⟩ := H13.out.cells (show (g3, #[.int .i64 64, .int .i64 yE, .int .i64 yR, .int .i64 yF, .int .i64 yN, .int .i64 yI, .int .i64 yW]) ∈ _ by simp)
        refine Stopped.mk ?_
        go_wp2_with fail
        go_ret
        exact ⟨rfl, H13.out.dev.bel⟩
      · clear HCASE
        rw [hbn, show best2 64 (blkL (Dv.safe { D3 with fuse := max (m : Int) (-1), keep := keep })) = SY from HBS.out, bestO_good (by have := HEP.out.2; omega), HSS.out] at hB
        clear hbn
        simp only [Sup.vals] at hB
        have HB := hid hB
        clear hB
        go_wp2_with fail
        refine HB.out.mono ?_; rintro ee w13 ⟨rfl, hD13, hk13⟩
        have h13 := (H12.out.look hD13 hk13).push #[.int .i64 64, .int .i64 yE, .int .i64 yR, .int .i64 yF, .int .i64 yN, .int .i64 yI, .int .i64 yW]
        obtain ⟨g4, hg4⟩ : ∃ g, g = w13.heap.size := ⟨_, rfl⟩
        rw [← hg4] at h13
        have H13 := hid h13; have HG4 := hid hg4
        clear h13 hg4 hD13 hk13 HB H12
        go_wp2_with (with_reducible refine at_op (.binOp .eql 36 (.tmp 79) (.const (.int .i64 0)) 36) rfl ?_; refine Stopped.go ?_)
        rw [← HG4.out]
        clear HG4
        generalize w13.alloc (.cells #[.int .i64 64, .int .i64 yE, .int .i64 yR, .int .i64 yF, .int .i64 yN, .int .i64 yI, .int .i64 yW] 60) = w14 at H13 ⊢
        obtain ⟨y0, y1, y2, y3, y4, y5, y6⟩ := H13.out.cells (show (g4, #[.int .i64 64, .int .i64 yE, .int .i64 yR, .int .i64 yF, .int .i64 yN, .int .i64 yI, .int .i64 yW]) ∈ _ by simp)
        obtain ⟨z0, z1, z2, z3, z4, z5, z6⟩ := H13.out.cells (show (g3, #[.int .i64 64, .int .i64 yE, .int .i64 yR, .int .i64 yF, .int .i64 yN, .int .i64 yI, .int .i64 yW]) ∈ _ by simp)
        refine Stopped.mk ?_
        go_wp2_with fail
        go_ret
        exact ⟨rfl, H13.out.dev.bel⟩

theorem superErases_row (x0 x1 x2 x3 x4 x5 x6 y0 y1 y2 y3 y4 y5 y6 : Int) (fu : Int) (KA : Option Addr) (kcap : Nat) (keep : List Bool) (w : World) (_ : (Lit.int .i64 x0).wf = true) (_ : (Lit.int .i64 x1).wf = true) (_ : (Lit.int .i64 x2).wf = true) (_ : (Lit.int .i64 x3).wf = true) (_ : (Lit.int .i64 x4).wf = true) (_ : (Lit.int .i64 x5).wf = true) (_ : (Lit.int .i64 x6).wf = true) (_ : (Lit.int .i64 y0).wf = true) (_ : (Lit.int .i64 y1).wf = true) (_ : (Lit.int .i64 y2).wf = true) (_ : (Lit.int .i64 y3).wf = true) (_ : (Lit.int .i64 y4).wf = true) (_ : (Lit.int .i64 y5).wf = true) (_ : (Lit.int .i64 y6).wf = true) (_ : (Lit.int .i64 fu).wf = true) (hkr : Row w KA (keep.map Value.bool)) (_ : keep.length ≤ kcap) (_ : kcap ≤ maxLen) :
    Calls Try.prog 5 #[.agg #[.int .i64 x0, .int .i64 x1, .int .i64 x2, .int .i64 x3, .int .i64 x4, .int .i64 x5, .int .i64 x6], .agg #[.int .i64 y0, .int .i64 y1, .int .i64 y2, .int .i64 y3, .int .i64 y4, .int .i64 y5, .int .i64 y6], .int .i64 fu, .slice KA keep.length kcap] w fun e w' => e = .returned (.bool true) ∧ Below w.heap.size w w' :=
  superErases_walk ⟨x0, x1, x2, x3, x4, x5, x6⟩ ⟨y0, y1, y2, y3, y4, y5, y6⟩ fu KA kcap keep w hkr
end Go.Proofs.Ytcklgaenedlbiaa
