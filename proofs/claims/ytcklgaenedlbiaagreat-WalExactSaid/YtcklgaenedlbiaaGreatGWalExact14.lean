/-
  A device of layer 3: a block is written, read; a fuse is laid; one is made.
  A device of layer 3: a block is read; a fuse is laid; one is made; of nil there is nothing.
-/
import Derived.Test.YtcklgaenedlbiaaGreatGWalExact13

namespace Go.Proofs.YtcklgaenedlbiaaGreat
open Go.RowKit

theorem info_write : (Tryz.prog.info? 94).map (fun i => (i.zero, i.size, i.bytes)) = some (some (.agg #[.int .i64 0, .string ⟨#[]⟩]), 2, 24) := by kernel_rfl

set_option maxHeartbeats 8000000 in
set_option maxRecDepth 100000 in
theorem dev_Write (w : World) (p : Nat) (d : Dv) (F : List Nat) (h : DevAt w p d F) (n : Nat) (ho : DvOk n d) (i : Nat) (blk : ByteArray) (hi : i < n) (hb : blk.size = 256) (hkl : d.keep.length ≤ 1000000) (hlen : d.loose.length ≤ 1000000) (hbl : d.burn.loose.length ≤ 1000000) (hwr : d.burn.wr ≤ 1000000) :
    Calls Tryz.prog 39 #[.pointer (some ⟨p, 0, none⟩), .int .i64 i, .string blk] w fun e w' => e = .returned (.int .i64 (if d.burn.off then 4 else 0)) ∧ ∃ F', DevAt w' p (d.write (i, blk)) F' ∧ Keeps F w w' ∧ ∀ k, k ∈ F' → k ∈ F ∨ w.heap.size ≤ k := by
  obtain ⟨i0, hi0, hz0, hz1, hz2⟩ := info_parts info_write
  have HI0 := hid hi0; have HZ0 := hid hz0; have HZ1 := hid hz1; have HZ2 := hid hz2
  clear hi0 hz0 hz1 hz2
  have HC := hid (dev_is w p d F h n ho i)
  rw [show (decide (0 ≤ (i : Int)) && decide ((i : Int) < n)) = true by simp; omega] at HC
  have HD := hid (dev_burn w p d F h n ho hkl hlen)
  have HO := hid ho.burn
  have hFw := hid h.sizes
  clear h ho hi hkl hlen
  unfold Dv.write
  obtain ⟨b, hb'⟩ : ∃ b, b = d.burn := ⟨_, rfl⟩
  rw [← hb'] at HD HO hbl hwr ⊢
  clear hb'
  obtain ⟨bo, hof⟩ : ∃ bo, bo = b.off := ⟨_, rfl⟩
  rw [← hof] at HD ⊢
  have HOF := hid hof
  clear hof
  have hb1 : ((blk.size : Int) == 256) = true := by simp; omega
  have hb2 : ((blk.size : Int) != 256) = false := by simp; omega
  clear hb
  cases bo with
  | true =>
    go_enter Tryz.func39, Tryz.ntmps39
    go_wp2_with fail
    refine HC.out.mono ?_; rintro e w1 ⟨rfl, rfl⟩
    go_wp2_with fail
    refine HD.out.mono ?_
    rintro e w0 ⟨rfl, h, hk0⟩
    have H1 := hid (And.intro h hk0)
    clear h hk0
    go_wp2_with fail
    go_ret
    exact ⟨rfl, F, H1.out.1, H1.out.2, fun k hk => .inl hk⟩
  | false =>
    simp only [Bool.false_eq_true, if_false]
    go_enter Tryz.func39, Tryz.ntmps39
    go_wp2_with fail
    refine HC.out.mono ?_; rintro e w1 ⟨rfl, rfl⟩
    go_wp2_with fail
    refine HD.out.mono ?_
    rintro e w0 ⟨rfl, h, hk0⟩
    have HK0 := hid hk0
    clear hk0 HC HD
    obtain ⟨hs, S, L, K, h, hF⟩ := h
    obtain ⟨LA, lcap, hL, hlr, _⟩ := ownsRowF_own h.loose
    have c1 := h.c1
    have HH := hid (And.intro hs (And.intro h hF)); have HHL := hid hL
    have HBL := hid hbl; have HWR := hid hwr
    clear hs h hF hL hlr hbl hwr
    go_wp2_with (with_reducible refine at_op (.call { callee := .builtin .append, args := #[.tmp 26, .tmp 30], argTypes := #[74, 74] }) rfl ?_; refine Stopped.go ?_)
    obtain ⟨h1, h2, h3⟩ := HH.out
    have hl1 := h2.loose
    refine Stopped.mk (wpList_append_one rfl _ _ 74 94 rfl i0 _ 2 24 Tryz.underlying74 HI0.out HZ0.out HZ1.out HZ2.out rfl (by decide) L b.loose.length _ rfl w0 #[.int .i64 i, .string blk] rfl hl1 w0.heap.size rfl 1 rfl rfl (by simp [Value.oneCell']) (by have := HBL.out; simp only [maxLen]; omega) (by have := HBL.out; omega) ?_)
    intro V w5 hown hkp hvb
    obtain ⟨VA, vcap, hV, _⟩ := ownsRowF_row hown
    have hown' : w5.ownsRowF 0 94 2 V (b.loose ++ [(i, blk)]).length ((b.loose ++ [(i, blk)]).flatMap wrCells) := by
      rw [List.length_append, List.flatMap_append]; exact hown
    obtain ⟨g0, g1⟩ := h2.moveL hkp hown'
    have g2 := g1.put (d' := { b with loose := b.loose ++ [(i, blk)], wr := b.wr + 1 }) 6 (.int .i64 ((b.wr + 1 : Nat) : Int)) rfl rfl rfl rfl
    have c1 : w5.cell? ⟨p, 1, none⟩ = some L := g0.at rfl
    have f1 : w5.frozen? ⟨p, 1, none⟩ = false := g0.free (i := 1) (by show 1 < 8; decide)
    have c6 := g1.c6
    have f6 := g1.free 6 (by decide)
    have hpF := h3.box
    have hk5 : Keeps F w0 w5 := hkp.mono (fun x hx => h3.loose x (Option.mem_toList.1 hx))
    have hk6 := (hk5.setCell (p := ⟨p, 1, none⟩) hpF V).setCell (p := ⟨p, 6, none⟩) hpF (.int .i64 ((b.wr + 1 : Nat) : Int))
    have e7 : ((b.wr + 1 : Nat) : Int) = (b.wr : Int) + 1 := by omega
    rw [e7] at g2 hk6
    have HG := hid (And.intro g2 hk6); have HV := hid hvb; have H3 := hid h3; have H1 := hid h1; have HVL := hid hown'
    have hwr := HWR.out
    subst hV
    clear g0 g1 g2 hk5 hk6 h1 h2 h3 hl1 hown hkp hvb hown' e7
    go_wp2_with fail
    go_ret
    have hsz := HG.out.2.size
    have hsz0 := HK0.out.size
    refine ⟨rfl, (Value.slice VA (b.loose.length + 1) vcap).ownBlock.toList ++ F, ⟨?_, S, _, K, HG.out.1, ⟨List.mem_append_right _ H3.out.box, List.mem_append_right _ H3.out.safe, fun k hk => List.mem_append_left _ (Option.mem_toList.2 hk), fun k hk => List.mem_append_right _ (H3.out.keep k hk)⟩⟩, HK0.out.trans HG.out.2, ?_⟩
    · intro k hk
      rcases List.mem_append.1 hk with hk | hk
      · have := HVL.out.lt k (Option.mem_toList.1 hk)
        have e : ((w5.setCell ⟨p, 1, none⟩ (.slice VA (b.loose.length + 1) vcap)).setCell ⟨p, 6, none⟩ (.int .i64 ((b.wr : Int) + 1))).heap.size = w5.heap.size := by simp [World.setCell]
        omega
      · exact Nat.lt_of_lt_of_le (H1.out k hk) hsz
    · intro k hk
      rcases List.mem_append.1 hk with hk | hk
      · rcases HV.out k (Option.mem_toList.1 hk) with h | h
        · exact .inl (H3.out.loose k h)
        · exact .inr (by omega)
      · exact .inl hk
end Go.Proofs.YtcklgaenedlbiaaGreat

namespace Go.Proofs.YtcklgaenedlbiaaGreat
open Go.RowKit

theorem find_rev {α : Type} (p : α → Bool) (l : List α) (i : Nat) (h : ∀ x ∈ l.drop i, p x = false) : l.reverse.find? p = (l.take i).reverse.find? p := by
  conv => lhs; rw [← List.take_append_drop i l]
  rw [List.reverse_append, List.find?_append]
  have : (l.drop i).reverse.find? p = none := by
    rw [List.find?_eq_none]
    intro x hx
    rw [h x (List.mem_reverse.1 hx)]
    simp
  rw [this]
  rfl

set_option maxHeartbeats 1000000 in
set_option maxRecDepth 100000 in
theorem dev_Read_range (w : World) (p : Nat) (d : Dv) (F : List Nat) (h : DevAt w p d F) (n : Nat) (ho : DvOk n d) (i : Int) (hi : (decide (0 ≤ i) && decide (i < n)) = false) :
    Calls Tryz.prog 47 #[.pointer (some ⟨p, 0, none⟩), .int .i64 i] w fun e w' => e = .returned (.tuple #[.string ⟨#[]⟩, .int .i64 3]) ∧ w = w' := by
  have HC := hid (dev_is w p d F h n ho i)
  rw [hi] at HC
  clear h ho hi
  go_enter Tryz.func47, Tryz.ntmps47
  go_wp2_with fail
  refine HC.out.mono ?_; rintro e w1 ⟨rfl, rfl⟩
  go_wp2_with fail
  go_ret2
  exact ⟨rfl, rfl⟩

set_option maxHeartbeats 1000000 in
set_option maxRecDepth 100000 in
theorem dev_Read_off (w : World) (p : Nat) (d : Dv) (F : List Nat) (h : DevAt w p d F) (n : Nat) (ho : DvOk n d) (i : Nat) (hi : i < n) (hof : d.off = true) :
    Calls Tryz.prog 47 #[.pointer (some ⟨p, 0, none⟩), .int .i64 i] w fun e w' => e = .returned (.tuple #[.string ⟨#[]⟩, .int .i64 4]) ∧ w = w' := by
  have HC := hid (dev_is w p d F h n ho i)
  rw [show (decide (0 ≤ (i : Int)) && decide ((i : Int) < n)) = true by simp; omega] at HC
  obtain ⟨_, S, L, K, h, _⟩ := h
  have c2 := h.c2
  rw [hof] at c2
  clear h ho hi
  go_enter Tryz.func47, Tryz.ntmps47
  go_wp2_with fail
  refine HC.out.mono ?_; rintro e w1 ⟨rfl, rfl⟩
  go_wp2_with fail
  go_ret2
  exact ⟨rfl, rfl⟩

set_option maxHeartbeats 4000000 in
set_option maxRecDepth 100000 in
theorem dev_Read (w : World) (p : Nat) (d : Dv) (F : List Nat) (h : DevAt w p d F) (n : Nat) (ho : DvOk n d) (i : Nat) (hi : i < n) (hof : d.off = false) (hlen : d.loose.length ≤ 1000000) (hrd : d.rd ≤ 1000000) :
    Calls Tryz.prog 47 #[.pointer (some ⟨p, 0, none⟩), .int .i64 i] w fun e w' => e = .returned (.tuple #[.string (d.read i), .int .i64 0]) ∧ DevAt w' p { d with rd := d.rd + 1 } F ∧ Keeps F w w' := by
  have HC := hid (dev_is w p d F h n ho i)
  rw [show (decide (0 ≤ (i : Int)) && decide ((i : Int) < n)) = true by simp; omega] at HC
  obtain ⟨hs, S, L, K, h, hF⟩ := h
  obtain ⟨LA, lcap, hL, hlr, _⟩ := ownsRowF_own h.loose
  have c2 := h.c2
  have c5 := h.c5
  have f5 := h.free 5 (by decide)
  rw [hof] at c2
  have g1 := h.put (d' := { d with rd := d.rd + 1 }) 5 (.int .i64 ((d.rd + 1 : Nat) : Int)) rfl rfl rfl rfl
  have hk := (Keeps.refl F w).setCell (p := ⟨p, 5, none⟩) hF.box (.int .i64 ((d.rd + 1 : Nat) : Int))
  have e5 : ((d.rd + 1 : Nat) : Int) = (d.rd : Int) + 1 := by omega
  rw [e5] at g1 hk
  obtain ⟨w1, hw1⟩ : ∃ w1, w1 = w.setCell ⟨p, 5, none⟩ (.int .i64 ((d.rd : Int) + 1)) := ⟨_, rfl⟩
  rw [← hw1] at g1 hk
  have hHA : DevAt w1 p { d with rd := d.rd + 1 } F := ⟨fun k hk' => Nat.lt_of_lt_of_le (hs k hk') hk.size, S, L, K, g1, hF⟩
  have c0 := g1.c0
  have c1 := g1.c1
  have hlr1 : Row w1 LA (d.loose.flatMap wrCells) := by
    obtain ⟨LA', lcap', hL', hr', _⟩ := ownsRowF_own g1.loose
    rw [hL] at hL'
    injection hL' with e1 _ _
    rw [e1]; exact hr'
  rw [hL] at c1
  have HLR := hid hlr1; have HA := hid (And.intro hHA hk)
  have hsf := g1.safe
  have HSF := hid hsf
  have HW1 := hid hw1
  have HSZ := hid (And.intro ho.size (And.intro hi ho.n2))
  obtain ⟨r, hr⟩ : ∃ r, r = d.read i := ⟨_, rfl⟩
  rw [← hr]
  have HR := hid hr
  simp only at c0 c1
  obtain ⟨l, hl⟩ : ∃ l, l = d.loose := ⟨_, rfl⟩
  rw [← hl] at c1 HLR hlen
  have HL := hid hl
  have hii : (i : Int) ≤ 512 := by have := ho.n2; omega
  clear h hF hs hlr g1 hk e5 hw1 hHA hlr1 ho hi hof hr hsf hl hL
  go_enter Tryz.func47, Tryz.ntmps47
  go_wp2_with fail
  refine HC.out.mono ?_; rintro e w2 ⟨rfl, rfl⟩
  go_wp2_with (with_reducible refine at_op (.load 74 (.tmp 31)) rfl ?_; refine Stopped.go ?_)
  rw [← HW1.out]
  clear HW1 HC c2 c5 f5 hrd
  refine Stopped.mk ?_
  go_wp2_with fail
  go_loopg [6] l.length (fun g j wx => ∃ k : Nat, k = g ∧ k ≤ l.length ∧ j = .int .i64 ((k : Int) - 1) ∧ Hid (∀ x ∈ l.drop k, (x.1 == i) = false) ∧ Hid (wx = w1))
  case atStart => exact ⟨l.length, rfl, Nat.le_refl _, rfl, by intro x hx; simp at hx, rfl⟩
  case round =>
    obtain ⟨k, rfl, hk, rfl, HI, HWX⟩ := hrel
    have hwx := HWX.out
    subst hwx
    clear HWX
    cases k with
    | zero =>
      rw [show ((0 : Nat) : Int) - 1 = -1 from rfl]
      have hrr : r = ⟨((d.safe.drop (256 * i)).take 256).toArray⟩ := by
        have h1 := HR.out
        unfold Dv.read at h1
        rw [← HL.out, find_rev _ l 0 HI.out] at h1
        exact h1
      have hq := HSZ.out
      obtain ⟨q, hqe⟩ : ∃ q, q = 256 * i := ⟨_, rfl⟩
      obtain ⟨q2, hq2e⟩ : ∃ q2, q2 = 256 * i + 256 := ⟨_, rfl⟩
      obtain ⟨sl, hsl⟩ : ∃ sl, sl = d.safe.length := ⟨_, rfl⟩
      rw [← hsl] at c0
      have m1 : (i : Int) * 256 = (q : Int) := by omega
      have m2 : ((i : Int) + 1) * 256 = (q2 : Int) := by omega
      have n0 : (0 : Int) ≤ (q : Int) := by omega
      have n1 : (q : Int) ≤ (q2 : Int) := by omega
      have n2 : (q2 : Int) ≤ (sl : Int) := by omega
      have n3 : ¬ sl = q := by omega
      have hc : ∀ j (hj : j < ((d.safe.drop q).take 256).length), wr.cell? ((⟨S, q, none⟩ : Addr).add j) = some (.int .u8 ((((d.safe.drop q).take 256)[j]).toNat : Int)) := by
        intro j hj
        have hj' := hj
        rw [List.length_take, List.length_drop] at hj'
        have e : (⟨S, q, none⟩ : Addr).add j = ⟨S, q + j, none⟩ := by unfold Addr.add; split <;> simp_all
        rw [e, HSF.out.cell, u8s_at (by omega)]
        simp
      have hn : q2 - q = ((d.safe.drop q).take 256).length := by rw [List.length_take, List.length_drop]; omega
      have HC := hid hc; have HN := hid hn; have HRR := hid hrr; have HQ := hid hqe
      clear hrr hq hqe hq2e hsl hc hn
      go_wp2_with (with_reducible refine at_op (.convert 62 9 (.tmp 66)) rfl ?_; refine Stopped.go ?_)
      refine Stopped.mk (wpList_string rfl _ _ 5 _ rfl ⟨S, q, none⟩ (q2 - q) (sl - q) ((d.safe.drop q).take 256) rfl HN.out Tryz.underlying62 Tryz.underlying5 Tryz.underlying9 HC.out ?_)
      clear m1 m2 n0 n1 n2 n3
      go_wp2_with fail
      go_ret2
      exact ⟨by rw [HRR.out, HQ.out]; rfl, HA.out⟩
    | succ m =>
      rw [show ((m + 1 : Nat) : Int) - 1 = (m : Int) by omega]
      have hm : m < l.length := by omega
      obtain ⟨⟨at_, blk⟩, hx⟩ : ∃ x, x = l[m] := ⟨_, rfl⟩
      have hxi : l[m]? = some (at_, blk) := by rw [hx]; simp [hm]
      obtain ⟨b', off, rfl, hb, hc⟩ := row_cell HLR.out (by intro e; have h := wr_at l m 0 _ (.int .i64 at_) hxi rfl; rw [e] at h; cases h)
      have g0 := hc _ _ (wr_at l m 0 _ (.int .i64 at_) hxi rfl)
      have g1 := hc _ _ (wr_at l m 1 _ (.string blk) hxi rfl)
      rw [← Nat.add_assoc, Nat.add_zero] at g0
      rw [← Nat.add_assoc] at g1
      have HX := hid (And.intro hx hxi)
      clear hb hc hx hxi
      by_cases hai : at_ = i
      · subst hai
        have hrr : r = blk := by
          have h1 := HR.out
          unfold Dv.read at h1
          rw [← HL.out, find_rev _ l (m + 1) HI.out, List.take_succ_eq_append_getElem hm, ← HX.out.1, List.reverse_append] at h1
          simpa using h1
        have HRR := hid hrr
        clear hrr
        go_wp2_with fail
        go_ret2
        exact ⟨by rw [HRR.out]; rfl, HA.out⟩
      · have hai' : ((at_ : Int) == (i : Int)) = false := by simp; omega
        have hai2 : ¬ (at_ : Int) = (i : Int) := by omega
        have HAI := hid hai
        clear hai
        go_wp2_with fail
        go_roundg m
        case measure => omega
        case rel =>
          refine ⟨m, rfl, by omega, by go_num, ?_, rfl⟩
          intro x hx
          rw [List.drop_eq_getElem_cons hm] at hx
          rcases List.mem_cons.1 hx with h | h
          · rw [h, ← HX.out.1]; simpa using HAI.out
          · exact HI.out x h
end Go.Proofs.YtcklgaenedlbiaaGreat
