/-
  A device of layer 3: a block is written, read; a fuse is laid; one is made.
-/
import Derived.Test.YtcklgaenedlbiaaDevDo
namespace Go.Proofs.Ytcklgaenedlbiaa
open Go.RowKit

theorem info_write : (Try.prog.info? 99).map (fun i => (i.zero, i.size, i.bytes)) = some (some (.agg #[.int .i64 0, .string ⟨#[]⟩]), 2, 24) := by kernel_rfl

set_option maxHeartbeats 8000000 in
set_option maxRecDepth 100000 in
theorem dev_Write (w : World) (p : Nat) (d : Dv) (F : List Nat) (h : DevAt w p d F) (n : Nat) (ho : DvOk n d) (i : Nat) (blk : ByteArray) (hi : i < n) (hb : blk.size = 256) (hkl : d.keep.length ≤ 1000000) (hlen : d.loose.length ≤ 1000000) (hbl : d.burn.loose.length ≤ 1000000) (hwr : d.burn.wr ≤ 1000000) :
    Calls Try.prog 25 #[.pointer (some ⟨p, 0, none⟩), .int .i64 i, .string blk] w fun e w' => e = .returned (.int .i64 (if d.burn.off then 4 else 0)) ∧ ∃ F', DevAt w' p (d.write (i, blk)) F' ∧ Keeps F w w' ∧ ∀ k, k ∈ F' → k ∈ F ∨ w.heap.size ≤ k := by
  obtain ⟨i0, hi0, hz0, hz1, hz2⟩ := info_parts info_write
  have HI0 := hid hi0; have HZ0 := hid hz0; have HZ1 := hid hz1; have HZ2 := hid hz2
  clear hi0 hz0 hz1 hz2
  have HC := hid (dev_is w p d F h n ho i)
  rw [show (decide (0 ≤ (i : Int)) && decide ((i : Int) < n)) = true by simp; omega] at HC
  have HD := hid (dev_burn w p d F h n ho hkl hlen)
  have HO := hid ho.burn
  have hFw := hid h.sizes
  clear h ho hi hkl hlen
  unfold Dv.write
  obtain ⟨b, hb'⟩ : ∃ b, b = d.burn := ⟨_, rfl⟩
  rw [← hb'] at HD HO hbl hwr ⊢
  clear hb'
  obtain ⟨bo, hof⟩ : ∃ bo, bo = b.off := ⟨_, rfl⟩
  rw [← hof] at HD ⊢
  have HOF := hid hof
  clear hof
  have hb1 : ((blk.size : Int) == 256) = true := by simp; omega
  have hb2 : ((blk.size : Int) != 256) = false := by simp; omega
  clear hb
  cases bo with
  | true =>
    go_enter Try.func25, Try.ntmps25
    go_wp2_with fail
    refine HC.out.mono ?_; rintro e w1 ⟨rfl, rfl⟩
    go_wp2_with fail
    refine HD.out.mono ?_
    rintro e w0 ⟨rfl, h, hk0⟩
    have H1 := hid (And.intro h hk0)
    clear h hk0
    go_wp2_with fail
    go_ret
    exact ⟨rfl, F, H1.out.1, H1.out.2, fun k hk => .inl hk⟩
  | false =>
    simp only [Bool.false_eq_true, if_false]
    go_enter Try.func25, Try.ntmps25
    go_wp2_with fail
    refine HC.out.mono ?_; rintro e w1 ⟨rfl, rfl⟩
    go_wp2_with fail
    refine HD.out.mono ?_
    rintro e w0 ⟨rfl, h, hk0⟩
    have HK0 := hid hk0
    clear hk0 HC HD
    obtain ⟨hs, S, L, K, h, hF⟩ := h
    obtain ⟨LA, lcap, hL, hlr, _⟩ := ownsRowF_own h.loose
    have c1 := h.c1
    have HH := hid (And.intro hs (And.intro h hF)); have HHL := hid hL
    have HBL := hid hbl; have HWR := hid hwr
    clear hs h hF hL hlr hbl hwr
    go_wp2_with (with_reducible refine at_op (.call { callee := .builtin .append, args := #[.tmp 26, .tmp 30], argTypes := #[95, 95] }) rfl ?_; refine Stopped.go ?_)
    obtain ⟨h1, h2, h3⟩ := HH.out
    have hl1 := h2.loose
    refine Stopped.mk (wpList_append_one rfl _ _ 95 99 rfl i0 _ 2 24 Try.underlying95 HI0.out HZ0.out HZ1.out HZ2.out rfl (by decide) L b.loose.length _ rfl w0 #[.int .i64 i, .string blk] rfl hl1 w0.heap.size rfl 1 rfl rfl (by simp [Value.oneCell']) (by have := HBL.out; simp only [maxLen]; omega) (by have := HBL.out; omega) ?_)
    intro V w5 hown hkp hvb
    obtain ⟨VA, vcap, hV, _⟩ := ownsRowF_row hown
    have hown' : w5.ownsRowF 0 99 2 V (b.loose ++ [(i, blk)]).length ((b.loose ++ [(i, blk)]).flatMap wrCells) := by
      rw [List.length_append, List.flatMap_append]; exact hown
    obtain ⟨g0, g1⟩ := h2.moveL hkp hown'
    have g2 := g1.put (d' := { b with loose := b.loose ++ [(i, blk)], wr := b.wr + 1 }) 6 (.int .i64 ((b.wr + 1 : Nat) : Int)) rfl rfl rfl rfl
    have c1 : w5.cell? ⟨p, 1, none⟩ = some L := g0.at rfl
    have f1 : w5.frozen? ⟨p, 1, none⟩ = false := g0.free (i := 1) (by show 1 < 8; decide)
    have c6 := g1.c6
    have f6 := g1.free 6 (by decide)
    have hpF := h3.box
    have hk5 : Keeps F w0 w5 := hkp.mono (fun x hx => h3.loose x (Option.mem_toList.1 hx))
    have hk6 := (hk5.setCell (p := ⟨p, 1, none⟩) hpF V).setCell (p := ⟨p, 6, none⟩) hpF (.int .i64 ((b.wr + 1 : Nat) : Int))
    have e7 : ((b.wr + 1 : Nat) : Int) = (b.wr : Int) + 1 := by omega
    rw [e7] at g2 hk6
    have HG := hid (And.intro g2 hk6); have HV := hid hvb; have H3 := hid h3; have H1 := hid h1; have HVL := hid hown'
    have hwr := HWR.out
    subst hV
    clear g0 g1 g2 hk5 hk6 h1 h2 h3 hl1 hown hkp hvb hown' e7
    go_wp2_with fail
    go_ret
    have hsz := HG.out.2.size
    have hsz0 := HK0.out.size
    refine ⟨rfl, (Value.slice VA (b.loose.length + 1) vcap).ownBlock.toList ++ F, ⟨?_, S, _, K, HG.out.1, ⟨List.mem_append_right _ H3.out.box, List.mem_append_right _ H3.out.safe, fun k hk => List.mem_append_left _ (Option.mem_toList.2 hk), fun k hk => List.mem_append_right _ (H3.out.keep k hk)⟩⟩, HK0.out.trans HG.out.2, ?_⟩
    · intro k hk
      rcases List.mem_append.1 hk with hk | hk
      · have := HVL.out.lt k (Option.mem_toList.1 hk)
        have e : ((w5.setCell ⟨p, 1, none⟩ (.slice VA (b.loose.length + 1) vcap)).setCell ⟨p, 6, none⟩ (.int .i64 ((b.wr : Int) + 1))).heap.size = w5.heap.size := by simp [World.setCell]
        omega
      · exact Nat.lt_of_lt_of_le (H1.out k hk) hsz
    · intro k hk
      rcases List.mem_append.1 hk with hk | hk
      · rcases HV.out k (Option.mem_toList.1 hk) with h | h
        · exact .inl (H3.out.loose k h)
        · exact .inr (by omega)
      · exact .inl hk
end Go.Proofs.Ytcklgaenedlbiaa
