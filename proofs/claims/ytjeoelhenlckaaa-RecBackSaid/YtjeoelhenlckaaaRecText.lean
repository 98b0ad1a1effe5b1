/-
  Messages that fit, as a text; the texts of a row.
-/
import Derived.Test.YtjeoelhenlckaaaRecSplit
namespace Go.Proofs.Ytjeoelhenlckaaa
open Go.RowKit

/-- a text's bytes -/
def textG (xs : List Msg3) : List UInt8 := UInt8.ofNat xs.length :: xs.flatMap msgB
theorem numOk_len {n : Nat} (h : n ≤ 255) : numOk 1 [(n : Int)] = true ∧ beAll (1 : Int).toNat [(n : Int)] = [UInt8.ofNat n] := by
  constructor
  · show (isW 1 && [(n : Int)].all (fitsB 1)) = true
    simp [isW, fitsB]; omega
  · simp [beAll, beB, Nat.mod_eq_of_lt (show n < 256 by omega)]

set_option maxHeartbeats 4000000 in
set_option maxRecDepth 100000 in
theorem rec_text_yes (A : Option Addr) (cap : Nat) (xs : List Msg3) (hlen : xs.length ≤ 255) (hall : ∀ x ∈ xs, isB x = true) (w : World) (hr : Row w A (xs.flatMap msgCells)) :
    Calls Try.prog 42 #[.slice A xs.length cap] w fun e w' => e = .returned (.string ⟨(textG xs).toArray⟩) ∧ Below w.heap.size w w' := by
  have HR := hid hr; have HALL := hid hall; clear hr hall
  have P0 := hid (Pen.new (Below.refl w.heap.size w))
  obtain ⟨h1, h2⟩ := numOk_len hlen
  have H1 := hid h1; have H2 := hid h2; clear h1 h2
  go_enter Try.func42, Try.ntmps42
  go_wp2_with (with_reducible refine at_op (.buildSlice 73 1 #[(0, .tmp 5)]) rfl ?_; refine Stopped.go ?_)
  obtain ⟨p, hp⟩ : ∃ p, p = w.heap.size := ⟨_, rfl⟩
  rw [← hp] at P0 ⊢
  generalize w.alloc (.cells #[.pointer none, .slice none 0 0] 101) = w2 at P0 ⊢
  clear hp
  refine Stopped.mk ?_
  go_wp2_with fail
  refine (pen_Num P0.out 1 [(xs.length : Int)] #[.int .i64 xs.length] 3 rfl 1 (by simp) (by simp)).mono ?_
  rintro e w3 ⟨rfl, P3⟩
  rw [H1.out, H2.out] at P3
  rw [H1.out]
  simp only [if_true, List.nil_append] at P3 ⊢
  have HP3 := hid P3
  clear P3 P0
  go_wp2_with fail
  refine (msg_Write_yes w p _ A cap xs w3 HP3.out HR.out HALL.out (by omega) (by simp)).mono ?_
  rintro e w4 ⟨rfl, P4⟩
  have HP4 := hid P4
  clear P4 HP3
  go_wp2_with fail
  refine (pen_Bytes HP4.out).mono ?_; rintro e w5 ⟨rfl, P5⟩
  have HP5 := hid P5
  clear P5 HP4
  go_wp2_with fail
  go_ret
  exact ⟨rfl, HP5.out.bel⟩

/-! the texts of a row -/
def bytesG (g : List Msg3) : ByteArray := ⟨(textG g).toArray⟩
theorem len_flat : ∀ (gs : List (List Msg3)) (g : List Msg3), g ∈ gs → g.length ≤ gs.flatten.length
  | x :: gs, g, h => by
    rw [List.flatten_cons, List.length_append]
    rcases List.mem_cons.1 h with rfl | h
    · omega
    · have := len_flat gs g h; omega
theorem g2_mem {l g : List Msg3} (h : g ∈ g2 [] l) : (∀ x ∈ g, x ∈ l) ∧ g.length ≤ l.length := by
  have e := g2_flat l []
  rw [List.nil_append] at e
  refine ⟨fun x hx => ?_, ?_⟩
  · rw [← e]; exact List.mem_flatten.2 ⟨g, h, hx⟩
  · rw [← e]; exact len_flat _ _ h
theorem info_strs : (Try.prog.info? 9).map (fun i => (i.zero, i.size, i.bytes)) = some (some (.string ⟨#[]⟩), 1, 16) := by kernel_rfl

set_option maxHeartbeats 8000000 in
set_option maxRecDepth 100000 in
theorem rec_Texts_yes (A : Option Addr) (cap : Nat) (l : List Msg3) (hlen : l.length ≤ 255) (hcap : l.length ≤ cap) (hall : ∀ x ∈ l, isB x = true) (w : World) (hr : Row w A (l.flatMap msgCells)) :
    Calls Try.prog 13 #[.slice A l.length cap] w fun e w' => ∃ A' cap', e = .returned (.tuple #[.slice A' (g2 [] l).length cap', .int .i64 0]) ∧ Row w' A' (strs ((g2 [] l).map bytesG)) ∧ Below w.heap.size w w' := by
  obtain ⟨i0, hi0, hz0, hz1, hz2⟩ := info_parts info_strs
  have HI0 := hid hi0; have HZ0 := hid hz0; have HZ1 := hid hz1; have HZ2 := hid hz2
  clear hi0 hz0 hz1 hz2
  have hany : (l.any fun x => !isB x) = false := by
    rw [List.any_eq_false]; intro x hx; simp [hall x hx]
  have HA := hid hany
  have HR := hid hr; have HALL := hid hall; clear hr hall hany
  obtain ⟨gs, hgs⟩ : ∃ gs, gs = g2 [] l := ⟨_, rfl⟩
  have hmem : ∀ g ∈ gs, (∀ x ∈ g, isB x = true) ∧ g.length ≤ 255 := by
    intro g hg
    rw [hgs] at hg
    obtain ⟨h1, h2⟩ := g2_mem hg
    exact ⟨fun x hx => HALL.out x (h1 x hx), by omega⟩
  have hgl : gs.length ≤ 256 := by rw [hgs]; have := g2_len l []; omega
  rw [← hgs]
  obtain ⟨n, hn⟩ : ∃ n, n = gs.length := ⟨_, rfl⟩
  rw [← hn] at hgl ⊢
  have HN := hid hn; have HG := hid hgs; have HMEM := hid hmem
  clear hn hgs hmem
  go_enter Try.func13, Try.ntmps13
  go_wp2_with fail
  refine (ContainsFunc_recs_any A cap l (by omega) _ HR.out).mono ?_; rintro e w1 ⟨rfl, hb1⟩
  rw [HA.out]
  have HB1 := hid hb1
  clear hb1
  go_wp2_with fail
  refine (rec_split_yes A cap l (by omega) hcap HALL.out w1 (HR.out.below HB1.out)).mono ?_
  rintro e w2 ⟨v, cs, rfl, ho2, hc2, hb2⟩
  rw [← HG.out] at ho2 hc2
  rw [← HN.out] at ho2
  obtain ⟨B, bcap, rfl, hrow⟩ := ownsRowF_row ho2
  have HROW := hid hrow; have HC2 := hid hc2; have HB2 := hid (bt HB1.out hb2); have HB12 := hid hb2
  clear hrow hc2 hb2 ho2 HB1
  go_wp2_with fail
  go_loopg [12, 4] n (fun g j y wx => ∃ k : Nat, k + g = n ∧ j = .int .i64 k ∧ Hid (Below w2.heap.size w2 wx ∧ wx.ownsRowF 0 9 1 y k (strs ((gs.take k).map bytesG)) ∧ ∀ b, y.ownBlock = some b → w2.heap.size ≤ b))
  case atStart => exact ⟨0, by omega, rfl, Below.refl _ _, World.ownsRowF_nil _ _ _ _, by intro b h; cases h⟩
  case round =>
    obtain ⟨k, hk, rfl, HS⟩ := hrel
    by_cases hlt : k < n
    · have hlt' : k < gs.length := by have := HN.out; omega
      obtain ⟨c, hcc, Ag, capg, rfl, hgc, hrg⟩ := HC2.out.2 k gs[k] (by simp [hlt'])
      obtain ⟨b, off, rfl, hb, hc⟩ := row_cell HROW.out (by intro e; rw [e] at hcc; cases hcc)
      have c0 := hc _ _ hcc
      rw [← HS.out.1.cell (p := ⟨b, off + k, none⟩) hb] at c0
      obtain ⟨hm1, hm2⟩ := HMEM.out gs[k] (List.getElem_mem _)
      have hsn : (gs.take (k + 1)).map bytesG = (gs.take k).map bytesG ++ [bytesG gs[k]] := by rw [List.take_succ_eq_append_getElem hlt', List.map_append]; rfl
      obtain ⟨gg, hgg⟩ : ∃ gg, gg = gs[k] := ⟨_, rfl⟩
      rw [← hgg] at c0 hgc hrg hm1 hm2 hsn
      have HCALL := hid (rec_text_yes Ag capg gg hm2 hm1 wr (hrg.below (bt HB12.out HS.out.1)))
      have HSN := hid hsn
      clear hb hc hcc hgc hrg hm1 hm2 hsn hgg
      go_wp2_with fail
      refine HCALL.out.mono ?_; rintro e w3 ⟨rfl, hb3⟩
      have HB3 := hid hb3
      clear hb3
      go_wp2_with (with_reducible refine at_op (.call { callee := .builtin .append, args := #[.tmp 16, .tmp 19], argTypes := #[25, 25] }) rfl ?_; refine Stopped.go ?_)
      refine Stopped.mk ?_
      obtain ⟨s1, s2, s3⟩ := HS.out
      refine wpList_append_one rfl _ _ 25 9 rfl i0 _ 1 16 Try.underlying25 HI0.out HZ0.out HZ1.out HZ2.out rfl (by decide) _ k _ rfl w3 #[.string ⟨(textG gg).toArray⟩] rfl (ownsRowF_below s2 HB3.out) w3.heap.size rfl 1 rfl rfl (by simp [Value.oneCell']) (by simp only [maxLen]; omega) (by omega) ?_
      intro V w5 hown hkp hvb
      have H5 : Hid (Below w2.heap.size w2 w5 ∧ w5.ownsRowF 0 9 1 V (k + 1) (strs ((gs.take (k + 1)).map bytesG)) ∧ ∀ b, V.ownBlock = some b → w2.heap.size ≤ b) := by
        refine ⟨Keeps.below (bt s1 HB3.out) hkp (fun x hx => s3 x (Option.mem_toList.1 hx)), ?_, fun x hx => ?_⟩
        · rw [HSN.out]
          simp only [strs, List.map_append] at hown ⊢
          exact hown
        · rcases hvb x hx with h | h
          · exact s3 x h
          · have := s1.size; have := HB3.out.size; omega
      clear s1 s2 s3 hown hkp hvb HS HB3 HCALL
      go_wp2_with fail
      go_roundg (n - (k + 1))
      case measure => omega
      case rel => exact ⟨k + 1, by omega, by go_num, H5⟩
    · go_wp2_with fail
      go_ret2
      obtain ⟨s1, s2, s3⟩ := HS.out
      have hkn : k = n := by omega
      subst hkn
      rw [HN.out, List.take_length] at s2
      obtain ⟨V, vcap, rfl, hr⟩ := ownsRowF_row s2
      exact ⟨V, vcap, by rw [HN.out]; rfl, hr, bt HB2.out s1⟩

set_option maxHeartbeats 8000000 in
set_option maxRecDepth 100000 in
theorem rec_Texts_no (A : Option Addr) (cap : Nat) (l : List Msg3) (hlen : l.length ≤ 9223372036854775807) (hno : (l.any fun x => !isB x) = true) (w : World) (hr : Row w A (l.flatMap msgCells)) :
    Calls Try.prog 13 #[.slice A l.length cap] w fun e w' => e = .returned (.tuple #[.slice none 0 0, .int .i64 1]) ∧ Below w.heap.size w w' := by
  have HA := hid hno
  have HR := hid hr; clear hr hno
  go_enter Try.func13, Try.ntmps13
  go_wp2_with fail
  refine (ContainsFunc_recs_any A cap l hlen _ HR.out).mono ?_; rintro e w1 ⟨rfl, hb1⟩
  rw [HA.out]
  have HB1 := hid hb1
  clear hb1
  go_wp2_with fail
  go_ret2
  exact ⟨rfl, HB1.out⟩
end Go.Proofs.Ytjeoelhenlckaaa
