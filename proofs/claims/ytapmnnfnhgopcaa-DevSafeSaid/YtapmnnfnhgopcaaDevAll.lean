/-
  DevAll, walked: with all kept, or flushed, all is there; with nothing kept just what was flushed.
-/
import Derived.Test.YtapmnnfnhgopcaaDevLaws
namespace Go.Proofs.Ytapmnnfnhgopcaa
open Go.RowKit

theorem sep_next {F F' G : List Nat} {N : Nat} (hF : ∀ k, k ∈ F' → k ∈ F ∨ N ≤ k) (hd : ∀ k, k ∈ F → k ∉ G) (hG : ∀ k, k ∈ G → k < N) : ∀ k, k ∈ F' → k ∉ G := by
  intro k hk hm
  rcases hF k hk with h | h
  · exact hd k h hm
  · have := hG k hm; omega
theorem sep_comm {F G : List Nat} (h : ∀ k, k ∈ F → k ∉ G) : ∀ k, k ∈ G → k ∉ F := fun k h1 h2 => h k h2 h1
theorem Dev.keeps {w0 w w' : World} {p n : Nat} {d : Dv} {F G : List Nat} (h : Dev w0 w p n d F) (hk : Keeps G w w') (hG : ∀ k, k ∈ G → w0.heap.size ≤ k) (hd : ∀ k, k ∈ F → k ∉ G) : Dev w0 w' p n d F :=
  ⟨h.at_.keeps hk hd, Keeps.below h.bel hk hG, h.own, h.ok, h.kl, h.ll⟩

/-- what the three devices are -/
def allD (L : List (Nat × ByteArray)) : Dv := ⟨List.replicate 1024 0, L, false, -1, [], 0, L.length, 0⟩
theorem allD_write (L : List (Nat × ByteArray)) (x : Nat × ByteArray) : (allD L).write x = allD (L ++ [x]) := by
  rw [Dv.write_none (by show (-1 : Int) < 0; decide) rfl]
  unfold allD
  simp only [List.length_append, List.length_cons, List.length_nil]
theorem ownsRowF_empty (w : World) (e : TypeId) (size : Nat) : (w.alloc (.cells #[] e)).ownsRowF 0 e size (.slice (some ⟨w.heap.size, 0, none⟩) 0 0) 0 [] :=
  ⟨by simp, .inr ⟨w.heap.size, 0, #[], (0, 0), rfl, Nat.zero_le _, heap_alloc_new w _, Nat.zero_le _, Nat.zero_le _, Nat.zero_le _, by simp, by simp⟩⟩
theorem allD_on (L : List (Nat × ByteArray)) : (allD L).burn.off = false := by rw [Dv.burn_none (by show (-1 : Int) < 0; decide)]; rfl

/-- three devices in a world, and a row of m times true -/
def Three (w wx : World) (pa pb pc : Nat) (Da Db Dc : Dv) (V : Value) (m : Nat) : Prop := ∃ Fa Fb Fc, Dev w wx pa 4 Da Fa ∧ Dev w wx pb 4 Db Fb ∧ Dev w wx pc 4 Dc Fc ∧ (∀ k, k ∈ Fa → k ∉ Fb) ∧ (∀ k, k ∈ Fa → k ∉ Fc) ∧ (∀ k, k ∈ Fb → k ∉ Fc) ∧
  wx.ownsRowF 0 4 1 V m (bools (List.replicate m true)) ∧ (∀ k, V.ownBlock = some k → w.heap.size ≤ k ∧ k ∉ Fa ∧ k ∉ Fb ∧ k ∉ Fc)
theorem Three.bel {w wx : World} {pa pb pc : Nat} {Da Db Dc : Dv} {V : Value} {m : Nat} (h : Three w wx pa pb pc Da Db Dc V m) : Below w.heap.size w wx := by
  obtain ⟨_, _, _, h, _⟩ := h; exact h.bel
/-- memory is made -/
theorem Three.below {w wx w' : World} {pa pb pc : Nat} {Da Db Dc : Dv} {V : Value} {m : Nat} (h : Three w wx pa pb pc Da Db Dc V m) (hb : Below wx.heap.size wx w') : Three w w' pa pb pc Da Db Dc V m := by
  obtain ⟨Fa, Fb, Fc, h1, h2, h3, h4, h5, h6, h7, h8⟩ := h
  exact ⟨Fa, Fb, Fc, h1.below hb, h2.below hb, h3.below hb, h4, h5, h6, ownsRowF_below h7 hb, h8⟩
theorem Three.rot {w wx : World} {pa pb pc : Nat} {Da Db Dc : Dv} {V : Value} {m : Nat} (h : Three w wx pa pb pc Da Db Dc V m) : Three w wx pb pc pa Db Dc Da V m := by
  obtain ⟨Fa, Fb, Fc, h1, h2, h3, h4, h5, h6, h7, h8⟩ := h
  exact ⟨Fb, Fc, Fa, h2, h3, h1, h6, sep_comm h4, sep_comm h5, h7, fun k hk => ⟨(h8 k hk).1, (h8 k hk).2.2.1, (h8 k hk).2.2.2, (h8 k hk).2.1⟩⟩
/-- a deed of the first -/
theorem three_call {w wx : World} {pa pb pc : Nat} {Da Db Dc Da' : Dv} {V : Value} {m f : Nat} {args : Array Value} {r : Ending} (h : Three w wx pa pb pc Da Db Dc V m)
    (hc : ∀ Fa, Dev w wx pa 4 Da Fa → Calls Try.prog f args wx fun e w' => e = r ∧ ∃ Fa', Dev w w' pa 4 Da' Fa' ∧ Keeps Fa wx w' ∧ ∀ k, k ∈ Fa' → k ∈ Fa ∨ wx.heap.size ≤ k) :
    Calls Try.prog f args wx fun e w' => e = r ∧ Three w w' pa pb pc Da' Db Dc V m := by
  obtain ⟨Fa, Fb, Fc, h1, h2, h3, h4, h5, h6, h7, h8⟩ := h
  refine (hc Fa h1).mono ?_
  rintro e w' ⟨rfl, Fa', k1, k2, k3⟩
  refine ⟨rfl, Fa', Fb, Fc, k1, h2.keeps k2 h1.own (sep_comm h4), h3.keeps k2 h1.own (sep_comm h5), sep_next k3 h4 h2.at_.sizes, sep_next k3 h5 h3.at_.sizes, h6, ownsRowF_keeps h7 k2 (fun k hk => (h8 k hk).2.1), fun k hk => ⟨(h8 k hk).1, fun hm => ?_, (h8 k hk).2.2⟩⟩
  rcases k3 k hm with h | h
  · exact (h8 k hk).2.1 h
  · have := (h7.lt k hk).2; omega
theorem three_Write {w wx : World} {pa pb pc : Nat} {L : List (Nat × ByteArray)} {Db Dc : Dv} {V : Value} {m : Nat} (h : Three w wx pa pb pc (allD L) Db Dc V m) (i : Nat) (b : UInt8) (hi : i < 4) (hL : L.length ≤ 20) :
    Calls Try.prog 28 #[.pointer (some ⟨pa, 0, none⟩), .int .i64 i, .string (oneB b)] wx fun e w' => e = .returned (.int .i64 0) ∧ Three w w' pa pb pc (allD (L ++ [(i, oneB b)])) Db Dc V m := by
  refine three_call h fun Fa hD => ?_
  refine (dv_Write hD i (oneB b) hi (oneB_size _) (by show L.length + 0 + L.length + 0 ≤ 990; omega)).mono ?_
  rintro e w6 ⟨rfl, Fa', k1, k2, k3⟩
  rw [allD_on]
  rw [allD_write] at k1
  exact ⟨rfl, Fa', k1, k2, k3⟩
theorem three_Cut {w wx : World} {pa pb pc : Nat} {Da Db Dc : Dv} {V : Value} {m : Nat} (h : Three w wx pa pb pc Da Db Dc V m) (A : Option Addr) (cap : Nat) (keep : List Bool) (hr : Row wx A (bools keep)) (hkl : keep.length ≤ 9223372036854775807) (c : Nat) (hc : c = keep.length) :
    Calls Try.prog 31 #[.pointer (some ⟨pa, 0, none⟩), .slice A c cap] wx fun e w' => e = .returned (.tuple #[]) ∧ Three w w' pa pb pc (Da.cut keep) Db Dc V m := by
  subst hc
  refine three_call h fun Fa hD => ?_
  refine (dv_Cut hD A cap keep hr hkl).mono ?_
  rintro e w6 ⟨rfl, k1, k2⟩
  exact ⟨rfl, Fa, k1, k2, fun k hk => .inl hk⟩
theorem three_Flush {w wx : World} {pa pb pc : Nat} {Da Db Dc : Dv} {V : Value} {m : Nat} (h : Three w wx pa pb pc Da Db Dc V m) (hroom : Da.loose.length + Da.rd + Da.wr + Da.fl ≤ 990) :
    Calls Try.prog 26 #[.pointer (some ⟨pa, 0, none⟩)] wx fun e w' => e = .returned (.int .i64 (if Da.burn.off then 4 else 0)) ∧ Three w w' pa pb pc Da.flush Db Dc V m := by
  refine three_call h fun Fa hD => ?_
  refine (dv_Flush hD hroom).mono ?_
  rintro e w6 ⟨rfl, k1, k2⟩
  exact ⟨rfl, Fa, k1, k2, fun k hk => .inl hk⟩
theorem three_Image {w wx : World} {pa pb pc : Nat} {Da Db Dc : Dv} {V : Value} {m : Nat} (h : Three w wx pa pb pc Da Db Dc V m) :
    Calls Try.prog 34 #[.pointer (some ⟨pa, 0, none⟩)] wx fun e w' => e = .returned (.string ⟨Da.safe.toArray⟩) ∧ wx = w' := by
  obtain ⟨Fa, Fb, Fc, h1, _⟩ := h
  exact dev_Image wx pa Da Fa h1.at_
theorem three_Count {w wx : World} {pa pb pc : Nat} {Da Db Dc : Dv} {V : Value} {m : Nat} (h : Three w wx pa pb pc Da Db Dc V m) :
    Calls Try.prog 35 #[.pointer (some ⟨pa, 0, none⟩)] wx fun e w' => e = .returned (.agg #[.int .i64 Da.rd, .int .i64 Da.wr, .int .i64 Da.fl]) ∧ Three w w' pa pb pc Da Db Dc V m := by
  refine Calls.mono (dev_Count wx pa Da _ h.choose_spec.choose_spec.choose_spec.1.at_) ?_
  rintro e w' ⟨rfl, hb⟩
  exact ⟨rfl, h.below hb⟩

/-- the row grows -/
theorem Three.grow {w wx w1 w' : World} {pa pb pc : Nat} {Da Db Dc : Dv} {V V' : Value} {m m' : Nat} (h : Three w wx pa pb pc Da Db Dc V m) (hb : Below wx.heap.size wx w1) (hk : Keeps V.ownBlock.toList w1 w') (ho : w'.ownsRowF 0 4 1 V' m' (bools (List.replicate m' true))) (hV : ∀ k, V'.ownBlock = some k → V.ownBlock = some k ∨ w1.heap.size ≤ k) : Three w w' pa pb pc Da Db Dc V' m' := by
  obtain ⟨Fa, Fb, Fc, h1, h2, h3, h4, h5, h6, h7, h8⟩ := h
  have hG : ∀ k, k ∈ V.ownBlock.toList → w.heap.size ≤ k := fun k hk => (h8 k (Option.mem_toList.1 hk)).1
  have z1 := hb.size
  have z0 := h1.bel.size
  refine ⟨Fa, Fb, Fc, (h1.below hb).keeps hk hG (fun k h hm => (h8 k (Option.mem_toList.1 hm)).2.1 h), (h2.below hb).keeps hk hG (fun k h hm => (h8 k (Option.mem_toList.1 hm)).2.2.1 h), (h3.below hb).keeps hk hG (fun k h hm => (h8 k (Option.mem_toList.1 hm)).2.2.2 h), h4, h5, h6, ho, fun k hk => ?_⟩
  rcases hV k hk with h | h
  · exact h8 k h
  · exact ⟨by omega, fun hm => by have := h1.at_.sizes k hm; omega, fun hm => by have := h2.at_.sizes k hm; omega, fun hm => by have := h3.at_.sizes k hm; omega⟩

theorem Three.slice {w wx : World} {pa pb pc : Nat} {Da Db Dc : Dv} {V : Value} {m : Nat} (h : Three w wx pa pb pc Da Db Dc V m) : ∃ A c, V = .slice A m c := by
  obtain ⟨_, _, _, _, _, _, _, _, _, h7, _⟩ := h
  obtain ⟨A, c, hV, _⟩ := ownsRowF_row h7
  exact ⟨A, c, hV⟩
theorem Three.row {w wx : World} {pa pb pc : Nat} {Da Db Dc : Dv} {A : Option Addr} {m c : Nat} (h : Three w wx pa pb pc Da Db Dc (.slice A m c) m) : Row wx A (bools (List.replicate m true)) := by
  obtain ⟨_, _, _, _, _, _, _, _, _, h7, _⟩ := h
  obtain ⟨A', c', hV, hr⟩ := ownsRowF_row h7
  injection hV with e _ _
  rw [e]; exact hr

theorem field_1 (x y z : Value) (w : World) : (Instr.field 54 (.agg #[x, y, z]) 1).run Try.prog w = .ok y w := by
  simp [Instr.field, run_underlying Try.underlying54, go_sem, sizeOf, typeInfo, asAgg, Result.andThen]
theorem field_2 (x y z : Value) (w : World) : (Instr.field 54 (.agg #[x, y, z]) 2).run Try.prog w = .ok z w := by
  simp [Instr.field, run_underlying Try.underlying54, go_sem, sizeOf, typeInfo, asAgg, Result.andThen]

theorem allD_cut (L : List (Nat × ByteArray)) : (allD L).cut (List.replicate (4 * L.length) true) = { allD L with safe := flushN (List.replicate 1024 0) L, loose := [], off := true } := by
  unfold Dv.cut
  rw [if_neg (by show ¬ (false = true); simp)]
  show ({ allD L with safe := cutN (List.replicate (4 * L.length) true) L (List.replicate 1024 0) L.length, loose := [], off := true } : Dv) = _
  rw [cutN_all _ _ _ (fun j hj => by rw [List.getD_eq_getElem?_getD, List.getElem?_replicate, if_pos hj]; rfl) _ (Nat.le_refl _), List.take_length]
theorem allD_flush (L : List (Nat × ByteArray)) : (allD L).flush = { allD L with safe := flushN (List.replicate 1024 0) L, loose := [], fl := 1 } := by
  unfold Dv.flush
  rw [Dv.burn_none (by show (-1 : Int) < 0; decide), if_neg (by show ¬ (false = true); simp)]
  rfl
theorem Dv.cut_none (d : Dv) (h : d.off = false) : d.cut [] = { d with loose := [], off := true } := by
  unfold Dv.cut
  rw [if_neg (by rw [h]; simp), cutN_none]

set_option maxHeartbeats 16000000 in
set_option maxRecDepth 100000 in
theorem devAll_walk (A : Option Addr) (cap : Nat) (xs : List Int) (w : World) (hr : Row w A (i64s xs)) (hm : xs.length ≤ 9223372036854775807) :
    Calls Try.prog 8 #[.slice A xs.length cap] w fun e w' => e = .returned (.bool true) ∧ Below w.heap.size w w' := by
  obtain ⟨i0, hi0, hz0, hz1, hz2⟩ := info_parts info_bool
  have HI0 := hid hi0; have HZ0 := hid hz0; have HZ1 := hid hz1; have HZ2 := hid hz2
  have HR := hid hr; clear hr hi0 hz0 hz1 hz2
  by_cases h20 : xs.length ≤ 20
  · have h20' : ¬ (20 : Int) < xs.length := by omega
    go_enter Try.func8, Try.ntmps8
    go_wp2_with fail
    refine (awake03_any _).mono ?_; rintro e w1 ⟨rfl, hb⟩
    have HB := hid hb; clear hb
    go_wp2_with fail
    refine (dv_New HB.out 4 (by decide) (by decide)).mono ?_; rintro e w2 ⟨pa, Fa, rfl, hDa, hb, hFa⟩
    have Da := hid hDa; clear hDa hFa hb
    go_wp2_with fail
    refine (dv_New Da.out.bel 4 (by decide) (by decide)).mono ?_; rintro e w3 ⟨pb, Fb, rfl, hDb, hb, hFb⟩
    have hab : ∀ k, k ∈ Fa → k ∉ Fb := fun k h1 h2 => by have := Da.out.at_.sizes k h1; have := hFb k h2; omega
    replace Da := hid (Da.out.below hb)
    have Db := hid hDb; have HAB := hid hab; clear hDb hFb hb hab
    go_wp2_with fail
    refine (dv_New Da.out.bel 4 (by decide) (by decide)).mono ?_; rintro e w4 ⟨pc, Fc, rfl, hDc, hb, hFc⟩
    have hac : ∀ k, k ∈ Fa → k ∉ Fc := fun k h1 h2 => by have := Da.out.at_.sizes k h1; have := hFc k h2; omega
    have hbc : ∀ k, k ∈ Fb → k ∉ Fc := fun k h1 h2 => by have := Db.out.at_.sizes k h1; have := hFc k h2; omega
    replace Da := hid (Da.out.below hb)
    replace Db := hid (Db.out.below hb)
    have Dc := hid hDc; have HAC := hid (And.intro hac hbc); clear hDc hFc hb hac hbc
    go_wp2_with fail
    have h0 : Three w (w4.alloc (.cells #[] 4)) pa pb pc (allD []) (allD []) (allD []) (.slice (some ⟨w4.heap.size, 0, none⟩) 0 0) 0 := by
      have hA := below_alloc w4 (.cells #[] 4)
      refine ⟨Fa, Fb, Fc, Da.out.below hA, Db.out.below hA, Dc.out.below hA, HAB.out, HAC.out.1, HAC.out.2, ownsRowF_empty w4 _ _, ?_⟩
      intro k hk
      simp [Value.ownBlock] at hk
      subst hk
      refine ⟨Da.out.bel.size, fun h => ?_, fun h => ?_, fun h => ?_⟩
      · exact absurd (Da.out.at_.sizes _ h) (Nat.lt_irrefl _)
      · exact absurd (Db.out.at_.sizes _ h) (Nat.lt_irrefl _)
      · exact absurd (Dc.out.at_.sizes _ h) (Nat.lt_irrefl _)
    have H0 := hid h0
    clear h0 Da Db Dc HAB HAC HB
    go_loopg [6, 7] xs.length (fun g V j wx => ∃ (i : Nat) (L : List (Nat × ByteArray)), i + g = xs.length ∧ j = .int .i64 i ∧ Hid (Three w wx pa pb pc (allD L) (allD L) (allD L) V (4 * i) ∧ L.length = i))
    case atStart => exact ⟨0, [], by omega, rfl, H0.out, rfl⟩
    case round =>
      obtain ⟨i, L, hi, rfl, HI⟩ := hrel
      clear H0
      by_cases hlt : i < xs.length
      · obtain ⟨b, off, rfl, hb, hc⟩ := row_cell HR.out (by intro e; have := congrArg List.length e; simp [i64s] at this; subst this; simp at hlt)
        have c0 := hc i (.int .i64 xs[i]) (by simp [i64s, hlt])
        rw [← HI.out.1.bel.cell (p := ⟨b, off + i, none⟩) hb] at c0
        obtain ⟨at_, ha, ha4⟩ := umod xs[i] 4 (by decide)
        generalize xs[i] = x at *
        have HA := hid ha4
        clear hb hc
        have e1 : IntKind.u8.wrap ((i : Int) + 1) = (((UInt8.ofNat (i + 1)).toNat : Nat) : Int) := by
          rw [IntKind.wrap_u8]; simp
        obtain ⟨bb, hbb⟩ : ∃ bb, bb = UInt8.ofNat (i + 1) := ⟨_, rfl⟩
        rw [← hbb] at e1
        have hi20 : i ≤ 20 := by omega
        clear hbb
        go_wp2_with fail
        refine (law03_block bb wr).mono ?_; rintro e w5 ⟨rfl, hb⟩
        have HI2 := hid (And.intro (HI.out.1.below hb) HI.out.2)
        clear HI hb c0 e1 ha ha4
        go_wp2_with fail
        have hL : L.length ≤ 20 := by have := HI2.out.2; omega
        have hat : at_ < 4 := by have := HA.out; omega
        have HL := hid (And.intro hat hL)
        clear hL hat
        refine (three_Write HI2.out.1 at_ bb HL.out.1 HL.out.2).mono ?_; rintro e w6 ⟨rfl, h1⟩
        replace h1 := hid h1.rot
        go_wp2_with fail
        refine (three_Write h1.out at_ bb HL.out.1 HL.out.2).mono ?_; rintro e w7 ⟨rfl, h2⟩
        replace h2 := hid h2.rot
        clear h1
        go_wp2_with fail
        refine (three_Write h2.out at_ bb HL.out.1 HL.out.2).mono ?_; rintro e w8 ⟨rfl, h3⟩
        replace h3 := hid h3.rot
        clear h2
        go_wp2_with (with_reducible refine at_op (.call { callee := .builtin .append, args := #[.tmp 55, .tmp 56], argTypes := #[38, 38] }) rfl ?_; refine Stopped.go ?_)
        have hA := below_alloc w8 (.cells #[.bool true, .bool true, .bool true, .bool true] 4)
        have hrow : Row (w8.alloc (.cells #[.bool true, .bool true, .bool true, .bool true] 4)) (some ⟨w8.heap.size, 0, none⟩) (bools (List.replicate 4 true)) := row_new w8 _ _
        obtain ⟨Fa', Fb', Fc', g1, g2, g3, g4, g5, g6, g7, g8⟩ := h3.out
        refine Stopped.mk (wpList_append_row rfl _ _ 38 4 rfl i0 _ 1 1 Try.underlying38 HI0.out HZ0.out HZ1.out HZ2.out rfl (by decide) _ (4 * i) _ rfl (ownsRowF_below g7 hA) (some ⟨w8.heap.size, 0, none⟩) 4 4 (bools (List.replicate 4 true)) rfl rfl hrow (bools_one _) (by simp only [maxLen]; omega) (by omega) ?_)
        clear g1 g2 g3 g4 g5 g6 g8
        intro V' w9 hown hkp hvb
        have hown' : w9.ownsRowF 0 4 1 V' (4 * (i + 1)) (bools (List.replicate (4 * (i + 1)) true)) := by
          have : bools (List.replicate (4 * (i + 1)) true) = bools (List.replicate (4 * i) true) ++ bools (List.replicate 4 true) := by
            unfold bools
            rw [show 4 * (i + 1) = 4 * i + 4 by omega, ← List.replicate_append_replicate, List.map_append]
          rw [this]
          exact hown
        have HI3 := hid (h3.out.grow hA hkp hown' hvb)
        have HL2 := hid HI2.out.2
        clear hA hrow g7 hown hkp hvb hown' h3 HI2
        go_wp2_with fail
        go_roundg (xs.length - (i + 1))
        case measure => omega
        case rel => exact ⟨i + 1, L ++ [(at_, oneB bb)], by omega, by go_num, HI3.out, by rw [List.length_append, HL2.out]; rfl⟩
      · have hin : i = xs.length := by omega
        subst hin
        obtain ⟨hT, hL⟩ := HI.out
        obtain ⟨VA, vcap, hV⟩ := hT.slice
        subst hV
        have HT := hid hT.rot; have HL := hid hL
        clear hT hL HI
        go_wp2_with fail
        refine (three_Flush HT.out (by show L.length + 0 + L.length + 0 ≤ 990; have := HL.out; omega)).mono ?_; rintro e w5 ⟨rfl, h1⟩
        rw [allD_on]
        rw [allD_flush] at h1
        replace h1 := hid h1.rot.rot
        clear HT
        go_wp2_with fail
        refine (three_Cut h1.out VA vcap _ h1.out.row (by rw [List.length_replicate]; omega) (4 * xs.length) (by rw [List.length_replicate])).mono ?_; rintro e w6 ⟨rfl, h2⟩
        rw [← HL.out, allD_cut] at h2
        replace h2 := hid h2.rot
        clear h1
        go_wp2_with fail
        refine (three_Cut h2.out none 0 [] (Row.nil _ _) (by simp) 0 rfl).mono ?_; rintro e w7 ⟨rfl, h1⟩
        rw [Dv.cut_none _ rfl] at h1
        replace h1 := hid h1.rot
        clear h2
        go_wp2_with fail
        refine (three_Cut h1.out none 0 [] (Row.nil _ _) (by simp) 0 rfl).mono ?_; rintro e w8 ⟨rfl, h2⟩
        rw [Dv.cut_none _ rfl] at h2
        replace h2 := hid h2.rot
        clear h1
        go_wp2_with fail
        refine (three_Image h2.out).mono ?_; rintro e w9 ⟨rfl, rfl⟩
        go_wp2_with fail
        refine (three_Image h2.out.rot).mono ?_; rintro e w9 ⟨rfl, rfl⟩
        go_wp2_with fail
        obtain ⟨Z, hZ⟩ : ∃ Z : ByteArray, Z = ⟨(List.replicate 1024 0).toArray⟩ := ⟨_, rfl⟩
        have HZ := hid hZ; clear hZ
        refine (three_Image h2.out.rot.rot).mono ?_; rintro e w9 ⟨rfl, rfl⟩
        rw [show (⟨(allD L).safe.toArray⟩ : ByteArray) = Z from HZ.out.symm]
        go_wp2_with fail
        refine (dv_New h2.out.bel 4 (by decide) (by decide)).mono ?_; rintro e w9 ⟨pd, Fd, rfl, hD, hb, _⟩
        have HD := hid hD
        have h3 := hid (h2.out.below hb)
        clear hD hb h2
        go_wp2_with fail
        refine (dev_Image w9 pd _ Fd HD.out.at_).mono ?_; rintro e w10 ⟨rfl, rfl⟩
        rw [show (⟨(Dv.new 4).safe.toArray⟩ : ByteArray) = Z from HZ.out.symm]
        go_wp2_with fail
        refine (three_Count h3.out).mono ?_; rintro e w10 ⟨rfl, h4⟩
        rw [show ((allD L).wr : Int) = (xs.length : Int) from by show (L.length : Int) = _; rw [HL.out]]
        replace h4 := hid h4.rot
        clear h3
        have hf1 := field_1
        have hf2 := field_2
        go_wp2_with fail
        refine (three_Count h4.out).mono ?_; rintro e w11 ⟨rfl, h5⟩
        have H5 := hid h5
        clear h5 h4
        go_wp2_with fail
        go_ret
        exact ⟨rfl, H5.out.bel⟩
  · have h20' : (20 : Int) < xs.length := by omega
    go_enter Try.func8, Try.ntmps8
    go_wp2_with fail
    refine (awake03_any _).mono ?_; rintro e w1 ⟨rfl, hb⟩
    go_wp2_with fail
    go_ret
    exact ⟨rfl, hb⟩

/-- in the row's words -/
theorem devAll_law (A : Option Addr) (cap : Nat) (xs : List Int) (w : World) (hr : Row w A (i64s xs)) (_ : ∀ n ∈ xs, (Lit.int .i64 n).wf = true) (hu : xs.length ≤ cap) (hm : cap ≤ maxLen) :
    Calls Try.prog 8 #[.slice A xs.length cap] w fun e w' => e = .returned (.bool true) ∧ Below w.heap.size w w' :=
  devAll_walk A cap xs w hr (by simp only [maxLen] at hm; omega)
end Go.Proofs.Ytapmnnfnhgopcaa
