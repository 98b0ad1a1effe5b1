/-
  DevAll, walked: with all kept, or flushed, all is there; with nothing kept just what was flushed.
-/
import Derived.Test.YtcklgaenedlbiaaDevLaws
namespace Go.Proofs.Ytcklgaenedlbiaa
open Go.RowKit

theorem sep_next {F F' G : List Nat} {N : Nat} (hF : ∀ k, k ∈ F' → k ∈ F ∨ N ≤ k) (hd : ∀ k, k ∈ F → k ∉ G) (hG : ∀ k, k ∈ G → k < N) : ∀ k, k ∈ F' → k ∉ G := by
  intro k hk hm
  rcases hF k hk with h | h
  · exact hd k h hm
  · have := hG k hm; omega
theorem sep_comm {F G : List Nat} (h : ∀ k, k ∈ F → k ∉ G) : ∀ k, k ∈ G → k ∉ F := fun k h1 h2 => h k h2 h1
theorem Dev.keeps {w0 w w' : World} {p n : Nat} {d : Dv} {F G : List Nat} (h : Dev w0 w p n d F) (hk : Keeps G w w') (hG : ∀ k, k ∈ G → w0.heap.size ≤ k) (hd : ∀ k, k ∈ F → k ∉ G) : Dev w0 w' p n d F :=
  ⟨h.at_.keeps hk hd, Keeps.below h.bel hk hG, h.own, h.ok, h.kl, h.ll⟩

/-- what the three devices are -/
def allD (L : List (Nat × ByteArray)) : Dv := ⟨List.replicate 1024 0, L, false, -1, [], 0, L.length, 0⟩
theorem allD_write (L : List (Nat × ByteArray)) (x : Nat × ByteArray) : (allD L).write x = allD (L ++ [x]) := by
  rw [Dv.write_none (by show (-1 : Int) < 0; decide) rfl]
  unfold allD
  simp only [List.length_append, List.length_cons, List.length_nil]
theorem ownsRowF_empty (w : World) (e : TypeId) (size : Nat) : (w.alloc (.cells #[] e)).ownsRowF 0 e size (.slice (some ⟨w.heap.size, 0, none⟩) 0 0) 0 [] :=
  ⟨by simp, .inr ⟨w.heap.size, 0, #[], (0, 0), rfl, Nat.zero_le _, heap_alloc_new w _, Nat.zero_le _, Nat.zero_le _, Nat.zero_le _, by simp, by simp⟩⟩
theorem allD_on (L : List (Nat × ByteArray)) : (allD L).burn.off = false := by rw [Dv.burn_none (by show (-1 : Int) < 0; decide)]; rfl

/-- three devices in a world, and a row of m times true -/
def Three (w wx : World) (pa pb pc : Nat) (Da Db Dc : Dv) (V : Value) (m : Nat) : Prop := ∃ Fa Fb Fc, Dev w wx pa 4 Da Fa ∧ Dev w wx pb 4 Db Fb ∧ Dev w wx pc 4 Dc Fc ∧ (∀ k, k ∈ Fa → k ∉ Fb) ∧ (∀ k, k ∈ Fa → k ∉ Fc) ∧ (∀ k, k ∈ Fb → k ∉ Fc) ∧
  wx.ownsRowF 0 4 1 V m (bools (List.replicate m true)) ∧ (∀ k, V.ownBlock = some k → w.heap.size ≤ k ∧ k ∉ Fa ∧ k ∉ Fb ∧ k ∉ Fc)
theorem Three.bel {w wx : World} {pa pb pc : Nat} {Da Db Dc : Dv} {V : Value} {m : Nat} (h : Three w wx pa pb pc Da Db Dc V m) : Below w.heap.size w wx := by
  obtain ⟨_, _, _, h, _⟩ := h; exact h.bel
/-- memory is made -/
theorem Three.below {w wx w' : World} {pa pb pc : Nat} {Da Db Dc : Dv} {V : Value} {m : Nat} (h : Three w wx pa pb pc Da Db Dc V m) (hb : Below wx.heap.size wx w') : Three w w' pa pb pc Da Db Dc V m := by
  obtain ⟨Fa, Fb, Fc, h1, h2, h3, h4, h5, h6, h7, h8⟩ := h
  exact ⟨Fa, Fb, Fc, h1.below hb, h2.below hb, h3.below hb, h4, h5, h6, ownsRowF_below h7 hb, h8⟩
theorem Three.rot {w wx : World} {pa pb pc : Nat} {Da Db Dc : Dv} {V : Value} {m : Nat} (h : Three w wx pa pb pc Da Db Dc V m) : Three w wx pb pc pa Db Dc Da V m := by
  obtain ⟨Fa, Fb, Fc, h1, h2, h3, h4, h5, h6, h7, h8⟩ := h
  exact ⟨Fb, Fc, Fa, h2, h3, h1, h6, sep_comm h4, sep_comm h5, h7, fun k hk => ⟨(h8 k hk).1, (h8 k hk).2.2.1, (h8 k hk).2.2.2, (h8 k hk).2.1⟩⟩
/-- a deed of the first -/
theorem three_call {w wx : World} {pa pb pc : Nat} {Da Db Dc Da' : Dv} {V : Value} {m f : Nat} {args : Array Value} {r : Ending} (h : Three w wx pa pb pc Da Db Dc V m)
    (hc : ∀ Fa, Dev w wx pa 4 Da Fa → Calls Try.prog f args wx fun e w' => e = r ∧ ∃ Fa', Dev w w' pa 4 Da' Fa' ∧ Keeps Fa wx w' ∧ ∀ k, k ∈ Fa' → k ∈ Fa ∨ wx.heap.size ≤ k) :
    Calls Try.prog f args wx fun e w' => e = r ∧ Three w w' pa pb pc Da' Db Dc V m := by
  obtain ⟨Fa, Fb, Fc, h1, h2, h3, h4, h5, h6, h7, h8⟩ := h
  refine (hc Fa h1).mono ?_
  rintro e w' ⟨rfl, Fa', k1, k2, k3⟩
  refine ⟨rfl, Fa', Fb, Fc, k1, h2.keeps k2 h1.own (sep_comm h4), h3.keeps k2 h1.own (sep_comm h5), sep_next k3 h4 h2.at_.sizes, sep_next k3 h5 h3.at_.sizes, h6, ownsRowF_keeps h7 k2 (fun k hk => (h8 k hk).2.1), fun k hk => ⟨(h8 k hk).1, fun hm => ?_, (h8 k hk).2.2⟩⟩
  rcases k3 k hm with h | h
  · exact (h8 k hk).2.1 h
  · have := (h7.lt k hk).2; omega
theorem three_Write {w wx : World} {pa pb pc : Nat} {L : List (Nat × ByteArray)} {Db Dc : Dv} {V : Value} {m : Nat} (h : Three w wx pa pb pc (allD L) Db Dc V m) (i : Nat) (b : UInt8) (hi : i < 4) (hL : L.length ≤ 20) :
    Calls Try.prog 25 #[.pointer (some ⟨pa, 0, none⟩), .int .i64 i, .string (oneB b)] wx fun e w' => e = .returned (.int .i64 0) ∧ Three w w' pa pb pc (allD (L ++ [(i, oneB b)])) Db Dc V m := by
  refine three_call h fun Fa hD => ?_
  refine (dv_Write hD i (oneB b) hi (oneB_size _) (by show L.length + 0 + L.length + 0 ≤ 990; omega)).mono ?_
  rintro e w6 ⟨rfl, Fa', k1, k2, k3⟩
  rw [allD_on]
  rw [allD_write] at k1
  exact ⟨rfl, Fa', k1, k2, k3⟩
theorem three_Cut {w wx : World} {pa pb pc : Nat} {Da Db Dc : Dv} {V : Value} {m : Nat} (h : Three w wx pa pb pc Da Db Dc V m) (A : Option Addr) (cap : Nat) (keep : List Bool) (hr : Row wx A (bools keep)) (hkl : keep.length ≤ 9223372036854775807) (c : Nat) (hc : c = keep.length) :
    Calls Try.prog 18 #[.pointer (some ⟨pa, 0, none⟩), .slice A c cap] wx fun e w' => e = .returned (.tuple #[]) ∧ Three w w' pa pb pc (Da.cut keep) Db Dc V m := by
  subst hc
  refine three_call h fun Fa hD => ?_
  refine (dv_Cut hD A cap keep hr hkl).mono ?_
  rintro e w6 ⟨rfl, k1, k2⟩
  exact ⟨rfl, Fa, k1, k2, fun k hk => .inl hk⟩
theorem three_Flush {w wx : World} {pa pb pc : Nat} {Da Db Dc : Dv} {V : Value} {m : Nat} (h : Three w wx pa pb pc Da Db Dc V m) (hroom : Da.loose.length + Da.rd + Da.wr + Da.fl ≤ 990) :
    Calls Try.prog 15 #[.pointer (some ⟨pa, 0, none⟩)] wx fun e w' => e = .returned (.int .i64 (if Da.burn.off then 4 else 0)) ∧ Three w w' pa pb pc Da.flush Db Dc V m := by
  refine three_call h fun Fa hD => ?_
  refine (dv_Flush hD hroom).mono ?_
  rintro e w6 ⟨rfl, k1, k2⟩
  exact ⟨rfl, Fa, k1, k2, fun k hk => .inl hk⟩
theorem three_Image {w wx : World} {pa pb pc : Nat} {Da Db Dc : Dv} {V : Value} {m : Nat} (h : Three w wx pa pb pc Da Db Dc V m) :
    Calls Try.prog 29 #[.pointer (some ⟨pa, 0, none⟩)] wx fun e w' => e = .returned (.string ⟨Da.safe.toArray⟩) ∧ wx = w' := by
  obtain ⟨Fa, Fb, Fc, h1, _⟩ := h
  exact dev_Image wx pa Da Fa h1.at_
theorem three_Count {w wx : World} {pa pb pc : Nat} {Da Db Dc : Dv} {V : Value} {m : Nat} (h : Three w wx pa pb pc Da Db Dc V m) :
    Calls Try.prog 31 #[.pointer (some ⟨pa, 0, none⟩)] wx fun e w' => e = .returned (.agg #[.int .i64 Da.rd, .int .i64 Da.wr, .int .i64 Da.fl]) ∧ Three w w' pa pb pc Da Db Dc V m := by
  refine Calls.mono (dev_Count wx pa Da _ h.choose_spec.choose_spec.choose_spec.1.at_) ?_
  rintro e w' ⟨rfl, hb⟩
  exact ⟨rfl, h.below hb⟩

/-- the row grows -/
theorem Three.grow {w wx w1 w' : World} {pa pb pc : Nat} {Da Db Dc : Dv} {V V' : Value} {m m' : Nat} (h : Three w wx pa pb pc Da Db Dc V m) (hb : Below wx.heap.size wx w1) (hk : Keeps V.ownBlock.toList w1 w') (ho : w'.ownsRowF 0 4 1 V' m' (bools (List.replicate m' true))) (hV : ∀ k, V'.ownBlock = some k → V.ownBlock = some k ∨ w1.heap.size ≤ k) : Three w w' pa pb pc Da Db Dc V' m' := by
  obtain ⟨Fa, Fb, Fc, h1, h2, h3, h4, h5, h6, h7, h8⟩ := h
  have hG : ∀ k, k ∈ V.ownBlock.toList → w.heap.size ≤ k := fun k hk => (h8 k (Option.mem_toList.1 hk)).1
  have z1 := hb.size
  have z0 := h1.bel.size
  refine ⟨Fa, Fb, Fc, (h1.below hb).keeps hk hG (fun k h hm => (h8 k (Option.mem_toList.1 hm)).2.1 h), (h2.below hb).keeps hk hG (fun k h hm => (h8 k (Option.mem_toList.1 hm)).2.2.1 h), (h3.below hb).keeps hk hG (fun k h hm => (h8 k (Option.mem_toList.1 hm)).2.2.2 h), h4, h5, h6, ho, fun k hk => ?_⟩
  rcases hV k hk with h | h
  · exact h8 k h
  · exact ⟨by omega, fun hm => by have := h1.at_.sizes k hm; omega, fun hm => by have := h2.at_.sizes k hm; omega, fun hm => by have := h3.at_.sizes k hm; omega⟩

theorem Three.slice {w wx : World} {pa pb pc : Nat} {Da Db Dc : Dv} {V : Value} {m : Nat} (h : Three w wx pa pb pc Da Db Dc V m) : ∃ A c, V = .slice A m c := by
  obtain ⟨_, _, _, _, _, _, _, _, _, h7, _⟩ := h
  obtain ⟨A, c, hV, _⟩ := ownsRowF_row h7
  exact ⟨A, c, hV⟩
theorem Three.row {w wx : World} {pa pb pc : Nat} {Da Db Dc : Dv} {A : Option Addr} {m c : Nat} (h : Three w wx pa pb pc Da Db Dc (.slice A m c) m) : Row wx A (bools (List.replicate m true)) := by
  obtain ⟨_, _, _, _, _, _, _, _, _, h7, _⟩ := h
  obtain ⟨A', c', hV, hr⟩ := ownsRowF_row h7
  injection hV with e _ _
  rw [e]; exact hr

theorem field_1 (x y z : Value) (w : World) : (Instr.field 56 (.agg #[x, y, z]) 1).run Try.prog w = .ok y w := by
  simp [Instr.field, run_underlying Try.underlying56, go_sem, sizeOf, typeInfo, asAgg, Result.andThen]
theorem field_2 (x y z : Value) (w : World) : (Instr.field 56 (.agg #[x, y, z]) 2).run Try.prog w = .ok z w := by
  simp [Instr.field, run_underlying Try.underlying56, go_sem, sizeOf, typeInfo, asAgg, Result.andThen]

theorem allD_cut (L : List (Nat × ByteArray)) : (allD L).cut (List.replicate (4 * L.length) true) = { allD L with safe := flushN (List.replicate 1024 0) L, loose := [], off := true } := by
  unfold Dv.cut
  rw [if_neg (by show ¬ (false = true); simp)]
  show ({ allD L with safe := cutN (List.replicate (4 * L.length) true) L (List.replicate 1024 0) L.length, loose := [], off := true } : Dv) = _
  rw [cutN_all _ _ _ (fun j hj => by rw [List.getD_eq_getElem?_getD, List.getElem?_replicate, if_pos hj]; rfl) _ (Nat.le_refl _), List.take_length]
theorem allD_flush (L : List (Nat × ByteArray)) : (allD L).flush = { allD L with safe := flushN (List.replicate 1024 0) L, loose := [], fl := 1 } := by
  unfold Dv.flush
  rw [Dv.burn_none (by show (-1 : Int) < 0; decide), if_neg (by show ¬ (false = true); simp)]
  rfl
theorem Dv.cut_none (d : Dv) (h : d.off = false) : d.cut [] = { d with loose := [], off := true } := by
  unfold Dv.cut
  rw [if_neg (by rw [h]; simp), cutN_none]

end Go.Proofs.Ytcklgaenedlbiaa
