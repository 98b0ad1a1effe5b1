/-
  Messages that fit, as a text; the texts of a row.
  A row of messages: its like, and the like without those that can't be.
-/
import Derived.Test.YtcklgaenedlbiaaGreatGWalExact10
import Derived.Deep.MidRow
import Derived.Laws.AppendOwn
import Derived.Lib.SliceRun

namespace Go.Proofs.YtcklgaenedlbiaaGreat
open Go.RowKit

/-- a text's bytes -/
def textG (xs : List Msg3) : List UInt8 := UInt8.ofNat xs.length :: xs.flatMap msgB
theorem numOk_len {n : Nat} (h : n ≤ 255) : numOk 1 [(n : Int)] = true ∧ beAll (1 : Int).toNat [(n : Int)] = [UInt8.ofNat n] := by
  constructor
  · show (isW 1 && [(n : Int)].all (fitsB 1)) = true
    simp [isW, fitsB]; omega
  · simp [beAll, beB, Nat.mod_eq_of_lt (show n < 256 by omega)]

set_option maxHeartbeats 4000000 in
set_option maxRecDepth 100000 in
theorem rec_text_yes (A : Option Addr) (cap : Nat) (xs : List Msg3) (hlen : xs.length ≤ 255) (hall : ∀ x ∈ xs, isB x = true) (w : World) (hr : Row w A (xs.flatMap msgCells)) :
    Calls Tryz.prog 59 #[.slice A xs.length cap] w fun e w' => e = .returned (.string ⟨(textG xs).toArray⟩) ∧ Below w.heap.size w w' := by
  have HR := hid hr; have HALL := hid hall; clear hr hall
  have P0 := hid (Pen.new (Below.refl w.heap.size w))
  obtain ⟨h1, h2⟩ := numOk_len hlen
  have H1 := hid h1; have H2 := hid h2; clear h1 h2
  go_enter Tryz.func59, Tryz.ntmps59
  go_wp2_with (with_reducible refine at_op (.buildSlice 60 1 #[(0, .tmp 5)]) rfl ?_; refine Stopped.go ?_)
  obtain ⟨p, hp⟩ : ∃ p, p = w.heap.size := ⟨_, rfl⟩
  rw [← hp] at P0 ⊢
  generalize w.alloc (.cells #[.pointer none, .slice none 0 0] 113) = w2 at P0 ⊢
  clear hp
  refine Stopped.mk ?_
  go_wp2_with fail
  refine (pen_Num P0.out 1 [(xs.length : Int)] #[.int .i64 xs.length] 3 rfl 1 (by simp) (by simp)).mono ?_
  rintro e w3 ⟨rfl, P3⟩
  rw [H1.out, H2.out] at P3
  rw [H1.out]
  simp only [if_true, List.nil_append] at P3 ⊢
  have HP3 := hid P3
  clear P3 P0
  go_wp2_with fail
  refine (msg_Write_yes w p _ A cap xs w3 HP3.out HR.out HALL.out (by omega) (by simp)).mono ?_
  rintro e w4 ⟨rfl, P4⟩
  have HP4 := hid P4
  clear P4 HP3
  go_wp2_with fail
  refine (pen_Bytes HP4.out).mono ?_; rintro e w5 ⟨rfl, P5⟩
  have HP5 := hid P5
  clear P5 HP4
  go_wp2_with fail
  go_ret
  exact ⟨rfl, HP5.out.bel⟩

/-! the texts of a row -/
def bytesG (g : List Msg3) : ByteArray := ⟨(textG g).toArray⟩
theorem len_flat : ∀ (gs : List (List Msg3)) (g : List Msg3), g ∈ gs → g.length ≤ gs.flatten.length
  | x :: gs, g, h => by
    rw [List.flatten_cons, List.length_append]
    rcases List.mem_cons.1 h with rfl | h
    · omega
    · have := len_flat gs g h; omega
theorem g2_mem {l g : List Msg3} (h : g ∈ g2 [] l) : (∀ x ∈ g, x ∈ l) ∧ g.length ≤ l.length := by
  have e := g2_flat l []
  rw [List.nil_append] at e
  refine ⟨fun x hx => ?_, ?_⟩
  · rw [← e]; exact List.mem_flatten.2 ⟨g, h, hx⟩
  · rw [← e]; exact len_flat _ _ h
theorem info_strs : (Tryz.prog.info? 9).map (fun i => (i.zero, i.size, i.bytes)) = some (some (.string ⟨#[]⟩), 1, 16) := by kernel_rfl

set_option maxHeartbeats 8000000 in
set_option maxRecDepth 100000 in
theorem rec_Texts_own (A : Option Addr) (cap : Nat) (l : List Msg3) (hlen : l.length ≤ 255) (hcap : l.length ≤ cap) (hall : ∀ x ∈ l, isB x = true) (w : World) (hr : Row w A (l.flatMap msgCells)) :
    Calls Tryz.prog 37 #[.slice A l.length cap] w fun e w' => ∃ A' cap', e = .returned (.tuple #[.slice A' (g2 [] l).length cap', .int .i64 0]) ∧ w'.ownsRowF 0 9 1 (.slice A' (g2 [] l).length cap') (g2 [] l).length (strs ((g2 [] l).map bytesG)) ∧ (∀ b, (Value.slice A' (g2 [] l).length cap').ownBlock = some b → w.heap.size ≤ b) ∧ Below w.heap.size w w' := by
  obtain ⟨i0, hi0, hz0, hz1, hz2⟩ := info_parts info_strs
  have HI0 := hid hi0; have HZ0 := hid hz0; have HZ1 := hid hz1; have HZ2 := hid hz2
  clear hi0 hz0 hz1 hz2
  have hany : (l.any fun x => !isB x) = false := by
    rw [List.any_eq_false]; intro x hx; simp [hall x hx]
  have HA := hid hany
  have HR := hid hr; have HALL := hid hall; clear hr hall hany
  obtain ⟨gs, hgs⟩ : ∃ gs, gs = g2 [] l := ⟨_, rfl⟩
  have hmem : ∀ g ∈ gs, (∀ x ∈ g, isB x = true) ∧ g.length ≤ 255 := by
    intro g hg
    rw [hgs] at hg
    obtain ⟨h1, h2⟩ := g2_mem hg
    exact ⟨fun x hx => HALL.out x (h1 x hx), by omega⟩
  have hgl : gs.length ≤ 256 := by rw [hgs]; have := g2_len l []; omega
  rw [← hgs]
  obtain ⟨n, hn⟩ : ∃ n, n = gs.length := ⟨_, rfl⟩
  rw [← hn] at hgl ⊢
  have HN := hid hn; have HG := hid hgs; have HMEM := hid hmem
  clear hn hgs hmem
  go_enter Tryz.func37, Tryz.ntmps37
  go_wp2_with fail
  refine (ContainsFunc_recs_any A cap l (by omega) _ HR.out).mono ?_; rintro e w1 ⟨rfl, hb1⟩
  rw [HA.out]
  have HB1 := hid hb1
  clear hb1
  go_wp2_with fail
  refine (rec_split_yes A cap l (by omega) hcap HALL.out w1 (HR.out.below HB1.out)).mono ?_
  rintro e w2 ⟨v, cs, rfl, ho2, hc2, hb2⟩
  rw [← HG.out] at ho2 hc2
  rw [← HN.out] at ho2
  obtain ⟨B, bcap, rfl, hrow⟩ := ownsRowF_row ho2
  have HROW := hid hrow; have HC2 := hid hc2; have HB2 := hid (bt HB1.out hb2); have HB12 := hid hb2
  clear hrow hc2 hb2 ho2 HB1
  go_wp2_with fail
  go_loopg [12, 4] n (fun g j y wx => ∃ k : Nat, k + g = n ∧ j = .int .i64 k ∧ Hid (Below w2.heap.size w2 wx ∧ wx.ownsRowF 0 9 1 y k (strs ((gs.take k).map bytesG)) ∧ ∀ b, y.ownBlock = some b → w2.heap.size ≤ b))
  case atStart => exact ⟨0, by omega, rfl, Below.refl _ _, World.ownsRowF_nil _ _ _ _, by intro b h; cases h⟩
  case round =>
    obtain ⟨k, hk, rfl, HS⟩ := hrel
    by_cases hlt : k < n
    · have hlt' : k < gs.length := by have := HN.out; omega
      obtain ⟨c, hcc, Ag, capg, rfl, hgc, hrg⟩ := HC2.out.2 k gs[k] (by simp [hlt'])
      obtain ⟨b, off, rfl, hb, hc⟩ := row_cell HROW.out (by intro e; rw [e] at hcc; cases hcc)
      have c0 := hc _ _ hcc
      rw [← HS.out.1.cell (p := ⟨b, off + k, none⟩) hb] at c0
      obtain ⟨hm1, hm2⟩ := HMEM.out gs[k] (List.getElem_mem _)
      have hsn : (gs.take (k + 1)).map bytesG = (gs.take k).map bytesG ++ [bytesG gs[k]] := by rw [List.take_succ_eq_append_getElem hlt', List.map_append]; rfl
      obtain ⟨gg, hgg⟩ : ∃ gg, gg = gs[k] := ⟨_, rfl⟩
      rw [← hgg] at c0 hgc hrg hm1 hm2 hsn
      have HCALL := hid (rec_text_yes Ag capg gg hm2 hm1 wr (hrg.below (bt HB12.out HS.out.1)))
      have HSN := hid hsn
      clear hb hc hcc hgc hrg hm1 hm2 hsn hgg
      go_wp2_with fail
      refine HCALL.out.mono ?_; rintro e w3 ⟨rfl, hb3⟩
      have HB3 := hid hb3
      clear hb3
      go_wp2_with (with_reducible refine at_op (.call { callee := .builtin .append, args := #[.tmp 16, .tmp 19], argTypes := #[22, 22] }) rfl ?_; refine Stopped.go ?_)
      refine Stopped.mk ?_
      obtain ⟨s1, s2, s3⟩ := HS.out
      refine wpList_append_one rfl _ _ 22 9 rfl i0 _ 1 16 Tryz.underlying22 HI0.out HZ0.out HZ1.out HZ2.out rfl (by decide) _ k _ rfl w3 #[.string ⟨(textG gg).toArray⟩] rfl (ownsRowF_below s2 HB3.out) w3.heap.size rfl 1 rfl rfl (by simp [Value.oneCell']) (by simp only [maxLen]; omega) (by omega) ?_
      intro V w5 hown hkp hvb
      have H5 : Hid (Below w2.heap.size w2 w5 ∧ w5.ownsRowF 0 9 1 V (k + 1) (strs ((gs.take (k + 1)).map bytesG)) ∧ ∀ b, V.ownBlock = some b → w2.heap.size ≤ b) := by
        refine ⟨Keeps.below (bt s1 HB3.out) hkp (fun x hx => s3 x (Option.mem_toList.1 hx)), ?_, fun x hx => ?_⟩
        · rw [HSN.out]
          simp only [strs, List.map_append] at hown ⊢
          exact hown
        · rcases hvb x hx with h | h
          · exact s3 x h
          · have := s1.size; have := HB3.out.size; omega
      clear s1 s2 s3 hown hkp hvb HS HB3 HCALL
      go_wp2_with fail
      go_roundg (n - (k + 1))
      case measure => omega
      case rel => exact ⟨k + 1, by omega, by go_num, H5⟩
    · go_wp2_with fail
      go_ret2
      obtain ⟨s1, s2, s3⟩ := HS.out
      have hkn : k = n := by omega
      subst hkn
      rw [show gs.take k = gs from List.take_of_length_le (by have := HN.out; omega)] at s2
      obtain ⟨V, vcap, rfl, hr⟩ := ownsRowF_row s2
      exact ⟨V, vcap, rfl, s2, fun b hb => Nat.le_trans HB2.out.size (s3 b hb), bt HB2.out s1⟩

theorem rec_Texts_yes (A : Option Addr) (cap : Nat) (l : List Msg3) (hlen : l.length ≤ 255) (hcap : l.length ≤ cap) (hall : ∀ x ∈ l, isB x = true) (w : World) (hr : Row w A (l.flatMap msgCells)) :
    Calls Tryz.prog 37 #[.slice A l.length cap] w fun e w' => ∃ A' cap', e = .returned (.tuple #[.slice A' (g2 [] l).length cap', .int .i64 0]) ∧ Row w' A' (strs ((g2 [] l).map bytesG)) ∧ Below w.heap.size w w' := by
  refine (rec_Texts_own A cap l hlen hcap hall w hr).mono ?_
  rintro e w' ⟨A', cap', rfl, ho, _, hb⟩
  obtain ⟨A2, cap2, he, hr2⟩ := ownsRowF_row ho
  injection he with e1 _ _
  exact ⟨A', cap', rfl, by rw [e1]; exact hr2, hb⟩

set_option maxHeartbeats 8000000 in
set_option maxRecDepth 100000 in
theorem rec_Texts_no (A : Option Addr) (cap : Nat) (l : List Msg3) (hlen : l.length ≤ 9223372036854775807) (hno : (l.any fun x => !isB x) = true) (w : World) (hr : Row w A (l.flatMap msgCells)) :
    Calls Tryz.prog 37 #[.slice A l.length cap] w fun e w' => e = .returned (.tuple #[.slice none 0 0, .int .i64 1]) ∧ Below w.heap.size w w' := by
  have HA := hid hno
  have HR := hid hr; clear hr hno
  go_enter Tryz.func37, Tryz.ntmps37
  go_wp2_with fail
  refine (ContainsFunc_recs_any A cap l hlen _ HR.out).mono ?_; rintro e w1 ⟨rfl, hb1⟩
  rw [HA.out]
  have HB1 := hid hb1
  clear hb1
  go_wp2_with fail
  go_ret2
  exact ⟨rfl, HB1.out⟩
end Go.Proofs.YtcklgaenedlbiaaGreat

namespace Go.Proofs.YtcklgaenedlbiaaGreat
open Go.RowKit

section
variable {P : Program} {ops : Array Oper} {rest : List Oper} {o : Oper} {a : Act} {w : World} {Q : Exit → Act → World → Prop}
theorem wpList_append_own (hgd : o.guard = none) (s x : Operand) (t e : TypeId) (ho : o.op = .call { callee := .builtin .append, args := #[s, x], argTypes := #[t, t] })
    (i : TypeInfo) (z : Value) (size bytes : Nat) (ht : P.underlying t = some (.slice e)) (hi : P.info? e = some i) (hz : i.zero = some z)
    (hsize : i.size = size) (hby : i.bytes = bytes) (hzs : z.cells.size = size) (hsz : 0 < size)
    (v : Value) (n : Nat) (xs : List Value) (hs : a.eval s = v) (base : Nat) (hown : w.ownsRow base e size v n xs)
    (ad : Addr) (m c : Nat) (news : List Value) (hx : a.eval x = .slice (some ad) m c) (hl : news.length = m * size) (hnews : ∀ j u, news[j]? = some u → w.cell? (ad.add j) = some u) (h1 : ∀ u ∈ news, u.oneCell' = true)
    (h63 : n + m ≤ maxLen) (hbytes : (n + m) * bytes ≤ 140737488355328) (hbase : base ≤ w.heap.size)
    (h : ∀ v' w', w'.ownsRow base e size v' (n + m) (xs ++ news) → w.grownBy w' v.ownBlock → wpList P ops Q rest (a.put o.dst v') w') : wpList P ops Q (o :: rest) a w := by
  obtain ⟨v', w', r1, r2, r3, _⟩ := run_append_own (P := P) (w := w) base t o.type e i z size bytes ht hi hz hsize hby hzs hsz v n xs hown ad m c news hl hnews h1 h63 hbytes hbase
  refine wpList_plain hgd fun K hK => ?_
  unfold Oper.wp execOp
  simp only [ho, resolve, invoke, builtin, Sem.run_bind, Sem.run_pure, Result.andThen_ok, List.map_toArray, List.map_cons, List.map_nil, hs, hx, r1]
  exact hK _ _ (h v' w' r2 r3)

/-- 'clear' of elements of whatever size -/
theorem wpList_clear (hgd : o.guard = none) (x : Operand) (t e : TypeId) (ho : o.op = .call { callee := .builtin .clear, args := #[x], argTypes := #[t] })
    (i : TypeInfo) (z : Value) (size : Nat) (ht : P.underlying t = some (.slice e)) (hi : P.info? e = some i) (hz : i.zero = some z) (hzs : z.cells.size = size) (h1 : z.cells.all (·.oneCell') = true)
    (b off n c : Nat) (hx : a.eval x = .slice (some ⟨b, off, none⟩) n c) (hn : 0 < n) (hth : w.there b off (n * size))
    (h : ∀ vs : List Value, vs.length = n * size → wpList P ops Q rest (a.put o.dst (.tuple #[])) (w.setCells b off vs)) : wpList P ops Q (o :: rest) a w := by
  have hl : (Builtin.zeroCells z.cells n).toList.length = n * size := by rw [Array.length_toList, size_zeroCells, hzs]
  have hst := run_storeCells_cells (P := P) b off (Builtin.zeroCells z.cells n).toList 0 w (fun j hj => by rw [Nat.add_zero]; exact (hth j (by omega)).1) (fun j hj => by rw [Nat.add_zero]; exact (hth j (by omega)).2) (by
    intro v hv
    simp only [Builtin.zeroCells, Array.toList_map, List.mem_map, Array.toList_range, List.mem_range] at hv
    obtain ⟨k, hk, rfl⟩ := hv
    have hpos : 0 < z.cells.size := by
      rcases Nat.eq_zero_or_pos z.cells.size with h0 | h0
      · rw [h0] at hk; omega
      · exact h0
    have hm : k % z.cells.size < z.cells.size := Nat.mod_lt _ hpos
    rw [getElem!_pos z.cells _ hm]
    exact (Array.all_eq_true_iff_forall_mem.1 h1) _ (Array.getElem_mem hm))
  simp only [Nat.add_zero] at hst
  have hv : (zeroValue e).run P w = .ok z w := by simp [zeroValue, typeInfo, hi, hz]
  obtain ⟨m, rfl⟩ : ∃ m, n = m + 1 := ⟨n - 1, by omega⟩
  have hrun : (Builtin.clear_ #[t] o.type #[.slice (some ⟨b, off, none⟩) (m + 1) c]).run P w = .ok (.tuple #[]) (w.setCells b off (Builtin.zeroCells z.cells (m + 1)).toList) := by
    simp [Builtin.clear_, run_underlying ht, hv, hst]
  refine wpList_plain hgd fun K hK => ?_
  unfold Oper.wp execOp
  simp only [ho, resolve, invoke, builtin, Sem.run_bind, Sem.run_pure, Result.andThen_ok, List.map_toArray, List.map_cons, List.map_nil, hx, hrun]
  exact hK _ _ (h _ hl)
end

theorem rangeAt_append {w : World} {b o : Nat} {xs ys : List Value} (h1 : w.rangeAt b o xs) (h2 : w.rangeAt b (o + xs.length) ys) : w.rangeAt b o (xs ++ ys) := by
  intro j v hv
  rw [List.getElem?_append] at hv
  split at hv
  · exact h1 j v hv
  · rename_i h
    have := h2 _ v hv
    rwa [show o + xs.length + (j - xs.length) = o + j by omega] at this
theorem rangeAt_right {w : World} {b o : Nat} {xs ys : List Value} (h : w.rangeAt b o (xs ++ ys)) : w.rangeAt b (o + xs.length) ys := by
  intro j v hv
  rw [Nat.add_assoc]
  exact h _ v (by rw [List.getElem?_append_right (by omega), Nat.add_sub_cancel_left]; exact hv)
theorem rangeAt_left {w : World} {b o : Nat} {xs ys : List Value} (h : w.rangeAt b o (xs ++ ys)) : w.rangeAt b o xs := by
  intro j v hv
  exact h _ v (by rw [List.getElem?_append_left (List.getElem?_eq_some_iff.1 hv).1]; exact hv)
theorem rangeAt_below {w w' : World} {b o : Nat} {xs : List Value} (h : w.rangeAt b o xs) (hb : Below w.heap.size w w') (hg : b < w.heap.size) : w'.rangeAt b o xs := fun j v hv => by
  rw [hb.cell (p := ⟨b, o + j, none⟩) hg]; exact h j v hv
theorem there_below {w w' : World} {b o n : Nat} (h : w.there b o n) (hb : Below w.heap.size w w') (hg : b < w.heap.size) : w'.there b o n := fun j hj => by
  have h1 := h j hj
  refine ⟨by rw [hb.cell (p := ⟨b, o + j, none⟩) hg]; exact h1.1, ?_⟩
  have e : w'.frozen? ⟨b, o + j, none⟩ = w.frozen? ⟨b, o + j, none⟩ := by simp only [World.frozen?, hb.block b hg]
  rw [e]; exact h1.2
theorem there_sub {w : World} {b o n o' n' : Nat} (h : w.there b o n) (h1 : o ≤ o') (h2 : o' + n' ≤ o + n) : w.there b o' n' := fun j hj => by
  have := h (o' + j - o) (by omega)
  rwa [show o + (o' + j - o) = o' + j by omega] at this
theorem row_range {w : World} {b : Nat} {xs : List Value} (h : w.rangeAt b 0 xs) (hg : b < w.heap.size) : Row w (some ⟨b, 0, none⟩) xs :=
  .inr ⟨b, 0, rfl, hg, fun i v hv => h i v hv⟩
theorem range_own {w : World} {e : TypeId} {size n B : Nat} {v : Value} {xs : List Value} (h : w.ownsRow B e size v n xs) (hn : 0 < n) : ∃ g cap, v = .slice (some ⟨g, 0, none⟩) n cap ∧ B ≤ g ∧ g < w.heap.size ∧ n ≤ cap ∧ w.rangeAt g 0 xs ∧ w.there g 0 (cap * size) := by
  rcases h.2 with ⟨_, h0⟩ | ⟨g, cap, cur, hv, hB, hg, hnc, _, hsz, ht⟩
  · omega
  · refine ⟨g, cap, hv, hB, (Array.getElem?_eq_some_iff.1 hg).1, hnc, fun j u hu => ?_, fun j hj => ?_⟩
    · rw [Nat.zero_add, cell_of_row w g j _ _ _ hg, ← Array.getElem?_toList]
      rw [← ht, List.getElem?_take] at hu
      split at hu
      · exact hu
      · cases hu
    · rw [Nat.zero_add]
      refine ⟨?_, by simp [World.frozen?, hg]⟩
      rw [cell_of_row w g j _ _ _ hg, Array.getElem?_eq_getElem (by omega)]
      rfl
theorem msgCells_one (l : List Msg3) : ∀ u ∈ l.flatMap msgCells, u.oneCell' = true := by
  intro u hu
  obtain ⟨x, _, hx⟩ := List.mem_flatMap.1 hu
  simp only [msgCells, List.mem_cons, List.not_mem_nil, or_false] at hx
  rcases hx with rfl | rfl | rfl <;> rfl

theorem info_msg : (Tryz.prog.info? 39).map (fun i => (i.zero, i.size, i.bytes)) = some (some (.agg #[.int .i64 0, .string ⟨#[]⟩, .string ⟨#[]⟩]), 3, 40) := by kernel_rfl

set_option maxHeartbeats 8000000 in
set_option maxRecDepth 100000 in
theorem Clone_msgs (A : Option Addr) (cap : Nat) (l : List Msg3) (hlen : l.length ≤ 1000) (w : World) (hr : Row w A (l.flatMap msgCells)) :
    Calls Tryz.prog 44 #[.slice A l.length cap] w fun e w' => ∃ v, e = .returned v ∧ w'.ownsRow w.heap.size 39 3 v l.length (l.flatMap msgCells) ∧ Below w.heap.size w w' := by
  obtain ⟨i0, hi0, hz0, hz1, hz2⟩ := info_parts info_msg
  have HI0 := hid hi0; have HZ0 := hid hz0; have HZ1 := hid hz1; have HZ2 := hid hz2
  clear hi0 hz0 hz1 hz2
  have HR := hid hr; clear hr
  cases A with
  | none =>
    have hl0 : l = [] := by
      rcases HR.out with h | ⟨_, _, h, _⟩
      · have := congrArg List.length h
        rw [flat_len, List.length_nil] at this
        exact List.length_eq_zero_iff.1 (by omega)
      · cases h
    subst hl0
    have he : ∀ wx, (binOp .eql 32 (.slice none 0 cap) (.slice none 0 0)).run Tryz.prog wx = .ok (.bool true) wx := fun wx => Lib.run_eql_slice_nil wx 32 39 none 0 cap 0 0 Tryz.underlying32
    go_enter Tryz.func44, Tryz.ntmps44
    go_wp2_with fail
    go_ret
    exact ⟨_, rfl, ⟨rfl, .inl ⟨rfl, rfl⟩⟩, Below.refl _ _⟩
  | some ad =>
    obtain ⟨m, hm⟩ : ∃ m, m = l.length := ⟨_, rfl⟩
    rw [← hm] at hlen ⊢
    have HM := hid hm; clear hm
    have he : ∀ wx, (binOp .eql 32 (.slice (some ad) m cap) (.slice none 0 0)).run Tryz.prog wx = .ok (.bool false) wx := fun wx => Lib.run_eql_slice_nil wx 32 39 (some ad) m cap 0 0 Tryz.underlying32
    go_enter Tryz.func44, Tryz.ntmps44
    go_wp2_with (with_reducible refine at_op (.call { callee := .builtin .append, args := #[.tmp 5, .tmp 6], argTypes := #[32, 32] }) rfl ?_; refine Stopped.go ?_)
    refine Stopped.mk ?_
    have hA := below_alloc w (.cells #[] 39)
    have hr := HR.out.below hA
    have hown : (w.alloc (.cells #[] 39)).ownsRow w.heap.size 39 3 (.slice (some ⟨w.heap.size, 0, none⟩) 0 0) 0 [] :=
      ⟨by simp, .inr ⟨w.heap.size, 0, #[], rfl, Nat.le_refl _, heap_alloc_new w _, Nat.zero_le _, Nat.zero_le _, by simp, by simp⟩⟩
    refine wpList_append_own rfl _ _ 32 39 rfl i0 _ 3 40 Tryz.underlying32 HI0.out HZ0.out HZ1.out HZ2.out rfl (by decide) _ 0 [] rfl w.heap.size hown ad m cap (l.flatMap msgCells) rfl (by rw [flat_len, HM.out]) ?_ (msgCells_one l) (by simp only [maxLen]; omega) (by omega) hA.size ?_
    · intro j u hj
      rcases hr with h | ⟨b, off, h, _, hc⟩
      · rw [h] at hj; cases hj
      · injection h with h
        subst h
        rw [Addr.add_mid]
        exact hc j u hj
    · intro V w5 hown5 hg
      have H5 : Hid (w5.ownsRow w.heap.size 39 3 V m (l.flatMap msgCells) ∧ Below w.heap.size w w5) := by
        refine ⟨by rw [Nat.zero_add, List.nil_append] at hown5; exact hown5, grownBy_below (v := .slice (some ⟨w.heap.size, 0, none⟩) 0 0) hA hg (fun k hk => ?_)⟩
        simp only [Value.ownBlock, Option.some.injEq] at hk
        omega
      clear hown5 hg hA hr hown
      go_wp2_with fail
      go_ret
      exact ⟨_, rfl, H5⟩

theorem filter_snoc {l : List Msg3} {j : Nat} (h : j < l.length) : (l.take (j + 1)).filter isB = (l.take j).filter isB ++ (if isB l[j] then [l[j]] else []) := by
  rw [List.take_succ_eq_append_getElem h, List.filter_append]
  congr 1
  by_cases hb : isB l[j] = true
  · rw [if_pos hb, List.filter_cons_of_pos hb]; rfl
  · rw [if_neg hb, List.filter_cons_of_neg hb]; rfl

/-- the good ones of the first j lie ahead, the rest from j on is as it was -/
def DelI (w wx : World) (g cap : Nat) (l : List Msg3) (i j : Nat) : Prop :=
  wx.rangeAt g 0 (((l.take j).filter isB).flatMap msgCells) ∧ wx.rangeAt g (j * 3) ((l.drop j).flatMap msgCells) ∧ wx.there g 0 (cap * 3) ∧ Keeps [g] w wx ∧ ((l.take j).filter isB).length = i

set_option maxHeartbeats 8000000 in
set_option maxRecDepth 100000 in
theorem Delete_recs (v : Value) (B : Nat) (l : List Msg3) (hlen : l.length ≤ 1000) (w : World) (hown : w.ownsRow B 39 3 v l.length (l.flatMap msgCells)) :
    Calls Tryz.prog 53 #[v, .func (.func 54) #[] #[]] w fun e w' => ∃ A' cap', e = .returned (.slice A' (l.filter isB).length cap') ∧ (l.filter isB).length ≤ cap' ∧ Row w' A' ((l.filter isB).flatMap msgCells) ∧ (∀ b0, b0 ≤ B → b0 ≤ w.heap.size → Below b0 w w') := by
  obtain ⟨i0, hi0, hz0, hz1, hz2⟩ := info_parts info_msg
  have HI0 := hid hi0; have HZ0 := hid hz0; have HZ1 := hid hz1; have HZ2 := hid hz2
  clear hi0 hz0 hz1 hz2
  have eg := rnot_enters
  obtain ⟨A, cap, rfl, hr, hcap⟩ : ∃ A cap, v = .slice A l.length cap ∧ Row w A (l.flatMap msgCells) ∧ l.length ≤ cap := by
    rcases Nat.eq_zero_or_pos l.length with h0 | h0
    · have hl0 := List.length_eq_zero_iff.1 h0
      subst hl0
      rcases hown.2 with ⟨h, _⟩ | ⟨g, cap, _, h, _⟩
      · exact ⟨none, 0, h, Row.nil _ _, Nat.zero_le _⟩
      · exact ⟨_, cap, h, Row.nil _ _, Nat.zero_le _⟩
    · obtain ⟨g, cap, h1, h2, h3, h4, h5, h6⟩ := range_own hown h0
      exact ⟨_, cap, h1, row_range h5 h3, h4⟩
  have HR := hid hr; have HOWN := hid hown; clear hr hown
  go_enter Tryz.func53, Tryz.ntmps53
  go_wp2_with fail
  refine (IndexFunc_recs_any A cap l (by omega) _ HR.out).mono ?_; rintro e w1 ⟨⟨ix, rfl, hix⟩, hb1⟩
  have HB1 := hid hb1
  clear hb1
  rcases hix with ⟨rfl, hall⟩ | ⟨n0, rfl, hn0, hbef, hat⟩
  · have HALL := hid hall; clear hall
    go_wp2_with fail
    go_ret
    have e : l.filter isB = l := List.filter_eq_self.2 HALL.out
    rw [e]
    exact ⟨A, cap, rfl, hcap, HR.out.below HB1.out, fun b0 h1 h2 => HB1.out.mono h2⟩
  · have hpos : 0 < l.length := by omega
    obtain ⟨g, cap', h1, h2, h3, h4, h5, h6⟩ := range_own HOWN.out hpos
    injection h1 with h1 _ hc
    subst h1 hc
    have hne : ¬ ((n0 : Int) = -1) := by omega
    have hI : DelI w w1 g cap l n0 (n0 + 1) := by
      have hb := HB1.out
      have e0 : (l.take n0).filter isB = l.take n0 := List.filter_eq_self.2 (fun x hx => by
        obtain ⟨k, hk, rfl⟩ := List.getElem_of_mem hx
        rw [List.length_take] at hk
        rw [List.getElem_take]
        exact hbef k (by omega) (by omega))
      have e1 : (l.take (n0 + 1)).filter isB = l.take n0 := by rw [filter_snoc hn0, e0, if_neg (by rw [hat]; decide), List.append_nil]
      have hsp : l.flatMap msgCells = (l.take n0).flatMap msgCells ++ (l.drop n0).flatMap msgCells := by rw [← List.flatMap_append, List.take_append_drop]
      have hsp2 : l.flatMap msgCells = (l.take (n0 + 1)).flatMap msgCells ++ (l.drop (n0 + 1)).flatMap msgCells := by rw [← List.flatMap_append, List.take_append_drop]
      have h5' := rangeAt_below h5 hb h3
      refine ⟨by rw [e1]; rw [hsp] at h5'; exact rangeAt_left h5', ?_, there_below h6 hb h3, (Keeps.of (F := []) hb).mono (by simp), by rw [e1, List.length_take]; omega⟩
      have h7 := h5'
      rw [hsp2] at h7
      have h8 := rangeAt_right h7
      rwa [flat_len, List.length_take, Nat.zero_add, show min (n0 + 1) l.length = n0 + 1 by omega] at h8
    have HI := hid hI; have HG := hid (And.intro h2 h3)
    clear h2 h3 h4 h5 h6 hI hbef hat HR HOWN
    obtain ⟨L, hL⟩ : ∃ L, L = l.length := ⟨_, rfl⟩
    rw [← hL] at hlen hcap hpos hn0 ⊢
    have HL := hid hL; clear hL
    go_wp2_with fail
    go_loopg [5, 6] (L - (n0 + 1)) (fun k x y wx => ∃ (i j : Nat), j + k = L ∧ i < j ∧ x = .int .i64 i ∧ y = .int .i64 j ∧ Hid (DelI w wx g cap l i j))
    case atStart => exact ⟨n0, n0 + 1, by omega, by omega, rfl, rfl, HI.out⟩
    case round =>
      obtain ⟨i, j, hk, hij, rfl, rfl, HS⟩ := hrel
      by_cases hlt : j < L
      · have hltl : j < l.length := by have := HL.out; omega
        obtain ⟨s1, s2, s3, s4, s5⟩ := HS.out
        have hsn := filter_snoc hltl
        rw [drop_cons hltl, List.flatMap_cons] at s2
        obtain ⟨⟨K, kk, v⟩, hx⟩ : ∃ x, x = l[j] := ⟨_, rfl⟩
        rw [← hx] at s2 hsn
        have c0 : wr.cell? ⟨g, j * 3, none⟩ = some (.int .i64 K) := s2 0 _ rfl
        have c1 : wr.cell? ⟨g, j * 3 + 1, none⟩ = some (.string kk) := s2 1 _ rfl
        have c2 : wr.cell? ⟨g, j * 3 + 2, none⟩ = some (.string v) := s2 2 _ rfl
        have hA := below_alloc wr (.cells #[.int .i64 K, .string kk, .string v] 39)
        have BX := Blk.new wr #[.int .i64 K, .string kk, .string v] 39
        have hgw : g < wr.heap.size := by have := HG.out.2; have := s4.size; omega
        have s2' : wr.rangeAt g ((j + 1) * 3) ((l.drop (j + 1)).flatMap msgCells) := by
          have := rangeAt_right s2
          rw [show j * 3 + (msgCells (K, kk, v)).length = (j + 1) * 3 by simp [msgCells]; omega] at this
          exact this
        have hx0 : wr.heap.size ≠ g := by omega
        obtain ⟨gx, hgx⟩ : ∃ gx, gx = wr.heap.size := ⟨_, rfl⟩
        rw [← hgx] at BX hx0
        obtain ⟨W, hW⟩ : ∃ W, W = wr.alloc (.cells #[.int .i64 K, .string kk, .string v] 39) := ⟨_, rfl⟩
        rw [← hW] at BX hA
        have HSW : Hid (W.rangeAt g 0 (((l.take j).filter isB).flatMap msgCells) ∧ W.rangeAt g ((j + 1) * 3) ((l.drop (j + 1)).flatMap msgCells) ∧ W.there g 0 (cap * 3) ∧ Keeps [g] w W ∧ ((l.take j).filter isB).length = i ∧ g < W.heap.size) :=
          ⟨rangeAt_below s1 hA hgw, rangeAt_below s2' hA hgw, there_below s3 hA hgw, s4.trans ((Keeps.of (F := []) hA).mono (by simp)), s5, by have := hA.size; omega⟩
        have x0 : W.cell? ⟨gx, 0, none⟩ = some (.int .i64 K) := BX.at rfl
        have x1 : W.cell? ⟨gx, 1, none⟩ = some (.string kk) := BX.at rfl
        have x2 : W.cell? ⟨gx, 2, none⟩ = some (.string v) := BX.at rfl
        have HBX := hid BX; have HSN := hid hsn; have HGX := hid hgx; have HX0 := hid hx0; have HW := hid hW
        clear s1 s2 s3 s4 s5 s2' hA BX hgw hsn hgx hx0 hx hW hltl
        go_wp2_with fail
        rw [← HW.out, ← HGX.out]
        clear HW HGX c0 c1 c2 x0 x1 x2
        refine (rec_isNot_any K kk v _).mono ?_; rintro e w2 ⟨rfl, hb2⟩
        obtain ⟨f, hf⟩ : ∃ f, f = msgIs K kk v := ⟨_, rfl⟩
        rw [← hf]
        obtain ⟨t1, t2, t3, t4, t5, t6⟩ := HSW.out
        have HT : Hid (w2.rangeAt g 0 (((l.take j).filter isB).flatMap msgCells) ∧ w2.rangeAt g ((j + 1) * 3) ((l.drop (j + 1)).flatMap msgCells) ∧ w2.there g 0 (cap * 3) ∧ Keeps [g] w w2 ∧ ((l.take j).filter isB).length = i) :=
          ⟨rangeAt_below t1 hb2 t6, rangeAt_below t2 hb2 t6, there_below t3 hb2 t6, t4.trans ((Keeps.of (F := []) hb2).mono (by simp)), t5⟩
        have BX := HBX.out.belowS hb2
        have hsn := HSN.out
        rw [show isB (K, kk, v) = f from hf.symm] at hsn
        have HSN2 := hid hsn
        clear t1 t2 t3 t4 t5 t6 hb2 hf hsn HSW HBX HSN
        cases f with
        | true =>
          have x0 : w2.cell? ⟨gx, 0, none⟩ = some (.int .i64 K) := BX.at rfl
          have x1 : w2.cell? ⟨gx, 1, none⟩ = some (.string kk) := BX.at rfl
          have x2 : w2.cell? ⟨gx, 2, none⟩ = some (.string v) := BX.at rfl
          clear BX
          go_wp2_with (with_reducible refine at_op (.store 39 (.tmp 33) (.tmp 32)) rfl ?_; refine Stopped.go ?_)
          refine Stopped.mk ?_
          obtain ⟨t1, t2, t3, t4, t5⟩ := HT.out
          have hfl : (((l.take j).filter isB).flatMap msgCells).length = i * 3 := by rw [flat_len, t5]
          have hth : w2.there g (i * 3) 3 := there_sub t3 (Nat.zero_le _) (by omega)
          refine wpList_store_mid rfl 39 _ _ rfl g (i * 3) #[.int .i64 K, .string kk, .string v] rfl rfl hth (by kernel_rfl) (by simp [Value.oneCell']) ?_
          obtain ⟨W3, hW3⟩ : ∃ W3, W3 = w2.setCells g (i * 3) [.int .i64 K, .string kk, .string v] := ⟨_, rfl⟩
          have HN : Hid (DelI w W3 g cap l (i + 1) (j + 1)) := by
            rw [hW3]
            have hsn := HSN2.out
            simp only [if_true] at hsn
            refine ⟨?_, World.rangeAt_setCells_apart t2 _ _ _ (.inr (.inr (by simp only [List.length_cons, List.length_nil]; omega))), World.there_setCells t3 _ _ _, t4.trans (keeps_setCells _ _ _), by rw [hsn, List.length_append, t5]; rfl⟩
            rw [hsn, List.flatMap_append]
            refine rangeAt_append (World.rangeAt_setCells_apart t1 _ _ _ (.inr (.inl (by rw [hfl]; omega)))) ?_
            rw [hfl, Nat.zero_add]
            exact World.rangeAt_setCells_same _ _ _ _ hth
          show wpList _ _ _ _ _ (w2.setCells g (i * 3) [.int .i64 K, .string kk, .string v])
          rw [← hW3]
          clear t1 t2 t3 t4 t5 hfl hth hW3 HT HSN2 x0 x1 x2
          go_wp2_with fail
          go_roundg (L - (j + 1))
          case measure => omega
          case rel => exact ⟨i + 1, j + 1, by omega, by omega, by go_num, by go_num, HN⟩
        | false =>
          have HN : Hid (DelI w w2 g cap l i (j + 1)) := by
            obtain ⟨t1, t2, t3, t4, t5⟩ := HT.out
            have hsn := HSN2.out
            rw [if_neg (by decide), List.append_nil] at hsn
            exact ⟨by rw [hsn]; exact t1, t2, t3, t4, by rw [hsn]; exact t5⟩
          clear HT HSN2 BX
          go_wp2_with fail
          go_roundg (L - (j + 1))
          case measure => omega
          case rel => exact ⟨i, j + 1, by omega, by omega, rfl, by go_num, HN⟩
      · have hci : ¬ cap = i := by omega
        go_wp2_with (with_reducible refine at_op (.call { callee := .builtin .clear, args := #[.tmp 38], argTypes := #[32] }) rfl ?_; refine Stopped.go ?_)
        refine Stopped.mk ?_
        obtain ⟨t1, t2, t3, t4, t5⟩ := HS.out
        have hjl : l.take j = l := List.take_of_length_le (by have := HL.out; omega)
        rw [hjl] at t1 t5
        refine wpList_clear rfl _ 32 39 rfl i0 _ 3 Tryz.underlying32 HI0.out HZ0.out rfl (by simp [Value.cells, Value.oneCell']) g (i * 3) (L - i) (cap - i) rfl (by omega) (there_sub t3 (Nat.zero_le _) (by omega)) ?_
        intro vs hvs
        have HN : Hid (Row (wr.setCells g (i * 3) vs) (some ⟨g, 0, none⟩) ((l.filter isB).flatMap msgCells) ∧ Keeps [g] w (wr.setCells g (i * 3) vs) ∧ (l.filter isB).length = i) := by
          have hk := t4.trans (keeps_setCells vs (i * 3) wr)
          refine ⟨row_range (World.rangeAt_setCells_apart t1 _ _ _ (.inr (.inl (by rw [flat_len, t5]; omega)))) (by have := hk.size; have := HG.out.2; omega), hk, t5⟩
        generalize wr.setCells g (i * 3) vs = W3 at HN ⊢
        clear t1 t2 t3 t4 t5 hjl hvs HS
        go_wp2_with fail
        go_ret
        rw [HN.out.2.2]
        exact ⟨_, cap, rfl, by omega, HN.out.1, fun b0 h1 h2 => by
          have hk := HN.out.2.1
          exact ⟨hk.os, hk.tape, hk.output, hk.size, fun k hk' => hk.block k (by omega) (by simp; have := HG.out.1; omega)⟩⟩
end Go.Proofs.YtcklgaenedlbiaaGreat
