/-
  The statements of layer 23: same, log, blocks, over.
  The statements of layer 23: blocks.
-/
import Derived.Test.YtcklgaenedlbiaaGreatGWalExact29
import Derived.Test.YtcklgaenedlbiaaGreatGWalExact25
import Derived.Test.YtcklgaenedlbiaaGreatGWalExact11

namespace Go.Proofs.YtcklgaenedlbiaaGreat
open Go.RowKit Go.Sort

section
variable {P : Program} {w : World}
theorem append_whereR (t ty e : TypeId) (i : TypeInfo) (z : Value) (size bytes : Nat) (ht : P.underlying t = some (.slice e)) (hi : P.info? e = some i) (hz : i.zero = some z)
    (hsize : i.size = size) (hby : i.bytes = bytes) (hzs : z.cells.size = size) (hsz : 0 < size)
    (v : Value) (n : Nat) (xs : List Value) (hown : w.ownsRow 0 e size v n xs)
    (a : Addr) (m c : Nat) (news : List Value) (hl : news.length = m * size) (hnews : ∀ j u, news[j]? = some u → w.cell? (a.add j) = some u) (h1 : ∀ u ∈ news, u.oneCell' = true)
    (h63 : n + m ≤ maxLen) (hbytes : (n + m) * bytes ≤ 140737488355328) :
    ∃ v' w', (Builtin.append_ #[t, t] ty #[v, .slice (some a) m c]).run P w = .ok v' w' ∧ w'.ownsRow 0 e size v' (n + m) (xs ++ news) ∧ w.grownBy w' v.ownBlock ∧ (∀ k, v'.ownBlock = some k → v.ownBlock = some k ∨ w.heap.size ≤ k) := by
  obtain ⟨v1, w1, r1, r2, r3, _⟩ := run_append_own (P := P) w 0 t ty e i z size bytes ht hi hz hsize hby hzs hsz v n xs hown a m c news hl hnews h1 h63 hbytes (Nat.zero_le _)
  obtain ⟨v2, w2, s1, _, _, s4⟩ := append_where (P := P) (w := w) t ty e i z size bytes ht hi hz hsize hby hzs hsz v n xs (World.ownsRowF_of hown) a m c news hl hnews h1 h63 hbytes
  rw [r1] at s1
  injection s1 with e1 e2
  subst e1
  exact ⟨v1, w1, r1, r2, r3, s4⟩
theorem ownsRow_below {e : TypeId} {size n : Nat} {v : Value} {xs : List Value} {w w' : World} (h : w.ownsRow 0 e size v n xs) (hb : Below w.heap.size w w') : w'.ownsRow 0 e size v n xs := by
  refine ⟨h.1, ?_⟩
  rcases h.2 with h | ⟨g, cap, cur, hv, h0, hg, r⟩
  · exact .inl h
  · exact .inr ⟨g, cap, cur, hv, h0, by rw [hb.block g (Array.getElem?_eq_some_iff.1 hg).1]; exact hg, r⟩
theorem ownsRow_new (w : World) (e : TypeId) (size : Nat) : (w.alloc (.cells #[] e)).ownsRow 0 e size (.slice (some ⟨w.heap.size, 0, none⟩) 0 0) 0 [] :=
  ⟨by simp, .inr ⟨w.heap.size, 0, #[], rfl, Nat.zero_le _, heap_alloc_new w _, Nat.le_refl _, Nat.zero_le _, by simp, by simp⟩⟩
/-- a row that is wholly known, of one-cell values -/
theorem ownsRow_blk {e : TypeId} {n : Nat} {v : Value} {xs : List Value} (h : w.ownsRow 0 e 1 v n xs) (hn : 0 < n) : ∃ g cap rest, v = .slice (some ⟨g, 0, none⟩) n cap ∧ Blk w g e (xs ++ rest) ∧ n ≤ cap := by
  rcases h.2 with ⟨_, h0⟩ | ⟨g, cap, cur, hv, _, hg, h1, _, _, h2⟩
  · omega
  · refine ⟨g, cap, cur.toList.drop n, hv, ⟨(0, 0), ?_, .inl rfl⟩, h1⟩
    rw [Nat.mul_one] at h2
    rw [← h2, List.take_append_drop]
    simpa using hg
variable {ops : Array Oper} {rest : List Oper} {o : Oper} {a : Act} {Q : Exit → Act → World → Prop}
theorem wpList_append_oneR (hgd : o.guard = none) (s x : Operand) (t e : TypeId) (ho : o.op = .call { callee := .builtin .append, args := #[s, x], argTypes := #[t, t] })
    (i : TypeInfo) (z : Value) (size bytes : Nat) (ht : P.underlying t = some (.slice e)) (hi : P.info? e = some i) (hz : i.zero = some z)
    (hsize : i.size = size) (hby : i.bytes = bytes) (hzs : z.cells.size = size) (hsz : 0 < size)
    (v : Value) (n : Nat) (xs : List Value) (hs : a.eval s = v) (w1 : World) (cs : Array Value) (hw : w = w1.alloc (.cells cs e)) (hown : w1.ownsRow 0 e size v n xs)
    (g : Nat) (hg : w1.heap.size = g) (c : Nat) (hx : a.eval x = .slice (some ⟨g, 0, none⟩) 1 c) (hl : cs.size = size) (h1 : cs.all (·.oneCell') = true)
    (h63 : n + 1 ≤ maxLen) (hbytes : (n + 1) * bytes ≤ 140737488355328)
    (h : ∀ v' w', w'.ownsRow 0 e size v' (n + 1) (xs ++ cs.toList) → Keeps v.ownBlock.toList w1 w' → (∀ k, v'.ownBlock = some k → v.ownBlock = some k ∨ w1.heap.size ≤ k) → wpList P ops Q rest (a.put o.dst v') w') : wpList P ops Q (o :: rest) a w := by
  subst hw
  subst hg
  have hA := below_alloc w1 (.cells cs e)
  have hN := Blk.new w1 cs e
  refine wpList_plain hgd fun K hK => ?_
  obtain ⟨v', w', hr, h2, h3, h4⟩ := append_whereR (P := P) (w := w1.alloc (.cells cs e)) t o.type e i z size bytes ht hi hz hsize hby hzs hsz v n xs (ownsRow_below hown hA) ⟨w1.heap.size, 0, none⟩ 1 c cs.toList (by rw [Array.length_toList, hl, Nat.one_mul])
    (fun j u hj => by rw [add_at]; exact hN.at hj) (fun u hu => by rw [Array.all_eq_true_iff_forall_mem] at h1; exact h1 u (Array.mem_toList_iff.1 hu)) h63 hbytes
  unfold Oper.wp execOp
  simp only [ho, resolve, invoke, builtin, Sem.run_bind, Sem.run_pure, Result.andThen_ok, List.map_toArray, List.map_cons, List.map_nil, hs, hx, hr]
  refine hK _ _ (h v' w' h2 ((Keeps.of hA).trans (keeps_grown h3)) (fun k hk => ?_))
  rcases h4 k hk with h | h
  · exact .inl h
  · exact .inr (Nat.le_trans hA.size h)
end
theorem strs_get (l : List ByteArray) (k : Nat) (h : k < l.length) : (strs l)[k]? = some (.string l[k]) := by simp [strs, h]
theorem strs_ne {l : List ByteArray} {k : Nat} (h : k < l.length) : strs l ≠ [] := by
  intro e
  have := strs_get l k h
  rw [e] at this; cases this

set_option maxHeartbeats 4000000 in
set_option maxRecDepth 100000 in
theorem law23_same (A B : Option Addr) (cap bcap : Nat) (l : List ByteArray) (hlen : l.length ≤ 1000) (w : World) (hr : Row w A (strs l)) (hr2 : Row w B (strs l)) :
    Calls Tryz.prog 21 #[.slice A l.length cap, .slice B l.length bcap] w fun e w' => e = .returned (.bool true) ∧ Below w.heap.size w w' := by
  have HR := hid hr; have HR2 := hid hr2; clear hr hr2
  obtain ⟨L, hL⟩ : ∃ L, L = l.length := ⟨_, rfl⟩
  rw [← hL] at hlen ⊢
  have HL := hid hL; clear hL
  go_enter Tryz.func21, Tryz.ntmps21
  go_wp2_with fail
  go_loopg [5] L (fun g x wx => ∃ k : Nat, k + g = L ∧ x = .int .i64 k ∧ Hid (Below w.heap.size w wx))
  case atStart => exact ⟨0, by omega, rfl, Below.refl _ _⟩
  case round =>
    obtain ⟨k, hk, rfl, HS⟩ := hrel
    by_cases hlt : k < L
    · have hltl : k < l.length := by have := HL.out; omega
      obtain ⟨b, off, rfl, hb, hc⟩ := row_cell HR.out (strs_ne hltl)
      obtain ⟨b', off', rfl, hb', hc'⟩ := row_cell HR2.out (strs_ne hltl)
      have c0 := hc _ _ (strs_get l k hltl)
      rw [← HS.out.cell (p := ⟨b, off + k, none⟩) hb] at c0
      have d0 := hc' _ _ (strs_get l k hltl)
      rw [← HS.out.cell (p := ⟨b', off' + k, none⟩) hb'] at d0
      obtain ⟨x, hx⟩ : ∃ x, x = l[k] := ⟨_, rfl⟩
      rw [← hx] at c0 d0
      clear hc hb hc' hb' hx hltl
      go_wp2_with fail
      go_quiet (fail)
      go_wp2_with fail
      go_roundg (L - (k + 1))
      case measure => omega
      case rel => exact ⟨k + 1, by omega, by go_num, bdn HS.out _⟩
    · go_wp2_with fail
      go_ret
      exact ⟨rfl, HS.out⟩

theorem logL_snoc (f : Nat → ByteArray) (k : Nat) : (List.range (k + 1)).map (fun k => f (2 + k)) = (List.range k).map (fun k => f (2 + k)) ++ [f (2 + k)] := by rw [List.range_succ, List.map_append]; rfl

set_option maxHeartbeats 8000000 in
set_option maxRecDepth 100000 in
theorem law23_log {w : World} {p : Nat} {d : Dv} {F : List Nat} {f : Nat → ByteArray} (h : DevAt w p d F) (hd : DL d f) :
    Calls Tryz.prog 22 #[.pointer (some ⟨p, 0, none⟩)] w fun e w' => ∃ V, e = .returned V ∧ w'.ownsRowF 0 9 1 V 8 (strs (logL f)) ∧ (∀ k, V.ownBlock = some k → w.heap.size ≤ k) ∧ Below w.heap.size w w' := by
  obtain ⟨i0, hi0, hz0, hz1, hz2⟩ := info_parts info_strs
  have HI0 := hid hi0; have HZ0 := hid hz0; have HZ1 := hid hz1; have HZ2 := hid hz2
  clear hi0 hz0 hz1 hz2
  have HI := hid (dev_Image w p d F h)
  obtain ⟨s, hs⟩ : ∃ s : ByteArray, s = ⟨d.safe.toArray⟩ := ⟨_, rfl⟩
  rw [← hs] at HI
  have hsz : s.size = 16384 := by rw [hs]; exact (List.size_toArray ..).trans hd.lies.len
  have HX := hid (fun k (hk : k < 8) => show s.extract (256 * (2 + k)) (256 * (2 + k) + 256) = f (2 + k) from by
    apply ba_ext1
    rw [ByteArray.toList_eq, ByteArray.toList_eq, Lib.extract_data, ← hd.lies.all (2 + k) (by omega), hs]
    unfold blkAt
    rw [show 256 * (2 + k) + 256 - 256 * (2 + k) = 256 by omega])
  have H0 := hid (show Below w.heap.size w (w.alloc (.cells #[] 9)) ∧ (w.alloc (.cells #[] 9)).ownsRowF 0 9 1 (.slice (some ⟨w.heap.size, 0, none⟩) 0 0) 0 [] from ⟨below_alloc _ _, ownsRowF_empty _ _ _⟩)
  clear h hd hs
  go_enter Tryz.func22, Tryz.ntmps22
  go_wp2_with fail
  refine HI.out.mono ?_; rintro e w1 ⟨rfl, rfl⟩
  clear HI
  go_wp2_with fail
  go_loopg [5, 4] 8 (fun g x y wx => ∃ k i : Nat, k + g = 8 ∧ x = .int .i64 (i : Int) ∧ Hid (i = 2 + k) ∧ Hid (Below w.heap.size w wx ∧ wx.ownsRowF 0 9 1 y k (strs ((List.range k).map fun k => f (2 + k))) ∧ ∀ b, y.ownBlock = some b → w.heap.size ≤ b))
  case atStart => exact ⟨0, 2, by omega, rfl, rfl, H0.out.1, H0.out.2, fun b hb => by simp [Value.ownBlock] at hb; omega⟩
  case round =>
    obtain ⟨k, i, hk, rfl, HI2, HS⟩ := hrel
    have hi2 := HI2.out
    by_cases hlt : k < 8
    · have hx := HX.out k hlt
      rw [← hi2] at hx
      obtain ⟨a, ha⟩ : ∃ a, a = 256 * i := ⟨_, rfl⟩
      obtain ⟨c, hc⟩ : ∃ c, c = a + 256 := ⟨_, rfl⟩
      rw [← ha, ← hc] at hx
      have e1 : IntKind.i64.wrap (256 * (i : Int)) = (a : Int) := by rw [IntKind.wrap_i64]; omega
      have e1' : (256 * (i : Int)) = (a : Int) := by omega
      have e2 : IntKind.i64.wrap ((a : Int) + 256) = (c : Int) := by rw [IntKind.wrap_i64]; omega
      have e2' : (a : Int) + 256 = (c : Int) := by omega
      have e3 : (i : Int) < 10 := by omega
      have e4 : (c : Int) ≤ 16384 := by omega
      have e5 : (a : Int) ≤ (c : Int) := by omega
      have e6 : (0 : Int) ≤ (a : Int) := by omega
      have e7 : (0 : Int) ≤ (c : Int) := by omega
      have e8 : (c : Int) ≤ (s.size : Int) := by omega
      have HXX := hid hx
      have HAC := hid (And.intro ha hc)
      clear ha hc hx hi2
      go_wp2_with (with_reducible refine at_op (.call { callee := .builtin .append, args := #[.tmp 21, .tmp 29], argTypes := #[22, 22] }) rfl ?_; refine Stopped.go ?_)
      refine Stopped.mk ?_
      obtain ⟨s1, s2, s3⟩ := HS.out
      refine wpList_append_one rfl _ _ 22 9 rfl i0 _ 1 16 Tryz.underlying22 HI0.out HZ0.out HZ1.out HZ2.out rfl (by decide) _ k _ rfl wr #[.string (s.extract a c)] rfl s2 wr.heap.size rfl 1 rfl rfl (by simp [Value.oneCell']) (by simp only [maxLen]; omega) (by omega) ?_
      intro V w5 hown hkp hvb
      have H5 : Hid (Below w.heap.size w w5 ∧ w5.ownsRowF 0 9 1 V (k + 1) (strs ((List.range (k + 1)).map fun k => f (2 + k))) ∧ ∀ b, V.ownBlock = some b → w.heap.size ≤ b) := by
        refine ⟨Keeps.below s1 hkp (fun x hx => s3 x (Option.mem_toList.1 hx)), ?_, fun x hx => ?_⟩
        · rw [logL_snoc, show 2 + k = i from HI2.out.symm, ← HXX.out]
          simpa only [strs, List.map_append, List.map_cons, List.map_nil] using hown
        · rcases hvb x hx with h | h
          · exact s3 x h
          · have := s1.size; omega
      clear s1 s2 s3 hown hkp hvb HS HXX e1 e1' e2 e2' e4 e5 e6 e7 e8
      have hi2 := HI2.out
      go_wp2_with fail
      go_roundg (8 - (k + 1))
      case measure => omega
      case rel => exact ⟨k + 1, i + 1, by omega, by go_num, by show i + 1 = 2 + (k + 1); omega, H5⟩
    · obtain rfl : k = 8 := by omega
      have e3 : ¬ (i : Int) < 10 := by omega
      clear hi2
      go_wp2_with fail
      go_ret
      exact ⟨_, rfl, HS.out.2.1, HS.out.2.2, HS.out.1⟩
end Go.Proofs.YtcklgaenedlbiaaGreat

namespace Go.Proofs.YtcklgaenedlbiaaGreat
open Go.RowKit Go.Sort

theorem blk_row {w : World} {g : Nat} {e : TypeId} {xs rest : List Value} (h : Blk w g e (xs ++ rest)) : Row w (some ⟨g, 0, none⟩) xs :=
  .inr ⟨g, 0, rfl, h.lt, fun i v hv => by
    rw [Nat.zero_add]
    exact h.at (by rw [List.getElem?_append_left (List.getElem?_eq_some_iff.1 hv).1]; exact hv)⟩
/-- the blocks that a statement's texts are -/
def blkOf (l : List ByteArray) (k : Nat) : ByteArray := if (l.getD k ⟨#[]⟩).size = 256 then l.getD k ⟨#[]⟩ else zerosB
def blkL8 (l : List ByteArray) (n : Nat) : List ByteArray := (List.range n).map (blkOf l)
theorem blkOf_size (l : List ByteArray) (k : Nat) : (blkOf l k).size = 256 := by
  unfold blkOf
  split
  · assumption
  · exact zerosB_size
theorem blkL8_snoc (l : List ByteArray) (k : Nat) : blkL8 l (k + 1) = blkL8 l k ++ [blkOf l k] := by unfold blkL8; rw [List.range_succ, List.map_append]; rfl
theorem blkL8_len (l : List ByteArray) (n : Nat) : (blkL8 l n).length = n := by simp [blkL8]

set_option maxHeartbeats 16000000 in
set_option maxRecDepth 100000 in
theorem law23_blocks (A : Option Addr) (cap : Nat) (l : List ByteArray) (w : World) (hr : Row w A (strs l)) :
    Calls Tryz.prog 5 #[.slice A l.length cap, .int .i64 8] w fun e w' => ∃ V, e = .returned V ∧ w'.ownsRow 0 9 1 V 8 (strs (blkL8 l 8)) ∧ (∀ k, V.ownBlock = some k → w.heap.size ≤ k) ∧ Below w.heap.size w w' := by
  obtain ⟨i0, hi0, hz0, hz1, hz2⟩ := info_parts info_strs
  have HI0 := hid hi0; have HZ0 := hid hz0; have HZ1 := hid hz1; have HZ2 := hid hz2
  clear hi0 hz0 hz1 hz2
  obtain ⟨b0, hi0, hz0, hz1, hz2⟩ := info_parts info_byteD
  have BI0 := hid hi0; have BZ0 := hid hz0; have BZ1 := hid hz1; have BZ2 := hid hz2
  clear hi0 hz0 hz1 hz2
  have H0 := hid (show Below w.heap.size w (w.alloc (.cells #[] 9)) ∧ (w.alloc (.cells #[] 9)).ownsRow 0 9 1 (.slice (some ⟨w.heap.size, 0, none⟩) 0 0) 0 [] from ⟨below_alloc _ _, ownsRow_new _ _ _⟩)
  have HR := hid hr
  obtain ⟨L, hL⟩ : ∃ L, L = l.length := ⟨_, rfl⟩
  rw [← hL]
  have HL := hid hL
  clear hr hL
  go_enter Tryz.func5, Tryz.ntmps5
  go_wp2_with fail
  go_loopg [6, 5] 8 (fun g x y wx => ∃ k : Nat, k + g = 8 ∧ x = .int .i64 (k : Nat) ∧ Hid (Below w.heap.size w wx ∧ wx.ownsRow 0 9 1 y k (strs (blkL8 l k)) ∧ ∀ b, y.ownBlock = some b → w.heap.size ≤ b))
  case atStart => exact ⟨0, by omega, rfl, H0.out.1, H0.out.2, fun b hb => by simp [Value.ownBlock] at hb; omega⟩
  case round =>
    obtain ⟨k, hk, rfl, HS⟩ := hrel
    by_cases hlt : k < 8
    · go_wp2_with (with_reducible refine at_op (.makeSlice 62 (.const (.int .i64 256)) (.const (.int .i64 256))) rfl ?_; refine Stopped.go ?_)
      refine Stopped.mk (wpList_make_k rfl _ _ _ rfl 5 b0 (.int .u8 0) Tryz.underlying62 BI0.out BZ0.out BZ1.out rfl .i64 .i64 256 256 256 rfl rfl rfl rfl (by rw [BZ2.out]; decide) (by decide) ?_)
      intro w1 hB hb1 hs1
      have hB' : Blk w1 wr.heap.size 5 (u8s (List.replicate 256 0)) := by simpa [u8s] using hB
      refine wpList_string rfl _ _ 5 _ rfl ⟨wr.heap.size, 0, none⟩ 256 256 (List.replicate 256 0) rfl (by rw [List.length_replicate]) Tryz.underlying62 Tryz.underlying5 Tryz.underlying9 (fun j hj => hB'.bytes' j hj) ?_
      have hzz : (⟨(List.replicate 256 (0 : UInt8)).toArray⟩ : ByteArray) = zerosB := rfl
      rw [hzz]
      have HB1 := hid hb1
      clear hB hb1 hs1 hB' hzz
      obtain ⟨zb, hzb⟩ : ∃ zb, zb = zerosB := ⟨_, rfl⟩
      rw [← hzb]
      have HZB := hid hzb
      clear hzb
      obtain ⟨y, hy⟩ : ∃ y, y = blkOf l k := ⟨_, rfl⟩
      have HY := hid hy
      clear hy
      rcases Nat.lt_or_ge k L with c1 | c1
      case' inl =>
        have hltl : k < l.length := by have := HL.out; omega
        obtain ⟨b, off, rfl, hb, hc⟩ := row_cell HR.out (strs_ne hltl)
        have c0 := hc _ _ (strs_get l k hltl)
        rw [← (bt HS.out.1 HB1.out).cell (p := ⟨b, off + k, none⟩) hb] at c0
        obtain ⟨x, hx⟩ : ∃ x, x = l[k] := ⟨_, rfl⟩
        have hxd : l.getD k ⟨#[]⟩ = x := by rw [hx, List.getD_eq_getElem?_getD, List.getElem?_eq_getElem hltl]; rfl
        rw [← hx] at c0
        clear hc hb hx hltl
        by_cases c2 : x.size = 256
        case' pos =>
          have c2' : (x.size : Int) = 256 := by omega
          have hyx : y = x := by rw [HY.out]; unfold blkOf; rw [hxd, if_pos c2]
          have HYX := hid hyx
          clear c2 hyx hxd
          go_wp2_with (with_reducible refine at_op (.call { callee := .builtin .append, args := #[.tmp 32, .tmp 34], argTypes := #[22, 22] }) rfl ?_; refine Stopped.go ?_)
          rw [← HYX.out]
          clear HYX c0 c2'
        case' neg =>
          have c2' : ¬ (x.size : Int) = 256 := by omega
          have hyx : y = zb := by rw [HY.out, HZB.out]; unfold blkOf; rw [hxd, if_neg c2]
          have HYX := hid hyx
          clear c2 hyx hxd
          go_wp2_with (with_reducible refine at_op (.call { callee := .builtin .append, args := #[.tmp 32, .tmp 34], argTypes := #[22, 22] }) rfl ?_; refine Stopped.go ?_)
          rw [← HYX.out]
          clear HYX c0 c2'
      case' inr =>
        have hyx : y = zb := by
          rw [HY.out, HZB.out]; unfold blkOf
          rw [List.getD_eq_getElem?_getD, List.getElem?_eq_none (by have := HL.out; omega), if_neg (by decide)]
        have HYX := hid hyx
        clear hyx
        go_wp2_with (with_reducible refine at_op (.call { callee := .builtin .append, args := #[.tmp 32, .tmp 34], argTypes := #[22, 22] }) rfl ?_; refine Stopped.go ?_)
        rw [← HYX.out]
        clear HYX
      all_goals
        refine Stopped.mk ?_
        obtain ⟨s1, s2, s3⟩ := HS.out
        refine wpList_append_oneR rfl _ _ 22 9 rfl i0 _ 1 16 Tryz.underlying22 HI0.out HZ0.out HZ1.out HZ2.out rfl (by decide) _ k _ rfl w1 #[.string y] rfl (ownsRow_below s2 HB1.out) w1.heap.size rfl 1 rfl rfl (by simp [Value.oneCell']) (by simp only [maxLen]; omega) (by omega) ?_
        intro V w5 hown hkp hvb
        have H5 : Hid (Below w.heap.size w w5 ∧ w5.ownsRow 0 9 1 V (k + 1) (strs (blkL8 l (k + 1))) ∧ ∀ b, V.ownBlock = some b → w.heap.size ≤ b) := by
          refine ⟨Keeps.below (bt s1 HB1.out) hkp (fun x hx => s3 x (Option.mem_toList.1 hx)), ?_, fun x hx => ?_⟩
          · rw [blkL8_snoc, ← HY.out]
            simpa only [strs, List.map_append, List.map_cons, List.map_nil] using hown
          · rcases hvb x hx with h | h
            · exact s3 x h
            · have := (bt s1 HB1.out).size; omega
        clear s1 s2 s3 hown hkp hvb HS HB1 HY HZB
        go_wp2_with fail
        go_roundg (8 - (k + 1))
        case measure => omega
        case rel => exact ⟨k + 1, by omega, by go_num, H5⟩
    · obtain rfl : k = 8 := by omega
      go_wp2_with fail
      go_ret
      exact ⟨_, rfl, HS.out.2.1, HS.out.2.2, HS.out.1⟩
end Go.Proofs.YtcklgaenedlbiaaGreat
