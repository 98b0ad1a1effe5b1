/-
  A device of layer 3: a fuse is laid; one is made; of nil there is nothing.
  A device's sectors: plain laws, without a program.
-/
import Derived.Test.YtcklgaenedlbiaaGreatGWalExact14
import Derived.Test.YtcklgaenedlbiaaGreatGWalExact12

namespace Go.Proofs.YtcklgaenedlbiaaGreat
open Go.RowKit

theorem info_bool : (Tryz.prog.info? 4).map (fun i => (i.zero, i.size, i.bytes)) = some (some (.bool false), 1, 1) := by kernel_rfl

theorem bools_one (l : List Bool) : ∀ u ∈ bools l, u.oneCell' = true := by
  intro u hu
  simp only [bools, List.mem_map] at hu
  obtain ⟨b, _, rfl⟩ := hu
  rfl

set_option maxHeartbeats 4000000 in
set_option maxRecDepth 100000 in
theorem dev_New_no (w : World) (x : Int) (hx : x < 1 ∨ 512 < x) :
    Calls Tryz.prog 25 #[.int .i64 x] w fun e w' => e = .returned (.pointer none) ∧ w = w' := by
  by_cases h1 : x < 1
  · clear hx
    go_enter Tryz.func25, Tryz.ntmps25
    go_wp2_with fail
    go_ret
    exact ⟨rfl, rfl⟩
  · have h2 : 512 < x := by omega
    have h3 : decide (x < 1) = false := by simpa using h1
    clear hx h1
    go_enter Tryz.func25, Tryz.ntmps25
    go_wp2_with fail
    go_ret
    exact ⟨rfl, rfl⟩

theorem info_byteD : (Tryz.prog.info? 5).map (fun i => (i.zero, i.size, i.bytes)) = some (some (.int .u8 0), 1, 1) := by kernel_rfl

/-- a new one -/
def Dv.new (n : Nat) : Dv := ⟨List.replicate (256 * n) 0, [], false, -1, [], 0, 0, 0⟩

set_option maxHeartbeats 4000000 in
set_option maxRecDepth 100000 in
theorem dev_New (w : World) (n : Nat) (h1 : 1 ≤ n) (h2 : n ≤ 512) :
    Calls Tryz.prog 25 #[.int .i64 n] w fun e w' => ∃ p F, e = .returned (.pointer (some ⟨p, 0, none⟩)) ∧ DevAt w' p (Dv.new n) F ∧ Below w.heap.size w w' ∧ ∀ k, k ∈ F → w.heap.size ≤ k := by
  have h3 : ¬ (n : Int) < 1 := by omega
  have h4 : (n : Int) ≤ 512 := by omega
  have h5 : (1 : Int) ≤ (n : Int) := by omega
  have h6 : ¬ (512 : Int) < (n : Int) := by omega
  go_enter Tryz.func25, Tryz.ntmps25
  obtain ⟨m, hm⟩ : ∃ m, m = 256 * n := ⟨_, rfl⟩
  have hm1 : (n : Int) * 256 = (m : Int) := by omega
  have hm2 : m ≤ 131072 := by omega
  have HM := hid hm
  clear hm
  go_wp2_with (with_reducible refine at_op (.makeSlice 62 (.tmp 10) (.tmp 10)) rfl ?_; refine Stopped.go ?_)
  obtain ⟨i0, hi0, hz0, hz1, hz2⟩ := info_parts info_byteD
  refine Stopped.mk (wpList_make_k rfl _ _ _ rfl 5 i0 (.int .u8 0) Tryz.underlying62 hi0 hz0 hz1 rfl .i64 .i64 m m m rfl rfl rfl rfl (by rw [hz2]; omega) (by omega) ?_)
  intro w1 hB hb1 hs1
  have HB := hid hB; have HB1 := hid hb1; have HS1 := hid hs1
  clear hi0 hz0 hz1 hz2 hB hb1 hs1
  obtain ⟨W, hW⟩ : ∃ W, W = w1.alloc (.cells #[.slice (some ⟨w.heap.size, 0, none⟩) m m, .slice none 0 0, .bool false, .int .i64 (-1), .slice none 0 0, .int .i64 0, .int .i64 0, .int .i64 0] 77) := ⟨_, rfl⟩
  have HW := hid hW
  clear hW
  go_wp2_with fail
  rw [← HW.out]
  go_ret
  have hm := HM.out
  have hb1 := HB1.out
  have hBel : Below w1.heap.size w1 W := by rw [HW.out]; exact below_alloc _ _
  have hbx : Blk W w1.heap.size 77 [.slice (some ⟨w.heap.size, 0, none⟩) m m, .slice none 0 0, .bool false, .int .i64 (-1), .slice none 0 0, .int .i64 0, .int .i64 0, .int .i64 0] := by rw [HW.out]; exact Blk.new _ _ _
  refine ⟨w1.heap.size, [w1.heap.size, w.heap.size], rfl, ⟨?_, w.heap.size, .slice none 0 0, .slice none 0 0, ⟨?_, ?_, World.ownsRowF_nil _ _ _ _, World.ownsRowF_nil _ _ _ _⟩, ⟨by simp, by simp, (by intro k hk; cases hk), (by intro k hk; cases hk)⟩⟩, bt hb1 hBel, ?_⟩
  · intro k hk
    have h1 := hbx.lt
    have h2 := HS1.out
    simp only [List.mem_cons, List.not_mem_nil, or_false] at hk
    omega
  · show Blk W _ _ (dvCells (Dv.new n) w.heap.size _ _)
    unfold dvCells Dv.new
    simp only [List.length_replicate, ← hm]
    exact hbx
  · have := HB.out.belowS hBel
    show Blk W _ _ (u8s (List.replicate (256 * n) 0))
    rw [← hm]
    simpa [u8s] using this
  · intro k hk
    have h2 := HS1.out
    simp only [List.mem_cons, List.not_mem_nil, or_false] at hk
    omega

theorem DvOk.new (n : Nat) (h1 : 1 ≤ n) (h2 : n ≤ 512) : DvOk n (Dv.new n) := ⟨h1, h2, by simp [Dv.new], by simp [Dv.new], by simp [Dv.new]⟩

set_option maxHeartbeats 4000000 in
set_option maxRecDepth 100000 in
theorem dev_Of_no (w : World) (s : ByteArray) (hx : s.size / 256 < 1 ∨ 512 < s.size / 256) (hs : s.size ≤ 140737488351232) :
    Calls Tryz.prog 28 #[.string s] w fun e w' => e = .returned (.pointer none) ∧ w = w' := by
  have hd : (s.size : Int).tdiv 256 = ((s.size / 256 : Nat) : Int) := by rw [Int.tdiv_eq_ediv_of_nonneg (by omega)]; omega
  obtain ⟨q, hq⟩ : ∃ q, q = s.size / 256 := ⟨_, rfl⟩
  rw [← hq] at hd hx
  have hd2 : (s.size : Int) / 256 = (q : Int) := by omega
  have HC := hid (dev_New_no w q (by omega))
  clear hq hx
  go_enter Tryz.func28, Tryz.ntmps28
  go_wp2_with fail
  refine HC.out.mono ?_; rintro e w1 ⟨rfl, rfl⟩
  go_wp2_with fail
  go_ret
  exact ⟨rfl, rfl⟩

set_option maxHeartbeats 4000000 in
set_option maxRecDepth 100000 in
theorem dev_Of (w : World) (s : ByteArray) (n : Nat) (hn : n = s.size / 256) (h1 : 1 ≤ n) (h2 : n ≤ 512) :
    Calls Tryz.prog 28 #[.string s] w fun e w' => ∃ p F, e = .returned (.pointer (some ⟨p, 0, none⟩)) ∧ DevAt w' p { Dv.new n with safe := s.data.toList.take (256 * n) } F ∧ Below w.heap.size w w' ∧ ∀ k, k ∈ F → w.heap.size ≤ k := by
  have hd : (s.size : Int).tdiv 256 = (n : Int) := by rw [Int.tdiv_eq_ediv_of_nonneg (by omega)]; omega
  have hd2 : (s.size : Int) / 256 = (n : Int) := by omega
  have hsz : 256 * n ≤ s.size := by omega
  have HSZ := hid hsz
  have hss : (s.size : Int) ≤ 140737488351232 := by omega
  clear hn hsz
  go_enter Tryz.func28, Tryz.ntmps28
  go_wp2_with fail
  refine (dev_New w n h1 h2).mono ?_; rintro e w1 ⟨p, F, rfl, hD, hb, hF⟩
  have HD := hid hD; have HB := hid hb; have HF := hid hF
  obtain ⟨hs, S, L, K, h, hFF⟩ := hD
  have c0 := h.c0
  have hl : (Dv.new n).safe.length = 256 * n := by simp [Dv.new]
  obtain ⟨m, hm⟩ : ∃ m, m = 256 * n := ⟨_, rfl⟩
  rw [hl, ← hm] at c0
  have H := hid (And.intro hs (And.intro h hFF)); have HM := hid hm
  clear hs h hFF hb hF hl hm
  go_wp2_with (with_reducible refine at_op (.call { callee := .builtin .copy, args := #[.tmp 13, .tmp 14], argTypes := #[62, 9] }) rfl ?_; refine Stopped.go ?_)
  obtain ⟨hs, h, hFF⟩ := H.out
  have hsz := HSZ.out; have hm := HM.out
  refine Stopped.mk (wpList_copy_str_part rfl _ _ _ _ rfl 5 Tryz.underlying62 (by kernel_rfl) S 0 m m rfl s rfl (by omega) 5 (Dv.new n).safe h.safe (by simp [Dv.new]; omega) ?_)
  intro w2 hB2 hK2
  have hov : over (Dv.new n).safe 0 (s.data.toList.take m) = s.data.toList.take (256 * n) := by
    rw [hm]
    unfold over Dv.new
    have hsl : s.data.toList.length = s.size := by simp
    simp only [List.take_zero, List.nil_append, Nat.zero_add, List.length_take, hsl, Nat.min_eq_left hsz, List.drop_replicate, Nat.sub_self, List.replicate_zero, List.append_nil]
  rw [hov] at hB2
  have g := h.safeTo hK2 _ (by simp [Dv.new]; omega) hB2
  have hK := hK2.mono (G := F) (fun x hx => by simp at hx; rw [hx]; exact hFF.safe)
  have HG := hid (And.intro g hK); have H3 := hid hFF; have H1 := hid hs
  clear hs h hFF hB2 hK2 hov g hK c0 hsz hm
  go_wp2_with fail
  go_ret
  exact ⟨p, F, rfl, ⟨fun k hk => Nat.lt_of_lt_of_le (H1.out k hk) HG.out.2.size, S, L, K, HG.out.1, H3.out⟩, Keeps.below HB.out HG.out.2 HF.out, HF.out⟩

set_option maxHeartbeats 4000000 in
set_option maxRecDepth 100000 in
theorem dev_Loose (w : World) (p : Nat) (d : Dv) (F : List Nat) (h : DevAt w p d F) (hlen : d.loose.length ≤ 1000000) :
    Calls Tryz.prog 23 #[.pointer (some ⟨p, 0, none⟩)] w fun e w' => e = .returned (.int .i64 d.loose.length) ∧ Below w.heap.size w w' := by
  have HC := hid (dev_At w p d F h (by omega))
  clear h
  go_enter Tryz.func23, Tryz.ntmps23
  go_wp2_with fail
  refine HC.out.mono ?_; rintro e w1 ⟨A, cap, rfl, _, hb⟩
  have HB := hid hb
  clear hb
  go_wp2_with fail
  go_ret
  exact ⟨rfl, HB.out⟩
end Go.Proofs.YtcklgaenedlbiaaGreat

namespace Go.Proofs.YtcklgaenedlbiaaGreat
open Go.RowKit

/-- sector j of all -/
def secAt (s : List UInt8) (j : Nat) : List UInt8 := (s.drop (64 * j)).take 64
theorem secAt_get (s : List UInt8) (j i : Nat) : (secAt s j)[i]? = if i < 64 then s[64 * j + i]? else none := by
  unfold secAt
  rw [List.getElem?_take]
  split
  · rw [List.getElem?_drop]
  · rfl
theorem over_get (l : List UInt8) (o : Nat) (m : List UInt8) (h : o + m.length ≤ l.length) (q : Nat) : (over l o m)[q]? = if q < o then l[q]? else if q < o + m.length then m[q - o]? else l[q]? := by
  unfold over
  have h1 : (l.take o).length = o := by rw [List.length_take]; omega
  split
  · rw [List.append_assoc, List.getElem?_append_left (by omega), List.getElem?_take, if_pos (by omega)]
  · rw [List.append_assoc, List.getElem?_append_right (by omega), h1]
    split
    · rw [List.getElem?_append_left (by omega)]
    · rw [List.getElem?_append_right (by omega), List.getElem?_drop]
      congr 1
      omega
theorem secAt_over (s : List UInt8) (j0 : Nat) (m : List UInt8) (hm : m.length = 64) (h : 64 * j0 + 64 ≤ s.length) (j : Nat) : secAt (over s (64 * j0) m) j = if j = j0 then m else secAt s j := by
  apply List.ext_getElem?
  intro i
  rw [secAt_get, over_get _ _ _ (by omega), hm]
  by_cases hi : i < 64
  · rw [if_pos hi]
    by_cases hj : j = j0
    · subst hj
      rw [if_pos rfl, if_neg (by omega), if_pos (by omega)]
      congr 1
      omega
    · rw [if_neg hj, secAt_get, if_pos hi]
      by_cases h1 : 64 * j + i < 64 * j0
      · rw [if_pos h1]
      · rw [if_neg h1, if_neg (by omega)]
  · rw [if_neg hi]
    by_cases hj : j = j0
    · rw [if_pos hj, List.getElem?_eq_none (by omega)]
    · rw [if_neg hj, secAt_get, if_neg hi]
theorem secAt_lay1 {n : Nat} (s : List UInt8) (x : Nat × ByteArray) (k : Nat) (hs : s.length = 256 * n) (hx : x.1 < n ∧ x.2.size = 256) (hk : k < 4) (j : Nat) : secAt (lay1 s x k) j = if j = 4 * x.1 + k then sect x.2 k else secAt s j := by
  unfold lay1
  rw [show 256 * x.1 + 64 * k = 64 * (4 * x.1 + k) by omega]
  exact secAt_over s _ _ (sect_length _ _ hx.2 hk) (by have := hx.1; omega) j

/-- a block of a byte alone -/
def oneB (b : UInt8) : ByteArray := ⟨(List.replicate 256 b).toArray⟩
theorem oneB_size (b : UInt8) : (oneB b).size = 256 := (List.size_toArray ..).trans List.length_replicate
theorem sect_one (b : UInt8) (k : Nat) (hk : k < 4) : sect (oneB b) k = List.replicate 64 b := by
  unfold sect oneB
  rw [List.drop_replicate, List.take_replicate]
  congr 1
  omega

/-- each sector is of one byte, of those that may be there -/
structure Good (ok : Nat → List UInt8) (d : Dv) : Prop where
  size : d.safe.length = 1024
  sec : ∀ at_ k, at_ < 4 → k < 4 → ∃ b ∈ ok at_, secAt d.safe (4 * at_ + k) = List.replicate 64 b
  loose : ∀ x ∈ d.loose, x.1 < 4 ∧ ∃ b ∈ ok x.1, x.2 = oneB b

theorem Good.mono {ok ok' : Nat → List UInt8} {d : Dv} (h : Good ok d) (hs : ∀ at_ b, b ∈ ok at_ → b ∈ ok' at_) : Good ok' d :=
  ⟨h.size, fun at_ k h1 h2 => by obtain ⟨b, hb, e⟩ := h.sec at_ k h1 h2; exact ⟨b, hs _ _ hb, e⟩, fun x hx => by obtain ⟨h1, b, hb, e⟩ := h.loose x hx; exact ⟨h1, b, hs _ _ hb, e⟩⟩

/-- what a row of bytes is, in sectors -/
def Secs (ok : Nat → List UInt8) (s : List UInt8) : Prop := s.length = 1024 ∧ ∀ at_ k, at_ < 4 → k < 4 → ∃ b ∈ ok at_, secAt s (4 * at_ + k) = List.replicate 64 b
theorem Secs.lay1 {ok : Nat → List UInt8} {s : List UInt8} (h : Secs ok s) {x : Nat × ByteArray} (hx : x.1 < 4 ∧ ∃ b ∈ ok x.1, x.2 = oneB b) (k : Nat) (hk : k < 4) : Secs ok (lay1 s x k) := by
  obtain ⟨h1, b, hb, e⟩ := hx
  have hx2 : x.1 < 4 ∧ x.2.size = 256 := ⟨h1, by rw [e]; exact oneB_size b⟩
  refine ⟨lay1_length (n := 4) s x k h.1 hx2 hk, fun at_ k' h3 h4 => ?_⟩
  rw [secAt_lay1 (n := 4) s x k h.1 hx2 hk]
  by_cases hj : 4 * at_ + k' = 4 * x.1 + k
  · rw [if_pos hj]
    have h5 : at_ = x.1 := by omega
    subst h5
    exact ⟨b, hb, by rw [e]; exact sect_one b k hk⟩
  · rw [if_neg hj]
    exact h.2 at_ k' h3 h4
theorem Secs.cutK {ok : Nat → List UInt8} {s : List UInt8} (h : Secs ok s) (keep : List Bool) (i : Nat) {x : Nat × ByteArray} (hx : x.1 < 4 ∧ ∃ b ∈ ok x.1, x.2 = oneB b) : ∀ k, k ≤ 4 → Secs ok (cutK keep i s x k)
  | 0, _ => h
  | k + 1, hk => by
    rw [cutK_succ]
    split
    · exact (Secs.cutK h keep i hx k (by omega)).lay1 hx k (by omega)
    · exact Secs.cutK h keep i hx k (by omega)
theorem Secs.cutN {ok : Nat → List UInt8} {s : List UInt8} (h : Secs ok s) (keep : List Bool) (l : List (Nat × ByteArray)) (hl : ∀ x ∈ l, x.1 < 4 ∧ ∃ b ∈ ok x.1, x.2 = oneB b) : ∀ n, n ≤ l.length → Secs ok (cutN keep l s n)
  | 0, _ => h
  | n + 1, hn => by
    rw [cutN_succ]
    refine (Secs.cutN h keep l hl n (by omega)).cutK keep n ?_ 4 (by omega)
    rw [List.getD_eq_getElem?_getD, List.getElem?_eq_getElem (by omega)]
    exact hl _ (List.getElem_mem _)
theorem Good.cut {ok : Nat → List UInt8} {d : Dv} (h : Good ok d) (keep : List Bool) : Good ok (d.cut keep) := by
  unfold Dv.cut
  split
  · exact h
  · have := Secs.cutN (ok := ok) ⟨h.size, h.sec⟩ keep d.loose h.loose _ (Nat.le_refl _)
    exact ⟨this.1, this.2, by simp⟩
theorem Good.burn {ok : Nat → List UInt8} {d : Dv} (h : Good ok d) : Good ok d.burn := by
  have h1 : Good ok (if d.fuse = 0 then d.cut d.keep else d) := by split; exact h.cut _; exact h
  unfold Dv.burn
  simp only
  generalize (if d.fuse = 0 then d.cut d.keep else d) = c at *
  split
  · exact ⟨h1.size, h1.sec, h1.loose⟩
  · exact h1
theorem Good.write {ok : Nat → List UInt8} {d : Dv} (h : Good ok d) (x : Nat × ByteArray) (hx : x.1 < 4 ∧ ∃ b ∈ ok x.1, x.2 = oneB b) : Good ok (d.write x) := by
  unfold Dv.write
  split
  · exact h.burn
  · refine ⟨h.burn.size, h.burn.sec, fun y hy => ?_⟩
    rcases List.mem_append.1 hy with hy | hy
    · exact h.burn.loose y hy
    · simp at hy; subst hy; exact hx
theorem Good.come {ok : Nat → List UInt8} {d : Dv} (h : Good ok d) : Good ok d.come := by
  unfold Dv.come
  split
  · exact ⟨h.size, h.sec, h.loose⟩
  · exact h
theorem Good.fuse {ok : Nat → List UInt8} {d : Dv} (h : Good ok d) (n : Int) (keep : List Bool) : Good ok { d with fuse := n, keep := keep } := ⟨h.size, h.sec, h.loose⟩

/-- flushed: the last one of each block -/
theorem flushN_snoc (s : List UInt8) (l : List (Nat × ByteArray)) (x : Nat × ByteArray) : flushN s (l ++ [x]) = layN (flushN s l) x 4 := by
  unfold flushN; rw [List.foldl_append]; rfl
theorem layN_sec (s : List UInt8) (x : Nat × ByteArray) (hs : s.length = 1024) (hx : x.1 < 4 ∧ x.2.size = 256) : ∀ (k : Nat), k ≤ 4 → ∀ j, secAt (layN s x k) j = if 4 * x.1 ≤ j ∧ j < 4 * x.1 + k then sect x.2 (j - 4 * x.1) else secAt s j
  | 0, _, j => by rw [if_neg (by omega)]; rfl
  | k + 1, hk, j => by
    rw [layN_succ, secAt_lay1 (n := 4) _ x k (layN_length (n := 4) x hx k s (by omega) hs) hx (by omega), layN_sec s x hs hx k (by omega)]
    by_cases h1 : j = 4 * x.1 + k
    · rw [if_pos h1, if_pos (by omega)]; congr 1; omega
    · rw [if_neg h1]
      by_cases h2 : 4 * x.1 ≤ j ∧ j < 4 * x.1 + k
      · rw [if_pos h2, if_pos (by omega)]
      · rw [if_neg h2, if_neg (by omega)]
/-- with all kept it is as flushed -/
theorem cutK_all (keep : List Bool) (i : Nat) (x : Nat × ByteArray) (hk : ∀ j, j < 4 * i + 4 → keep.getD j false = true) (s : List UInt8) : ∀ k, k ≤ 4 → cutK keep i s x k = layN s x k
  | 0, _ => rfl
  | k + 1, h => by rw [cutK_succ, layN_succ, if_pos (hk _ (by omega)), cutK_all keep i x hk s k (by omega)]
theorem cutN_all (keep : List Bool) (l : List (Nat × ByteArray)) (s : List UInt8) (hk : ∀ j, j < 4 * l.length → keep.getD j false = true) : ∀ n, n ≤ l.length → cutN keep l s n = flushN s (l.take n)
  | 0, _ => rfl
  | n + 1, h => by
    rw [cutN_succ, cutN_all keep l s hk n (by omega), cutK_all keep n _ (fun j hj => hk j (by omega)) _ 4 (by omega), List.take_succ_eq_append_getElem (by omega), flushN_snoc]
    rw [List.getD_eq_getElem?_getD, List.getElem?_eq_getElem (by omega)]; rfl
theorem cutK_none (i : Nat) (s : List UInt8) (x : Nat × ByteArray) : ∀ k, cutK [] i s x k = s
  | 0 => rfl
  | k + 1 => by rw [cutK_succ, if_neg (by simp), cutK_none i s x k]
theorem cutN_none (l : List (Nat × ByteArray)) (s : List UInt8) : ∀ n, cutN [] l s n = s
  | 0 => rfl
  | n + 1 => by rw [cutN_succ, cutN_none l s n, cutK_none]
end Go.Proofs.YtcklgaenedlbiaaGreat
