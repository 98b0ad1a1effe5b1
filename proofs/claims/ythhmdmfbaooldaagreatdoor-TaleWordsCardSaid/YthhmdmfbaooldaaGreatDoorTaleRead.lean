/-
  strings.Split at a blank, tale.Read, walked.
-/
import Derived.Test.YthhmdmfbaooldaaGreatDoorTaleLine
import Derived.Lib.SplitLaws
namespace Go.Proofs.YthhmdmfbaooldaaGreatDoor
open Go.RowKit Go.Sort

theorem results_cell_row_tmp {P : Program} {fn : Func} {p u : Tmp} {ty : TypeId} (h : fn.results = #[.cell p ty, .tmp u]) (tmps : Array Value) (w : World) (g : Nat) (t : TypeId) (cs : Array Value) (fr : Nat × Nat) (d : TypeDesc)
    (hp : tmps.getD p undef = .pointer (some ⟨g, 0, none⟩)) (hg : w.heap[g]? = some (.cells cs t fr))
    (hu : P.underlying ty = some d) (hd : (match d with | .struct _ | .array _ _ => true | _ => false) = true) (hi : (P.info? ty).map (·.size) = some cs.size) :
    (results fn tmps).run P w = .ok (.tuple #[.agg cs, tmps.getD u undef]) w := by
  rw [results_cell_tmp h, hp]
  simp [asAddr, run_loadVar_row w g t ty cs fr d hg hu hd hi]

/-- the words of a line -/
def splitT (s : ByteArray) : List ByteArray := Lib.splitB ⟨#[32]⟩ 0 (Lib.countB s ⟨#[32]⟩) s
theorem splitB_sizes (sep : ByteArray) : ∀ (k : Nat) (s : ByteArray), ∀ x ∈ Lib.splitB sep 0 k s, x.size ≤ s.size
  | 0, s, x, h => by
    rw [Lib.splitB_zero] at h
    rw [List.mem_singleton.1 h]; exact Nat.le_refl _
  | k + 1, s, x, h => by
    unfold Lib.splitB at h
    split at h
    · rw [List.mem_singleton.1 h]; exact Nat.le_refl _
    · rcases List.mem_cons.1 h with rfl | h
      · simp only [ByteArray.size_extract]; omega
      · have := splitB_sizes sep k _ x h
        simp only [ByteArray.size_extract] at this; omega
theorem splitT_len (s : ByteArray) : (splitT s).length = Lib.countB s ⟨#[32]⟩ + 1 := Lib.splitB_all ⟨#[32]⟩ (by decide) 0 _ s rfl
theorem splitT_le (s : ByteArray) : (splitT s).length ≤ s.size + 1 := by
  rw [splitT_len]
  have := Lib.countB_le ⟨#[32]⟩ (by decide) _ s (Nat.le_refl _)
  omega
/-- a row, handed back -/
def RowR (ss : List ByteArray) (w : World) (e : Ending) (w' : World) : Prop := ∃ V, e = .returned V ∧ WRow w w' V ss
theorem Split_any (s : ByteArray) (hs : s.size ≤ 100000) (w : World) (hL : Lib28 w) :
    Calls Tryz.prog 37 #[.string s, .string ⟨#[32]⟩] w (RowR (splitT s) w) := by
  obtain ⟨m, hm⟩ := hL.max
  refine (Tryz.strings_Split s ⟨#[32]⟩ m w (by omega) hm (by decide)).mono ?_
  rintro e w' ⟨rfl, rfl⟩
  have hl := splitT_len s
  refine ⟨_, rfl, ?_⟩
  unfold WRow
  refine ⟨⟨by simp [strs], .inr ⟨w.heap.size, _, _, (0, 0), by rw [hl], Nat.zero_le _, heap_alloc_new w _, Nat.zero_le _, by rw [hl]; exact Nat.le_refl _, ?_, ?_, ?_⟩⟩, below_alloc _ _, ?_⟩
  · have h1 := splitT_le s
    have h2 : maxLen = 9223372036854775807 := rfl
    omega
  · have : (List.map Value.string (Lib.splitB { data := #[32] } 0 (Lib.countB s { data := #[32] }) s)).toArray.size = (splitT s).length := by simp [splitT]
    rw [this, hl, Nat.mul_one]
  · rw [Nat.mul_one]
    show (List.map Value.string (splitT s)).take _ = strs (splitT s)
    exact List.take_of_length_le (by simp)
  · intro k hk
    simp only [Value.ownBlock, Option.some.injEq] at hk
    omega

/-- the words, and two empty ones -/
def readW28 (s : ByteArray) : List ByteArray := splitT s ++ [⟨#[]⟩, ⟨#[]⟩]
def rw0 (s : ByteArray) : List UInt8 := ((readW28 s).getD 0 ⟨#[]⟩).data.toList
def rw1 (s : ByteArray) : List UInt8 := ((readW28 s).getD 1 ⟨#[]⟩).data.toList
def rw2 (s : ByteArray) : List UInt8 := ((readW28 s).getD 2 ⟨#[]⟩).data.toList
/-- what a line might say -/
def rKey (k : Nat) (w1 : List UInt8) : ByteArray := if k = 1 ∨ k = 2 ∨ k = 3 ∨ k = 4 then textA w1 else ⟨#[]⟩
def rVal (k : Nat) (w2 : List UInt8) : ByteArray := if k = 1 then textA w2 else ⟨#[]⟩
def rN (k : Nat) (w2 : List UInt8) : Nat := if k = 3 then numA w2 else 0
def rLo (k : Nat) (w1 : List UInt8) : ByteArray := if k = 5 then textA w1 else ⟨#[]⟩
/-- whether it says so -/
def readIs (s : ByteArray) : Bool :=
  ordB (kindL (rw0 s)) (rKey (kindL (rw0 s)) (rw1 s)) (rVal (kindL (rw0 s)) (rw2 s)) (rN (kindL (rw0 s)) (rw2 s)) (rLo (kindL (rw0 s)) (rw1 s)) (rLo (kindL (rw0 s)) (rw2 s)) &&
    decide (lineB (kindL (rw0 s)) (rKey (kindL (rw0 s)) (rw1 s)) (rVal (kindL (rw0 s)) (rw2 s)) (rN (kindL (rw0 s)) (rw2 s)) (rLo (kindL (rw0 s)) (rw1 s)) (rLo (kindL (rw0 s)) (rw2 s)) = s)
theorem numA_lt (l : List UInt8) : numA l < 18446744073709551616 := by
  unfold numA
  cases h : numT l with
  | none => decide
  | some u => exact (numT_some h).2
theorem kindL_le (l : List UInt8) : kindL l ≤ 8 := by
  unfold kindL
  repeat (split; decide)
  decide

def zeroO : Array Value := #[.int .i64 0, .string ⟨#[]⟩, .string ⟨#[]⟩, .int .u64 0, .string ⟨#[]⟩, .string ⟨#[]⟩]
/-- the words' cells, the answer's block -/
def ReadI (w wx : World) (b : Nat) (p0 p1 p2 : ByteArray) : Prop :=
  Below w.heap.size w wx ∧ wx.heap[w.heap.size]? = some (.cells zeroO 37 (0, 0)) ∧ b < wx.heap.size ∧
    wx.cell? ⟨b, 0, none⟩ = some (.string p0) ∧ wx.cell? ⟨b, 1, none⟩ = some (.string p1) ∧ wx.cell? ⟨b, 2, none⟩ = some (.string p2)
theorem ReadI.lt {w wx : World} {b : Nat} {p0 p1 p2 : ByteArray} (h : ReadI w wx b p0 p1 p2) : w.heap.size < wx.heap.size := (Array.getElem?_eq_some_iff.1 h.2.1).1
theorem ReadI.below {w wx w' : World} {b : Nat} {p0 p1 p2 : ByteArray} (h : ReadI w wx b p0 p1 p2) (hb : Below wx.heap.size wx w') : ReadI w w' b p0 p1 p2 := by
  have hl := h.lt
  obtain ⟨h1, h2, h3, h4, h5, h6⟩ := h
  exact ⟨bt h1 hb, by rw [hb.block _ hl]; exact h2, Nat.lt_of_lt_of_le h3 hb.size, by rw [hb.cell (p := ⟨b, 0, none⟩) h3]; exact h4, by rw [hb.cell (p := ⟨b, 1, none⟩) h3]; exact h5, by rw [hb.cell (p := ⟨b, 2, none⟩) h3]; exact h6⟩
theorem ReadI.keep {w wx w' : World} {b g : Nat} {p0 p1 p2 : ByteArray} (h : ReadI w wx b p0 p1 p2) (hg : w.heap.size < g ∧ b < g) (hk : Keeps [g] wx w') : ReadI w w' b p0 p1 p2 := by
  have hl := h.lt
  obtain ⟨h1, h2, h3, h4, h5, h6⟩ := h
  have hn : b ∉ [g] := by simp; omega
  exact ⟨Keeps.below1 h1 hk (by omega), by rw [hk.block _ hl (by simp; omega)]; exact h2, Nat.lt_of_lt_of_le h3 hk.size, by rw [hk.cell h3 hn]; exact h4, by rw [hk.cell h3 hn]; exact h5, by rw [hk.cell h3 hn]; exact h6⟩
/-- what the end needs -/
def After (w wx : World) : Prop := Below w.heap.size w wx ∧ wx.heap[w.heap.size]? = some (.cells zeroO 37 (0, 0))
theorem After.below {w wx w' : World} (h : After w wx) (hb : Below wx.heap.size wx w') : After w w' :=
  ⟨bt h.1 hb, by rw [hb.block _ (Array.getElem?_eq_some_iff.1 h.2).1]; exact h.2⟩
theorem ReadI.after {w wx w' : World} {b g : Nat} {p0 p1 p2 : ByteArray} {vs : List Value} (h : ReadI w wx b p0 p1 p2) (hg : w.heap.size < g ∧ b < g) (hk : Keeps [g] wx w') (hB : Blk w' g 37 vs) : After w w' ∧ Blk w' g 37 vs :=
  ⟨⟨(h.keep hg hk).1, (h.keep hg hk).2.1⟩, hB⟩

set_option maxHeartbeats 16000000 in
set_option maxRecDepth 100000 in
theorem tale_Read_any (s : ByteArray) (hs : s.size ≤ 50000) (w : World) (hL : Lib28 w) :
    Calls Tryz.prog 21 #[.string s] w fun e w' =>
      e = .returned (.tuple #[.agg (if readIs s = true then #[.int .i64 (kindL (rw0 s)), .string (rKey (kindL (rw0 s)) (rw1 s)), .string (rVal (kindL (rw0 s)) (rw2 s)), .int .u64 (rN (kindL (rw0 s)) (rw2 s)), .string (rLo (kindL (rw0 s)) (rw1 s)), .string (rLo (kindL (rw0 s)) (rw2 s))] else #[.int .i64 0, .string ⟨#[]⟩, .string ⟨#[]⟩, .int .u64 0, .string ⟨#[]⟩, .string ⟨#[]⟩]),
        .int .i64 (if readIs s = true then 0 else 5)]) ∧ Below w.heap.size w w' := by
  have HL := hid hL; clear hL
  have hu := Tryz.underlying37
  have hlen : 3 ≤ (readW28 s).length ∧ (readW28 s).length ≤ 60000 := by
    unfold readW28
    have := splitT_le s
    have := splitT_len s
    simp only [List.length_append, List.length_cons, List.length_nil]
    omega
  have hsz : ∀ x ∈ readW28 s, x.size ≤ 50000 := by
    intro x hx
    unfold readW28 at hx
    rcases List.mem_append.1 hx with h | h
    · have := splitB_sizes _ _ _ x h; omega
    · simp only [List.mem_cons, List.not_mem_nil, or_false] at h
      rcases h with rfl | rfl <;> simp [ByteArray.size]
  obtain ⟨p0, hp0⟩ : ∃ p, p = (readW28 s).getD 0 ⟨#[]⟩ := ⟨_, rfl⟩
  obtain ⟨p1, hp1⟩ : ∃ p, p = (readW28 s).getD 1 ⟨#[]⟩ := ⟨_, rfl⟩
  obtain ⟨p2, hp2⟩ : ∃ p, p = (readW28 s).getD 2 ⟨#[]⟩ := ⟨_, rfl⟩
  have g0 : (readW28 s)[0]? = some p0 := by rw [hp0, List.getD_eq_getElem?_getD, List.getElem?_eq_getElem (by omega)]; rfl
  have g1 : (readW28 s)[1]? = some p1 := by rw [hp1, List.getD_eq_getElem?_getD, List.getElem?_eq_getElem (by omega)]; rfl
  have g2 : (readW28 s)[2]? = some p2 := by rw [hp2, List.getD_eq_getElem?_getD, List.getElem?_eq_getElem (by omega)]; rfl
  have s0 : p0.size ≤ 50000 := hsz _ (List.mem_of_getElem? g0)
  have s1 : p1.size ≤ 50000 := hsz _ (List.mem_of_getElem? g1)
  have s2 : p2.size ≤ 50000 := hsz _ (List.mem_of_getElem? g2)
  have e0 : rw0 s = p0.data.toList := by rw [hp0]; rfl
  have e1 : rw1 s = p1.data.toList := by rw [hp1]; rfl
  have e2 : rw2 s = p2.data.toList := by rw [hp2]; rfl
  obtain ⟨R, hR⟩ : ∃ R, R = readIs s := ⟨_, rfl⟩
  rw [← hR]
  unfold readIs at hR
  rw [e0, e1, e2] at hR ⊢
  have CK := fun w' => tale_kindOf_any p0 w'
  have C1 := fun w' => tale_Text_any p1 (by omega) w'
  have C2 := fun w' => tale_Text_any p2 (by omega) w'
  have CN := fun w' hw' => tale_Number_any p2 (by omega) w' hw'
  have hnl := numA_lt p2.data.toList
  have hk8 := kindL_le p0.data.toList
  obtain ⟨K, hK⟩ : ∃ k, k = kindL p0.data.toList := ⟨_, rfl⟩
  obtain ⟨t1, ht1⟩ : ∃ t, t = textA p1.data.toList := ⟨_, rfl⟩
  obtain ⟨t2, ht2⟩ : ∃ t, t = textA p2.data.toList := ⟨_, rfl⟩
  obtain ⟨f1, hf1⟩ : ∃ t, t = textE p1.data.toList := ⟨_, rfl⟩
  obtain ⟨f2, hf2⟩ : ∃ t, t = textE p2.data.toList := ⟨_, rfl⟩
  obtain ⟨m, hm⟩ : ∃ t, t = numA p2.data.toList := ⟨_, rfl⟩
  obtain ⟨f3, hf3⟩ : ∃ t, t = numE p2.data.toList := ⟨_, rfl⟩
  unfold rKey rVal rN rLo at hR ⊢
  rw [← hK, ← ht1, ← ht2, ← hm] at hR ⊢
  rw [← hK] at CK hk8
  rw [← ht1, ← hf1] at C1
  rw [← ht2, ← hf2] at C2
  rw [← hm, ← hf3] at CN
  rw [← hm] at hnl
  have DK := hid CK; have D1 := hid C1; have D2 := hid C2; have DN := hid CN; have HR := hid hR; have HLEN := hid hlen
  have G0 := hid g0; have G1 := hid g1; have G2 := hid g2
  clear CK C1 C2 CN hR hlen g0 g1 g2 e0 e1 e2 hK ht1 ht2 hf1 hf2 hm hf3 hp0 hp1 hp2 s0 s1 s2 hsz
  have hA := below_alloc w (.cells #[.int .i64 0, .string ⟨#[]⟩, .string ⟨#[]⟩, .int .u64 0, .string ⟨#[]⟩, .string ⟨#[]⟩] 37)
  have hN : (w.alloc (.cells #[.int .i64 0, .string ⟨#[]⟩, .string ⟨#[]⟩, .int .u64 0, .string ⟨#[]⟩, .string ⟨#[]⟩] 37)).heap[w.heap.size]? = some (.cells zeroO 37 (0, 0)) := heap_alloc_new w _
  have HN := hid (And.intro hN hA)
  clear hA hN
  go_enter Tryz.func21, Tryz.ntmps21
  go_wp2_with fail
  refine (Split_any s (by omega) _ (HL.out.below HN.out.2)).mono ?_; rintro e w1 ⟨V, rfl, hV⟩
  have HV := hid hV
  clear hV
  go_wp2_with (with_reducible refine at_op (.call { callee := .builtin .append, args := #[.tmp 13, .tmp 14], argTypes := #[78, 78] }) rfl ?_; refine Stopped.go ?_)
  have hl := splitT_le s
  refine Stopped.mk (wpList_more rfl (.tmp 13) (.tmp 14) rfl [⟨#[]⟩, ⟨#[]⟩] rfl (HV.out.below (below_alloc w1 _)) _ 2 2 rfl rfl (row_new w1 #[.string ⟨#[]⟩, .string ⟨#[]⟩] 9) (by simp only [List.length_cons, List.length_nil]; omega) ?_)
  clear hl
  intro V2 w2 hr2
  change WRow _ w2 V2 (readW28 s) at hr2
  obtain ⟨b, cap, rfl, hcap, hb, hcell, hbel⟩ := hr2.parts (by have := HLEN.out; omega)
  have HI : Hid (ReadI w w2 b p0 p1 p2) := ⟨HN.out.2.trans (hbel.mono (by simp)), (by rw [hbel.block _ (Array.getElem?_eq_some_iff.1 HN.out.1).1]; exact HN.out.1), hb, hcell 0 _ G0.out, hcell 1 _ G1.out, hcell 2 _ G2.out⟩
  obtain ⟨L, hL⟩ : ∃ L, L = (readW28 s).length := ⟨_, rfl⟩
  have h3 : 3 ≤ L := by rw [hL]; exact HLEN.out.1
  have h0 : 0 < L := by omega
  have h1 : 1 < L := by omega
  have h2 : 2 < L := by omega
  rw [← hL]
  have HLN := hid hL
  have HCAP := hid hcap
  clear hr2 hcap hb hcell hbel HV HN G0 G1 G2 hL HLEN
  have c0 := HI.out.2.2.2.1
  go_wp2_with fail
  refine (DK.out _).mono ?_; rintro e w3 ⟨rfl, rfl⟩
  go_wp2_with (with_reducible refine at_op (.indexAddr 78 (.tmp 22) (.const (.int .i64 1))) rfl ?_; refine Stopped.go ?_)
  have HB5 := Blk.new w3 #[.int .i64 (K : Int), .string ⟨#[]⟩, .string ⟨#[]⟩, .int .u64 0, .string ⟨#[]⟩, .string ⟨#[]⟩] 37
  have HI4 := HI.out.below (below_alloc w3 (.cells #[.int .i64 (K : Int), .string ⟨#[]⟩, .string ⟨#[]⟩, .int .u64 0, .string ⟨#[]⟩, .string ⟨#[]⟩] 37))
  obtain ⟨g5, hg5⟩ : ∃ g, g = w3.heap.size := ⟨_, rfl⟩
  have hg5' : w.heap.size < g5 ∧ b < g5 := by rw [hg5]; exact ⟨HI.out.lt, HI.out.2.2.1⟩
  rw [← hg5] at HB5 ⊢
  clear hg5 c0 HI
  generalize w3.alloc (.cells #[.int .i64 (K : Int), .string ⟨#[]⟩, .string ⟨#[]⟩, .int .u64 0, .string ⟨#[]⟩, .string ⟨#[]⟩] 37) = w4 at HB5 HI4 ⊢
  change Blk w4 g5 _ [.int .i64 (K : Int), .string ⟨#[]⟩, .string ⟨#[]⟩, .int .u64 0, .string ⟨#[]⟩, .string ⟨#[]⟩] at HB5
  have H4 := hid (And.intro HI4 HB5)
  have c1 := HI4.2.2.2.2.1
  have HG5 := hid hg5'
  clear HI4 HB5 hg5'
  refine Stopped.mk ?_
  go_wp2_with fail
  refine (D1.out _).mono ?_; rintro e w5 ⟨rfl, hb5⟩
  have H5 := hid (And.intro (H4.out.1.below hb5) (H4.out.2.belowS hb5))
  have c2 := H5.out.1.2.2.2.2.2
  clear hb5 c1 H4
  go_wp2_with fail
  refine (D2.out _).mono ?_; rintro e w6 ⟨rfl, hb6⟩
  have H6 := hid (And.intro (H5.out.1.below hb6) (H5.out.2.belowS hb6))
  have c2 := H6.out.1.2.2.2.2.2
  have b0 := H6.out.2.at (i := 0) rfl
  clear hb6 H5
  have hcs : K = 1 ∨ K = 2 ∨ K = 3 ∨ K = 4 ∨ K = 5 ∨ K = 0 ∨ K = 6 ∨ K = 7 ∨ K = 8 := by omega
  clear hk8
  rcases hcs with rfl | rfl | rfl | rfl | rfl | rfl | rfl | rfl | rfl
  · have f1 := H6.out.2.free (i := 1) (by simp)
    have b1 := H6.out.2.at (i := 1) rfl
    have f2 := H6.out.2.free (i := 2) (by simp)
    have b2 := H6.out.2.at (i := 2) rfl
    go_wp2_with (with_reducible refine at_op (.load 37 (.tmp 5)) rfl ?_; refine Stopped.go ?_)
    have hB7 := ((H6.out.2).set 1 (.string t1)).set 2 (.string t2)
    have hk7 := (((Keeps.refl [g5] w6).setCell (p := ⟨g5, 1, none⟩) (by simp) (.string t1)).setCell (p := ⟨g5, 2, none⟩) (by simp) (.string t2))
    have h7 := H6.out.1.after HG5.out hk7 hB7
    generalize ((w6.setCell ⟨g5, 1, none⟩ (.string t1)).setCell ⟨g5, 2, none⟩ (.string t2)) = w7 at h7 ⊢
    clear hB7 hk7 f1 b1 f2 b2
    change (After w w7) ∧ Blk w7 g5 _ [.int .i64 1, .string t1, .string t2, .int .u64 0, .string ⟨#[]⟩, .string ⟨#[]⟩] at h7
    have H7 := hid h7
    clear h7 b0 c2 H6
    refine Stopped.mk ?_
    have hr : R = (ordB 1 t1 t2 0 ⟨#[]⟩ ⟨#[]⟩ && decide (lineB 1 t1 t2 0 ⟨#[]⟩ ⟨#[]⟩ = s)) := HR.out.trans rfl
    have c0 : w7.cell? ⟨g5, 0, none⟩ = some (.int .i64 1) := H7.out.2.at (i := 0) rfl
    have c1 : w7.cell? ⟨g5, 1, none⟩ = some (.string t1) := H7.out.2.at (i := 1) rfl
    have c2 : w7.cell? ⟨g5, 2, none⟩ = some (.string t2) := H7.out.2.at (i := 2) rfl
    have c3 : w7.cell? ⟨g5, 3, none⟩ = some (.int .u64 0) := H7.out.2.at (i := 3) rfl
    have c4 : w7.cell? ⟨g5, 4, none⟩ = some (.string ⟨#[]⟩) := H7.out.2.at (i := 4) rfl
    have c5 : w7.cell? ⟨g5, 5, none⟩ = some (.string ⟨#[]⟩) := H7.out.2.at (i := 5) rfl
    have CL := tale_Line_any 1 t1 t2 ⟨#[]⟩ ⟨#[]⟩ 0 (by omega) w7 (HL.out.below H7.out.1.1)
    obtain ⟨o, ho⟩ : ∃ o, o = ordB 1 t1 t2 0 ⟨#[]⟩ ⟨#[]⟩ := ⟨_, rfl⟩
    obtain ⟨l, hl⟩ : ∃ l, l = lineB 1 t1 t2 0 ⟨#[]⟩ ⟨#[]⟩ := ⟨_, rfl⟩
    have hoo : ordB 1 t1 t2 (0 : Nat) ⟨#[]⟩ ⟨#[]⟩ = o := ho.symm
    rw [hoo, ← hl] at CL
    rw [← ho, ← hl] at hr
    clear ho hl hoo HR
    cases o with
    | false =>
      have hR0 : R = false := by rw [hr]; rfl
      simp only [Bool.false_eq_true, if_false] at CL
      have HC := hid CL
      clear hr CL
      subst hR0
      go_wp2_with fail
      refine HC.out.mono ?_; rintro e w8 ⟨rfl, hb8⟩
      have H8 := hid (After.below H7.out.1 hb8)
      clear c0 c1 c2 c3 c4 c5 hb8 H7 HC
      go_wp2_with (with_reducible refine at_op (.store 37 (.tmp 2) (.tmp 78)) rfl ?_; refine Stopped.go ?_)
      refine Stopped.mk (wpList_store_row_k rfl _ _ _ rfl w.heap.size #[.int .i64 0, .string ⟨#[]⟩, .string ⟨#[]⟩, .int .u64 0, .string ⟨#[]⟩, .string ⟨#[]⟩] rfl rfl _ _ H8.out.2 (by kernel_rfl) rfl (by simp [Value.oneCell']) ?_)
      intro w9 h9 hb9 _
      have HB := hid (H8.out.1.trans (hb9 _ (Nat.le_refl _))); have H9 := hid h9
      clear h9 hb9 H8
      go_wp2_with fail
      (try simp only [Exit.inBlock, Exit.then])
      exact bodyPost_ret (results_cell_row_tmp rfl _ _ w.heap.size _ _ (0, 0) _ rfl H9.out hu rfl (by kernel_rfl)) rfl ⟨rfl, HB.out⟩
    | true =>
      simp only [if_true] at CL
      have HC := hid CL
      clear CL
      by_cases hls : l = s
      · have hR0 : R = true := by rw [hr, hls]; simp
        have hss : (l.toList == s.toList) = true := by rw [hls]; simp
        clear hr hls
        subst hR0
        go_wp2_with fail
        refine HC.out.mono ?_; rintro e w8 ⟨rfl, hb8⟩
        have H8 := hid (After.below H7.out.1 hb8)
        have hB8 := H7.out.2.belowS hb8
        clear c0 c1 c2 c3 c4 c5 hb8 H7 HC
        have c0 : w8.cell? ⟨g5, 0, none⟩ = some (.int .i64 1) := hB8.at (i := 0) rfl
        have c1 : w8.cell? ⟨g5, 1, none⟩ = some (.string t1) := hB8.at (i := 1) rfl
        have c2 : w8.cell? ⟨g5, 2, none⟩ = some (.string t2) := hB8.at (i := 2) rfl
        have c3 : w8.cell? ⟨g5, 3, none⟩ = some (.int .u64 0) := hB8.at (i := 3) rfl
        have c4 : w8.cell? ⟨g5, 4, none⟩ = some (.string ⟨#[]⟩) := hB8.at (i := 4) rfl
        have c5 : w8.cell? ⟨g5, 5, none⟩ = some (.string ⟨#[]⟩) := hB8.at (i := 5) rfl
        clear hB8
        go_wp2_with (with_reducible refine at_op (.store 37 (.tmp 2) (.tmp 79)) rfl ?_; refine Stopped.go ?_)
        refine Stopped.mk (wpList_store_row_k rfl _ _ _ rfl w.heap.size #[.int .i64 1, .string t1, .string t2, .int .u64 0, .string ⟨#[]⟩, .string ⟨#[]⟩] rfl rfl _ _ H8.out.2 (by kernel_rfl) rfl (by simp [Value.oneCell']) ?_)
        intro w9 h9 hb9 _
        have HB := hid (H8.out.1.trans (hb9 _ (Nat.le_refl _))); have H9 := hid h9
        clear h9 hb9 H8
        go_wp2_with fail
        (try simp only [Exit.inBlock, Exit.then])
        exact bodyPost_ret (results_cell_row_tmp rfl _ _ w.heap.size _ _ (0, 0) _ rfl H9.out hu rfl (by kernel_rfl)) rfl ⟨rfl, HB.out⟩
      · have hR0 : R = false := by rw [hr, decide_eq_false hls]; rfl
        have hss := ba_ne hls
        clear hr hls
        subst hR0
        go_wp2_with fail
        refine HC.out.mono ?_; rintro e w8 ⟨rfl, hb8⟩
        have H8 := hid (After.below H7.out.1 hb8)
        clear c0 c1 c2 c3 c4 c5 hb8 H7 HC
        go_wp2_with (with_reducible refine at_op (.store 37 (.tmp 2) (.tmp 78)) rfl ?_; refine Stopped.go ?_)
        refine Stopped.mk (wpList_store_row_k rfl _ _ _ rfl w.heap.size #[.int .i64 0, .string ⟨#[]⟩, .string ⟨#[]⟩, .int .u64 0, .string ⟨#[]⟩, .string ⟨#[]⟩] rfl rfl _ _ H8.out.2 (by kernel_rfl) rfl (by simp [Value.oneCell']) ?_)
        intro w9 h9 hb9 _
        have HB := hid (H8.out.1.trans (hb9 _ (Nat.le_refl _))); have H9 := hid h9
        clear h9 hb9 H8
        go_wp2_with fail
        (try simp only [Exit.inBlock, Exit.then])
        exact bodyPost_ret (results_cell_row_tmp rfl _ _ w.heap.size _ _ (0, 0) _ rfl H9.out hu rfl (by kernel_rfl)) rfl ⟨rfl, HB.out⟩
  · have f1 := H6.out.2.free (i := 1) (by simp)
    have b1 := H6.out.2.at (i := 1) rfl
    go_wp2_with (with_reducible refine at_op (.load 37 (.tmp 5)) rfl ?_; refine Stopped.go ?_)
    have hB7 := (H6.out.2).set 1 (.string t1)
    have hk7 := ((Keeps.refl [g5] w6).setCell (p := ⟨g5, 1, none⟩) (by simp) (.string t1))
    have h7 := H6.out.1.after HG5.out hk7 hB7
    generalize (w6.setCell ⟨g5, 1, none⟩ (.string t1)) = w7 at h7 ⊢
    clear hB7 hk7 f1 b1
    change (After w w7) ∧ Blk w7 g5 _ [.int .i64 2, .string t1, .string ⟨#[]⟩, .int .u64 0, .string ⟨#[]⟩, .string ⟨#[]⟩] at h7
    have H7 := hid h7
    clear h7 b0 c2 H6
    refine Stopped.mk ?_
    have hr : R = (ordB 2 t1 ⟨#[]⟩ 0 ⟨#[]⟩ ⟨#[]⟩ && decide (lineB 2 t1 ⟨#[]⟩ 0 ⟨#[]⟩ ⟨#[]⟩ = s)) := HR.out.trans rfl
    have c0 : w7.cell? ⟨g5, 0, none⟩ = some (.int .i64 2) := H7.out.2.at (i := 0) rfl
    have c1 : w7.cell? ⟨g5, 1, none⟩ = some (.string t1) := H7.out.2.at (i := 1) rfl
    have c2 : w7.cell? ⟨g5, 2, none⟩ = some (.string ⟨#[]⟩) := H7.out.2.at (i := 2) rfl
    have c3 : w7.cell? ⟨g5, 3, none⟩ = some (.int .u64 0) := H7.out.2.at (i := 3) rfl
    have c4 : w7.cell? ⟨g5, 4, none⟩ = some (.string ⟨#[]⟩) := H7.out.2.at (i := 4) rfl
    have c5 : w7.cell? ⟨g5, 5, none⟩ = some (.string ⟨#[]⟩) := H7.out.2.at (i := 5) rfl
    have CL := tale_Line_any 2 t1 ⟨#[]⟩ ⟨#[]⟩ ⟨#[]⟩ 0 (by omega) w7 (HL.out.below H7.out.1.1)
    obtain ⟨o, ho⟩ : ∃ o, o = ordB 2 t1 ⟨#[]⟩ 0 ⟨#[]⟩ ⟨#[]⟩ := ⟨_, rfl⟩
    obtain ⟨l, hl⟩ : ∃ l, l = lineB 2 t1 ⟨#[]⟩ 0 ⟨#[]⟩ ⟨#[]⟩ := ⟨_, rfl⟩
    have hoo : ordB 2 t1 ⟨#[]⟩ (0 : Nat) ⟨#[]⟩ ⟨#[]⟩ = o := ho.symm
    rw [hoo, ← hl] at CL
    rw [← ho, ← hl] at hr
    clear ho hl hoo HR
    cases o with
    | false =>
      have hR0 : R = false := by rw [hr]; rfl
      simp only [Bool.false_eq_true, if_false] at CL
      have HC := hid CL
      clear hr CL
      subst hR0
      go_wp2_with fail
      refine HC.out.mono ?_; rintro e w8 ⟨rfl, hb8⟩
      have H8 := hid (After.below H7.out.1 hb8)
      clear c0 c1 c2 c3 c4 c5 hb8 H7 HC
      go_wp2_with (with_reducible refine at_op (.store 37 (.tmp 2) (.tmp 78)) rfl ?_; refine Stopped.go ?_)
      refine Stopped.mk (wpList_store_row_k rfl _ _ _ rfl w.heap.size #[.int .i64 0, .string ⟨#[]⟩, .string ⟨#[]⟩, .int .u64 0, .string ⟨#[]⟩, .string ⟨#[]⟩] rfl rfl _ _ H8.out.2 (by kernel_rfl) rfl (by simp [Value.oneCell']) ?_)
      intro w9 h9 hb9 _
      have HB := hid (H8.out.1.trans (hb9 _ (Nat.le_refl _))); have H9 := hid h9
      clear h9 hb9 H8
      go_wp2_with fail
      (try simp only [Exit.inBlock, Exit.then])
      exact bodyPost_ret (results_cell_row_tmp rfl _ _ w.heap.size _ _ (0, 0) _ rfl H9.out hu rfl (by kernel_rfl)) rfl ⟨rfl, HB.out⟩
    | true =>
      simp only [if_true] at CL
      have HC := hid CL
      clear CL
      by_cases hls : l = s
      · have hR0 : R = true := by rw [hr, hls]; simp
        have hss : (l.toList == s.toList) = true := by rw [hls]; simp
        clear hr hls
        subst hR0
        go_wp2_with fail
        refine HC.out.mono ?_; rintro e w8 ⟨rfl, hb8⟩
        have H8 := hid (After.below H7.out.1 hb8)
        have hB8 := H7.out.2.belowS hb8
        clear c0 c1 c2 c3 c4 c5 hb8 H7 HC
        have c0 : w8.cell? ⟨g5, 0, none⟩ = some (.int .i64 2) := hB8.at (i := 0) rfl
        have c1 : w8.cell? ⟨g5, 1, none⟩ = some (.string t1) := hB8.at (i := 1) rfl
        have c2 : w8.cell? ⟨g5, 2, none⟩ = some (.string ⟨#[]⟩) := hB8.at (i := 2) rfl
        have c3 : w8.cell? ⟨g5, 3, none⟩ = some (.int .u64 0) := hB8.at (i := 3) rfl
        have c4 : w8.cell? ⟨g5, 4, none⟩ = some (.string ⟨#[]⟩) := hB8.at (i := 4) rfl
        have c5 : w8.cell? ⟨g5, 5, none⟩ = some (.string ⟨#[]⟩) := hB8.at (i := 5) rfl
        clear hB8
        go_wp2_with (with_reducible refine at_op (.store 37 (.tmp 2) (.tmp 79)) rfl ?_; refine Stopped.go ?_)
        refine Stopped.mk (wpList_store_row_k rfl _ _ _ rfl w.heap.size #[.int .i64 2, .string t1, .string ⟨#[]⟩, .int .u64 0, .string ⟨#[]⟩, .string ⟨#[]⟩] rfl rfl _ _ H8.out.2 (by kernel_rfl) rfl (by simp [Value.oneCell']) ?_)
        intro w9 h9 hb9 _
        have HB := hid (H8.out.1.trans (hb9 _ (Nat.le_refl _))); have H9 := hid h9
        clear h9 hb9 H8
        go_wp2_with fail
        (try simp only [Exit.inBlock, Exit.then])
        exact bodyPost_ret (results_cell_row_tmp rfl _ _ w.heap.size _ _ (0, 0) _ rfl H9.out hu rfl (by kernel_rfl)) rfl ⟨rfl, HB.out⟩
      · have hR0 : R = false := by rw [hr, decide_eq_false hls]; rfl
        have hss := ba_ne hls
        clear hr hls
        subst hR0
        go_wp2_with fail
        refine HC.out.mono ?_; rintro e w8 ⟨rfl, hb8⟩
        have H8 := hid (After.below H7.out.1 hb8)
        clear c0 c1 c2 c3 c4 c5 hb8 H7 HC
        go_wp2_with (with_reducible refine at_op (.store 37 (.tmp 2) (.tmp 78)) rfl ?_; refine Stopped.go ?_)
        refine Stopped.mk (wpList_store_row_k rfl _ _ _ rfl w.heap.size #[.int .i64 0, .string ⟨#[]⟩, .string ⟨#[]⟩, .int .u64 0, .string ⟨#[]⟩, .string ⟨#[]⟩] rfl rfl _ _ H8.out.2 (by kernel_rfl) rfl (by simp [Value.oneCell']) ?_)
        intro w9 h9 hb9 _
        have HB := hid (H8.out.1.trans (hb9 _ (Nat.le_refl _))); have H9 := hid h9
        clear h9 hb9 H8
        go_wp2_with fail
        (try simp only [Exit.inBlock, Exit.then])
        exact bodyPost_ret (results_cell_row_tmp rfl _ _ w.heap.size _ _ (0, 0) _ rfl H9.out hu rfl (by kernel_rfl)) rfl ⟨rfl, HB.out⟩
  · have f1 := H6.out.2.free (i := 1) (by simp)
    have b1 := H6.out.2.at (i := 1) rfl
    go_wp2_with (with_reducible refine at_op (.indexAddr 78 (.tmp 53) (.const (.int .i64 2))) rfl ?_; refine Stopped.go ?_)
    have hB := H6.out.2.set 1 (.string t1)
    have hk := (Keeps.refl [g5] w6).setCell (p := ⟨g5, 1, none⟩) (by simp) (.string t1)
    have hA6 := H6.out.1.keep HG5.out hk
    clear f1 b1 b0 c2 H6
    generalize w6.setCell ⟨g5, 1, none⟩ (.string t1) = w6' at hB hk hA6 ⊢
    change Blk w6' g5 _ [.int .i64 3, .string t1, .string ⟨#[]⟩, .int .u64 0, .string ⟨#[]⟩, .string ⟨#[]⟩] at hB
    have HA6 := hid (And.intro hA6 hB)
    have c2 := hA6.2.2.2.2.2
    clear hB hk hA6
    refine Stopped.mk ?_
    go_wp2_with fail
    refine (DN.out _ (HL.out.below HA6.out.1.1)).mono ?_; rintro e w6 ⟨rfl, hb6⟩
    have H6 := hid (And.intro (HA6.out.1.below hb6) (HA6.out.2.belowS hb6))
    clear hb6 c2 HA6
    have f3 := H6.out.2.free (i := 3) (by simp)
    have b3 := H6.out.2.at (i := 3) rfl
    go_wp2_with (with_reducible refine at_op (.load 37 (.tmp 5)) rfl ?_; refine Stopped.go ?_)
    have hB7 := H6.out.2.set 3 (.int .u64 (m : Int))
    have hk7 := (Keeps.refl [g5] w6).setCell (p := ⟨g5, 3, none⟩) (by simp) (.int .u64 (m : Int))
    have h7 := H6.out.1.after HG5.out hk7 hB7
    generalize w6.setCell ⟨g5, 3, none⟩ (.int .u64 (m : Int)) = w7 at h7 ⊢
    clear hB7 hk7 f3 b3
    change (After w w7) ∧ Blk w7 g5 _ [.int .i64 3, .string t1, .string ⟨#[]⟩, .int .u64 (m : Int), .string ⟨#[]⟩, .string ⟨#[]⟩] at h7
    have H7 := hid h7
    clear h7 H6
    refine Stopped.mk ?_
    have hr : R = (ordB 3 t1 ⟨#[]⟩ (m : Int) ⟨#[]⟩ ⟨#[]⟩ && decide (lineB 3 t1 ⟨#[]⟩ m ⟨#[]⟩ ⟨#[]⟩ = s)) := HR.out.trans rfl
    have c0 : w7.cell? ⟨g5, 0, none⟩ = some (.int .i64 3) := H7.out.2.at (i := 0) rfl
    have c1 : w7.cell? ⟨g5, 1, none⟩ = some (.string t1) := H7.out.2.at (i := 1) rfl
    have c2 : w7.cell? ⟨g5, 2, none⟩ = some (.string ⟨#[]⟩) := H7.out.2.at (i := 2) rfl
    have c3 : w7.cell? ⟨g5, 3, none⟩ = some (.int .u64 (m : Int)) := H7.out.2.at (i := 3) rfl
    have c4 : w7.cell? ⟨g5, 4, none⟩ = some (.string ⟨#[]⟩) := H7.out.2.at (i := 4) rfl
    have c5 : w7.cell? ⟨g5, 5, none⟩ = some (.string ⟨#[]⟩) := H7.out.2.at (i := 5) rfl
    have CL := tale_Line_any 3 t1 ⟨#[]⟩ ⟨#[]⟩ ⟨#[]⟩ m (by omega) w7 (HL.out.below H7.out.1.1)
    obtain ⟨o, ho⟩ : ∃ o, o = ordB 3 t1 ⟨#[]⟩ (m : Int) ⟨#[]⟩ ⟨#[]⟩ := ⟨_, rfl⟩
    obtain ⟨l, hl⟩ : ∃ l, l = lineB 3 t1 ⟨#[]⟩ m ⟨#[]⟩ ⟨#[]⟩ := ⟨_, rfl⟩
    have hoo : ordB 3 t1 ⟨#[]⟩ (m : Nat) ⟨#[]⟩ ⟨#[]⟩ = o := ho.symm
    rw [hoo, ← hl] at CL
    rw [← ho, ← hl] at hr
    clear ho hl hoo HR
    cases o with
    | false =>
      have hR0 : R = false := by rw [hr]; rfl
      simp only [Bool.false_eq_true, if_false] at CL
      have HC := hid CL
      clear hr CL
      subst hR0
      go_wp2_with fail
      refine HC.out.mono ?_; rintro e w8 ⟨rfl, hb8⟩
      have H8 := hid (After.below H7.out.1 hb8)
      clear c0 c1 c2 c3 c4 c5 hb8 H7 HC
      go_wp2_with (with_reducible refine at_op (.store 37 (.tmp 2) (.tmp 78)) rfl ?_; refine Stopped.go ?_)
      refine Stopped.mk (wpList_store_row_k rfl _ _ _ rfl w.heap.size #[.int .i64 0, .string ⟨#[]⟩, .string ⟨#[]⟩, .int .u64 0, .string ⟨#[]⟩, .string ⟨#[]⟩] rfl rfl _ _ H8.out.2 (by kernel_rfl) rfl (by simp [Value.oneCell']) ?_)
      intro w9 h9 hb9 _
      have HB := hid (H8.out.1.trans (hb9 _ (Nat.le_refl _))); have H9 := hid h9
      clear h9 hb9 H8
      go_wp2_with fail
      (try simp only [Exit.inBlock, Exit.then])
      exact bodyPost_ret (results_cell_row_tmp rfl _ _ w.heap.size _ _ (0, 0) _ rfl H9.out hu rfl (by kernel_rfl)) rfl ⟨rfl, HB.out⟩
    | true =>
      simp only [if_true] at CL
      have HC := hid CL
      clear CL
      by_cases hls : l = s
      · have hR0 : R = true := by rw [hr, hls]; simp
        have hss : (l.toList == s.toList) = true := by rw [hls]; simp
        clear hr hls
        subst hR0
        go_wp2_with fail
        refine HC.out.mono ?_; rintro e w8 ⟨rfl, hb8⟩
        have H8 := hid (After.below H7.out.1 hb8)
        have hB8 := H7.out.2.belowS hb8
        clear c0 c1 c2 c3 c4 c5 hb8 H7 HC
        have c0 : w8.cell? ⟨g5, 0, none⟩ = some (.int .i64 3) := hB8.at (i := 0) rfl
        have c1 : w8.cell? ⟨g5, 1, none⟩ = some (.string t1) := hB8.at (i := 1) rfl
        have c2 : w8.cell? ⟨g5, 2, none⟩ = some (.string ⟨#[]⟩) := hB8.at (i := 2) rfl
        have c3 : w8.cell? ⟨g5, 3, none⟩ = some (.int .u64 (m : Int)) := hB8.at (i := 3) rfl
        have c4 : w8.cell? ⟨g5, 4, none⟩ = some (.string ⟨#[]⟩) := hB8.at (i := 4) rfl
        have c5 : w8.cell? ⟨g5, 5, none⟩ = some (.string ⟨#[]⟩) := hB8.at (i := 5) rfl
        clear hB8
        go_wp2_with (with_reducible refine at_op (.store 37 (.tmp 2) (.tmp 79)) rfl ?_; refine Stopped.go ?_)
        refine Stopped.mk (wpList_store_row_k rfl _ _ _ rfl w.heap.size #[.int .i64 3, .string t1, .string ⟨#[]⟩, .int .u64 (m : Int), .string ⟨#[]⟩, .string ⟨#[]⟩] rfl rfl _ _ H8.out.2 (by kernel_rfl) rfl (by simp [Value.oneCell']) ?_)
        intro w9 h9 hb9 _
        have HB := hid (H8.out.1.trans (hb9 _ (Nat.le_refl _))); have H9 := hid h9
        clear h9 hb9 H8
        go_wp2_with fail
        (try simp only [Exit.inBlock, Exit.then])
        exact bodyPost_ret (results_cell_row_tmp rfl _ _ w.heap.size _ _ (0, 0) _ rfl H9.out hu rfl (by kernel_rfl)) rfl ⟨rfl, HB.out⟩
      · have hR0 : R = false := by rw [hr, decide_eq_false hls]; rfl
        have hss := ba_ne hls
        clear hr hls
        subst hR0
        go_wp2_with fail
        refine HC.out.mono ?_; rintro e w8 ⟨rfl, hb8⟩
        have H8 := hid (After.below H7.out.1 hb8)
        clear c0 c1 c2 c3 c4 c5 hb8 H7 HC
        go_wp2_with (with_reducible refine at_op (.store 37 (.tmp 2) (.tmp 78)) rfl ?_; refine Stopped.go ?_)
        refine Stopped.mk (wpList_store_row_k rfl _ _ _ rfl w.heap.size #[.int .i64 0, .string ⟨#[]⟩, .string ⟨#[]⟩, .int .u64 0, .string ⟨#[]⟩, .string ⟨#[]⟩] rfl rfl _ _ H8.out.2 (by kernel_rfl) rfl (by simp [Value.oneCell']) ?_)
        intro w9 h9 hb9 _
        have HB := hid (H8.out.1.trans (hb9 _ (Nat.le_refl _))); have H9 := hid h9
        clear h9 hb9 H8
        go_wp2_with fail
        (try simp only [Exit.inBlock, Exit.then])
        exact bodyPost_ret (results_cell_row_tmp rfl _ _ w.heap.size _ _ (0, 0) _ rfl H9.out hu rfl (by kernel_rfl)) rfl ⟨rfl, HB.out⟩
  · have f1 := H6.out.2.free (i := 1) (by simp)
    have b1 := H6.out.2.at (i := 1) rfl
    go_wp2_with (with_reducible refine at_op (.load 37 (.tmp 5)) rfl ?_; refine Stopped.go ?_)
    have hB7 := (H6.out.2).set 1 (.string t1)
    have hk7 := ((Keeps.refl [g5] w6).setCell (p := ⟨g5, 1, none⟩) (by simp) (.string t1))
    have h7 := H6.out.1.after HG5.out hk7 hB7
    generalize (w6.setCell ⟨g5, 1, none⟩ (.string t1)) = w7 at h7 ⊢
    clear hB7 hk7 f1 b1
    change (After w w7) ∧ Blk w7 g5 _ [.int .i64 4, .string t1, .string ⟨#[]⟩, .int .u64 0, .string ⟨#[]⟩, .string ⟨#[]⟩] at h7
    have H7 := hid h7
    clear h7 b0 c2 H6
    refine Stopped.mk ?_
    have hr : R = (ordB 4 t1 ⟨#[]⟩ 0 ⟨#[]⟩ ⟨#[]⟩ && decide (lineB 4 t1 ⟨#[]⟩ 0 ⟨#[]⟩ ⟨#[]⟩ = s)) := HR.out.trans rfl
    have c0 : w7.cell? ⟨g5, 0, none⟩ = some (.int .i64 4) := H7.out.2.at (i := 0) rfl
    have c1 : w7.cell? ⟨g5, 1, none⟩ = some (.string t1) := H7.out.2.at (i := 1) rfl
    have c2 : w7.cell? ⟨g5, 2, none⟩ = some (.string ⟨#[]⟩) := H7.out.2.at (i := 2) rfl
    have c3 : w7.cell? ⟨g5, 3, none⟩ = some (.int .u64 0) := H7.out.2.at (i := 3) rfl
    have c4 : w7.cell? ⟨g5, 4, none⟩ = some (.string ⟨#[]⟩) := H7.out.2.at (i := 4) rfl
    have c5 : w7.cell? ⟨g5, 5, none⟩ = some (.string ⟨#[]⟩) := H7.out.2.at (i := 5) rfl
    have CL := tale_Line_any 4 t1 ⟨#[]⟩ ⟨#[]⟩ ⟨#[]⟩ 0 (by omega) w7 (HL.out.below H7.out.1.1)
    obtain ⟨o, ho⟩ : ∃ o, o = ordB 4 t1 ⟨#[]⟩ 0 ⟨#[]⟩ ⟨#[]⟩ := ⟨_, rfl⟩
    obtain ⟨l, hl⟩ : ∃ l, l = lineB 4 t1 ⟨#[]⟩ 0 ⟨#[]⟩ ⟨#[]⟩ := ⟨_, rfl⟩
    have hoo : ordB 4 t1 ⟨#[]⟩ (0 : Nat) ⟨#[]⟩ ⟨#[]⟩ = o := ho.symm
    rw [hoo, ← hl] at CL
    rw [← ho, ← hl] at hr
    clear ho hl hoo HR
    cases o with
    | false =>
      have hR0 : R = false := by rw [hr]; rfl
      simp only [Bool.false_eq_true, if_false] at CL
      have HC := hid CL
      clear hr CL
      subst hR0
      go_wp2_with fail
      refine HC.out.mono ?_; rintro e w8 ⟨rfl, hb8⟩
      have H8 := hid (After.below H7.out.1 hb8)
      clear c0 c1 c2 c3 c4 c5 hb8 H7 HC
      go_wp2_with (with_reducible refine at_op (.store 37 (.tmp 2) (.tmp 78)) rfl ?_; refine Stopped.go ?_)
      refine Stopped.mk (wpList_store_row_k rfl _ _ _ rfl w.heap.size #[.int .i64 0, .string ⟨#[]⟩, .string ⟨#[]⟩, .int .u64 0, .string ⟨#[]⟩, .string ⟨#[]⟩] rfl rfl _ _ H8.out.2 (by kernel_rfl) rfl (by simp [Value.oneCell']) ?_)
      intro w9 h9 hb9 _
      have HB := hid (H8.out.1.trans (hb9 _ (Nat.le_refl _))); have H9 := hid h9
      clear h9 hb9 H8
      go_wp2_with fail
      (try simp only [Exit.inBlock, Exit.then])
      exact bodyPost_ret (results_cell_row_tmp rfl _ _ w.heap.size _ _ (0, 0) _ rfl H9.out hu rfl (by kernel_rfl)) rfl ⟨rfl, HB.out⟩
    | true =>
      simp only [if_true] at CL
      have HC := hid CL
      clear CL
      by_cases hls : l = s
      · have hR0 : R = true := by rw [hr, hls]; simp
        have hss : (l.toList == s.toList) = true := by rw [hls]; simp
        clear hr hls
        subst hR0
        go_wp2_with fail
        refine HC.out.mono ?_; rintro e w8 ⟨rfl, hb8⟩
        have H8 := hid (After.below H7.out.1 hb8)
        have hB8 := H7.out.2.belowS hb8
        clear c0 c1 c2 c3 c4 c5 hb8 H7 HC
        have c0 : w8.cell? ⟨g5, 0, none⟩ = some (.int .i64 4) := hB8.at (i := 0) rfl
        have c1 : w8.cell? ⟨g5, 1, none⟩ = some (.string t1) := hB8.at (i := 1) rfl
        have c2 : w8.cell? ⟨g5, 2, none⟩ = some (.string ⟨#[]⟩) := hB8.at (i := 2) rfl
        have c3 : w8.cell? ⟨g5, 3, none⟩ = some (.int .u64 0) := hB8.at (i := 3) rfl
        have c4 : w8.cell? ⟨g5, 4, none⟩ = some (.string ⟨#[]⟩) := hB8.at (i := 4) rfl
        have c5 : w8.cell? ⟨g5, 5, none⟩ = some (.string ⟨#[]⟩) := hB8.at (i := 5) rfl
        clear hB8
        go_wp2_with (with_reducible refine at_op (.store 37 (.tmp 2) (.tmp 79)) rfl ?_; refine Stopped.go ?_)
        refine Stopped.mk (wpList_store_row_k rfl _ _ _ rfl w.heap.size #[.int .i64 4, .string t1, .string ⟨#[]⟩, .int .u64 0, .string ⟨#[]⟩, .string ⟨#[]⟩] rfl rfl _ _ H8.out.2 (by kernel_rfl) rfl (by simp [Value.oneCell']) ?_)
        intro w9 h9 hb9 _
        have HB := hid (H8.out.1.trans (hb9 _ (Nat.le_refl _))); have H9 := hid h9
        clear h9 hb9 H8
        go_wp2_with fail
        (try simp only [Exit.inBlock, Exit.then])
        exact bodyPost_ret (results_cell_row_tmp rfl _ _ w.heap.size _ _ (0, 0) _ rfl H9.out hu rfl (by kernel_rfl)) rfl ⟨rfl, HB.out⟩
      · have hR0 : R = false := by rw [hr, decide_eq_false hls]; rfl
        have hss := ba_ne hls
        clear hr hls
        subst hR0
        go_wp2_with fail
        refine HC.out.mono ?_; rintro e w8 ⟨rfl, hb8⟩
        have H8 := hid (After.below H7.out.1 hb8)
        clear c0 c1 c2 c3 c4 c5 hb8 H7 HC
        go_wp2_with (with_reducible refine at_op (.store 37 (.tmp 2) (.tmp 78)) rfl ?_; refine Stopped.go ?_)
        refine Stopped.mk (wpList_store_row_k rfl _ _ _ rfl w.heap.size #[.int .i64 0, .string ⟨#[]⟩, .string ⟨#[]⟩, .int .u64 0, .string ⟨#[]⟩, .string ⟨#[]⟩] rfl rfl _ _ H8.out.2 (by kernel_rfl) rfl (by simp [Value.oneCell']) ?_)
        intro w9 h9 hb9 _
        have HB := hid (H8.out.1.trans (hb9 _ (Nat.le_refl _))); have H9 := hid h9
        clear h9 hb9 H8
        go_wp2_with fail
        (try simp only [Exit.inBlock, Exit.then])
        exact bodyPost_ret (results_cell_row_tmp rfl _ _ w.heap.size _ _ (0, 0) _ rfl H9.out hu rfl (by kernel_rfl)) rfl ⟨rfl, HB.out⟩
  · have f4 := H6.out.2.free (i := 4) (by simp)
    have b4 := H6.out.2.at (i := 4) rfl
    have f5 := H6.out.2.free (i := 5) (by simp)
    have b5 := H6.out.2.at (i := 5) rfl
    go_wp2_with (with_reducible refine at_op (.load 37 (.tmp 5)) rfl ?_; refine Stopped.go ?_)
    have hB7 := ((H6.out.2).set 4 (.string t1)).set 5 (.string t2)
    have hk7 := (((Keeps.refl [g5] w6).setCell (p := ⟨g5, 4, none⟩) (by simp) (.string t1)).setCell (p := ⟨g5, 5, none⟩) (by simp) (.string t2))
    have h7 := H6.out.1.after HG5.out hk7 hB7
    generalize ((w6.setCell ⟨g5, 4, none⟩ (.string t1)).setCell ⟨g5, 5, none⟩ (.string t2)) = w7 at h7 ⊢
    clear hB7 hk7 f4 b4 f5 b5
    change (After w w7) ∧ Blk w7 g5 _ [.int .i64 5, .string ⟨#[]⟩, .string ⟨#[]⟩, .int .u64 0, .string t1, .string t2] at h7
    have H7 := hid h7
    clear h7 b0 c2 H6
    refine Stopped.mk ?_
    have hr : R = (ordB 5 ⟨#[]⟩ ⟨#[]⟩ 0 t1 t2 && decide (lineB 5 ⟨#[]⟩ ⟨#[]⟩ 0 t1 t2 = s)) := HR.out.trans rfl
    have c0 : w7.cell? ⟨g5, 0, none⟩ = some (.int .i64 5) := H7.out.2.at (i := 0) rfl
    have c1 : w7.cell? ⟨g5, 1, none⟩ = some (.string ⟨#[]⟩) := H7.out.2.at (i := 1) rfl
    have c2 : w7.cell? ⟨g5, 2, none⟩ = some (.string ⟨#[]⟩) := H7.out.2.at (i := 2) rfl
    have c3 : w7.cell? ⟨g5, 3, none⟩ = some (.int .u64 0) := H7.out.2.at (i := 3) rfl
    have c4 : w7.cell? ⟨g5, 4, none⟩ = some (.string t1) := H7.out.2.at (i := 4) rfl
    have c5 : w7.cell? ⟨g5, 5, none⟩ = some (.string t2) := H7.out.2.at (i := 5) rfl
    have CL := tale_Line_any 5 ⟨#[]⟩ ⟨#[]⟩ t1 t2 0 (by omega) w7 (HL.out.below H7.out.1.1)
    obtain ⟨o, ho⟩ : ∃ o, o = ordB 5 ⟨#[]⟩ ⟨#[]⟩ 0 t1 t2 := ⟨_, rfl⟩
    obtain ⟨l, hl⟩ : ∃ l, l = lineB 5 ⟨#[]⟩ ⟨#[]⟩ 0 t1 t2 := ⟨_, rfl⟩
    have hoo : ordB 5 ⟨#[]⟩ ⟨#[]⟩ (0 : Nat) t1 t2 = o := ho.symm
    rw [hoo, ← hl] at CL
    rw [← ho, ← hl] at hr
    clear ho hl hoo HR
    cases o with
    | false =>
      have hR0 : R = false := by rw [hr]; rfl
      simp only [Bool.false_eq_true, if_false] at CL
      have HC := hid CL
      clear hr CL
      subst hR0
      go_wp2_with fail
      refine HC.out.mono ?_; rintro e w8 ⟨rfl, hb8⟩
      have H8 := hid (After.below H7.out.1 hb8)
      clear c0 c1 c2 c3 c4 c5 hb8 H7 HC
      go_wp2_with (with_reducible refine at_op (.store 37 (.tmp 2) (.tmp 78)) rfl ?_; refine Stopped.go ?_)
      refine Stopped.mk (wpList_store_row_k rfl _ _ _ rfl w.heap.size #[.int .i64 0, .string ⟨#[]⟩, .string ⟨#[]⟩, .int .u64 0, .string ⟨#[]⟩, .string ⟨#[]⟩] rfl rfl _ _ H8.out.2 (by kernel_rfl) rfl (by simp [Value.oneCell']) ?_)
      intro w9 h9 hb9 _
      have HB := hid (H8.out.1.trans (hb9 _ (Nat.le_refl _))); have H9 := hid h9
      clear h9 hb9 H8
      go_wp2_with fail
      (try simp only [Exit.inBlock, Exit.then])
      exact bodyPost_ret (results_cell_row_tmp rfl _ _ w.heap.size _ _ (0, 0) _ rfl H9.out hu rfl (by kernel_rfl)) rfl ⟨rfl, HB.out⟩
    | true =>
      simp only [if_true] at CL
      have HC := hid CL
      clear CL
      by_cases hls : l = s
      · have hR0 : R = true := by rw [hr, hls]; simp
        have hss : (l.toList == s.toList) = true := by rw [hls]; simp
        clear hr hls
        subst hR0
        go_wp2_with fail
        refine HC.out.mono ?_; rintro e w8 ⟨rfl, hb8⟩
        have H8 := hid (After.below H7.out.1 hb8)
        have hB8 := H7.out.2.belowS hb8
        clear c0 c1 c2 c3 c4 c5 hb8 H7 HC
        have c0 : w8.cell? ⟨g5, 0, none⟩ = some (.int .i64 5) := hB8.at (i := 0) rfl
        have c1 : w8.cell? ⟨g5, 1, none⟩ = some (.string ⟨#[]⟩) := hB8.at (i := 1) rfl
        have c2 : w8.cell? ⟨g5, 2, none⟩ = some (.string ⟨#[]⟩) := hB8.at (i := 2) rfl
        have c3 : w8.cell? ⟨g5, 3, none⟩ = some (.int .u64 0) := hB8.at (i := 3) rfl
        have c4 : w8.cell? ⟨g5, 4, none⟩ = some (.string t1) := hB8.at (i := 4) rfl
        have c5 : w8.cell? ⟨g5, 5, none⟩ = some (.string t2) := hB8.at (i := 5) rfl
        clear hB8
        go_wp2_with (with_reducible refine at_op (.store 37 (.tmp 2) (.tmp 79)) rfl ?_; refine Stopped.go ?_)
        refine Stopped.mk (wpList_store_row_k rfl _ _ _ rfl w.heap.size #[.int .i64 5, .string ⟨#[]⟩, .string ⟨#[]⟩, .int .u64 0, .string t1, .string t2] rfl rfl _ _ H8.out.2 (by kernel_rfl) rfl (by simp [Value.oneCell']) ?_)
        intro w9 h9 hb9 _
        have HB := hid (H8.out.1.trans (hb9 _ (Nat.le_refl _))); have H9 := hid h9
        clear h9 hb9 H8
        go_wp2_with fail
        (try simp only [Exit.inBlock, Exit.then])
        exact bodyPost_ret (results_cell_row_tmp rfl _ _ w.heap.size _ _ (0, 0) _ rfl H9.out hu rfl (by kernel_rfl)) rfl ⟨rfl, HB.out⟩
      · have hR0 : R = false := by rw [hr, decide_eq_false hls]; rfl
        have hss := ba_ne hls
        clear hr hls
        subst hR0
        go_wp2_with fail
        refine HC.out.mono ?_; rintro e w8 ⟨rfl, hb8⟩
        have H8 := hid (After.below H7.out.1 hb8)
        clear c0 c1 c2 c3 c4 c5 hb8 H7 HC
        go_wp2_with (with_reducible refine at_op (.store 37 (.tmp 2) (.tmp 78)) rfl ?_; refine Stopped.go ?_)
        refine Stopped.mk (wpList_store_row_k rfl _ _ _ rfl w.heap.size #[.int .i64 0, .string ⟨#[]⟩, .string ⟨#[]⟩, .int .u64 0, .string ⟨#[]⟩, .string ⟨#[]⟩] rfl rfl _ _ H8.out.2 (by kernel_rfl) rfl (by simp [Value.oneCell']) ?_)
        intro w9 h9 hb9 _
        have HB := hid (H8.out.1.trans (hb9 _ (Nat.le_refl _))); have H9 := hid h9
        clear h9 hb9 H8
        go_wp2_with fail
        (try simp only [Exit.inBlock, Exit.then])
        exact bodyPost_ret (results_cell_row_tmp rfl _ _ w.heap.size _ _ (0, 0) _ rfl H9.out hu rfl (by kernel_rfl)) rfl ⟨rfl, HB.out⟩
  · go_wp2_with (with_reducible refine at_op (.load 37 (.tmp 5)) rfl ?_; refine Stopped.go ?_)
    have h7 := H6.out.1.after HG5.out (Keeps.refl [g5] w6) H6.out.2
    generalize w6 = w7 at h7 ⊢
    change (After w w7) ∧ Blk w7 g5 _ [.int .i64 0, .string ⟨#[]⟩, .string ⟨#[]⟩, .int .u64 0, .string ⟨#[]⟩, .string ⟨#[]⟩] at h7
    have H7 := hid h7
    clear h7 b0 c2 H6
    refine Stopped.mk ?_
    have hr : R = (ordB 0 ⟨#[]⟩ ⟨#[]⟩ 0 ⟨#[]⟩ ⟨#[]⟩ && decide (lineB 0 ⟨#[]⟩ ⟨#[]⟩ 0 ⟨#[]⟩ ⟨#[]⟩ = s)) := HR.out.trans rfl
    have c0 : w7.cell? ⟨g5, 0, none⟩ = some (.int .i64 0) := H7.out.2.at (i := 0) rfl
    have c1 : w7.cell? ⟨g5, 1, none⟩ = some (.string ⟨#[]⟩) := H7.out.2.at (i := 1) rfl
    have c2 : w7.cell? ⟨g5, 2, none⟩ = some (.string ⟨#[]⟩) := H7.out.2.at (i := 2) rfl
    have c3 : w7.cell? ⟨g5, 3, none⟩ = some (.int .u64 0) := H7.out.2.at (i := 3) rfl
    have c4 : w7.cell? ⟨g5, 4, none⟩ = some (.string ⟨#[]⟩) := H7.out.2.at (i := 4) rfl
    have c5 : w7.cell? ⟨g5, 5, none⟩ = some (.string ⟨#[]⟩) := H7.out.2.at (i := 5) rfl
    have CL := tale_Line_any 0 ⟨#[]⟩ ⟨#[]⟩ ⟨#[]⟩ ⟨#[]⟩ 0 (by omega) w7 (HL.out.below H7.out.1.1)
    obtain ⟨o, ho⟩ : ∃ o, o = ordB 0 ⟨#[]⟩ ⟨#[]⟩ 0 ⟨#[]⟩ ⟨#[]⟩ := ⟨_, rfl⟩
    obtain ⟨l, hl⟩ : ∃ l, l = lineB 0 ⟨#[]⟩ ⟨#[]⟩ 0 ⟨#[]⟩ ⟨#[]⟩ := ⟨_, rfl⟩
    have hoo : ordB 0 ⟨#[]⟩ ⟨#[]⟩ (0 : Nat) ⟨#[]⟩ ⟨#[]⟩ = o := ho.symm
    rw [hoo, ← hl] at CL
    rw [← ho, ← hl] at hr
    clear ho hl hoo HR
    cases o with
    | false =>
      have hR0 : R = false := by rw [hr]; rfl
      simp only [Bool.false_eq_true, if_false] at CL
      have HC := hid CL
      clear hr CL
      subst hR0
      go_wp2_with fail
      refine HC.out.mono ?_; rintro e w8 ⟨rfl, hb8⟩
      have H8 := hid (After.below H7.out.1 hb8)
      clear c0 c1 c2 c3 c4 c5 hb8 H7 HC
      go_wp2_with (with_reducible refine at_op (.store 37 (.tmp 2) (.tmp 78)) rfl ?_; refine Stopped.go ?_)
      refine Stopped.mk (wpList_store_row_k rfl _ _ _ rfl w.heap.size #[.int .i64 0, .string ⟨#[]⟩, .string ⟨#[]⟩, .int .u64 0, .string ⟨#[]⟩, .string ⟨#[]⟩] rfl rfl _ _ H8.out.2 (by kernel_rfl) rfl (by simp [Value.oneCell']) ?_)
      intro w9 h9 hb9 _
      have HB := hid (H8.out.1.trans (hb9 _ (Nat.le_refl _))); have H9 := hid h9
      clear h9 hb9 H8
      go_wp2_with fail
      (try simp only [Exit.inBlock, Exit.then])
      exact bodyPost_ret (results_cell_row_tmp rfl _ _ w.heap.size _ _ (0, 0) _ rfl H9.out hu rfl (by kernel_rfl)) rfl ⟨rfl, HB.out⟩
    | true =>
      simp only [if_true] at CL
      have HC := hid CL
      clear CL
      by_cases hls : l = s
      · have hR0 : R = true := by rw [hr, hls]; simp
        have hss : (l.toList == s.toList) = true := by rw [hls]; simp
        clear hr hls
        subst hR0
        go_wp2_with fail
        refine HC.out.mono ?_; rintro e w8 ⟨rfl, hb8⟩
        have H8 := hid (After.below H7.out.1 hb8)
        have hB8 := H7.out.2.belowS hb8
        clear c0 c1 c2 c3 c4 c5 hb8 H7 HC
        have c0 : w8.cell? ⟨g5, 0, none⟩ = some (.int .i64 0) := hB8.at (i := 0) rfl
        have c1 : w8.cell? ⟨g5, 1, none⟩ = some (.string ⟨#[]⟩) := hB8.at (i := 1) rfl
        have c2 : w8.cell? ⟨g5, 2, none⟩ = some (.string ⟨#[]⟩) := hB8.at (i := 2) rfl
        have c3 : w8.cell? ⟨g5, 3, none⟩ = some (.int .u64 0) := hB8.at (i := 3) rfl
        have c4 : w8.cell? ⟨g5, 4, none⟩ = some (.string ⟨#[]⟩) := hB8.at (i := 4) rfl
        have c5 : w8.cell? ⟨g5, 5, none⟩ = some (.string ⟨#[]⟩) := hB8.at (i := 5) rfl
        clear hB8
        go_wp2_with (with_reducible refine at_op (.store 37 (.tmp 2) (.tmp 79)) rfl ?_; refine Stopped.go ?_)
        refine Stopped.mk (wpList_store_row_k rfl _ _ _ rfl w.heap.size #[.int .i64 0, .string ⟨#[]⟩, .string ⟨#[]⟩, .int .u64 0, .string ⟨#[]⟩, .string ⟨#[]⟩] rfl rfl _ _ H8.out.2 (by kernel_rfl) rfl (by simp [Value.oneCell']) ?_)
        intro w9 h9 hb9 _
        have HB := hid (H8.out.1.trans (hb9 _ (Nat.le_refl _))); have H9 := hid h9
        clear h9 hb9 H8
        go_wp2_with fail
        (try simp only [Exit.inBlock, Exit.then])
        exact bodyPost_ret (results_cell_row_tmp rfl _ _ w.heap.size _ _ (0, 0) _ rfl H9.out hu rfl (by kernel_rfl)) rfl ⟨rfl, HB.out⟩
      · have hR0 : R = false := by rw [hr, decide_eq_false hls]; rfl
        have hss := ba_ne hls
        clear hr hls
        subst hR0
        go_wp2_with fail
        refine HC.out.mono ?_; rintro e w8 ⟨rfl, hb8⟩
        have H8 := hid (After.below H7.out.1 hb8)
        clear c0 c1 c2 c3 c4 c5 hb8 H7 HC
        go_wp2_with (with_reducible refine at_op (.store 37 (.tmp 2) (.tmp 78)) rfl ?_; refine Stopped.go ?_)
        refine Stopped.mk (wpList_store_row_k rfl _ _ _ rfl w.heap.size #[.int .i64 0, .string ⟨#[]⟩, .string ⟨#[]⟩, .int .u64 0, .string ⟨#[]⟩, .string ⟨#[]⟩] rfl rfl _ _ H8.out.2 (by kernel_rfl) rfl (by simp [Value.oneCell']) ?_)
        intro w9 h9 hb9 _
        have HB := hid (H8.out.1.trans (hb9 _ (Nat.le_refl _))); have H9 := hid h9
        clear h9 hb9 H8
        go_wp2_with fail
        (try simp only [Exit.inBlock, Exit.then])
        exact bodyPost_ret (results_cell_row_tmp rfl _ _ w.heap.size _ _ (0, 0) _ rfl H9.out hu rfl (by kernel_rfl)) rfl ⟨rfl, HB.out⟩
  · go_wp2_with (with_reducible refine at_op (.load 37 (.tmp 5)) rfl ?_; refine Stopped.go ?_)
    have h7 := H6.out.1.after HG5.out (Keeps.refl [g5] w6) H6.out.2
    generalize w6 = w7 at h7 ⊢
    change (After w w7) ∧ Blk w7 g5 _ [.int .i64 6, .string ⟨#[]⟩, .string ⟨#[]⟩, .int .u64 0, .string ⟨#[]⟩, .string ⟨#[]⟩] at h7
    have H7 := hid h7
    clear h7 b0 c2 H6
    refine Stopped.mk ?_
    have hr : R = (ordB 6 ⟨#[]⟩ ⟨#[]⟩ 0 ⟨#[]⟩ ⟨#[]⟩ && decide (lineB 6 ⟨#[]⟩ ⟨#[]⟩ 0 ⟨#[]⟩ ⟨#[]⟩ = s)) := HR.out.trans rfl
    have c0 : w7.cell? ⟨g5, 0, none⟩ = some (.int .i64 6) := H7.out.2.at (i := 0) rfl
    have c1 : w7.cell? ⟨g5, 1, none⟩ = some (.string ⟨#[]⟩) := H7.out.2.at (i := 1) rfl
    have c2 : w7.cell? ⟨g5, 2, none⟩ = some (.string ⟨#[]⟩) := H7.out.2.at (i := 2) rfl
    have c3 : w7.cell? ⟨g5, 3, none⟩ = some (.int .u64 0) := H7.out.2.at (i := 3) rfl
    have c4 : w7.cell? ⟨g5, 4, none⟩ = some (.string ⟨#[]⟩) := H7.out.2.at (i := 4) rfl
    have c5 : w7.cell? ⟨g5, 5, none⟩ = some (.string ⟨#[]⟩) := H7.out.2.at (i := 5) rfl
    have CL := tale_Line_any 6 ⟨#[]⟩ ⟨#[]⟩ ⟨#[]⟩ ⟨#[]⟩ 0 (by omega) w7 (HL.out.below H7.out.1.1)
    obtain ⟨o, ho⟩ : ∃ o, o = ordB 6 ⟨#[]⟩ ⟨#[]⟩ 0 ⟨#[]⟩ ⟨#[]⟩ := ⟨_, rfl⟩
    obtain ⟨l, hl⟩ : ∃ l, l = lineB 6 ⟨#[]⟩ ⟨#[]⟩ 0 ⟨#[]⟩ ⟨#[]⟩ := ⟨_, rfl⟩
    have hoo : ordB 6 ⟨#[]⟩ ⟨#[]⟩ (0 : Nat) ⟨#[]⟩ ⟨#[]⟩ = o := ho.symm
    rw [hoo, ← hl] at CL
    rw [← ho, ← hl] at hr
    clear ho hl hoo HR
    cases o with
    | false =>
      have hR0 : R = false := by rw [hr]; rfl
      simp only [Bool.false_eq_true, if_false] at CL
      have HC := hid CL
      clear hr CL
      subst hR0
      go_wp2_with fail
      refine HC.out.mono ?_; rintro e w8 ⟨rfl, hb8⟩
      have H8 := hid (After.below H7.out.1 hb8)
      clear c0 c1 c2 c3 c4 c5 hb8 H7 HC
      go_wp2_with (with_reducible refine at_op (.store 37 (.tmp 2) (.tmp 78)) rfl ?_; refine Stopped.go ?_)
      refine Stopped.mk (wpList_store_row_k rfl _ _ _ rfl w.heap.size #[.int .i64 0, .string ⟨#[]⟩, .string ⟨#[]⟩, .int .u64 0, .string ⟨#[]⟩, .string ⟨#[]⟩] rfl rfl _ _ H8.out.2 (by kernel_rfl) rfl (by simp [Value.oneCell']) ?_)
      intro w9 h9 hb9 _
      have HB := hid (H8.out.1.trans (hb9 _ (Nat.le_refl _))); have H9 := hid h9
      clear h9 hb9 H8
      go_wp2_with fail
      (try simp only [Exit.inBlock, Exit.then])
      exact bodyPost_ret (results_cell_row_tmp rfl _ _ w.heap.size _ _ (0, 0) _ rfl H9.out hu rfl (by kernel_rfl)) rfl ⟨rfl, HB.out⟩
    | true =>
      simp only [if_true] at CL
      have HC := hid CL
      clear CL
      by_cases hls : l = s
      · have hR0 : R = true := by rw [hr, hls]; simp
        have hss : (l.toList == s.toList) = true := by rw [hls]; simp
        clear hr hls
        subst hR0
        go_wp2_with fail
        refine HC.out.mono ?_; rintro e w8 ⟨rfl, hb8⟩
        have H8 := hid (After.below H7.out.1 hb8)
        have hB8 := H7.out.2.belowS hb8
        clear c0 c1 c2 c3 c4 c5 hb8 H7 HC
        have c0 : w8.cell? ⟨g5, 0, none⟩ = some (.int .i64 6) := hB8.at (i := 0) rfl
        have c1 : w8.cell? ⟨g5, 1, none⟩ = some (.string ⟨#[]⟩) := hB8.at (i := 1) rfl
        have c2 : w8.cell? ⟨g5, 2, none⟩ = some (.string ⟨#[]⟩) := hB8.at (i := 2) rfl
        have c3 : w8.cell? ⟨g5, 3, none⟩ = some (.int .u64 0) := hB8.at (i := 3) rfl
        have c4 : w8.cell? ⟨g5, 4, none⟩ = some (.string ⟨#[]⟩) := hB8.at (i := 4) rfl
        have c5 : w8.cell? ⟨g5, 5, none⟩ = some (.string ⟨#[]⟩) := hB8.at (i := 5) rfl
        clear hB8
        go_wp2_with (with_reducible refine at_op (.store 37 (.tmp 2) (.tmp 79)) rfl ?_; refine Stopped.go ?_)
        refine Stopped.mk (wpList_store_row_k rfl _ _ _ rfl w.heap.size #[.int .i64 6, .string ⟨#[]⟩, .string ⟨#[]⟩, .int .u64 0, .string ⟨#[]⟩, .string ⟨#[]⟩] rfl rfl _ _ H8.out.2 (by kernel_rfl) rfl (by simp [Value.oneCell']) ?_)
        intro w9 h9 hb9 _
        have HB := hid (H8.out.1.trans (hb9 _ (Nat.le_refl _))); have H9 := hid h9
        clear h9 hb9 H8
        go_wp2_with fail
        (try simp only [Exit.inBlock, Exit.then])
        exact bodyPost_ret (results_cell_row_tmp rfl _ _ w.heap.size _ _ (0, 0) _ rfl H9.out hu rfl (by kernel_rfl)) rfl ⟨rfl, HB.out⟩
      · have hR0 : R = false := by rw [hr, decide_eq_false hls]; rfl
        have hss := ba_ne hls
        clear hr hls
        subst hR0
        go_wp2_with fail
        refine HC.out.mono ?_; rintro e w8 ⟨rfl, hb8⟩
        have H8 := hid (After.below H7.out.1 hb8)
        clear c0 c1 c2 c3 c4 c5 hb8 H7 HC
        go_wp2_with (with_reducible refine at_op (.store 37 (.tmp 2) (.tmp 78)) rfl ?_; refine Stopped.go ?_)
        refine Stopped.mk (wpList_store_row_k rfl _ _ _ rfl w.heap.size #[.int .i64 0, .string ⟨#[]⟩, .string ⟨#[]⟩, .int .u64 0, .string ⟨#[]⟩, .string ⟨#[]⟩] rfl rfl _ _ H8.out.2 (by kernel_rfl) rfl (by simp [Value.oneCell']) ?_)
        intro w9 h9 hb9 _
        have HB := hid (H8.out.1.trans (hb9 _ (Nat.le_refl _))); have H9 := hid h9
        clear h9 hb9 H8
        go_wp2_with fail
        (try simp only [Exit.inBlock, Exit.then])
        exact bodyPost_ret (results_cell_row_tmp rfl _ _ w.heap.size _ _ (0, 0) _ rfl H9.out hu rfl (by kernel_rfl)) rfl ⟨rfl, HB.out⟩
  · go_wp2_with (with_reducible refine at_op (.load 37 (.tmp 5)) rfl ?_; refine Stopped.go ?_)
    have h7 := H6.out.1.after HG5.out (Keeps.refl [g5] w6) H6.out.2
    generalize w6 = w7 at h7 ⊢
    change (After w w7) ∧ Blk w7 g5 _ [.int .i64 7, .string ⟨#[]⟩, .string ⟨#[]⟩, .int .u64 0, .string ⟨#[]⟩, .string ⟨#[]⟩] at h7
    have H7 := hid h7
    clear h7 b0 c2 H6
    refine Stopped.mk ?_
    have hr : R = (ordB 7 ⟨#[]⟩ ⟨#[]⟩ 0 ⟨#[]⟩ ⟨#[]⟩ && decide (lineB 7 ⟨#[]⟩ ⟨#[]⟩ 0 ⟨#[]⟩ ⟨#[]⟩ = s)) := HR.out.trans rfl
    have c0 : w7.cell? ⟨g5, 0, none⟩ = some (.int .i64 7) := H7.out.2.at (i := 0) rfl
    have c1 : w7.cell? ⟨g5, 1, none⟩ = some (.string ⟨#[]⟩) := H7.out.2.at (i := 1) rfl
    have c2 : w7.cell? ⟨g5, 2, none⟩ = some (.string ⟨#[]⟩) := H7.out.2.at (i := 2) rfl
    have c3 : w7.cell? ⟨g5, 3, none⟩ = some (.int .u64 0) := H7.out.2.at (i := 3) rfl
    have c4 : w7.cell? ⟨g5, 4, none⟩ = some (.string ⟨#[]⟩) := H7.out.2.at (i := 4) rfl
    have c5 : w7.cell? ⟨g5, 5, none⟩ = some (.string ⟨#[]⟩) := H7.out.2.at (i := 5) rfl
    have CL := tale_Line_any 7 ⟨#[]⟩ ⟨#[]⟩ ⟨#[]⟩ ⟨#[]⟩ 0 (by omega) w7 (HL.out.below H7.out.1.1)
    obtain ⟨o, ho⟩ : ∃ o, o = ordB 7 ⟨#[]⟩ ⟨#[]⟩ 0 ⟨#[]⟩ ⟨#[]⟩ := ⟨_, rfl⟩
    obtain ⟨l, hl⟩ : ∃ l, l = lineB 7 ⟨#[]⟩ ⟨#[]⟩ 0 ⟨#[]⟩ ⟨#[]⟩ := ⟨_, rfl⟩
    have hoo : ordB 7 ⟨#[]⟩ ⟨#[]⟩ (0 : Nat) ⟨#[]⟩ ⟨#[]⟩ = o := ho.symm
    rw [hoo, ← hl] at CL
    rw [← ho, ← hl] at hr
    clear ho hl hoo HR
    cases o with
    | false =>
      have hR0 : R = false := by rw [hr]; rfl
      simp only [Bool.false_eq_true, if_false] at CL
      have HC := hid CL
      clear hr CL
      subst hR0
      go_wp2_with fail
      refine HC.out.mono ?_; rintro e w8 ⟨rfl, hb8⟩
      have H8 := hid (After.below H7.out.1 hb8)
      clear c0 c1 c2 c3 c4 c5 hb8 H7 HC
      go_wp2_with (with_reducible refine at_op (.store 37 (.tmp 2) (.tmp 78)) rfl ?_; refine Stopped.go ?_)
      refine Stopped.mk (wpList_store_row_k rfl _ _ _ rfl w.heap.size #[.int .i64 0, .string ⟨#[]⟩, .string ⟨#[]⟩, .int .u64 0, .string ⟨#[]⟩, .string ⟨#[]⟩] rfl rfl _ _ H8.out.2 (by kernel_rfl) rfl (by simp [Value.oneCell']) ?_)
      intro w9 h9 hb9 _
      have HB := hid (H8.out.1.trans (hb9 _ (Nat.le_refl _))); have H9 := hid h9
      clear h9 hb9 H8
      go_wp2_with fail
      (try simp only [Exit.inBlock, Exit.then])
      exact bodyPost_ret (results_cell_row_tmp rfl _ _ w.heap.size _ _ (0, 0) _ rfl H9.out hu rfl (by kernel_rfl)) rfl ⟨rfl, HB.out⟩
    | true =>
      simp only [if_true] at CL
      have HC := hid CL
      clear CL
      by_cases hls : l = s
      · have hR0 : R = true := by rw [hr, hls]; simp
        have hss : (l.toList == s.toList) = true := by rw [hls]; simp
        clear hr hls
        subst hR0
        go_wp2_with fail
        refine HC.out.mono ?_; rintro e w8 ⟨rfl, hb8⟩
        have H8 := hid (After.below H7.out.1 hb8)
        have hB8 := H7.out.2.belowS hb8
        clear c0 c1 c2 c3 c4 c5 hb8 H7 HC
        have c0 : w8.cell? ⟨g5, 0, none⟩ = some (.int .i64 7) := hB8.at (i := 0) rfl
        have c1 : w8.cell? ⟨g5, 1, none⟩ = some (.string ⟨#[]⟩) := hB8.at (i := 1) rfl
        have c2 : w8.cell? ⟨g5, 2, none⟩ = some (.string ⟨#[]⟩) := hB8.at (i := 2) rfl
        have c3 : w8.cell? ⟨g5, 3, none⟩ = some (.int .u64 0) := hB8.at (i := 3) rfl
        have c4 : w8.cell? ⟨g5, 4, none⟩ = some (.string ⟨#[]⟩) := hB8.at (i := 4) rfl
        have c5 : w8.cell? ⟨g5, 5, none⟩ = some (.string ⟨#[]⟩) := hB8.at (i := 5) rfl
        clear hB8
        go_wp2_with (with_reducible refine at_op (.store 37 (.tmp 2) (.tmp 79)) rfl ?_; refine Stopped.go ?_)
        refine Stopped.mk (wpList_store_row_k rfl _ _ _ rfl w.heap.size #[.int .i64 7, .string ⟨#[]⟩, .string ⟨#[]⟩, .int .u64 0, .string ⟨#[]⟩, .string ⟨#[]⟩] rfl rfl _ _ H8.out.2 (by kernel_rfl) rfl (by simp [Value.oneCell']) ?_)
        intro w9 h9 hb9 _
        have HB := hid (H8.out.1.trans (hb9 _ (Nat.le_refl _))); have H9 := hid h9
        clear h9 hb9 H8
        go_wp2_with fail
        (try simp only [Exit.inBlock, Exit.then])
        exact bodyPost_ret (results_cell_row_tmp rfl _ _ w.heap.size _ _ (0, 0) _ rfl H9.out hu rfl (by kernel_rfl)) rfl ⟨rfl, HB.out⟩
      · have hR0 : R = false := by rw [hr, decide_eq_false hls]; rfl
        have hss := ba_ne hls
        clear hr hls
        subst hR0
        go_wp2_with fail
        refine HC.out.mono ?_; rintro e w8 ⟨rfl, hb8⟩
        have H8 := hid (After.below H7.out.1 hb8)
        clear c0 c1 c2 c3 c4 c5 hb8 H7 HC
        go_wp2_with (with_reducible refine at_op (.store 37 (.tmp 2) (.tmp 78)) rfl ?_; refine Stopped.go ?_)
        refine Stopped.mk (wpList_store_row_k rfl _ _ _ rfl w.heap.size #[.int .i64 0, .string ⟨#[]⟩, .string ⟨#[]⟩, .int .u64 0, .string ⟨#[]⟩, .string ⟨#[]⟩] rfl rfl _ _ H8.out.2 (by kernel_rfl) rfl (by simp [Value.oneCell']) ?_)
        intro w9 h9 hb9 _
        have HB := hid (H8.out.1.trans (hb9 _ (Nat.le_refl _))); have H9 := hid h9
        clear h9 hb9 H8
        go_wp2_with fail
        (try simp only [Exit.inBlock, Exit.then])
        exact bodyPost_ret (results_cell_row_tmp rfl _ _ w.heap.size _ _ (0, 0) _ rfl H9.out hu rfl (by kernel_rfl)) rfl ⟨rfl, HB.out⟩
  · go_wp2_with (with_reducible refine at_op (.load 37 (.tmp 5)) rfl ?_; refine Stopped.go ?_)
    have h7 := H6.out.1.after HG5.out (Keeps.refl [g5] w6) H6.out.2
    generalize w6 = w7 at h7 ⊢
    change (After w w7) ∧ Blk w7 g5 _ [.int .i64 8, .string ⟨#[]⟩, .string ⟨#[]⟩, .int .u64 0, .string ⟨#[]⟩, .string ⟨#[]⟩] at h7
    have H7 := hid h7
    clear h7 b0 c2 H6
    refine Stopped.mk ?_
    have hr : R = (ordB 8 ⟨#[]⟩ ⟨#[]⟩ 0 ⟨#[]⟩ ⟨#[]⟩ && decide (lineB 8 ⟨#[]⟩ ⟨#[]⟩ 0 ⟨#[]⟩ ⟨#[]⟩ = s)) := HR.out.trans rfl
    have c0 : w7.cell? ⟨g5, 0, none⟩ = some (.int .i64 8) := H7.out.2.at (i := 0) rfl
    have c1 : w7.cell? ⟨g5, 1, none⟩ = some (.string ⟨#[]⟩) := H7.out.2.at (i := 1) rfl
    have c2 : w7.cell? ⟨g5, 2, none⟩ = some (.string ⟨#[]⟩) := H7.out.2.at (i := 2) rfl
    have c3 : w7.cell? ⟨g5, 3, none⟩ = some (.int .u64 0) := H7.out.2.at (i := 3) rfl
    have c4 : w7.cell? ⟨g5, 4, none⟩ = some (.string ⟨#[]⟩) := H7.out.2.at (i := 4) rfl
    have c5 : w7.cell? ⟨g5, 5, none⟩ = some (.string ⟨#[]⟩) := H7.out.2.at (i := 5) rfl
    have CL := tale_Line_any 8 ⟨#[]⟩ ⟨#[]⟩ ⟨#[]⟩ ⟨#[]⟩ 0 (by omega) w7 (HL.out.below H7.out.1.1)
    obtain ⟨o, ho⟩ : ∃ o, o = ordB 8 ⟨#[]⟩ ⟨#[]⟩ 0 ⟨#[]⟩ ⟨#[]⟩ := ⟨_, rfl⟩
    obtain ⟨l, hl⟩ : ∃ l, l = lineB 8 ⟨#[]⟩ ⟨#[]⟩ 0 ⟨#[]⟩ ⟨#[]⟩ := ⟨_, rfl⟩
    have hoo : ordB 8 ⟨#[]⟩ ⟨#[]⟩ (0 : Nat) ⟨#[]⟩ ⟨#[]⟩ = o := ho.symm
    rw [hoo, ← hl] at CL
    rw [← ho, ← hl] at hr
    clear ho hl hoo HR
    cases o with
    | false =>
      have hR0 : R = false := by rw [hr]; rfl
      simp only [Bool.false_eq_true, if_false] at CL
      have HC := hid CL
      clear hr CL
      subst hR0
      go_wp2_with fail
      refine HC.out.mono ?_; rintro e w8 ⟨rfl, hb8⟩
      have H8 := hid (After.below H7.out.1 hb8)
      clear c0 c1 c2 c3 c4 c5 hb8 H7 HC
      go_wp2_with (with_reducible refine at_op (.store 37 (.tmp 2) (.tmp 78)) rfl ?_; refine Stopped.go ?_)
      refine Stopped.mk (wpList_store_row_k rfl _ _ _ rfl w.heap.size #[.int .i64 0, .string ⟨#[]⟩, .string ⟨#[]⟩, .int .u64 0, .string ⟨#[]⟩, .string ⟨#[]⟩] rfl rfl _ _ H8.out.2 (by kernel_rfl) rfl (by simp [Value.oneCell']) ?_)
      intro w9 h9 hb9 _
      have HB := hid (H8.out.1.trans (hb9 _ (Nat.le_refl _))); have H9 := hid h9
      clear h9 hb9 H8
      go_wp2_with fail
      (try simp only [Exit.inBlock, Exit.then])
      exact bodyPost_ret (results_cell_row_tmp rfl _ _ w.heap.size _ _ (0, 0) _ rfl H9.out hu rfl (by kernel_rfl)) rfl ⟨rfl, HB.out⟩
    | true =>
      simp only [if_true] at CL
      have HC := hid CL
      clear CL
      by_cases hls : l = s
      · have hR0 : R = true := by rw [hr, hls]; simp
        have hss : (l.toList == s.toList) = true := by rw [hls]; simp
        clear hr hls
        subst hR0
        go_wp2_with fail
        refine HC.out.mono ?_; rintro e w8 ⟨rfl, hb8⟩
        have H8 := hid (After.below H7.out.1 hb8)
        have hB8 := H7.out.2.belowS hb8
        clear c0 c1 c2 c3 c4 c5 hb8 H7 HC
        have c0 : w8.cell? ⟨g5, 0, none⟩ = some (.int .i64 8) := hB8.at (i := 0) rfl
        have c1 : w8.cell? ⟨g5, 1, none⟩ = some (.string ⟨#[]⟩) := hB8.at (i := 1) rfl
        have c2 : w8.cell? ⟨g5, 2, none⟩ = some (.string ⟨#[]⟩) := hB8.at (i := 2) rfl
        have c3 : w8.cell? ⟨g5, 3, none⟩ = some (.int .u64 0) := hB8.at (i := 3) rfl
        have c4 : w8.cell? ⟨g5, 4, none⟩ = some (.string ⟨#[]⟩) := hB8.at (i := 4) rfl
        have c5 : w8.cell? ⟨g5, 5, none⟩ = some (.string ⟨#[]⟩) := hB8.at (i := 5) rfl
        clear hB8
        go_wp2_with (with_reducible refine at_op (.store 37 (.tmp 2) (.tmp 79)) rfl ?_; refine Stopped.go ?_)
        refine Stopped.mk (wpList_store_row_k rfl _ _ _ rfl w.heap.size #[.int .i64 8, .string ⟨#[]⟩, .string ⟨#[]⟩, .int .u64 0, .string ⟨#[]⟩, .string ⟨#[]⟩] rfl rfl _ _ H8.out.2 (by kernel_rfl) rfl (by simp [Value.oneCell']) ?_)
        intro w9 h9 hb9 _
        have HB := hid (H8.out.1.trans (hb9 _ (Nat.le_refl _))); have H9 := hid h9
        clear h9 hb9 H8
        go_wp2_with fail
        (try simp only [Exit.inBlock, Exit.then])
        exact bodyPost_ret (results_cell_row_tmp rfl _ _ w.heap.size _ _ (0, 0) _ rfl H9.out hu rfl (by kernel_rfl)) rfl ⟨rfl, HB.out⟩
      · have hR0 : R = false := by rw [hr, decide_eq_false hls]; rfl
        have hss := ba_ne hls
        clear hr hls
        subst hR0
        go_wp2_with fail
        refine HC.out.mono ?_; rintro e w8 ⟨rfl, hb8⟩
        have H8 := hid (After.below H7.out.1 hb8)
        clear c0 c1 c2 c3 c4 c5 hb8 H7 HC
        go_wp2_with (with_reducible refine at_op (.store 37 (.tmp 2) (.tmp 78)) rfl ?_; refine Stopped.go ?_)
        refine Stopped.mk (wpList_store_row_k rfl _ _ _ rfl w.heap.size #[.int .i64 0, .string ⟨#[]⟩, .string ⟨#[]⟩, .int .u64 0, .string ⟨#[]⟩, .string ⟨#[]⟩] rfl rfl _ _ H8.out.2 (by kernel_rfl) rfl (by simp [Value.oneCell']) ?_)
        intro w9 h9 hb9 _
        have HB := hid (H8.out.1.trans (hb9 _ (Nat.le_refl _))); have H9 := hid h9
        clear h9 hb9 H8
        go_wp2_with fail
        (try simp only [Exit.inBlock, Exit.then])
        exact bodyPost_ret (results_cell_row_tmp rfl _ _ w.heap.size _ _ (0, 0) _ rfl H9.out hu rfl (by kernel_rfl)) rfl ⟨rfl, HB.out⟩
end Go.Proofs.YthhmdmfbaooldaaGreatDoor
