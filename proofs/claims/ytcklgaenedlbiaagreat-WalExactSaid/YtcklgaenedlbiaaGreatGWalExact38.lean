/-
  Both logs of layer 23 side by side: the program's and the document's: from deed to deed.
  WalExact: of all bytes of a log, and every row of deeds, each answer is the document's: walked.
-/
import Derived.Test.YtcklgaenedlbiaaGreatGWalExact37
import Derived.Test.YtcklgaenedlbiaaGreatGWalExact29
import Derived.Test.YtcklgaenedlbiaaGreatGWalExact28

namespace Go.Proofs.YtcklgaenedlbiaaGreat
open Go.RowKit Go.Sort

set_option maxHeartbeats 1000000 in
set_option maxRecDepth 100000 in
theorem wal_Scan_arg {w0 w : World} {p : Nat} {d : Dv} {F : List Nat} (h : Dev w0 w p 64 d F) (e f : Int) (hno : e < 1 ∨ 2147483647 < e ∨ f < 0 ∨ 8 ≤ f) :
    Calls Tryz.prog 8 #[.pointer (some ⟨p, 0, none⟩), .int .i64 e, .int .i64 f] w fun e w' => e = .returned (.tuple #[.slice none 0 0, .int .i64 0, .int .i64 1]) ∧ Below w.heap.size w w' := by
  have HN := hid (wal_New_arg h e f hno)
  clear h hno
  go_enter Tryz.func8, Tryz.ntmps8
  go_wp2_with fail
  refine HN.out.mono ?_; rintro e1 w1 ⟨rfl, hb⟩
  have HB := hid hb; clear hb
  go_wp2_with fail
  go_ret3
  exact ⟨rfl, HB.out⟩

structure Ex2 (w wx : World) (p r u c j : Nat) (d : Dv) (v1 v2 : Wl) (F G : List Nat) (f1 f2 : Nat → ByteArray) (H : List Nat) : Prop where
  room : RoomI w wx p r c d v1 F G
  dl : DL d f1
  rat : R23At w wx u (logL f2) v2 H
  ok2 : WlOk v2
  sF : ∀ k, k ∈ H → k ∉ F
  sG : ∀ k, k ∈ H → k ∉ G
  pl1 : v1.pend.length ≤ j
  pl2 : v2.pend.length ≤ j
section
variable {w wx : World} {p r u c j : Nat} {d : Dv} {v1 v2 : Wl} {F G : List Nat} {f1 f2 : Nat → ByteArray} {H : List Nat}
theorem Ex2.below {wy : World} (h : Ex2 w wx p r u c j d v1 v2 F G f1 f2 H) (hb : Below wx.heap.size wx wy) : Ex2 w wy p r u c j d v1 v2 F G f1 f2 H :=
  ⟨h.room.below hb, h.dl, h.rat.below hb, h.ok2, h.sF, h.sG, h.pl1, h.pl2⟩
theorem Ex2.up {c' j' : Nat} (h : Ex2 w wx p r u c j d v1 v2 F G f1 f2 H) (hc : c ≤ c') (hc' : c' ≤ 940) (hj : j ≤ j') : Ex2 w wx p r u c' j' d v1 v2 F G f1 f2 H :=
  ⟨⟨h.room.lw, h.room.ok, h.room.fuse, h.room.on, by have := h.room.count; omega, hc'⟩, h.dl, h.rat, h.ok2, h.sF, h.sG, by have := h.pl1; omega, by have := h.pl2; omega⟩
theorem add_pl (v : Wl) (m : Msg3) : (v.add m).1.pend.length ≤ v.pend.length + 1 := by
  unfold Wl.add
  split
  · split
    · simp
    · simp
  · simp
theorem WlOk.add_ {v : Wl} (hv : WlOk v) (m : Msg3) (hl : v.pend.length ≤ 240) : WlOk (v.add m).1 := by
  unfold Wl.add
  split
  · rename_i h1
    split
    · rename_i h2
      exact hv.add h1 h2 hl
    · exact hv
  · exact hv
theorem Ex2.wAdd (h : Ex2 w wx p r u c j d v1 v2 F G f1 f2 H) (m : Msg3) (hj : j ≤ 150) :
    Calls Tryz.prog 11 #[.pointer (some ⟨r, 0, none⟩), .agg #[.int .i64 m.1, .string m.2.1, .string m.2.2]] wx fun e w' => e = .returned (.int .i64 (v1.add m).2) ∧ ∃ G', Ex2 w w' p r u c (j + 1) d (v1.add m).1 v2 F G' f1 f2 H ∧ Keeps G wx w' := by
  have hp := h.pl1
  refine (h.room.addK m (by omega)).mono ?_
  rintro e w' ⟨rfl, G', hr, hk, hn⟩
  have := add_pl v1 m
  refine ⟨rfl, G', ⟨hr, h.dl, h.rat.keeps hk h.sG, h.ok2, h.sF, fun k hk' hg => ?_, by omega, by have := h.pl2; omega⟩, hk⟩
  rcases hn k hg with h1 | h1
  · exact h.sG k hk' h1
  · have := (h.rat.own k hk').2; omega
theorem Ex2.uAdd (h : Ex2 w wx p r u c j d v1 v2 F G f1 f2 H) (m : Msg3) (hj : j ≤ 150) :
    Calls Tryz.prog 12 #[.pointer (some ⟨u, 0, none⟩), .agg #[.int .i64 m.1, .string m.2.1, .string m.2.2]] wx fun e w' => e = .returned (.int .i64 (v2.add m).2) ∧ ∃ H', Ex2 w w' p r u c (j + 1) d v1 (v2.add m).1 F G f1 f2 H' ∧ Keeps H wx w' := by
  have hp := h.pl2
  refine (r23_Add h.rat h.room.lw.dev.bel.size h.ok2 (by omega) m).mono ?_
  rintro e w' ⟨rfl, H', hr, hk, hn⟩
  have := add_pl v2 m
  refine ⟨rfl, H', ⟨h.room.other hk (fun k hk' => (h.rat.own k hk').1) (fun k hF hH => h.sF k hH hF) (fun k hG hH => h.sG k hH hG), h.dl, hr, h.ok2.add_ m (by omega), fun k hk' hF => ?_, fun k hk' hG => ?_, by have := h.pl1; omega, by omega⟩, hk⟩
  · rcases hn k hk' with h1 | h1
    · exact h.sF k h1 hF
    · have := h.room.lw.dev.at_.sizes k hF; omega
  · rcases hn k hk' with h1 | h1
    · exact h.sG k h1 hG
    · have := (h.room.lw.wal.own k hG).2; omega
theorem Ex2.uSync (h : Ex2 w wx p r u c j d v1 v2 F G f1 f2 H) (hj : j ≤ 150) :
    Calls Tryz.prog 14 #[.pointer (some ⟨u, 0, none⟩)] wx fun e w' => e = .returned (.tuple #[]) ∧ ∃ H', Ex2 w w' p r u c j d v1 (syncV v2) F G f1 (putL f2 (stamps v2 v2.texts v2.texts.length)) H' ∧ Keeps H wx w' := by
  have hp := h.pl2
  refine (r23_Sync h.rat h.ok2 (by omega)).mono ?_
  rintro e w' ⟨rfl, H', hr, hk, hn⟩
  rw [← logL_stamps h.ok2.size] at hr
  refine ⟨rfl, H', ⟨h.room.other hk (fun k hk' => (h.rat.own k hk').1) (fun k hF hH => h.sF k hH hF) (fun k hG hH => h.sG k hH hG), h.dl, hr, h.ok2.sync, fun k hk' hF => ?_, fun k hk' hG => ?_, h.pl1, by rw [sync_pend]; exact Nat.zero_le _⟩, hk⟩
  · rcases hn k hk' with h1 | h1
    · exact h.sF k h1 hF
    · have := h.room.lw.dev.at_.sizes k hF; omega
  · rcases hn k hk' with h1 | h1
    · exact h.sG k h1 hG
    · have := (h.room.lw.wal.own k hG).2; omega
theorem Ex2.wSync (h : Ex2 w wx p r u c j d v1 v2 F G f1 f2 H) :
    Calls Tryz.prog 15 #[.pointer (some ⟨r, 0, none⟩)] wx fun e w' => e = .returned (.int .i64 0) ∧ ∃ F' G', Ex2 w w' p r u c j (syncD v1 d) (syncV v1) v2 F' G' (putL f1 (stamps v1 v1.texts v1.texts.length)) f2 H ∧ Keeps (F ++ G) wx w' := by
  refine h.room.syncK.mono ?_
  rintro e w' ⟨rfl, F', G', hr, hk, hn⟩
  have hsep : ∀ k, k ∈ H → k ∉ F' ++ G' := fun k hk' hm => by
    rcases hn k hm with h1 | h1
    · rcases List.mem_append.1 h1 with h2 | h2
      · exact h.sF k hk' h2
      · exact h.sG k hk' h2
    · have := (h.rat.own k hk').2; omega
  refine ⟨rfl, F', G', ⟨hr, h.dl.sync h.room.ok, h.rat.keeps hk (fun k hk' hm => ?_), h.ok2, fun k hk' hF => hsep k hk' (List.mem_append.2 (.inl hF)), fun k hk' hG => hsep k hk' (List.mem_append.2 (.inr hG)), by rw [sync_pend]; exact Nat.zero_le _, h.pl2⟩, hk⟩
  rcases List.mem_append.1 hm with h2 | h2
  · exact h.sF k hk' h2
  · exact h.sG k hk' h2
theorem Ex2.scan (h : Ex2 w wx p r u c j d v1 v2 F G f1 f2 H) (e : Int) (fr : Nat) (h1 : 1 ≤ e) (h2 : e ≤ 2147483647) (hf : fr < 8) (hc : c + 8 ≤ 940) :
    Calls Tryz.prog 8 #[.pointer (some ⟨p, 0, none⟩), .int .i64 e, .int .i64 fr] wx fun e' w' => ∃ A cap l n cc, (l, n, cc) = scanV (rdOf d (Wl.new e fr)) ∧ e' = .returned (.tuple #[.slice A l.length cap, .int .i64 (n : Nat), .int .i64 cc]) ∧
      Row w' A (l.flatMap msgCells) ∧ Ex2 w w' p r u (c + 8) j { d with rd := d.rd + 8 } v1 v2 F G f1 f2 H := by
  refine (h.room.scan e fr h1 h2 hf hc).mono ?_
  rintro e' w' ⟨A, cap, l, n, cc, hlc, rfl, ho, _, hr, hk⟩
  exact ⟨A, cap, l, n, cc, hlc, rfl, own_rowW ho, hr, h.dl.rd _, h.rat.keeps hk h.sF, h.ok2, h.sF, h.sG, h.pl1, h.pl2⟩
theorem Ex2.wFits (h : Ex2 w wx p r u c j d v1 v2 F G f1 f2 H) (m : Msg3) :
    Calls Tryz.prog 9 #[.pointer (some ⟨r, 0, none⟩), .agg #[.int .i64 m.1, .string m.2.1, .string m.2.2]] wx fun e w' => e = .returned (.bool (v1.fits m)) ∧ Below wx.heap.size wx w' := h.room.fits m
theorem Ex2.uFits (h : Ex2 w wx p r u c j d v1 v2 F G f1 f2 H) (m : Msg3) (hj : j ≤ 150) :
    Calls Tryz.prog 10 #[.pointer (some ⟨u, 0, none⟩), .agg #[.int .i64 m.1, .string m.2.1, .string m.2.2]] wx fun e w' => e = .returned (.bool (v2.fits m)) ∧ Below wx.heap.size wx w' := r23_Fits h.rat h.ok2 (by have := h.pl2; omega) m
/-- what the document's Scan asks is what the program's Scan asks -/
theorem scan_same (hd : DL d f1) (e : Int) (fr : Nat) : scanV (fun k => readW e k ((logL f1).getD ((fr + k) % 8) zerosB)) = scanV (rdOf d (Wl.new e fr)) := by
  congr 1
  funext k
  unfold rdOf
  have hq : (fr + k) % 8 < 8 := Nat.mod_lt _ (by decide)
  have h1 : (logL f1).getD ((fr + k) % 8) zerosB = f1 (2 + (fr + k) % 8) := by
    rw [List.getD_eq_getElem?_getD, List.getElem?_eq_getElem (by rw [logL_len]; exact hq)]
    simp [logL]
  rw [h1]
  show _ = readW e k (d.read (2 + (fr + k) % 8))
  rw [hd.read _ (by omega)]
theorem logL_sizes (hd : DL d f1) : ∀ b ∈ logL f1, b.size = 256 := by
  intro b hb
  obtain ⟨k, hk, rfl⟩ := List.mem_map.1 hb
  exact hd.size _ (by have := List.mem_range.1 hk; omega)
end
theorem scanV_len (e : Int) (fr : Nat) (d : Dv) : (scanV (rdOf d (Wl.new e fr))).1.length ≤ 576 := by
  have h := scanN_len (rdOf d (Wl.new e fr)) (fun k => readW_len _ _ _) 8
  unfold scanV
  split
  · simp
  · exact h
theorem add_same (v : Wl) (m : Msg3) : (v.add m).1.epoch = v.epoch ∧ (v.add m).1.from_ = v.from_ := by
  unfold Wl.add
  split
  · split <;> exact ⟨rfl, rfl⟩
  · exact ⟨rfl, rfl⟩
theorem logL_over {L : List ByteArray} (h8 : L.length = 8) : logL (overF L) = L := by
  apply List.ext_getElem
  · rw [logL_len, h8]
  · intro i h1 h2
    simp only [logL, List.getElem_map, List.getElem_range]
    exact overF_get h8 i (by omega)
theorem logL_wiped (f : Nat → ByteArray) : logL (putL f ((List.range 8).map fun k => (2 + k, zerosB))) = blkL8 [] 8 := by
  unfold logL blkL8
  apply List.map_congr_left
  intro k hk
  have hk8 := List.mem_range.1 hk
  rw [wiped_get, if_pos hk8]
  unfold blkOf
  rw [if_neg (by show ¬ (⟨#[]⟩ : ByteArray).size = 256; decide)]
end Go.Proofs.YtcklgaenedlbiaaGreat

namespace Go.Proofs.YtcklgaenedlbiaaGreat
open Go.RowKit Go.Sort

def exCells (x : Int × Msg3) : List Value := .int .i64 x.1 :: msgCells x.2
theorem ex_at : ∀ (l : List (Int × Msg3)) (i j : Nat) (x : Int × Msg3) (v : Value), l[i]? = some x → (exCells x)[j]? = some v → (l.flatMap exCells)[i * 4 + j]? = some v
  | y :: l, 0, j, x, v, h, hv => by
    simp only [List.getElem?_cons_zero, Option.some.injEq] at h
    subst h
    rw [List.flatMap_cons, List.getElem?_append_left (by have := (List.getElem?_eq_some_iff.1 hv).1; omega)]
    simpa using hv
  | y :: l, i + 1, j, x, v, h, hv => by
    have := ex_at l i j x v (by simpa using h) hv
    rw [List.flatMap_cons, List.getElem?_append_right (by show (exCells y).length ≤ _; simp [exCells, msgCells]; omega)]
    rw [show (i + 1) * 4 + j - (exCells y).length = i * 4 + j by simp [exCells, msgCells]; omega]
    exact this

/-- the rest of a region only reads: one walk serves every order -/
theorem wpAny_suffixX {P : Program} {md : Region.Mode} {l0 : List Oper} {C : World → Prop} {Q' : Exit → Act → World → Prop} (k : Nat) {n : Nat} {listed : Array Bool} {a : Act} {w : World} (l : List Oper) (hl : l0.drop k = l) (hn : n = l.length) (hs : Region.noSelect l0.toArray = true) (hC : C w)
    (hB : Region.lexFrom md l0.toArray l.length k listed = true) (h : wpQuiet P l0.toArray C (fun a' => ∀ w', C w' → Q' .normal a' w') l a) : wpAny P md l0.toArray Q' n listed a w := by
  subst hn
  refine wpAny_of_quiet (C := C) (Q := fun a' => ∀ w', C w' → Q' .normal a' w') (fun _ w' hw' h => h w' hw') _ _ _ _ hC ?_
  refine wpAnyQ_lex hs l k listed a (fun j => ?_) hB h
  rw [← hl, List.getElem?_drop]
  simp

set_option maxHeartbeats 64000000 in
set_option maxRecDepth 100000 in
theorem walExact_walk (RA : Option Addr) (rcap : Nat) (raw : List ByteArray) (ep fr : Int) (AA : Option Addr) (acap : Nat) (acts : List (Int × Msg3)) (w : World)
    (hrr : Row w RA (strs raw)) (har : Row w AA (acts.flatMap exCells)) (hal : acts.length ≤ 9223372036854775807) :
    Calls Tryz.prog 3 #[.slice RA raw.length rcap, .int .i64 ep, .int .i64 fr, .slice AA acts.length acap] w fun e w' => e = .returned (.bool true) ∧ Below w.heap.size w w' := by
  have KB := hid (fun W (hW : Below w.heap.size w W) => law23_blocks RA rcap raw W (hrr.below hW))
  have HAR := hid har
  obtain ⟨R, hR⟩ : ∃ L, L = raw.length := ⟨_, rfl⟩
  obtain ⟨L, hL⟩ : ∃ L, L = acts.length := ⟨_, rfl⟩
  rw [← hR] at KB ⊢
  rw [← hL] at hal ⊢
  have HL := hid hL
  clear hrr har hR hL
  by_cases h8 : (8 : Int) < (R : Int)
  · go_enter Tryz.func3, Tryz.ntmps3
    go_wp2_with fail
    refine (awake23_any _).mono ?_; rintro e1 w1 ⟨rfl, hb⟩
    have HB := hid hb; clear hb
    go_wp2_with fail
    go_ret
    exact ⟨rfl, HB.out⟩
  go_enter Tryz.func3, Tryz.ntmps3
  go_wp2_with fail
  refine (awake23_any _).mono ?_; rintro e1 w1 ⟨rfl, hb⟩
  have HB1 := hid hb; clear hb
  go_wp2_with fail
  refine (KB.out w1 HB1.out).mono ?_; rintro e1 w2 ⟨V, rfl, ho, hn, hb⟩
  obtain ⟨g, bcap, rest, rfl, hbk, _⟩ := ownsRow_blk ho (by decide)
  have hgn : w.heap.size ≤ g := Nat.le_trans HB1.out.size (hn g rfl)
  have HBK := hid hbk
  have HB2 := hid (bt HB1.out hb)
  have HGN := hid hgn
  clear ho hn hb hbk hgn HB1 KB
  obtain ⟨B0, hB0⟩ : ∃ B, B = blkL8 raw 8 := ⟨_, rfl⟩
  rw [← hB0] at HBK
  have hB8 : B0.length = 8 := by rw [hB0]; exact blkL8_len _ 8
  have hszs : ∀ b ∈ B0, b.size = 256 := fun b hb => by rw [hB0] at hb; obtain ⟨k, _, rfl⟩ := List.mem_map.1 hb; exact blkOf_size _ _
  have HBL := hid (And.intro hB8 hszs)
  clear hB0 hB8 hszs
  go_wp2_with fail
  refine (law23_over HB2.out _ bcap B0 HBL.out.1 HBL.out.2 (blk_row HBK.out)).mono ?_
  rintro e1 w3 ⟨p, F, rfl, hD, hb, hF⟩
  have D3 := hid hD
  have HBK3 := hid (HBK.out.belowS hb)
  have HFG : Hid (g ∉ F) := fun h => by have := hF g h; have := HBK.out.lt; omega
  clear hD hb hF HBK HB2
  by_cases hbad : ep < 1 ∨ 2147483647 < ep ∨ fr < 0 ∨ 8 ≤ fr
  · have KN := hid (wal_New_arg D3.out ep fr hbad)
    go_wp2_with fail
    refine KN.out.mono ?_; rintro e1 w4 ⟨rfl, hb⟩
    have D4 := hid (D3.out.below hb)
    have KS := hid (wal_Scan_arg D4.out ep fr hbad)
    clear hb KN D3
    have h4 : (ep < 1) ∨ (¬ ep < 1 ∧ 2147483647 < ep) ∨ (¬ ep < 1 ∧ ¬ 2147483647 < ep ∧ fr < 0) ∨ (¬ ep < 1 ∧ ¬ 2147483647 < ep ∧ ¬ fr < 0 ∧ 7 < fr) := by omega
    clear hbad
    rcases h4 with h | ⟨h, h'⟩ | ⟨h, h', h''⟩ | ⟨h, h', h'', h'''⟩
    all_goals
      go_wp2_with fail
      refine KS.out.mono ?_; rintro e1 w5 ⟨rfl, hb⟩
      have HB5 := hid (D4.out.below hb).bel
      clear hb
      go_wp2_with fail
      go_ret
      exact ⟨rfl, HB5.out⟩
  obtain ⟨f0, hf0⟩ : ∃ f0 : Nat, (f0 : Int) = fr := ⟨fr.toNat, by omega⟩
  have g1 : ¬ ep < 1 := by omega
  have g2 : ¬ 2147483647 < ep := by omega
  have g3 : ¬ (f0 : Int) < 0 := by omega
  have g4 : ¬ 7 < (f0 : Int) := by omega
  have HE := hid (show 1 ≤ ep ∧ ep ≤ 2147483647 ∧ f0 < 8 by omega)
  subst hf0
  clear hbad
  have KN := hid (wal_New_yes D3.out ep f0 HE.out.1 HE.out.2.1 HE.out.2.2)
  go_wp2_with fail
  refine KN.out.mono ?_; rintro e1 w4 ⟨r, G, rfl, hW, hb, hG⟩
  have hl4 : LW w w4 p r (overD B0) (Wl.new ep f0) F G := ⟨D3.out.below hb, hW, fun k hk hg => by have := D3.out.at_.sizes k hk; have := hG k hg; omega⟩
  have hI4 : RoomI w w4 p r 0 (overD B0) (Wl.new ep f0) F G := ⟨hl4, ⟨rfl, HE.out.2.2, HE.out.1, HE.out.2.1, by simp [Wl.new], by simp [Wl.new], by simp [Wl.new, Go.Proofs.YtcklgaenedlbiaaGreat.g2]⟩, by show (-1 : Int) < 0; decide, rfl, Nat.le_refl _, by decide⟩
  have HI4 := hid hI4
  have HBK4 := hid (HBK3.out.belowS hb)
  have HG4 : Hid (g ∉ G) := fun h => by have := hG g h; have := HBK3.out.lt; omega
  have hA := below_alloc w4 (.cells #[.slice (some ⟨g, 0, none⟩) 8 bcap, .int .i64 ep, .int .i64 f0, .int .i64 0, .slice none 0 0] 37)
  have hbu := Blk.new w4 #[.slice (some ⟨g, 0, none⟩) 8 bcap, .int .i64 ep, .int .i64 f0, .int .i64 0, .slice none 0 0] 37
  obtain ⟨u, hu⟩ : ∃ u, u = w4.heap.size := ⟨_, rfl⟩
  obtain ⟨w5, hw5⟩ : ∃ w5, w5 = w4.alloc (.cells #[.slice (some ⟨g, 0, none⟩) 8 bcap, .int .i64 ep, .int .i64 f0, .int .i64 0, .slice none 0 0] 37) := ⟨_, rfl⟩
  rw [← hu] at hbu
  rw [← hw5] at hA hbu
  have hex : Ex2 w w5 p r u 0 0 (overD B0) (Wl.new ep f0) (Wl.new ep f0) F G (overF B0) (overF B0) [u, g] := by
    have hrm := HI4.out.below hA
    have hbk5 := HBK4.out.belowS hA
    refine ⟨hrm, overD_lies HBL.out.1 HBL.out.2, ⟨fun k hk => ?_, by simp, g, bcap, rest, .slice none 0 0, ⟨hbu, ?_, ?_, World.ownsRowF_nil _ _ _ _⟩, by simp, fun k hk => by cases hk⟩, HI4.out.ok, fun k hk hF => ?_, fun k hk hG => ?_, Nat.le_refl _, Nat.le_refl _⟩
    · simp only [List.mem_cons, List.not_mem_nil, or_false] at hk
      rcases hk with rfl | rfl
      · exact ⟨by rw [hu]; exact HI4.out.lw.dev.bel.size, hbu.lt⟩
      · exact ⟨HGN.out, hbk5.lt⟩
    · rw [logL_over HBL.out.1]; exact hbk5
    · rw [logL_len]
    · simp only [List.mem_cons, List.not_mem_nil, or_false] at hk
      rcases hk with rfl | rfl
      · have := HI4.out.lw.dev.at_.sizes _ hF; omega
      · exact HFG.out hF
    · simp only [List.mem_cons, List.not_mem_nil, or_false] at hk
      rcases hk with rfl | rfl
      · have := (HI4.out.lw.wal.own _ hG).2; omega
      · exact HG4.out hG
  have HEX := hid (show ∃ d v F G f H, Ex2 w w5 p r u (8 * 0) 0 d v v F G f f H ∧ v.epoch = ep ∧ v.from_ = f0 from ⟨_, _, F, G, _, _, hex, rfl, rfl⟩)
  obtain ⟨M, hM⟩ : ∃ M, M = min L 100 := ⟨_, rfl⟩
  have HK : Hid (∀ k : Nat, k < M → (k : Int) < (L : Int) ∧ (k : Int) < 100 ∧ k < acts.length ∧ k < 100) := fun k h => by have := HL.out; omega
  have HK2 : Hid (∀ k gk : Nat, k + gk = M → ¬ k < M → ((k : Int) < (L : Int) ∧ ¬ (k : Int) < 100) ∨ ¬ (k : Int) < (L : Int)) := fun k gk h h2 => by omega
  have HU := hid (And.intro hu hw5)
  have HM100 : Hid (M ≤ 100) := by show M ≤ 100; omega
  clear hW hb hG hl4 hI4 KN D3 HBK3 hA hbu hex hM
  go_wp2_with fail
  rw [← HU.out.1, ← HU.out.2]
  clear hu hw5 HU HI4 HBK4 HG4 HFG HGN
  go_loopg [17] M (fun gg x wx => ∃ k : Nat, k + gg = M ∧ x = .int .i64 k ∧ Hid (∃ d v F G f H, Ex2 w wx p r u (8 * k) k d v v F G f f H ∧ v.epoch = ep ∧ v.from_ = f0))
  case atStart => exact ⟨0, by omega, rfl, HEX.out⟩
  case round =>
    obtain ⟨k, hk, rfl, HS⟩ := hrel
    by_cases hlt : k < M
    · obtain ⟨hkL, hk100, hka, hkn⟩ := HK.out k hlt
      obtain ⟨d, v, Fd, Gd, f, Hd, hX, hep, hfro⟩ := HS.out
      have HX := hid hX; have HV := hid (And.intro hep hfro)
      obtain ⟨b, off, rfl, hb, hc⟩ := row_cell HAR.out (by intro e; have h := ex_at acts k 0 acts[k] (.int .i64 acts[k].1) (by simp [hka]) rfl; rw [e] at h; cases h)
      obtain ⟨⟨kd, K, kk, vv⟩, hx⟩ : ∃ x, x = acts[k] := ⟨_, rfl⟩
      have hxi : acts[k]? = some (kd, K, kk, vv) := by rw [hx]; simp [hka]
      have hbel := hX.room.lw.dev.bel
      have c0 := hc _ _ (ex_at acts k 0 _ (.int .i64 kd) hxi rfl)
      rw [← hbel.cell (p := ⟨b, off + (k * 4 + 0), none⟩) hb, ← Nat.add_assoc, Nat.add_zero] at c0
      have c1 := hc _ _ (ex_at acts k 1 _ (.int .i64 K) hxi rfl)
      rw [← hbel.cell (p := ⟨b, off + (k * 4 + 1), none⟩) hb, ← Nat.add_assoc] at c1
      have c2 := hc _ _ (ex_at acts k 2 _ (.string kk) hxi rfl)
      rw [← hbel.cell (p := ⟨b, off + (k * 4 + 2), none⟩) hb, show off + (k * 4 + 2) = off + k * 4 + 1 + 1 by omega] at c2
      have c3 := hc _ _ (ex_at acts k 3 _ (.string vv) hxi rfl)
      rw [← hbel.cell (p := ⟨b, off + (k * 4 + 3), none⟩) hb, show off + (k * 4 + 3) = off + k * 4 + 1 + 2 by omega] at c3
      have KC0 : Hid (∀ wx, Below w.heap.size w wx → wx.cell? ⟨b, off + k * 4, none⟩ = some (.int .i64 kd)) := fun wx hw => by
        have c0 := hc _ _ (ex_at acts k 0 _ (.int .i64 kd) hxi rfl)
        rw [← hw.cell (p := ⟨b, off + (k * 4 + 0), none⟩) hb, ← Nat.add_assoc, Nat.add_zero] at c0
        exact c0
      clear hX hep hfro hb hc hx hxi hka hbel HS
      have hA := below_alloc wr (.cells #[.int .i64 K, .string kk, .string vv] 39)
      have hbx := Blk.new wr #[.int .i64 K, .string kk, .string vv] 39
      obtain ⟨x, hx⟩ : ∃ x, x = wr.heap.size := ⟨_, rfl⟩
      obtain ⟨w6, hw6⟩ : ∃ w6, w6 = wr.alloc (.cells #[.int .i64 K, .string kk, .string vv] 39) := ⟨_, rfl⟩
      rw [← hx] at hbx
      rw [← hw6] at hA hbx
      have HX6 := hid (HX.out.below hA); have HBX := hid hbx
      have HXO : Hid (x ∉ Fd ∧ x ∉ Gd ∧ x ∉ Hd) := ⟨fun h => by have := HX.out.room.lw.dev.at_.sizes _ h; omega, fun h => by have := (HX.out.room.lw.wal.own _ h).2; omega, fun h => by have := (HX.out.rat.own _ h).2; omega⟩
      have HG6 := hid (And.intro hx hw6)
      have m1 : w6.cell? ⟨x, 1, none⟩ = some (.string kk) := hbx.at rfl
      have m2 : w6.cell? ⟨x, 2, none⟩ = some (.string vv) := hbx.at rfl
      clear hA hbx hx hw6
      go_upto_region 18 with fail
      rw [← HG6.out.1, ← HG6.out.2]
      clear c0 c1 c2 c3 HG6 HX
      by_cases l1 : (512 : Int) < (kk.size : Int)
      · go_wp2_with fail
        go_ret
        exact ⟨rfl, HX6.out.room.lw.dev.bel⟩
      by_cases l2 : (512 : Int) < (vv.size : Int)
      · go_wp2_with fail
        go_ret
        exact ⟨rfl, HX6.out.room.lw.dev.bel⟩
      have c0 := KC0.out w6 HX6.out.room.lw.dev.bel
      have hj150 : k ≤ 150 := by omega
      have q0 : w6.cell? ⟨x, 0, none⟩ = some (.int .i64 K) := HBX.out.at rfl
      have KM : Hid (∀ wx, Kept w6 wx → wx.cell? ⟨x, 0, none⟩ = some (.int .i64 K) ∧ wx.cell? ⟨x, 1, none⟩ = some (.string kk) ∧ wx.cell? ⟨x, 2, none⟩ = some (.string vv)) := fun wx hk => ⟨(HBX.out.belowS hk).at rfl, (HBX.out.belowS hk).at rfl, (HBX.out.belowS hk).at rfl⟩
      go_upto_block 2 with fail
      go_cut [19, 20, 21, 22, 23, 24, 25, 26] from 111 to 191 (fun _ _ _ _ _ _ _ _ wx => ∃ (d : Dv) (v : Wl) (F G : List Nat) (f : Nat → ByteArray) (H : List Nat), Ex2 w wx p r u (8 * (k + 1)) (k + 1) d v v F G f f H ∧ v.epoch = ep ∧ v.from_ = f0)
      case first =>
        by_cases k1 : kd = 1
        case pos =>
          subst k1
          go_upto_region 26 with fail
          have p0 : ∀ d os, (grow (redrawn w6 d) os).cell? ⟨x, 0, none⟩ = some (.int .i64 K) := fun d os => cell_regrown q0 d os
          have p1 : ∀ d os, (grow (redrawn w6 d) os).cell? ⟨x, 1, none⟩ = some (.string kk) := fun d os => cell_regrown m1 d os
          have p2 : ∀ d os, (grow (redrawn w6 d) os).cell? ⟨x, 2, none⟩ = some (.string vv) := fun d os => cell_regrown m2 d os
          obtain ⟨fb, hfb⟩ : ∃ fb, fb = v.fits (K, kk, vv) := ⟨_, rfl⟩
          have KF1 : Hid (∀ (d : Nat) (os : Array Obj), Calls Tryz.prog 9 #[.pointer (some ⟨r, 0, none⟩), .agg #[.int .i64 K, .string kk, .string vv]] (grow (redrawn w6 d) os) fun e w' => e = .returned (.bool fb) ∧ Below (grow (redrawn w6 d) os).heap.size (grow (redrawn w6 d) os) w') := fun d os => by
            rw [hfb]; exact (HX6.out.below (below_regrown w6 d os)).wFits (K, kk, vv)
          have KF2 : Hid (∀ (d : Nat) (os : Array Obj), Calls Tryz.prog 10 #[.pointer (some ⟨u, 0, none⟩), .agg #[.int .i64 K, .string kk, .string vv]] (grow (redrawn w6 d) os) fun e w' => e = .returned (.bool fb) ∧ Below (grow (redrawn w6 d) os).heap.size (grow (redrawn w6 d) os) w') := fun d os => by
            rw [hfb]; exact (HX6.out.below (below_regrown w6 d os)).uFits (K, kk, vv) (by omega)
          clear hfb
          refine wp_region_quiet_below (by kernel_rfl) (by kernel_rfl) ?_
          repeat (go_big_quiet_step (first
            | with_reducible exact Calls.regrown_of (KF1.out _ _)
            | with_reducible exact Calls.regrown_of (KF2.out _ _)))
          refine wpQuiet_nil ?_
          intro _ hw'
          obtain ⟨⟨dq, osq⟩, hw''⟩ := hw'
          subst hw''
          obtain ⟨w9, hw9⟩ : ∃ w9, w9 = grow (redrawn w6 dq) osq := ⟨_, rfl⟩
          have HN := hid (show ∃ d v F G f H, Ex2 w w9 p r u (8 * (k + 1)) (k + 1) d v v F G f f H ∧ v.epoch = ep ∧ v.from_ = f0 from ⟨_, _, _, _, _, _, (by rw [hw9]; exact (HX6.out.below (below_regrown w6 dq osq)).up (by omega) (by omega) (by omega)), HV.out⟩)
          rw [← hw9]
          clear hw9 p0 p1 p2 KF1 KF2 c0 q0 m1 m2 HX6
          go_wp2_with fail
          go_meet
          obtain ⟨d9, v9, F9, G9, f9, H9, h9⟩ := HN.out
          exact ⟨d9, v9, F9, G9, f9, H9, h9⟩
        case neg =>
          by_cases k23 : kd = 2 ∨ kd = 3
          case pos =>
            obtain ⟨ca, hca⟩ : ∃ ca, ca = (v.add (K, kk, vv)).2 := ⟨_, rfl⟩
            have hsm := add_same v (K, kk, vv)
            have HSM := hid (show (v.add (K, kk, vv)).1.epoch = ep ∧ (v.add (K, kk, vv)).1.from_ = f0 from ⟨hsm.1.trans HV.out.1, hsm.2.trans HV.out.2⟩)
            have KA1 : Hid (∀ W, Kept w6 W → Calls Tryz.prog 11 #[.pointer (some ⟨r, 0, none⟩), .agg #[.int .i64 K, .string kk, .string vv]] W fun e w' => e = .returned (.int .i64 ca) ∧ (∃ G', Ex2 w w' p r u (8 * k) (k + 1) d (v.add (K, kk, vv)).1 v Fd G' f f Hd) ∧ Blk w' x 39 [.int .i64 K, .string kk, .string vv]) := fun W hW => by
              rw [hca]
              refine ((HX6.out.below hW).wAdd (K, kk, vv) (by omega)).mono ?_
              rintro e w' ⟨rfl, G', h1, h2⟩
              exact ⟨rfl, ⟨G', h1⟩, (HBX.out.belowS hW).keeps h2 HXO.out.2.1⟩
            have KA2 : Hid (∀ W G', Ex2 w W p r u (8 * k) (k + 1) d (v.add (K, kk, vv)).1 v Fd G' f f Hd → Blk W x 39 [.int .i64 K, .string kk, .string vv] → Calls Tryz.prog 12 #[.pointer (some ⟨u, 0, none⟩), .agg #[.int .i64 K, .string kk, .string vv]] W fun e w' => e = .returned (.int .i64 ca) ∧ (∃ H', Ex2 w w' p r u (8 * k) (k + 2) d (v.add (K, kk, vv)).1 (v.add (K, kk, vv)).1 Fd G' f f H') ∧ Blk w' x 39 [.int .i64 K, .string kk, .string vv]) := fun W G' h1 hB => by
              rw [hca]
              refine (h1.uAdd (K, kk, vv) (by omega)).mono ?_
              rintro e w' ⟨rfl, H', h2, h3⟩
              exact ⟨rfl, ⟨H', h2⟩, hB.keeps h3 HXO.out.2.2⟩
            have KBX : Hid (∀ wx, Blk wx x 39 [.int .i64 K, .string kk, .string vv] → wx.cell? ⟨x, 0, none⟩ = some (.int .i64 K) ∧ wx.cell? ⟨x, 1, none⟩ = some (.string kk) ∧ wx.cell? ⟨x, 2, none⟩ = some (.string vv)) := fun wx h => ⟨h.at rfl, h.at rfl, h.at rfl⟩
            have PL : Hid ((v.add (K, kk, vv)).1.pend.length ≤ k + 1) := by
              show _ ≤ _
              have h1 := add_pl v (K, kk, vv)
              have h2 := HX6.out.pl1
              omega
            have hk0 : Kept w6 w6.drew := (Below.refl _ _).drew
            clear hca hsm
            rcases k23 with rfl | rfl
            all_goals
              go_upto_region 30 with fail
              go_region_held3 (fun wx => wx.cell? ⟨x, 0, none⟩ = some (.int .i64 K) ∧ wx.cell? ⟨x, 1, none⟩ = some (.string kk) ∧ wx.cell? ⟨x, 2, none⟩ = some (.string vv))
                ((first | assumption | (refine KBX.out _ ?_; first | exact HBX.out | exact HBX.out.drew | exact BX7.out | exact BX8.out)))
                (first
                  | (go_at_call 11; with_reducible refine (KA1.out _ hk0).mono ?_; rintro e w7 ⟨rfl, ⟨G7, h7⟩, hbx7⟩; have H7 := hid h7; have BX7 := hid hbx7; clear h7 hbx7)
                  | (go_at_call 12; with_reducible refine (KA2.out _ _ H7.out BX7.out).mono ?_; rintro e w9 ⟨rfl, ⟨H9, h9⟩, hbx9⟩; have H8 := hid h9; have BX8 := hid hbx9; clear h9 hbx9))
              have HN := hid (show ∃ d v F G f H, Ex2 w w9 p r u (8 * (k + 1)) (k + 1) d v v F G f f H ∧ v.epoch = ep ∧ v.from_ = f0 from ⟨_, _, _, _, _, _, ⟨(H8.out.up (c' := 8 * (k + 1)) (j' := k + 2) (by omega) (by omega) (by omega)).room, H8.out.dl, H8.out.rat, H8.out.ok2, H8.out.sF, H8.out.sG, PL.out, PL.out⟩, HSM.out⟩)
              clear H7 H8 BX7 BX8 KA1 KA2 KBX PL HSM hk0 c0 q0 m1 m2 HX6
              go_wp2_with fail
              go_meet
              obtain ⟨d9, v9, F9, G9, f9, H9, h9⟩ := HN.out
              exact ⟨d9, v9, F9, G9, f9, H9, h9⟩
          case neg =>
            have hk2 : ¬ kd = 2 := fun h => k23 (.inl h)
            have hk3 : ¬ kd = 3 := fun h => k23 (.inr h)
            by_cases k4 : kd = 4
            case pos =>
              subst k4
              obtain ⟨g', cap', rest', VP, hR6, _, _⟩ := HX6.out.rat.inn
              obtain ⟨PA, pcap, rfl, _⟩ := ownsRowF_row hR6.pend
              obtain ⟨PN, hPN⟩ : ∃ PN, PN = v.pend.length := ⟨_, rfl⟩
              have hb6 := hR6.box
              rw [← hPN] at hb6
              have HB6 := hid hb6; have HPN := hid hPN
              clear hR6 hb6 hPN
              have KC := hid (dev_Count w6 p d Fd HX6.out.room.lw.dev.at_)
              go_wp2_with fail
              refine KC.out.mono ?_; rintro e w7 ⟨rfl, hb⟩
              have HX7 := hid (HX6.out.below hb)
              have hA := below_alloc w7 (.cells #[.int .i64 d.rd, .int .i64 d.wr, .int .i64 d.fl] 46)
              have hby := Blk.new w7 #[.int .i64 d.rd, .int .i64 d.wr, .int .i64 d.fl] 46
              obtain ⟨y, hy⟩ : ∃ y, y = w7.heap.size := ⟨_, rfl⟩
              obtain ⟨w8, hw8⟩ : ∃ w8, w8 = w7.alloc (.cells #[.int .i64 d.rd, .int .i64 d.wr, .int .i64 d.fl] 46) := ⟨_, rfl⟩
              rw [← hy] at hby
              rw [← hw8] at hA hby
              have u4 : w8.cell? ⟨u, 4, none⟩ = some (.slice PA PN pcap) := ((HB6.out.belowS hb).belowS hA).at rfl
              have HX8 := hid (HX7.out.below hA)
              have HYO : Hid (y ∉ Fd ∧ y ∉ Gd ∧ y ∉ Hd) := ⟨fun h => by have := HX7.out.room.lw.dev.at_.sizes _ h; omega, fun h => by have := (HX7.out.room.lw.wal.own _ h).2; omega, fun h => by have := (HX7.out.rat.own _ h).2; omega⟩
              have HBY := hid hby
              have HY := hid (And.intro hy hw8)
              clear hb hA hby hy hw8 KC c0 q0 m1 m2 HX6 KM
              go_upto_region 34 with fail
              rw [← HY.out.1, ← HY.out.2]
              clear HX7 HB6 HY
              go_wp2_with fail
              refine (HX8.out.uSync (by omega)).mono ?_; rintro e wu ⟨rfl, H9, h9, hk9⟩
              have HX9 := hid h9
              have HBY9 := hid (HBY.out.keeps hk9 HYO.out.2.2)
              clear h9 hk9 HX8 HBY u4
              have KS : Hid (∀ W, Kept wu W → Calls Tryz.prog 15 #[.pointer (some ⟨r, 0, none⟩)] W fun e w' => e = .returned (.int .i64 0) ∧ (∃ F' G', Ex2 w w' p r u (8 * k) k (syncD v d) (syncV v) (syncV v) F' G' (putL f (stamps v v.texts v.texts.length)) (putL f (stamps v v.texts v.texts.length)) H9) ∧ Blk w' y 46 [.int .i64 d.rd, .int .i64 d.wr, .int .i64 d.fl]) := fun W hW => by
                refine ((HX9.out.below hW).wSync).mono ?_
                rintro e w' ⟨rfl, F', G', h1, h2⟩
                exact ⟨rfl, ⟨F', G', h1⟩, (HBY9.out.belowS hW).keeps h2 (fun hm => by rcases List.mem_append.1 hm with h | h; exact HYO.out.1 h; exact HYO.out.2.1 h)⟩
              have hss := sync_same v
              have HSM := hid (show (syncV v).epoch = ep ∧ (syncV v).from_ = f0 from ⟨hss.2.1.trans HV.out.1, hss.2.2.trans HV.out.2⟩)
              have hk0 : Kept wu wu.drew := (Below.refl _ _).drew
              by_cases hp : v.pend = []
              case pos =>
                have hPN0 : PN = 0 := by rw [HPN.out, hp]; rfl
                subst hPN0
                have hdd : syncD v d = d := by unfold syncD; rw [if_pos hp]
                have HDD := hid hdd
                clear hdd hss
                go_upto_region 36 with fail
                go_region_with (first
                  | (go_at_call 15; with_reducible refine (KS.out _ hk0).mono ?_; rintro e w10 ⟨rfl, ⟨F10, G10, h10⟩, hby⟩; have HX10 := hid h10; have y0 : w10.cell? ⟨y, 0, none⟩ = some (.int .i64 d.rd) := hby.at rfl; have y1 : w10.cell? ⟨y, 1, none⟩ = some (.int .i64 d.wr) := hby.at rfl; have y2 : w10.cell? ⟨y, 2, none⟩ = some (.int .i64 d.fl) := hby.at rfl; have KC2 := hid (dev_Count w10 p _ F10 h10.room.lw.dev.at_); rw [HDD.out] at KC2; have HBY10 := hid hby; clear h10 hby)
                  | (go_at_call 13; with_reducible refine KC2.out.mono ?_; rintro e w9 ⟨rfl, hb9_⟩; have HX9_ := hid (HX10.out.below hb9_); have y0 : w9.cell? ⟨y, 0, none⟩ = some (.int .i64 d.rd) := (HBY10.out.belowS hb9_).at rfl; have y1 : w9.cell? ⟨y, 1, none⟩ = some (.int .i64 d.wr) := (HBY10.out.belowS hb9_).at rfl; have y2 : w9.cell? ⟨y, 2, none⟩ = some (.int .i64 d.fl) := (HBY10.out.belowS hb9_).at rfl; clear hb9_))
                all_goals
                  have HN := hid (show ∃ d v F G f H, Ex2 w w9 p r u (8 * (k + 1)) (k + 1) d v v F G f f H ∧ v.epoch = ep ∧ v.from_ = f0 from ⟨_, _, _, _, _, _, HX9_.out.up (by omega) (by omega) (by omega), HSM.out⟩)
                  clear HX10 HX9_ HBY10 HDD KC2 y0 y1 y2 KS HSM hk0 HX9 HBY9
                  go_wp2_with fail
                  go_meet
                  obtain ⟨d9, v9, F9, G9, f9, H9, h9⟩ := HN.out
                  exact ⟨d9, v9, F9, G9, f9, H9, h9⟩
              case neg =>
                have hPN0 : ¬ PN = 0 := fun h => hp (List.length_eq_zero_iff.1 (by rw [← HPN.out]; exact h))
                have hPN1 : ((PN : Int) == 0) = false := by simpa using hPN0
                have hPN2 : decide ((PN : Int) = 0) = false := decide_eq_false (by omega)
                have hPN3 : decide (PN = 0) = false := decide_eq_false hPN0
                clear hss
                go_upto_region 36 with fail
                refine wp_region_any (by kernel_rfl) ?_
                refine wpAny_take (i := 0) (v := _) (fuel := 12) rfl (by kernel_rfl) (by kernel_rfl) (by kernel_rfl) (fun _ _ _ h => h) (Or.inl ⟨by rfl, fun w => rfl⟩) ?_
                refine wpAny_all (rs := [1]) (fuel := 11) (by kernel_rfl) (by simp) ?_
                intro ix hix
                obtain rfl : ix = 1 := by simpa using hix
                refine wpOp_step rfl (fun KK hKK => ?_)
                rw [if_pos (by rfl)]
                go_simp
                refine (KS.out _ hk0).mono ?_; rintro e w9 ⟨rfl, ⟨F10, G10, h10⟩, _⟩
                have HX10 := hid h10
                clear h10
                refine hKK _ _ ?_
                clear hKK KK
                refine wpAny_suffixX (C := fun wx => ∃ n, wx = w9.drewN n) 2 _ (by rfl) (by rfl) (by kernel_rfl) ⟨0, rfl⟩ (by kernel_rfl) ?_
                (try simp only [Act.put, List.setIfInBounds_toArray, List.set_cons_zero, List.set_cons_succ])
                (try simp only [List.drop_succ_cons, List.drop_zero])
                repeat (go_big_quiet_step (fail))
                refine wpQuiet_nil ?_
                intro _ hw'
                obtain ⟨nq, hw''⟩ := hw'
                subst hw''
                have HN := hid (show ∃ d v F G f H, Ex2 w (w9.drewN nq) p r u (8 * (k + 1)) (k + 1) d v v F G f f H ∧ v.epoch = ep ∧ v.from_ = f0 from ⟨_, _, _, _, _, _, (HX10.out.below (bdn (Below.refl _ _) nq)).up (by omega) (by omega) (by omega), HSM.out⟩)
                clear HX10 KS HSM hk0 HX9 HBY9
                go_wp2_with fail
                go_meet
                obtain ⟨d9, v9, F9, G9, f9, H9, h9⟩ := HN.out
                exact ⟨d9, v9, F9, G9, f9, H9, h9⟩
            case neg =>
              obtain ⟨l0, n0, cc0, hX0⟩ : ∃ l n c, scanV (rdOf d (Wl.new ep f0)) = (l, n, c) := ⟨_, _, _, rfl⟩
              have hl0 : l0.length ≤ 576 := by have := scanV_len ep f0 d; rw [hX0] at this; exact this
              have ks := HX6.out.scan ep f0 HE.out.1 HE.out.2.1 HE.out.2.2 (by omega)
              have hsame := scan_same HX6.out.dl ep f0
              rw [hX0] at ks hsame
              have KS := hid ks; have HSAME := hid hsame
              have DLF := hid HX6.out.dl
              clear ks hsame hX0
              go_wp2_with fail
              refine KS.out.mono ?_; rintro e w7 ⟨A7, cap7, l7, n7, c7, hlc, rfl, hr7, h7⟩
              simp only [Prod.mk.injEq] at hlc
              obtain ⟨rfl, rfl, rfl⟩ := hlc
              obtain ⟨g', cap', rest', VP, hR, _, _⟩ := h7.rat.inn
              have u0 : w7.cell? ⟨u, 0, none⟩ = some (.slice (some ⟨g', 0, none⟩) 8 cap') := hR.box.at rfl
              have kr := r23_Scan (some ⟨g', 0, none⟩) cap' (logL f) (logL_len f) (logL_sizes DLF.out) ep f0 HE.out.2.2 w7 (blk_row hR.blocks)
              rw [HSAME.out] at kr
              have KR := hid kr; have HR7 := hid hr7; have H7 := hid h7
              clear kr hR hr7 h7 c0 KS HX6 q0 m1 m2 KM
              go_wp2_with fail
              refine KR.out.mono ?_; rintro e w8 ⟨A8, cap8, l8, n8, c8, hlc, rfl, hr8, hb8⟩
              simp only [Prod.mk.injEq] at hlc
              obtain ⟨rfl, rfl, rfl⟩ := hlc
              have HSM := hid (same10 A7 A8 cap7 cap8 l8 (by omega) w8 (HR7.out.below hb8) hr8)
              have H8 := hid (H7.out.below hb8)
              clear hr8 hb8 H7 HR7 KR u0
              go_wp2_with fail
              refine HSM.out.mono ?_; rintro e w9 ⟨rfl, hb9⟩
              have HN := hid (show ∃ d v F G f H, Ex2 w w9 p r u (8 * (k + 1)) (k + 1) d v v F G f f H ∧ v.epoch = ep ∧ v.from_ = f0 from ⟨_, _, _, _, _, _, (H8.out.below hb9).up (by omega) (by omega) (by omega), HV.out⟩)
              clear hb9 H8 HSM hl0
              go_wp2_with fail
              go_meet
              obtain ⟨d9, v9, F9, G9, f9, H9, h9⟩ := HN.out
              exact ⟨d9, v9, F9, G9, f9, H9, h9⟩
      case rest =>
        obtain ⟨d9, v9, F9, G9, f9, H9, hX9, hep9, hfr9⟩ := hcut
        as_aux_lemma =>
          have HX9 := hid hX9
          have HEF := hid (And.intro hep9 hfr9)
          obtain ⟨g9, cap9, rest9, VP9, hR9, _, _⟩ := hX9.rat.inn
          obtain ⟨PA9, pcap9, rfl, hpr9⟩ := ownsRowF_row hR9.pend
          obtain ⟨PN9, hPN9⟩ : ∃ n, n = v9.pend.length := ⟨_, rfl⟩
          obtain ⟨U9, hU9⟩ : ∃ n, n = v9.used := ⟨_, rfl⟩
          obtain ⟨s9, hs9⟩ : ∃ n, n = f0 + U9 := ⟨_, rfl⟩
          obtain ⟨q9, hq9⟩ : ∃ n, n = s9 % 8 := ⟨_, rfl⟩
          have hU8 : U9 ≤ 8 := by have := hX9.ok2.fit; omega
          have e1 : IntKind.i64.wrap ((f0 : Int) + (U9 : Int)) = (s9 : Int) := by rw [IntKind.wrap_i64]; have := HE.out; omega
          have e2 : (s9 : Int).tmod 8 = (q9 : Int) := by rw [hq9]; exact (Int.ofNat_tmod s9 8).symm
          have hbx9 := hR9.box
          rw [← hPN9, ← hU9] at hbx9
          have hPL9 : PN9 ≤ 101 := by have := hX9.pl2; omega
          have KB9 : Hid (∀ wx, Kept wc wx → wx.cell? ⟨u, 0, none⟩ = some (.slice (some ⟨g9, 0, none⟩) 8 cap9) ∧ wx.cell? ⟨u, 3, none⟩ = some (.int .i64 U9) ∧ wx.cell? ⟨u, 4, none⟩ = some (.slice PA9 PN9 pcap9) ∧ Kept wc wx) := fun wx hk => ⟨(hbx9.belowS hk).at rfl, (hbx9.belowS hk).at rfl, (hbx9.belowS hk).at rfl, hk⟩
          have KP9 : Hid (∀ W, Kept wc W → Calls Tryz.prog 18 #[.pointer (some ⟨r, 0, none⟩)] W fun e w' => ∃ A cap, e = .returned (.slice A PN9 cap) ∧ Row w' A (v9.pend.flatMap msgCells) ∧ Below W.heap.size W w') := fun W hW => by
            refine (hX9.below hW).room.pending.mono ?_
            rintro e w' ⟨A, cap, rfl, ho, hb, _⟩
            have h1 := own_rowW ho
            rw [← hPN9]
            exact ⟨A, cap, rfl, h1, hb⟩
          have KS9 : Hid (∀ W A cap, Kept wc W → Row W A (v9.pend.flatMap msgCells) → Calls Tryz.prog 17 #[.slice A PN9 cap, .slice PA9 PN9 pcap9] W fun e w' => e = .returned (.bool true) ∧ Below W.heap.size W w') := fun W A cap hW hr => by
            have h1 := same10 A PA9 cap pcap9 v9.pend (by omega) W hr (hpr9.below hW)
            rw [← hPN9] at h1
            exact h1
          have KU9 : Hid (∀ W, Kept wc W → Calls Tryz.prog 19 #[.pointer (some ⟨r, 0, none⟩)] W fun e w' => e = .returned (.int .i64 U9) ∧ W = w') := fun W hW => by rw [hU9]; exact (hX9.below hW).room.used
          have KN9 : Hid (∀ W, Kept wc W → Calls Tryz.prog 20 #[.pointer (some ⟨r, 0, none⟩)] W fun e w' => e = .returned (.int .i64 q9) ∧ Below W.heap.size W w') := fun W hW => by
            have h1 := (hX9.below hW).room.next
            rw [hfr9, ← hU9, ← hs9, ← hq9] at h1
            exact h1
          have KL9 : Hid (∀ W, Kept wc W → Calls Tryz.prog 22 #[.pointer (some ⟨p, 0, none⟩)] W fun e w' => ∃ A cap, e = .returned (.slice A 8 cap) ∧ Row w' A (strs (logL f9)) ∧ Below W.heap.size W w') := fun W hW => by
            refine (law23_log (hX9.below hW).room.lw.dev.at_ hX9.dl).mono ?_
            rintro e w' ⟨V, rfl, ho, _, hb⟩
            obtain ⟨A, cap, rfl, hr⟩ := ownsRowF_row ho
            exact ⟨A, cap, rfl, hr, hb⟩
          have hblk9 := hR9.blocks
          have KA9 : Hid (∀ W A cap, Kept wc W → Row W A (strs (logL f9)) → Calls Tryz.prog 21 #[.slice A 8 cap, .slice (some ⟨g9, 0, none⟩) 8 cap9] W fun e w' => e = .returned (.bool true) ∧ Below W.heap.size W w') := fun W A cap hW hr => by
            have h1 := law23_same A (some ⟨g9, 0, none⟩) cap cap9 (logL f9) (by rw [logL_len]; decide) W hr ((blk_row hblk9).below hW)
            rw [logL_len] at h1
            exact h1
          have KO9 : Hid (∀ W, Kept wc W → Calls Tryz.prog 23 #[.pointer (some ⟨p, 0, none⟩)] W fun e w' => e = .returned (.int .i64 0) ∧ Below W.heap.size W w') := fun W hW => by
            have h1 := dev_Loose W p d9 F9 (hX9.below hW).room.lw.dev.at_ (by rw [hX9.dl.loose]; exact Nat.zero_le _)
            rw [hX9.dl.loose] at h1
            exact h1
          have hk0 : Kept wc wc.drew := (Below.refl _ _).drew
          clear hX9 hep9 hfr9 hR9 hpr9 hPN9 hU9 hs9 hq9 hbx9 hblk9
          go_upto_region 38 with fail
          go_region_held3 (fun wx => wx.cell? ⟨u, 0, none⟩ = some (.slice (some ⟨g9, 0, none⟩) 8 cap9) ∧ wx.cell? ⟨u, 3, none⟩ = some (.int .i64 U9) ∧ wx.cell? ⟨u, 4, none⟩ = some (.slice PA9 PN9 pcap9) ∧ Kept wc wx)
            ((first | assumption | (refine KB9.out _ ?_; first | exact hk0 | exact hka | exact hkb | exact hkd | exact hke | exact hkf | exact hkg | exact Below.refl _ _)))
            (first
              | (go_at_call 18; with_reducible refine (KP9.out _ hk0).mono ?_; rintro e wa ⟨A1, cap1, rfl, hra, hb_⟩; have hka := Kept.go hk0 hb_; have HRA := hid hra; clear hb_ hra)
              | (go_at_call 17; with_reducible refine (KS9.out _ _ _ hka HRA.out).mono ?_; rintro e wb ⟨rfl, hb_⟩; have hkb := Kept.go hka hb_; clear hb_)
              | (go_at_call 19; with_reducible refine (KU9.out _ hkb).mono ?_; rintro e wc ⟨rfl, rfl⟩)
              | (go_at_call 20; with_reducible refine (KN9.out _ hkb).mono ?_; rintro e wd ⟨rfl, hb_⟩; have hkd := Kept.go hkb hb_; clear hb_)
              | (go_at_call 22; with_reducible refine (KL9.out _ hkd).mono ?_; rintro e we ⟨A2, cap2, rfl, hre, hb_⟩; have hke := Kept.go hkd hb_; have HRE := hid hre; clear hb_ hre)
              | (go_at_call 21; with_reducible refine (KA9.out _ _ _ hke HRE.out).mono ?_; rintro e wf ⟨rfl, hb_⟩; have hkf := Kept.go hke hb_; clear hb_)
              | (go_at_call 23; with_reducible refine (KO9.out _ hkf).mono ?_; rintro e wg ⟨rfl, hb_⟩; have hkg := Kept.go hkf hb_; clear hb_))
          go_wp2_with fail
          go_roundg (M - (k + 1))
          case measure => omega
          case rel => exact ⟨k + 1, by omega, by go_num, d9, v9, F9, G9, f9, H9, HX9.out.below hkg, HEF.out⟩
    · have hout := HK2.out k _ hk hlt
      obtain ⟨d, v, Fd, Gd, f, Hd, hX, _, _⟩ := HS.out
      have hkM : k ≤ 100 := by have := HM100.out; omega
      have hcnt := hX.room.count
      have hfit := hX.room.ok.fit
      have KW := hid (wal_Wipe hX.room.lw.dev hX.room.fuse hX.room.on (by omega))
      have DLW := hid hX.dl.wipe
      have HD0 := hid hX.room.lw.dev
      have hwl := logL_wiped f
      have HWL := hid hwl
      clear hX hkM hcnt hfit hwl HS hk hlt
      rcases hout with ⟨o1, o2⟩ | o1
      all_goals
        go_wp2_with fail
        refine KW.out.mono ?_; rintro e w6 ⟨rfl, F6, hD6, _, _⟩
        have HD6 := hid hD6
        clear hD6 KW HD0
        go_wp2_with fail
        have kl := law23_log HD6.out.at_ DLW.out
        rw [HWL.out] at kl
        refine kl.mono ?_
        clear kl
        rintro e w7 ⟨V7, rfl, ho7, _, hb7⟩
        obtain ⟨A7, cap7, rfl, hr7⟩ := ownsRowF_row ho7
        have HD7 := hid (HD6.out.below hb7); have HR7 := hid hr7
        clear ho7 hb7 hr7 HD6
        go_wp2_with fail
        refine (law23_blocks none 0 [] _ (.inl rfl)).mono ?_; rintro e w8 ⟨V8, rfl, ho8, _, hb8⟩
        obtain ⟨g8, cap8, rest8, rfl, hbk8, _⟩ := ownsRow_blk ho8 (by decide)
        have HD8 := hid (HD7.out.below hb8)
        have ks := law23_same A7 (some ⟨g8, 0, none⟩) cap7 cap8 (blkL8 [] 8) (by rw [blkL8_len]; decide) w8 (HR7.out.below hb8) (blk_row hbk8)
        rw [blkL8_len] at ks
        have KS := hid ks
        clear ho8 hb8 hbk8 ks HD7 HR7
        go_wp2_with fail
        refine KS.out.mono ?_; rintro e w9 ⟨rfl, hb9⟩
        have HD9 := hid (HD8.out.below hb9)
        clear hb9 KS HD8
        have kz := dev_Loose w9 p (wipeD d) F6 HD9.out.at_ (Nat.zero_le _)
        have KZ := hid kz
        clear kz
        go_wp2_with fail
        refine KZ.out.mono ?_; rintro e w10 ⟨rfl, hb10⟩
        have HB10 := hid (HD9.out.below hb10).bel
        clear hb10 KZ HD9
        go_wp2_with fail
        go_ret
        exact ⟨rfl, HB10.out⟩
end Go.Proofs.YtcklgaenedlbiaaGreat
