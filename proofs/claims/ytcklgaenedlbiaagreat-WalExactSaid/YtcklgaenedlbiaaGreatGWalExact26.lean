/-
  A log of layer 23: a block of it is read.
  A log of layer 23: scanned.
-/
import Derived.Test.YtcklgaenedlbiaaGreatGWalExact25

namespace Go.Proofs.YtcklgaenedlbiaaGreat
open Go.RowKit Go.Sort

/-- what a block of the log has -/
def readW (e : Int) (k : Nat) (b : ByteArray) : List Msg3 × Int :=
  if (readV b).2.2.2 ≠ 0 then ([], 0) else if e < (readV b).1 then ([], 5) else if (readV b).1 ≠ e ∨ (readV b).2.1 ≠ (k : Int) then ([], 0) else ((parseR (readV b).2.2.1).getD [], 0)

set_option maxHeartbeats 16000000 in
set_option maxRecDepth 100000 in
theorem wal_read {w0 w : World} {p r : Nat} {d : Dv} {v : Wl} {F G : List Nat} (h : LW w0 w p r d v F G) (hv : WlOk v) (k : Nat) (hk : k ≤ 1000) (ho : d.off = false) (hroom : d.loose.length + d.rd + d.wr + d.fl ≤ 990) :
    Calls Tryz.prog 31 #[.pointer (some ⟨r, 0, none⟩), .int .i64 k] w fun e w' => ∃ A cap l c, (l, c) = readW v.epoch k (d.read (v.at_ k)) ∧ e = .returned (.tuple #[.slice A l.length cap, .int .i64 c]) ∧ l.length ≤ cap ∧ Row w' A (l.flatMap msgCells) ∧ LW w0 w' p r { d with rd := d.rd + 1 } v F G ∧ Keeps F w w' := by
  have H := hid h; have HV := hid hv
  obtain ⟨aq, haq⟩ : ∃ aq, aq = v.at_ k := ⟨_, rfl⟩
  have haq64 : aq < 64 := by rw [haq]; exact Wl.at_lt hv k
  obtain ⟨b, hb⟩ : ∃ b, b = d.read aq := ⟨_, rfl⟩
  have q0 : w.cell? ⟨r, 0, none⟩ = some (.pointer (some ⟨p, 0, none⟩)) := h.c0
  have KA : Hid (∀ W, Below w.drew.heap.size w.drew W → Calls Tryz.prog 40 #[.pointer (some ⟨r, 0, none⟩), .int .i64 k] W fun e w' => e = .returned (.int .i64 aq) ∧ Below W.heap.size W w') := fun W hW => by
    obtain ⟨P, hi, _⟩ := (H.out.below (bd (Below.refl _ w) hW)).wal.inn
    rw [haq]
    exact wal_at hi k (by rw [HV.out.size]; decide) (by rw [HV.out.size]; decide) (by have := HV.out.from_; omega) (by omega)
  have KR : Hid (∀ W, Below w.drew.heap.size w.drew W → Calls Tryz.prog 47 #[.pointer (some ⟨p, 0, none⟩), .int .i64 aq] W fun e w' => e = .returned (.tuple #[.string b, .int .i64 0]) ∧ LW w0 w' p r { d with rd := d.rd + 1 } v F G ∧ Keeps F w w') := fun W hW => by
    have hb2 := bd (Below.refl _ w) hW
    have h1 := H.out.below hb2
    refine (dv_Read h1.dev aq haq64 ho hroom).mono ?_
    rintro e w' ⟨rfl, k1, k2⟩
    exact ⟨by rw [hb], h1.dev0 k1 k2, (Keeps.of hb2).trans k2⟩
  have KQ : Hid (∀ W, Below w.drew.heap.size w.drew W → W.cell? ⟨r, 0, none⟩ = some (.pointer (some ⟨p, 0, none⟩))) := fun W hW => (H.out.below (bd (Below.refl _ w) hW)).c0
  have hb0 : Below w.drew.heap.size w.drew w.drew := Below.refl _ _
  rw [← haq, ← hb]
  have KS := hid (slab_Read b)
  obtain ⟨e1, he1⟩ : ∃ e1, e1 = (readV b).1 := ⟨_, rfl⟩
  obtain ⟨s1, hs1⟩ : ∃ s1, s1 = (readV b).2.1 := ⟨_, rfl⟩
  obtain ⟨t1, ht1⟩ : ∃ t1, t1 = (readV b).2.2.1 := ⟨_, rfl⟩
  obtain ⟨c1, hc1⟩ : ∃ c1, c1 = (readV b).2.2.2 := ⟨_, rfl⟩
  unfold readW
  rw [← he1, ← hs1, ← ht1, ← hc1] at KS ⊢
  obtain ⟨X, hX⟩ : ∃ X, X = (if c1 ≠ 0 then (([], 0) : List Msg3 × Int) else if v.epoch < e1 then ([], 5) else if e1 ≠ v.epoch ∨ s1 ≠ (k : Int) then ([], 0) else ((parseR t1).getD [], 0)) := ⟨_, rfl⟩
  rw [← hX]
  have HX := hid hX
  clear h hv haq haq64 hb he1 hs1 ht1 hc1 ho hroom hX
  go_enter Tryz.func31, Tryz.ntmps31
  go_wp2_with fail
  go_region_held3 (fun wx => wx.cell? ⟨r, 0, none⟩ = some (.pointer (some ⟨p, 0, none⟩)))
    ((first | assumption | exact q0 | exact hq7 | exact hq8))
    (first
      | (go_at_call 40; with_reducible refine (KA.out _ hb0).mono ?_; rintro e w7 ⟨rfl, hb_⟩; have hq7 := KQ.out _ hb_; have hb7 := hb_; clear hb_)
      | (go_at_call 47; with_reducible refine (KR.out _ hb7).mono ?_; rintro e w8 ⟨rfl, hl8, hk8⟩; have hq8 := hl8.c0; have H8 := hid (And.intro hl8 hk8); clear hl8 hk8))
  clear hq7 hq8 hb7 hb0 q0 KQ KA KR
  go_wp2_with fail
  refine (KS.out _).mono ?_; rintro e w9 ⟨rfl, hb9⟩
  have H9 := hid (And.intro (H8.out.1.below hb9) (H8.out.2.trans (Keeps.of hb9)))
  clear hb9 H8 KS
  have q2 : w9.cell? ⟨r, 2, none⟩ = some (.int .i64 v.epoch) := H9.out.1.c2
  by_cases h1 : c1 = 0
  case neg =>
    have hx := HX.out
    rw [if_pos h1] at hx
    have HX2 := hid hx
    clear hx
    have h1' : (c1 == 0) = false := by simpa using h1
    go_wp2_with fail
    go_ret2
    exact ⟨none, 0, [], 0, HX2.out.symm, rfl, Nat.le_refl _, .inl rfl, H9.out⟩
  subst h1
  by_cases h2 : v.epoch < e1
  · have hx := HX.out
    rw [if_neg (by simp), if_pos h2] at hx
    have HX2 := hid hx
    clear hx
    go_wp2_with fail
    go_ret2
    exact ⟨none, 0, [], 5, HX2.out.symm, rfl, Nat.le_refl _, .inl rfl, H9.out⟩
  have h2' : decide (v.epoch < e1) = false := decide_eq_false h2
  by_cases h3 : e1 = v.epoch
  case neg =>
    have hx := HX.out
    rw [if_neg (by simp), if_neg h2, if_pos (Or.inl h3)] at hx
    have HX2 := hid hx
    clear hx
    have h3' : (e1 == v.epoch) = false := by simpa using h3
    go_wp2_with fail
    go_ret2
    exact ⟨none, 0, [], 0, HX2.out.symm, rfl, Nat.le_refl _, .inl rfl, H9.out⟩
  subst h3
  by_cases h4 : s1 = (k : Int)
  case neg =>
    have hx := HX.out
    rw [if_neg (by simp), if_neg h2, if_pos (Or.inr h4)] at hx
    have HX2 := hid hx
    clear hx
    have h4' : (s1 == (k : Int)) = false := by simpa using h4
    go_wp2_with fail
    go_ret2
    exact ⟨none, 0, [], 0, HX2.out.symm, rfl, Nat.le_refl _, .inl rfl, H9.out⟩
  subst h4
  have hx := HX.out
  rw [if_neg (by simp), if_neg h2, if_neg (by simp)] at hx
  have HX2 := hid hx
  clear hx
  go_wp2_with fail
  refine (rec_Parse_any t1 _).mono ?_; rintro e w10 ⟨g1, g2, hb10⟩
  have H10 := hid (And.intro (H9.out.1.below hb10) (H9.out.2.trans (Keeps.of hb10)))
  cases hp : parseR t1 with
  | none =>
    replace HX2 : Hid (X = ([], 0)) := by rw [HX2.out, hp]; rfl
    obtain rfl := g1 hp
    clear g1 g2 hb10 hp
    go_wp2_with fail
    go_ret2
    exact ⟨none, 0, [], 0, HX2.out.symm, rfl, Nat.le_refl _, .inl rfl, H10.out⟩
  | some l =>
    replace HX2 : Hid (X = (l, 0)) := by rw [HX2.out, hp]; rfl
    obtain ⟨A, cap, rfl, hlc, hr⟩ := g2 l hp
    have HR := hid (And.intro hlc hr)
    clear g1 g2 hb10 hp hlc hr
    go_wp2_with fail
    go_ret2
    exact ⟨A, cap, l, 0, HX2.out.symm, rfl, HR.out.1, HR.out.2, H10.out⟩
end Go.Proofs.YtcklgaenedlbiaaGreat

namespace Go.Proofs.YtcklgaenedlbiaaGreat
open Go.RowKit Go.Sort

/-- of the first n blocks: how many are the log's, what they have, whether one is a later log's -/
def scanN (rd : Nat → List Msg3 × Int) : Nat → Nat × List Msg3 × Bool
  | 0 => (0, [], false)
  | n + 1 => (if (scanN rd n).1 = n ∧ (rd n).1 ≠ [] then (scanN rd n).1 + 1 else (scanN rd n).1, if (scanN rd n).1 = n ∧ (rd n).1 ≠ [] then (scanN rd n).2.1 ++ (rd n).1 else (scanN rd n).2.1, (scanN rd n).2.2 || decide ((rd n).2 = 5))
def scanV (rd : Nat → List Msg3 × Int) : List Msg3 × Nat × Int := if (scanN rd 8).2.2 = true then ([], 0, 5) else ((scanN rd 8).2.1, (scanN rd 8).1, 0)
def rdOf (d : Dv) (v : Wl) (k : Nat) : List Msg3 × Int := readW v.epoch k (d.read (v.at_ k))
theorem scanN_le (rd : Nat → List Msg3 × Int) : ∀ n, (scanN rd n).1 ≤ n
  | 0 => Nat.le_refl _
  | n + 1 => by
    have := scanN_le rd n
    simp only [scanN]
    split <;> omega
theorem readW_code (e : Int) (k : Nat) (b : ByteArray) : (readW e k b).2 = 0 ∨ ((readW e k b).2 = 5 ∧ (readW e k b).1 = []) := by
  unfold readW
  split
  · exact .inl rfl
  · split
    · exact .inr ⟨rfl, rfl⟩
    · split
      · exact .inl rfl
      · exact .inl rfl
theorem parseR_len {s : ByteArray} {l : List Msg3} (h : parseR s = some l) : l.length ≤ 72 := by
  obtain ⟨_, _, _, h1⟩ := parseR_inv h
  have := sw_ge l
  omega
theorem readW_len (e : Int) (k : Nat) (b : ByteArray) : (readW e k b).1.length ≤ 72 := by
  unfold readW
  split
  · simp
  · split
    · simp
    · split
      · simp
      · show ((parseR _).getD []).length ≤ 72
        cases h : parseR (readV b).2.2.1 with
        | none => simp
        | some l => exact parseR_len h
theorem scanN_len (rd : Nat → List Msg3 × Int) (h : ∀ k, (rd k).1.length ≤ 72) : ∀ n, (scanN rd n).2.1.length ≤ 72 * n
  | 0 => Nat.le_refl _
  | n + 1 => by
    have h1 := scanN_len rd h n
    have h2 := h n
    simp only [scanN]
    split
    · rw [List.length_append]; omega
    · omega

/-- what is written lies beside them -/
theorem LW.other {w0 w w' : World} {p r : Nat} {d : Dv} {v : Wl} {F G X : List Nat} (h : LW w0 w p r d v F G) (hk : Keeps X w w') (h0 : ∀ k, k ∈ X → w0.heap.size ≤ k) (hF : ∀ k, k ∈ F → k ∉ X) (hG : ∀ k, k ∈ G → k ∉ X) : LW w0 w' p r d v F G :=
  ⟨h.dev.keeps hk h0 hF, h.wal.keeps hk hG, h.sep⟩
/-- a row of messages lies in no log's box -/
theorem row_box {w : World} {A : Option Addr} {l : List Msg3} {r p : Nat} {v : Wl} {P u : Value} {i : Nat} (hr : Row w A (l.flatMap msgCells)) (hl : l ≠ []) (hi : WlIn w r p v P) : Row (w.setCell ⟨r, i, none⟩ u) A (l.flatMap msgCells) := by
  obtain ⟨⟨K, kk, vv⟩, l', rfl⟩ := List.exists_cons_of_ne_nil hl
  obtain ⟨b, off, rfl, hb, hc⟩ := row_cell hr (by simp [msgCells])
  have hbr : b ≠ r := by
    rintro rfl
    have h1 := hc 1 (.string kk) (by simp [msgCells])
    have h2 := hc 2 (.string vv) (by simp [msgCells])
    rw [hi.box.cell] at h1 h2
    obtain ⟨PA, pc, rfl, _⟩ := ownsRowF_row hi.pend
    have h3 : ∀ (j : Nat) (s : ByteArray), (wlCells p v (.slice PA v.pend.length pc))[j]? ≠ some (Value.string s) := by
      intro j s
      unfold wlCells
      rcases j with _ | _ | _ | _ | _ | _ | j <;> simp
    exact h3 _ _ h1
  have hk := keeps_setCell w ⟨r, i, none⟩ u
  refine .inr ⟨b, off, rfl, Nat.lt_of_lt_of_le hb hk.size, fun j x hx => ?_⟩
  rw [hk.cell hb (by simp; exact hbr)]
  exact hc j x hx

set_option maxHeartbeats 16000000 in
set_option maxRecDepth 100000 in
theorem wal_Scan {w0 w : World} {p : Nat} {d : Dv} {F : List Nat} (h : Dev w0 w p 64 d F) (e : Int) (f : Nat) (h1 : 1 ≤ e) (h2 : e ≤ 2147483647) (hf : f < 8) (ho : d.off = false) (hroom : d.loose.length + d.rd + d.wr + d.fl ≤ 970) :
    Calls Tryz.prog 8 #[.pointer (some ⟨p, 0, none⟩), .int .i64 e, .int .i64 f] w fun e' w' => ∃ A cap l n c, (l, n, c) = scanV (rdOf d (Wl.new e f)) ∧ e' = .returned (.tuple #[.slice A l.length cap, .int .i64 (n : Nat), .int .i64 c]) ∧ w'.ownsRowF 0 39 3 (.slice A l.length cap) l.length (l.flatMap msgCells) ∧ (∀ k, (Value.slice A l.length cap).ownBlock = some k → w.heap.size ≤ k) ∧ Dev w0 w' p 64 { d with rd := d.rd + 8 } F ∧ Keeps F w w' := by
  obtain ⟨i0, hi0, hz0, hz1, hz2⟩ := info_parts info_msg
  have HI0 := hid hi0; have HZ0 := hid hz0; have HZ1 := hid hz1; have HZ2 := hid hz2
  have HN := hid (wal_New_yes h e f h1 h2 hf)
  have H := hid h; have HE := hid (And.intro h1 (And.intro h2 (And.intro hf (And.intro ho hroom))))
  obtain ⟨rd, hrd⟩ : ∃ rd, rd = rdOf d (Wl.new e f) := ⟨_, rfl⟩
  have hcode : ∀ k, (rd k).2 = 0 ∨ ((rd k).2 = 5 ∧ (rd k).1 = []) := fun k => by rw [hrd]; exact readW_code _ _ _
  have hlen : ∀ n, (scanN rd n).2.1.length ≤ 72 * n := scanN_len rd (fun k => by rw [hrd]; exact readW_len _ _ _)
  rw [← hrd]
  obtain ⟨X, hX⟩ : ∃ X, X = scanV rd := ⟨_, rfl⟩
  rw [← hX]
  have HX := hid hX
  clear hX
  have hrl : ∀ k, (rd k).1.length ≤ 72 := fun k => by rw [hrd]; exact readW_len _ _ _
  have HRD := hid hrd; have HCODE := hid hcode; have HLEN := hid hlen; have HRL := hid hrl
  clear hi0 hz0 hz1 hz2 h h1 h2 hf ho hroom hrd hcode hlen hrl
  go_enter Tryz.func8, Tryz.ntmps8
  go_wp2_with fail
  refine HN.out.mono ?_; rintro e1 w1 ⟨r, G, rfl, hW, hb1, hG⟩
  have hl0 : LW w0 w1 p r d (Wl.new e f) F G := ⟨H.out.below hb1, hW, fun k hk hg => by have := H.out.at_.sizes k hk; have := hG k hg; omega⟩
  have q1 : w1.cell? ⟨r, 1, none⟩ = some (.int .i64 8) := by obtain ⟨P, hi, _⟩ := hW.inn; exact hi.box.at rfl
  have HL0 := hid (And.intro hl0 (And.intro (Keeps.of (F := F) hb1) hG))
  have HGN := hid hG
  clear hW hb1 hG hl0 HN
  go_wp2_with fail
  clear q1
  go_loopg [30, 11, 12] 8 (fun g j o lt wx => ∃ (i : Nat) (ov : Value) (cv : Int), i + g = 8 ∧ j = .int .i64 i ∧ ov = o ∧ lt = .int .i64 cv ∧ Hid (cv = if (scanN rd i).2.2 = true then 5 else 0) ∧ Hid (LW w0 wx p r { d with rd := d.rd + i } { Wl.new e f with used := (scanN rd i).1 } F G ∧ Keeps F w wx ∧
    wx.ownsRowF 0 39 3 ov (scanN rd i).2.1.length ((scanN rd i).2.1.flatMap msgCells) ∧ ∀ k, ov.ownBlock = some k → w.heap.size ≤ k ∧ k ∉ F ∧ k ∉ G))
  case atStart => exact ⟨0, _, 0, by omega, rfl, rfl, rfl, rfl, HL0.out.1, HL0.out.2.1, World.ownsRowF_nil _ _ _ _, fun k hk => by cases hk⟩
  case round =>
    obtain ⟨i, o, cv, hi, rfl, rfl, rfl, HCV, HI⟩ := hrel
    by_cases hlt : i < 8
    · have hlt' : (i : Int) < 8 := by omega
      have hvok : WlOk { Wl.new e f with used := (scanN rd i).1 } := ⟨rfl, HE.out.2.2.1, HE.out.1, HE.out.2.1, by simp [Wl.new], by simp [Wl.new], by show (scanN rd i).1 + 0 ≤ 8; have := scanN_le rd i; omega⟩
      have HR := hid (wal_read HI.out.1 hvok i (by omega) HE.out.2.2.2.1 (by have := HE.out.2.2.2.2; show d.loose.length + (d.rd + i) + d.wr + d.fl ≤ 990; omega))
      have hrdi : readW ({ Wl.new e f with used := (scanN rd i).1 } : Wl).epoch i (({ d with rd := d.rd + i } : Dv).read (({ Wl.new e f with used := (scanN rd i).1 } : Wl).at_ i)) = rd i := by rw [HRD.out]; rfl
      rw [hrdi] at HR
      clear hvok hrdi
      go_wp2_with fail
      refine HR.out.mono ?_; rintro e2 w2 ⟨A, cap, l, c, hlc, rfl, hlcap, hrow, hl2, hk2⟩
      have HO := hid (And.intro hl2 (And.intro (HI.out.2.1.trans hk2) (And.intro (ownsRowF_keeps HI.out.2.2.1 hk2 (fun k hk => (HI.out.2.2.2 k hk).2.1)) HI.out.2.2.2)))
      have HLC := hid hlc; have HROW := hid hrow; have HCAP := hid hlcap
      have q4 : w2.cell? ⟨r, 4, none⟩ = some (.int .i64 (scanN rd i).1) := hl2.c4
      obtain ⟨u, hu⟩ : ∃ u, u = (scanN rd i).1 := ⟨_, rfl⟩
      rw [← hu] at q4
      have hl1 : (rd i).1 = l := by rw [← hlc]
      have hc1 : (rd i).2 = c := by rw [← hlc]
      have hcc := HCODE.out i
      rw [hl1, hc1] at hcc
      have HU := hid hu; have HL1 := hid hl1; have HC1 := hid hc1
      have hui : u ≤ i := by rw [hu]; exact scanN_le rd i
      have hu0 : (u : Int) ≤ 8 := by omega
      clear hlc hrow hlcap hl2 hk2 HR HI hu hl1 hc1
      obtain ⟨lt, hltt⟩ : ∃ lt, lt = (scanN rd i).2.2 := ⟨_, rfl⟩
      have HLT := hid hltt
      clear hltt
      have hdev : ∀ (wx : World) (vv : Wl), LW w0 wx p r { ({ d with rd := d.rd + i } : Dv) with rd := ({ d with rd := d.rd + i } : Dv).rd + 1 } vv F G → LW w0 wx p r { d with rd := d.rd + (i + 1) } vv F G := fun wx vv h => by
        have e : ({ ({ d with rd := d.rd + i } : Dv) with rd := ({ d with rd := d.rd + i } : Dv).rd + 1 } : Dv) = { d with rd := d.rd + (i + 1) } := by simp only; rw [Nat.add_assoc]
        rw [← e]; exact h
      have HDV := hid hdev
      clear hdev
      rcases hcc with rfl | ⟨rfl, rfl⟩
      · -- it is no later log's
        have hl3 : (scanN rd (i + 1)).2.2 = lt := by
          have := HC1.out; have := HLT.out
          show ((scanN rd i).2.2 || decide ((rd i).2 = 5)) = lt
          rw [HC1.out, ← HLT.out]; simp
        by_cases hcnt : u = i ∧ l ≠ []
        · obtain ⟨rfl, hne⟩ := hcnt
          have hs1 : (scanN rd (u + 1)).1 = u + 1 ∧ (scanN rd (u + 1)).2.1 = (scanN rd u).2.1 ++ l := by
            constructor
            · show (if (scanN rd u).1 = u ∧ (rd u).1 ≠ [] then (scanN rd u).1 + 1 else (scanN rd u).1) = _
              rw [HL1.out, if_pos ⟨HU.out.symm, hne⟩, ← HU.out]
            · show (if (scanN rd u).1 = u ∧ (rd u).1 ≠ [] then (scanN rd u).2.1 ++ (rd u).1 else (scanN rd u).2.1) = _
              rw [HL1.out, if_pos ⟨HU.out.symm, hne⟩]
          have hlp : 0 < l.length := by cases l with | nil => exact absurd rfl hne | cons _ _ => simp
          obtain ⟨len, hlen⟩ : ∃ len, len = l.length := ⟨_, rfl⟩
          have hlen0 : (0 : Int) < (len : Int) := by omega
          have HS1 := hid hs1; have HLN := hid hlen; have HL3 := hid hl3
          rw [← hlen]
          obtain ⟨P, hi, hP⟩ := HO.out.1.wal.inn
          have f4 : w2.frozen? ⟨r, 4, none⟩ = false := hi.box.free (by show 4 < 6; decide)
          have b4 := hi.box.set 4 (.int .i64 ((u + 1 : Nat) : Int))
          have e4 : ((u + 1 : Nat) : Int) = (u : Int) + 1 := by omega
          have hk4 : Keeps G w2 (w2.setCell ⟨r, 4, none⟩ (.int .i64 ((u + 1 : Nat) : Int))) := (Keeps.refl G w2).setCell (p := ⟨r, 4, none⟩) HO.out.1.wal.mem _
          have hw4 : WlAt w0 (w2.setCell ⟨r, 4, none⟩ (.int .i64 ((u + 1 : Nat) : Int))) r p { Wl.new e f with used := u + 1 } G :=
            ⟨fun k hk => ⟨(HO.out.1.wal.own k hk).1, Nat.lt_of_lt_of_le (HO.out.1.wal.own k hk).2 hk4.size⟩, HO.out.1.wal.mem, P, ⟨b4, ownsRowF_setCell hi.pend hi.box (by decide)⟩, hP⟩
          have hl4 : LW w0 (w2.setCell ⟨r, 4, none⟩ (.int .i64 ((u + 1 : Nat) : Int))) p r { d with rd := d.rd + (u + 1) } { Wl.new e f with used := u + 1 } F G :=
            ⟨(HDV.out _ _ HO.out.1).dev.keeps hk4 (fun k hk => (HO.out.1.wal.own k hk).1) (HO.out.1.sep), hw4, HO.out.1.sep⟩
          have ho4 := ownsRowF_keeps HO.out.2.2.1 hk4 (fun k hk => (HO.out.2.2.2 k hk).2.2)
          have hr4 : Row (w2.setCell ⟨r, 4, none⟩ (.int .i64 ((u + 1 : Nat) : Int))) A (l.flatMap msgCells) := row_box HROW.out hne hi
          rw [e4] at hl4 ho4 hr4 hk4
          have H4 := hid (And.intro hl4 (And.intro ho4 (And.intro hr4 hk4)))
          clear hi hP b4 hw4 hl4 ho4 hr4 hk4 hne hlp hs1 hl3 hlen e4
          go_wp2_with (with_reducible refine at_op (.call { callee := .builtin .append, args := #[.tmp 67, .tmp 68], argTypes := #[32, 32] }) rfl ?_; refine Stopped.go ?_)
          refine Stopped.mk (wpList_append_row rfl _ _ 32 39 rfl i0 _ 3 40 Tryz.underlying32 HI0.out HZ0.out HZ1.out HZ2.out rfl (by decide) o (scanN rd u).2.1.length ((scanN rd u).2.1.flatMap msgCells) rfl H4.out.2.1 A len cap (l.flatMap msgCells) rfl (by rw [flat_len, HLN.out]) H4.out.2.2.1 (msgCells_one l)
            (by have h1 := HLEN.out u; have h2 := HRL.out u; rw [HL1.out] at h2; have h3 := HLN.out; simp only [maxLen]; omega) (by have h1 := HLEN.out u; have h2 := HRL.out u; rw [HL1.out] at h2; have h3 := HLN.out; omega) ?_)
          intro V5 w5 hown5 hkp5 hvb5
          have H5 : Hid (LW w0 w5 p r { d with rd := d.rd + (u + 1) } { Wl.new e f with used := (scanN rd (u + 1)).1 } F G ∧ Keeps F w w5 ∧ w5.ownsRowF 0 39 3 V5 (scanN rd (u + 1)).2.1.length ((scanN rd (u + 1)).2.1.flatMap msgCells) ∧ ∀ k, V5.ownBlock = some k → w.heap.size ≤ k ∧ k ∉ F ∧ k ∉ G) := by
            rw [HS1.out.1, HS1.out.2]
            have hwb := H.out.bel.size
            have k4 : Keeps F w (w2.setCell ⟨r, 4, none⟩ (.int .i64 ((u : Int) + 1))) := HO.out.2.1.go H4.out.2.2.2 (fun x hx => .inr (HGN.out x hx))
            have k5 : Keeps F w w5 := k4.go hkp5 (fun x hx => .inr (HO.out.2.2.2 x (Option.mem_toList.1 hx)).1)
            refine ⟨H4.out.1.other hkp5 (fun k hk => Nat.le_trans hwb (HO.out.2.2.2 k (Option.mem_toList.1 hk)).1) (fun k hk hx => (HO.out.2.2.2 k (Option.mem_toList.1 hx)).2.1 hk) (fun k hk hx => (HO.out.2.2.2 k (Option.mem_toList.1 hx)).2.2 hk), k5, ?_, fun k hk => ?_⟩
            · rw [List.length_append, List.flatMap_append, ← HLN.out]; exact hown5
            · rcases hvb5 k hk with h | h
              · exact HO.out.2.2.2 k h
              · have h1 := k4.size
                refine ⟨by omega, fun hF => ?_, fun hG => ?_⟩
                · have := H4.out.1.dev.at_.sizes k hF; omega
                · have := (H4.out.1.wal.own k hG).2; omega
          clear hown5 hkp5 hvb5 H4 HO
          go_wp2_with fail
          go_roundg (8 - (u + 1))
          case measure => omega
          case rel => exact ⟨u + 1, _, cv, by omega, by go_num, rfl, rfl, by rw [HCV.out, HL3.out, HLT.out]; exact rfl, H5.out⟩
        · have hs1 : (scanN rd (i + 1)).1 = u ∧ (scanN rd (i + 1)).2.1 = (scanN rd i).2.1 := by
            have hn : ¬ ((scanN rd i).1 = i ∧ (rd i).1 ≠ []) := by rw [HL1.out, ← HU.out]; exact hcnt
            constructor
            · show (if (scanN rd i).1 = i ∧ (rd i).1 ≠ [] then (scanN rd i).1 + 1 else (scanN rd i).1) = _
              rw [if_neg hn, ← HU.out]
            · show (if (scanN rd i).1 = i ∧ (rd i).1 ≠ [] then (scanN rd i).2.1 ++ (rd i).1 else (scanN rd i).2.1) = _
              rw [if_neg hn]
          have H5 : Hid (LW w0 w2 p r { d with rd := d.rd + (i + 1) } { Wl.new e f with used := (scanN rd (i + 1)).1 } F G ∧ Keeps F w w2 ∧ w2.ownsRowF 0 39 3 o (scanN rd (i + 1)).2.1.length ((scanN rd (i + 1)).2.1.flatMap msgCells) ∧ ∀ k, o.ownBlock = some k → w.heap.size ≤ k ∧ k ∉ F ∧ k ∉ G) := by
            rw [hs1.1, hs1.2]
            have h1 := HDV.out _ _ HO.out.1
            rw [← HU.out] at h1
            exact ⟨h1, HO.out.2⟩
          have HL3 := hid hl3
          clear hl3 hs1 HO
          by_cases hui2 : u = i
          · have hl0 : l = [] := by
              cases l with
              | nil => rfl
              | cons a b => exact absurd ⟨hui2, by simp⟩ hcnt
            subst hl0
            subst hui2
            clear hcnt
            go_wp2_with fail
            go_roundg (8 - (u + 1))
            case measure => omega
            case rel => exact ⟨u + 1, _, cv, by omega, by go_num, rfl, rfl, by rw [HCV.out, HL3.out, HLT.out]; exact rfl, H5.out⟩
          · have hui3 : ((u : Int) == (i : Int)) = false := by simp; omega
            clear hcnt
            go_wp2_with fail
            go_roundg (8 - (i + 1))
            case measure => omega
            case rel => exact ⟨i + 1, _, cv, by omega, by go_num, rfl, rfl, by rw [HCV.out, HL3.out, HLT.out]; exact rfl, H5.out⟩
      · have hl3 : (scanN rd (i + 1)).2.2 = true := by
          show ((scanN rd i).2.2 || decide ((rd i).2 = 5)) = true
          rw [HC1.out]; simp
        have hs1 : (scanN rd (i + 1)).1 = u ∧ (scanN rd (i + 1)).2.1 = (scanN rd i).2.1 := by
          have hn : ¬ ((scanN rd i).1 = i ∧ (rd i).1 ≠ []) := by rw [HL1.out]; simp
          constructor
          · show (if (scanN rd i).1 = i ∧ (rd i).1 ≠ [] then (scanN rd i).1 + 1 else (scanN rd i).1) = _
            rw [if_neg hn, ← HU.out]
          · show (if (scanN rd i).1 = i ∧ (rd i).1 ≠ [] then (scanN rd i).2.1 ++ (rd i).1 else (scanN rd i).2.1) = _
            rw [if_neg hn]
        have H5 : Hid (LW w0 w2 p r { d with rd := d.rd + (i + 1) } { Wl.new e f with used := (scanN rd (i + 1)).1 } F G ∧ Keeps F w w2 ∧ w2.ownsRowF 0 39 3 o (scanN rd (i + 1)).2.1.length ((scanN rd (i + 1)).2.1.flatMap msgCells) ∧ ∀ k, o.ownBlock = some k → w.heap.size ≤ k ∧ k ∉ F ∧ k ∉ G) := by
          rw [hs1.1, hs1.2]
          have h1 := HDV.out _ _ HO.out.1
          rw [← HU.out] at h1
          exact ⟨h1, HO.out.2⟩
        have HL3 := hid hl3
        clear hl3 hs1 HO
        by_cases hui2 : u = i
        · subst hui2
          go_wp2_with fail
          go_roundg (8 - (u + 1))
          case measure => omega
          case rel => exact ⟨u + 1, _, 5, by omega, by go_num, rfl, rfl, by rw [HL3.out]; exact rfl, H5.out⟩
        · have hui3 : ((u : Int) == (i : Int)) = false := by simp; omega
          go_wp2_with fail
          go_roundg (8 - (i + 1))
          case measure => omega
          case rel => exact ⟨i + 1, _, 5, by omega, by go_num, rfl, rfl, by rw [HL3.out]; exact rfl, H5.out⟩
    · have hin : i = 8 := by omega
      subst hin
      obtain ⟨lt, hltt⟩ : ∃ lt, lt = (scanN rd 8).2.2 := ⟨_, rfl⟩
      have q4 : wr.cell? ⟨r, 4, none⟩ = some (.int .i64 (scanN rd 8).1) := HI.out.1.c4
      obtain ⟨u, hu⟩ : ∃ u, u = (scanN rd 8).1 := ⟨_, rfl⟩
      rw [← hu] at q4
      have hx := HX.out
      unfold scanV at hx
      rw [← hltt, ← hu] at hx
      have hcv := HCV.out
      rw [← hltt] at hcv
      have HX2 := hid hx
      clear hx
      obtain ⟨OA, ocap, rfl, horow⟩ := ownsRowF_row HI.out.2.2.1
      have HU := hid hu; have HLT := hid hltt
      clear hu horow hltt
      cases lt with
      | true =>
        have hcv5 : cv = 5 := hcv
        subst hcv5
        clear hcv
        go_wp2_with fail
        go_ret3
        exact ⟨none, 0, [], 0, 5, HX2.out.symm, rfl, World.ownsRowF_nil _ _ _ _, (fun k hk => by cases hk), HI.out.1.dev, HI.out.2.1⟩
      | false =>
        have hcv0 : cv = 0 := hcv
        subst hcv0
        clear hcv
        go_wp2_with fail
        have x4 : ∀ (dd : Nat) (os : Array Obj), (grow (redrawn wr dd) os).cell? ⟨r, 4, none⟩ = some (.int .i64 u) := fun dd os => cell_regrown q4 dd os
        refine wp_region_quiet_below (by kernel_rfl) (by kernel_rfl) ?_
        repeat (go_big_quiet_step (fail))
        refine wpQuiet_nil ?_
        intro _ hw'
        obtain ⟨⟨dq, osq⟩, hw''⟩ := hw'
        subst hw''
        clear x4
        go_wp2_with fail
        go_ret3
        exact ⟨OA, ocap, (scanN rd 8).2.1, u, 0, HX2.out.symm, rfl, ownsRowF_below HI.out.2.2.1 (below_regrown wr dq osq), fun k hk => (HI.out.2.2.2 k hk).1, HI.out.1.dev.below (below_regrown wr dq osq), HI.out.2.1.trans (Keeps.of (below_regrown wr dq osq))⟩
end Go.Proofs.YtcklgaenedlbiaaGreat
