/-
  WalRound: round and round no epoch sees another one: walked.
  What a parameter's datum tells of its cells and of its sizes: whole numbers, texts, truths, rows and structs of them, to any depth.
-/
import Derived.Test.YtcklgaenedlbiaaGWalRound28
import Derived.Test.YtcklgaenedlbiaaGWalRound31
import Derived.Test.YtcklgaenedlbiaaGWalRound32
import Derived.Test.YtcklgaenedlbiaaGWalRound01
import Derived.Deep.Slices
import Derived.ChangeSame
import Derived.SizedLaws

namespace Go.Proofs.Ytcklgaenedlbiaa
open Go.RowKit Go.Sort

/-- a row of messages, as a cell -/
structure RowV where
  A : Option Addr
  cap : Nat
  l : List Msg3
def RowV.cell (x : RowV) : Value := .slice x.A x.l.length x.cap
/-- ahead of a log: the device, its blocks, and what was counted -/
structure Ahead23 (w wx : World) (p k : Nat) (e : Int) (d : Dv) (F : List Nat) (f : Nat → ByteArray) : Prop where
  dev : Dev w wx p 64 d F
  dl : DL d f
  old : ∀ j, j < 8 → Elder e (f (2 + j))
  count : d.rd + d.wr + d.fl ≤ 40 * k

theorem ahead_next {w wx : World} {p r c k fr : Nat} {e e' : Int} {d : Dv} {v : Wl} {F G : List Nat} {f : Nat → ByteArray} {gs : List (List Msg3)} (h : RoomI w wx p r c d v F G) (hd : DL d f) (hh : Has f fr e gs) (hc : c + 16 ≤ 40 * (k + 1)) (he : e' = e + 1) : Ahead23 w wx p (k + 1) e' d F f := by
  have h1 := h.count
  have h2 := h.ok.fit
  exact ⟨h.lw.dev, hd, by rw [he]; exact hh.next, by omega⟩

set_option maxHeartbeats 64000000 in
set_option maxRecDepth 100000 in
theorem walRound_walk (OA : Option Addr) (ocap : Nat) (old : List ByteArray) (ep fr : Int) (RA : Option Addr) (rcap : Nat) (rows : List RowV) (w : World)
    (hor : Row w OA (strs old)) (hr : Row w RA (rows.map RowV.cell)) (hx : ∀ x ∈ rows, Row w x.A (x.l.flatMap msgCells)) :
    Calls Try.prog 7 #[.slice OA old.length ocap, .int .i64 ep, .int .i64 fr, .slice RA rows.length rcap] w fun e w' => e = .returned (.bool true) ∧ Below w.heap.size w w' := by
  obtain ⟨i0, hi0, hz0, hz1, hz2⟩ := info_parts info_msg
  have HI0 := hid hi0; have HZ0 := hid hz0; have HZ1 := hid hz1; have HZ2 := hid hz2
  clear hi0 hz0 hz1 hz2
  have HR := hid hr; have HX := hid hx
  have KE := hid (fun n h2 h3 W (hW : Below w.heap.size w W) => law23_elder OA ocap old n h2 h3 W (hor.below hW))
  obtain ⟨OL, hOL⟩ : ∃ L, L = old.length := ⟨_, rfl⟩
  obtain ⟨R, hR⟩ : ∃ L, L = rows.length := ⟨_, rfl⟩
  rw [← hOL] at KE ⊢
  rw [← hR]
  have HRL := hid hR
  clear hr hx hor hOL hR
  obtain ⟨n0, hn, hnl⟩ := umod ep 1000 (by decide)
  obtain ⟨f0, hf, hfl⟩ := umod fr 8 (by decide)
  obtain ⟨N, hN⟩ : ∃ N, N = 2 + n0 := ⟨_, rfl⟩
  have en0 : IntKind.i64.wrap (n0 : Int) = (n0 : Int) := by rw [IntKind.wrap_i64]; omega
  have ef0 : IntKind.i64.wrap (f0 : Int) = (f0 : Int) := by rw [IntKind.wrap_i64]; omega
  have hNN : (2 : Int) + (n0 : Int) = (N : Int) := by omega
  have HN := hid (show 2 ≤ N ∧ N ≤ 1001 by omega)
  have HF0 : Hid (f0 < 8) := by show f0 < 8; omega
  have HNN := hid hNN
  clear hNN hN
  by_cases h12 : (12 : Int) < (R : Int)
  · clear hn hnl hf hfl en0 ef0
    go_enter Try.func7, Try.ntmps7
    go_wp2_with fail
    refine (awake23_any _).mono ?_; rintro e1 w1 ⟨rfl, hb⟩
    have HB := hid hb; clear hb
    go_wp2_with fail
    go_ret
    exact ⟨rfl, HB.out⟩
  have hR12 : R ≤ 12 := by omega
  go_enter Try.func7, Try.ntmps7
  go_wp2_with fail
  refine (awake23_any _).mono ?_; rintro e1 w1 ⟨rfl, hb⟩
  have HB1 := hid hb; clear hb
  go_wp2_with fail
  rw [HNN.out]
  clear hn hnl hf hfl en0 ef0
  refine (KE.out N HN.out.1 (by have := HN.out.2; omega) w1 HB1.out).mono ?_; rintro e1 w2 ⟨V, rfl, ho, _, hb⟩
  obtain ⟨g, bcap, rest, rfl, hbk, _⟩ := ownsRow_blk ho (by decide)
  have HB2 := hid (bt HB1.out hb)
  have HROW := hid (show Row w2 (some ⟨g, 0, none⟩) (strs (elderL N old)) from blk_row hbk)
  clear ho hb hbk HB1 KE
  go_wp2_with fail
  have hszs : ∀ b ∈ elderL N old, b.size = 256 := fun b hb => by obtain ⟨k, _, rfl⟩ := List.mem_map.1 hb; exact blkOf_size _ _
  refine (law23_over HB2.out _ bcap (elderL N old) (blkL8_len _ 8) hszs HROW.out).mono ?_
  rintro e1 w3 ⟨p, F, rfl, hD, _, _⟩
  have D3 := hid (show ∃ d F f, Ahead23 w w3 p 0 (((N + 0 : Nat)) : Int) d F f from ⟨_, F, _, hD, overD_lies (blkL8_len _ 8) hszs, fun j hj => elderL_elder HN.out.1 (by have := HN.out.2; omega) old j hj, Nat.le_refl _⟩)
  clear hD HB2 HROW hszs
  go_wp2_with fail
  go_loopg [12, 10] R (fun g x y wx => ∃ k at_ : Nat, k + g = R ∧ x = .int .i64 k ∧ y = .int .i64 at_ ∧ Hid (at_ < 8) ∧ Hid (∃ d F f, Ahead23 w wx p k (((N + k : Nat)) : Int) d F f))
  case atStart => exact ⟨0, f0, by omega, rfl, rfl, HF0.out, D3.out⟩
  case round =>
    obtain ⟨k, at_, hk, rfl, rfl, HAT, HS⟩ := hrel
    by_cases hlt : k < R
    · have hltl : k < rows.length := by have := HRL.out; omega
      obtain ⟨d, F, f, hA⟩ := HS.out
      have HA := hid hA
      have hbel := hA.dev.bel
      have hne : rows.map RowV.cell ≠ [] := by intro e; have h : (rows.map RowV.cell)[k]? = some rows[k].cell := by simp [hltl]
                                               rw [e] at h; cases h
      obtain ⟨rb, ro, rfl, hrb, hrc⟩ := row_cell HR.out hne
      obtain ⟨⟨MA, mcap, l⟩, hxk⟩ : ∃ x, x = rows[k] := ⟨_, rfl⟩
      have hMrow : Row w MA (l.flatMap msgCells) := by have := HX.out rows[k] (List.getElem_mem _); rw [← hxk] at this; exact this
      have hcell : (rows.map RowV.cell)[k]? = some (.slice MA l.length mcap) := by simp [hltl, ← hxk, RowV.cell]
      obtain ⟨Lk, hLk⟩ : ∃ L, L = l.length := ⟨_, rfl⟩
      rw [← hLk] at hcell
      have KR : Hid (∀ wx, Below w.heap.size w wx → wx.cell? ⟨rb, ro + k, none⟩ = some (.slice MA Lk mcap)) := fun wx hw => by
        rw [hw.cell (p := ⟨rb, ro + k, none⟩) hrb]; exact hrc k _ hcell
      have HMR := hid hMrow; have HLK := hid hLk
      have c0 := KR.out wr hbel
      clear hA hne hrb hrc hxk hMrow hcell hLk hltl hbel HS
      by_cases h30 : (30 : Int) < (Lk : Int)
      · go_wp2_with fail
        go_ret
        exact ⟨rfl, HA.out.dev.bel⟩
      have hL30 : Lk ≤ 30 := by omega
      obtain ⟨E, hE⟩ : ∃ E, E = N + k := ⟨_, rfl⟩
      have eE : IntKind.i64.wrap ((N : Int) + (k : Int)) = (E : Int) := by rw [IntKind.wrap_i64]; have := HN.out; omega
      have HE := hid (show 2 ≤ E ∧ E ≤ 1013 ∧ E = N + k by have := HN.out; omega)
      rw [← hE] at HA
      clear hE
      have hcn := HA.out.count
      have hll : d.loose.length = 0 := by rw [HA.out.dl.loose]; rfl
      have KS1 := wal_Scan HA.out.dev (E : Int) at_ (by have := HE.out; omega) (by have := HE.out; omega) HAT.out HA.out.dl.on (by omega)
      rw [(Has.nil HA.out.old at_).scan HA.out.dl] at KS1
      have HS1 := hid KS1
      clear KS1 hcn hll
      go_wp2_with fail
      refine HS1.out.mono ?_; rintro e2 w4 ⟨A4, cap4, l4, u4', c4, hlc, rfl, _, _, hD4, hk4⟩
      simp only [List.flatten_nil, List.length_nil, Prod.mk.injEq] at hlc
      obtain ⟨rfl, rfl, rfl⟩ := hlc
      have HD4 := hid hD4
      have c0' := KR.out w4 hD4.bel
      clear hD4 hk4 HS1 c0
      go_wp2_with fail
      refine (wal_New_yes HD4.out (E : Int) at_ (by have := HE.out; omega) (by have := HE.out; omega) HAT.out).mono ?_; rintro e2 w5 ⟨r, G, rfl, hW, hb, hG⟩
      have hl5 : LW w w5 p r { d with rd := d.rd + 8 } (Wl.new (E : Int) at_) F G := ⟨HD4.out.below hb, hW, fun k hk hg => by have := HD4.out.at_.sizes k hk; have := hG k hg; omega⟩
      have hI5 : RoomI w w5 p r (40 * k + 8) { d with rd := d.rd + 8 } (Wl.new (E : Int) at_) F G := ⟨hl5, ⟨rfl, HAT.out, by show (1 : Int) ≤ (E : Int); have := HE.out; omega, by show (E : Int) ≤ 2147483647; have := HE.out; omega, by simp [Wl.new], by simp [Wl.new], by simp [Wl.new, g2]⟩, HA.out.dl.fuse, HA.out.dl.on, by
        have h1 := HA.out.count
        have h2 : d.loose.length = 0 := by rw [HA.out.dl.loose]; rfl
        show d.loose.length + (d.rd + 8) + d.wr + d.fl ≤ 40 * k + 8 + 2 * 0
        omega, by omega⟩
      have hI6 := hI5.below (below_alloc w5 (.cells #[] 70))
      have HI6 : Hid (∃ mine d v F G f gs, RoundI w (w5.alloc (.cells #[] 70)) p r (40 * k + 8) (E : Int) at_ 0 (.slice (some ⟨w5.heap.size, 0, none⟩) 0 0) mine [] d v F G f gs ∧ mine.length = 0) :=
        ⟨[], _, _, F, G, f, [], ⟨hI6, HA.out.dl.rd _, Has.nil HA.out.old at_, rfl, rfl, rfl, Nat.le_refl _, Nat.le_refl _, rfl, ownsRowF_empty _ _ _, fun k hk => by
          simp [Value.ownBlock] at hk
          subst hk
          exact ⟨hI5.lw.dev.bel.size, fun hF => absurd (hI5.lw.dev.at_.sizes _ hF) (Nat.lt_irrefl _), fun hG => absurd (hI5.lw.wal.own _ hG).2 (Nat.lt_irrefl _)⟩⟩, rfl⟩
      clear hW hb hG hl5 hI5 hI6 HD4 c0'
      go_wp2_with fail
      go_loopg [19, 18] Lk (fun g x y wx => ∃ (j M : Nat) (mv : Value), j + g = Lk ∧ x = .int .i64 j ∧ y = mv ∧ Hid (∃ mine d v F G f gs, RoundI w wx p r (40 * k + 8) (E : Int) at_ j mv mine [] d v F G f gs ∧ mine.length = M))
      case atStart => exact ⟨0, 0, _, by omega, rfl, rfl, HI6.out⟩
      case round =>
        obtain ⟨j, M, mv, hj, rfl, rfl, HJ⟩ := hrel
        obtain ⟨mine, d1, v1, F1, G1, f1, gs1, hI, hM⟩ := HJ.out
        have HI := hid hI; have HM := hid hM
        have c0 := KR.out wr hI.room.lw.dev.bel
        clear hI hM HJ
        by_cases hjt : j < Lk
        · have hjl : j < l.length := by have := HLK.out; omega
          obtain ⟨b, off, rfl, hb, hc⟩ := row_cell HMR.out (by intro e; have h := msg_at l j 0 l[j] (.int .i64 l[j].1) (by simp [hjl]) rfl; rw [e] at h; cases h)
          obtain ⟨⟨K, kk, vv⟩, hx⟩ : ∃ x, x = l[j] := ⟨_, rfl⟩
          have hxi : l[j]? = some (K, kk, vv) := by rw [hx]; simp [hjl]
          have KM : Hid (∀ wx, Below w.heap.size w wx → wx.cell? ⟨b, off + j * 3, none⟩ = some (.int .i64 K) ∧ wx.cell? ⟨b, off + j * 3 + 1, none⟩ = some (.string kk) ∧ wx.cell? ⟨b, off + j * 3 + 2, none⟩ = some (.string vv)) := fun wx hw => by
            have c0 := hc _ _ (msg_at l j 0 _ (.int .i64 K) hxi rfl)
            rw [← hw.cell (p := ⟨b, off + (j * 3 + 0), none⟩) hb, ← Nat.add_assoc, Nat.add_zero] at c0
            have c1 := hc _ _ (msg_at l j 1 _ (.string kk) hxi rfl)
            rw [← hw.cell (p := ⟨b, off + (j * 3 + 1), none⟩) hb, ← Nat.add_assoc] at c1
            have c2 := hc _ _ (msg_at l j 2 _ (.string vv) hxi rfl)
            rw [← hw.cell (p := ⟨b, off + (j * 3 + 2), none⟩) hb, ← Nat.add_assoc] at c2
            exact ⟨c0, c1, c2⟩
          obtain ⟨k0, k1, k2⟩ := KM.out wr HI.out.room.lw.dev.bel
          have HAD := hid (HI.out.add (K, kk, vv) (by omega))
          obtain ⟨q4, hq4⟩ : ∃ q, q = j % 4 := ⟨_, rfl⟩
          have eq4 : (j : Int).tmod 4 = (q4 : Int) := by rw [hq4]; exact (Int.ofNat_tmod _ _).symm
          clear hb hc hx hxi hjl hq4
          go_wp2_with fail
          refine HAD.out.mono ?_; rintro e3 w7 ⟨code, rfl, hor⟩
          clear k0 k1 k2 c0 HAD
          have HEND : Hid (∀ w8 mv8 mine8 d8 v8 F8 G8 f8 gs8, RoundI w w8 p r (40 * k + 8) (E : Int) at_ (j + 1) mv8 mine8 [] d8 v8 F8 G8 f8 gs8 → True) := fun _ _ _ _ _ _ _ _ _ _ => trivial
          clear HEND
          rcases hor with ⟨rfl, v7, G7, h7⟩ | ⟨hcode, v7, G7, h7⟩
          case' inl =>
            have H7 := hid h7
            obtain ⟨k0, k1, k2⟩ := KM.out w7 h7.room.lw.dev.bel
            have c0 := KR.out w7 h7.room.lw.dev.bel
            clear h7
            go_wp2_with (with_reducible refine at_op (.call { callee := .builtin .append, args := #[.tmp 105, .tmp 113], argTypes := #[74, 74] }) rfl ?_; refine Stopped.go ?_)
            refine Stopped.mk ?_
            have hml := H7.out.ml
            refine wpList_append_one rfl _ _ 74 70 rfl i0 _ 3 40 Try.underlying74 HI0.out HZ0.out HZ1.out HZ2.out rfl (by decide) _ mine.length _ rfl w7 #[.int .i64 K, .string kk, .string vv] rfl H7.out.own w7.heap.size rfl 1 rfl rfl (by simp [Value.oneCell']) (by simp only [maxLen]; omega) (by omega) ?_
            intro V w8 hown hkp hvb
            have H8 := hid (show ∃ mine d v F G f gs, RoundI w w8 p r (40 * k + 8) (E : Int) at_ (j + 1) V mine [] d v F G f gs from ⟨_, _, _, _, _, _, _, H7.out.push hown hkp hvb⟩)
            clear hown hkp hvb k0 k1 k2 c0 H7 hml
          case' inr =>
            have hcode' : (code == 0) = false := by simpa using hcode
            have H8 := hid (show ∃ mine d v F G f gs, RoundI w w7 p r (40 * k + 8) (E : Int) at_ (j + 1) _ mine [] d v F G f gs from ⟨_, _, _, _, _, _, _, h7⟩)
            obtain ⟨w8, hw8⟩ : ∃ w8, w8 = w7 := ⟨_, rfl⟩
            rw [← hw8] at H8 ⊢
            clear h7 hw8
          all_goals
            clear HI HM KM
            obtain ⟨mine8, d8, v8, F8, G8, f8, gs8, h8⟩ := H8.out
            have H9 := hid h8
            clear h8 H8
            by_cases h3 : (q4 : Int) = 3
            case' pos =>
              go_wp2_with fail
              refine H9.out.sync.mono ?_; rintro e4 w9 ⟨rfl, d9, v9, F9, G9, f9, gs9, h9, _⟩
              have H10 := hid (show ∃ mine d v F G f gs, RoundI w w9 p r (40 * k + 8) (E : Int) at_ (j + 1) _ mine [] d v F G f gs ∧ mine.length = mine8.length from ⟨mine8, d9, v9, F9, G9, f9, gs9, h9, rfl⟩)
              clear h9
              go_wp2_with fail
            case' neg =>
              have H10 := hid (show ∃ mine d v F G f gs, RoundI w w8 p r (40 * k + 8) (E : Int) at_ (j + 1) _ mine [] d v F G f gs ∧ mine.length = mine8.length from ⟨mine8, d8, v8, F8, G8, f8, gs8, H9.out, rfl⟩)
              go_wp2_with fail
            all_goals
              clear H9
              go_roundg (Lk - (j + 1))
              case measure => omega
              case rel => exact ⟨j + 1, mine8.length, _, by omega, by go_num, rfl, H10.out⟩
        · have HSY := hid HI.out.sync
          go_wp2_with fail
          refine HSY.out.mono ?_; rintro e3 w7 ⟨rfl, d7, v7, F7, G7, f7, gs7, h7, hp7⟩
          have hmine : gs7.flatten = mine := by
            have h1 := h7.eq
            rw [List.append_nil, hp7, List.append_nil] at h1
            exact h1.symm
          have KS := h7.room.scan (E : Int) at_ (by have := HE.out; omega) (by have := HE.out; omega) HAT.out (by omega)
          rw [h7.has.scan h7.dl, hmine] at KS
          obtain ⟨u, hu⟩ : ∃ u, u = gs7.length := ⟨_, rfl⟩
          rw [← hu] at KS
          have HKS := hid KS; have H7 := hid h7; have HU := hid hu; have HML := hid (show mine.length ≤ 30 by have := h7.ml; omega)
          clear KS h7 hp7 hmine hu HSY HI c0
          go_wp2_with fail
          refine HKS.out.mono ?_; rintro e3 w8 ⟨A8, cap8, l8, n8, c8, hlc, rfl, ho8, hn8, hr8, hk8⟩
          simp only [Prod.mk.injEq] at hlc
          obtain ⟨rfl, rfl, rfl⟩ := hlc
          have hom := ownsRowF_keeps H7.out.own hk8 (fun k hk => (H7.out.sep k hk).2.1)
          obtain ⟨MB, mbcap, rfl, hrm⟩ := ownsRowF_row hom
          have HSAME := hid (fun W (hW : Below w8.heap.size w8 W) => same10 A8 MB cap8 mbcap l8 (by have := HML.out; omega) W ((own_rowW ho8).below hW) (hrm.below hW))
          obtain ⟨ML, hML⟩ : ∃ M, M = l8.length := ⟨_, rfl⟩
          rw [← hML] at HSAME ⊢
          have hus := H7.out.us
          have hfit := hr8.ok.fit
          have hu8 : n8 ≤ 8 := by have := HU.out; omega
          obtain ⟨s1, hs1⟩ : ∃ s, s = at_ + n8 := ⟨_, rfl⟩
          obtain ⟨q, hq⟩ : ∃ q, q = s1 % 8 := ⟨_, rfl⟩
          have eu1 : IntKind.i64.wrap ((at_ : Int) + (n8 : Int)) = (s1 : Int) := by rw [IntKind.wrap_i64]; have := HAT.out; omega
          have eu2 : (s1 : Int).tmod 8 = (q : Int) := by rw [hq]; exact (Int.ofNat_tmod s1 8).symm
          have eu3 : ¬ (8 : Int) < (n8 : Int) := by omega
          have KU := hid hr8.used
          rw [hus, ← HU.out] at KU
          have KN : Hid (∀ W d' c', RoomI w W p r c' d' v7 F7 G7 → Calls Try.prog 46 #[.pointer (some ⟨r, 0, none⟩)] W fun e w' => e = .returned (.int .i64 q) ∧ Below W.heap.size W w') := fun W d' c' h => by
            have h1 := h.next
            rw [H7.out.fro, hus, ← HU.out, ← hs1, ← hq] at h1
            exact h1
          have HR8 := hid hr8
          have HQ : Hid (q < 8) := by show q < 8; rw [hq]; exact Nat.mod_lt _ (by decide)
          clear hom hrm ho8 hn8 hr8 hk8 HKS hML hus hfit hs1 hq
          go_wp2_with fail
          refine KU.out.mono ?_; rintro e3 w9 ⟨rfl, rfl⟩
          go_wp2_with fail
          refine (HSAME.out _ (Below.refl _ _)).mono ?_; rintro e3 w9 ⟨rfl, hb⟩
          have HR9 := hid (HR8.out.below hb)
          clear hb HSAME KU HR8
          go_wp2_with fail
          refine (KN.out _ _ _ HR9.out).mono ?_; rintro e3 w10 ⟨rfl, hb⟩
          have HR10 := hid (HR9.out.below hb)
          clear hb HR9
          by_cases hu0 : (0 : Int) < (n8 : Int)
          · obtain ⟨E1, hE1⟩ : ∃ E1, E1 = E - 1 := ⟨_, rfl⟩
            have eE1 : IntKind.i64.wrap ((E : Int) - 1) = (E1 : Int) := by rw [IntKind.wrap_i64]; have := HE.out; omega
            have hEE : (E1 : Int) = (E : Int) - 1 := by have := HE.out; omega
            have KS := HR10.out.scan (E1 : Int) at_ (by have := HE.out; omega) (by have := HE.out; omega) HAT.out (by omega)
            rw [hEE, H7.out.has.before (H7.out.dl.rd _) (by have := HU.out; omega), ← hEE] at KS
            have HKS := hid KS
            clear KS hE1 hEE
            go_wp2_with fail
            refine HKS.out.mono ?_; rintro e3 w11 ⟨A11, cap11, l11, n11, c11, hlc, rfl, _, _, hr11, _⟩
            simp only [Prod.mk.injEq] at hlc
            obtain ⟨rfl, rfl, rfl⟩ := hlc
            have HR11 := hid hr11
            clear hr11 HKS
            go_wp2_with fail
            refine (KN.out _ _ _ HR11.out).mono ?_; rintro e3 w12 ⟨rfl, hb⟩
            have HZ := hid (show ∃ d F f, Ahead23 w w12 p (k + 1) (((N + (k + 1) : Nat)) : Int) d F f from ⟨_, _, _, ahead_next (HR11.out.below hb) ((H7.out.dl.rd _).rd _) H7.out.has (by omega) (by have := HE.out; omega)⟩)
            clear hb HR11 KN
            go_wp2_with fail
            go_roundg (R - (k + 1))
            case measure => omega
            case rel => exact ⟨k + 1, q, by omega, by go_num, rfl, HQ.out, HZ.out⟩
          · go_wp2_with fail
            refine (KN.out _ _ _ HR10.out).mono ?_; rintro e3 w12 ⟨rfl, hb⟩
            have HZ := hid (show ∃ d F f, Ahead23 w w12 p (k + 1) (((N + (k + 1) : Nat)) : Int) d F f from ⟨_, _, _, ahead_next (HR10.out.below hb) (H7.out.dl.rd _) H7.out.has (by omega) (by have := HE.out; omega)⟩)
            clear hb HR10 KN
            go_wp2_with fail
            go_roundg (R - (k + 1))
            case measure => omega
            case rel => exact ⟨k + 1, q, by omega, by go_num, rfl, HQ.out, HZ.out⟩
    · go_wp2_with fail
      go_ret
      obtain ⟨d, F, f, hA⟩ := HS.out
      exact ⟨rfl, hA.dev.bel⟩
end Go.Proofs.Ytcklgaenedlbiaa

namespace Go.Proofs.Ytcklgaenedlbiaa
open Go.ChangeShapes Go.WideShapes Go.RowKit Go.Deep

section
variable {H : Type} {enc : TypeId × Value → H} {P : Program} {w : World}

def Fact (P : Program) (w : World) : Nat → TypeId → List Value → Prop
  | 0, _, _ => True
  | d + 1, t, cs => match P.underlying t with
    | some .bool => ∃ b, cs = [.bool b]
    | some (.int k) => ∃ n, cs = [.int k n] ∧ (Lit.int k n).wf = true
    | some .string => ∃ s : ByteArray, cs = [.string s] ∧ s.size ≤ 140737488351232
    | some (.slice e) => ∃ A len cap, cs = [.slice A len cap] ∧ len ≤ cap ∧ cap ≤ maxLen ∧ cap * P.bytesOf e ≤ 140737488351232 ∧
        ∀ i, i < len → ∃ a cs', A = some a ∧ cs'.length = P.cellsOf e ∧ (∀ j v, cs'[j]? = some v → w.cell? ((a.add (i * P.cellsOf e)).add j) = some v) ∧ Fact P w d e cs'
    | some (.struct fs) => cs.length = P.cellsOf t ∧ ∀ (i : Nat) (f : Field), fs[i]? = some f → Fact P w d f.type ((cs.drop f.offset).take (P.cellsOf f.type))
    | _ => True

theorem weights_mem_all {t : TypeId} : ∀ {ds : List (DataW H)} {d : DataW H}, d ∈ ds → ∀ n ∈ d.weights P t, n ∈ DataW.weightsAll P t ds
  | d0 :: ds, d, hd, n, hn => by
    simp only [DataW.weightsAll, List.mem_append]
    rcases List.mem_cons.1 hd with rfl | hd
    · exact Or.inl hn
    · exact Or.inr (weights_mem_all hd n hn)

theorem fact_of_trod : ∀ (d fuel : Nat) (t : TypeId) (cs : List Value) (x : DataW H × List MemPlace), DataW.trod enc P w 0 (fun _ => true) true fuel t cs = some x →
    (∀ n ∈ x.1.weights P t, n ≤ reachBytes) → Fact P w d t cs
  | 0, _, _, _, _, _, _ => trivial
  | d + 1, fuel, t, cs, x, h, hw => by
    unfold Fact
    split
    · rename_i ht
      obtain ⟨b, h1, _⟩ := DataW.trod_bool ht h
      exact ⟨b, h1⟩
    · rename_i k ht
      obtain ⟨n, h1, _, h2⟩ := DataW.trod_int ht h
      exact ⟨n, h1, h2⟩
    · rename_i ht
      obtain ⟨s, h1, h2, _⟩ := DataW.trod_string ht h
      refine ⟨s, h1, ?_⟩
      have := hw s.data.toList.length (by rw [h2]; simp [DataW.weights])
      rw [Array.length_toList] at this
      exact this
    · rename_i e ht
      rcases open_slice ht h with ⟨h1, _⟩ | ⟨a, len, cap, m, n, D, Pl, h1, _, hl, hm, hmm, hx, hc⟩
      · exact ⟨none, 0, 0, h1, Nat.le_refl _, Nat.zero_le _, by simp, fun i hi => by omega⟩
      · simp only [if_true] at hmm
        subst hmm
        refine ⟨some a, len, m, h1, hl, hm, ?_, fun i hi => ?_⟩
        · have := hw (m * P.bytesOf e) (by
            rw [hx]
            simp only [DataW.weights, ht, List.length_map, List.length_range]
            rw [show len + (m - len) = m by omega]
            exact List.mem_cons_self)
          exact this
        · obtain ⟨cs', h2, h3⟩ := hc i (by omega)
          obtain ⟨_, h4, h5⟩ := World.cells?_some h2
          refine ⟨a, cs', rfl, h4, fun j v hj => ?_, fact_of_trod d n e cs' _ h3 fun k hk => hw k ?_⟩
          · have hjl := (List.getElem?_eq_some_iff.1 hj).1
            rw [h5 j (by omega)]
            exact hj
          · rw [hx]
            simp only [DataW.weights, ht]
            refine List.mem_cons_of_mem _ (List.mem_append_left _ (weights_mem_all ?_ k hk))
            exact List.mem_map.2 ⟨i, by simpa using hi, rfl⟩
    · rename_i fs ht
      obtain ⟨xs, n, _, hx, hl, hlen, hf⟩ := DataW.trod_struct ht h
      refine ⟨hl, fun i f hi => ?_⟩
      have h1 := hf i f hi
      have hil : i < fs.size := (Array.getElem?_eq_some_iff.1 hi).1
      have hy : xs[i]? = some (xs[i]'(by omega)) := List.getElem?_eq_getElem (by omega)
      rw [hy] at h1
      refine fact_of_trod d n f.type _ _ h1 fun k hk => hw k ?_
      rw [hx]
      simp only [DataW.weights, ht]
      refine DataW.weights_mem_each (j := i) (t := f.type) (d := (xs[i]'(by omega)).1) ?_ ?_ k hk
      · simp [hi]
      · simp [hy]
    · trivial

/-- of a parameter -/
theorem fact_of {t : TypeId} {v : Value} {d : DataW H} {ps : List MemPlace} (n : Nat) (h : DataW.Trod enc P w 0 (fun _ => true) true t v d ps) {ts : List TypeId} {ds : List (DataW H)}
    (hs : (DataW.weightsEach P ts ds).all (· ≤ reachBytes) = true) {j : Nat} (ht : ts[j]? = some t) (hd : ds[j]? = some d) : Fact P w n t v.cells.toList := by
  obtain ⟨fuel, hf⟩ := h
  refine fact_of_trod n fuel t _ _ hf fun k hk => ?_
  have := List.all_eq_true.1 hs k (DataW.weights_mem_each ht hd k hk)
  simpa using this

theorem add_add' (a : Addr) (i j : Nat) : (a.add i).add j = a.add (i + j) := Go.Deep.add_add a i j

/-- a row's cells, an element behind the other -/
theorem fact_rows {d : Nat} {e : TypeId} {A : Option Addr} {len : Nat} (hpos : 0 < P.cellsOf e)
    (h : ∀ i, i < len → ∃ a cs', A = some a ∧ cs'.length = P.cellsOf e ∧ (∀ j v, cs'[j]? = some v → w.cell? ((a.add (i * P.cellsOf e)).add j) = some v) ∧ Fact P w d e cs') :
    ∃ vs : List (List Value), vs.length = len ∧ (∀ c ∈ vs, c.length = P.cellsOf e ∧ Fact P w d e c) ∧ Row w A vs.flatten := by
  rcases Nat.eq_zero_or_pos len with rfl | h0
  · exact ⟨[], rfl, by simp, .inl rfl⟩
  obtain ⟨a, cs0, rfl, hl0, hc0, _⟩ := h 0 h0
  have h' : ∀ i, i < len → ∃ cs' : List Value, cs'.length = P.cellsOf e ∧ (∀ j v, cs'[j]? = some v → w.cell? ((a.add (i * P.cellsOf e)).add j) = some v) ∧ Fact P w d e cs' := fun i hi => by
    obtain ⟨a', cs', ha, h1, h2, h3⟩ := h i hi
    injection ha with ha
    subst ha
    exact ⟨cs', h1, h2, h3⟩
  obtain ⟨F, hF⟩ := choose_lt (α := List Value) (p := fun i cs' => cs'.length = P.cellsOf e ∧ (∀ j v, cs'[j]? = some v → w.cell? ((a.add (i * P.cellsOf e)).add j) = some v) ∧ Fact P w d e cs') h'
  obtain ⟨b, off, sp⟩ := a
  have hc1 : ∃ v, w.cell? ((Addr.add ⟨b, off, sp⟩ 0)) = some v := by
    obtain ⟨v, hv⟩ : ∃ v, cs0[0]? = some v := ⟨cs0[0]'(by omega), List.getElem?_eq_getElem (by omega)⟩
    refine ⟨v, ?_⟩
    have := hc0 0 v hv
    rwa [Nat.zero_mul, add_add'] at this
  have hsp : sp = none := by
    obtain ⟨v, hv⟩ := hc1
    cases sp with
    | none => rfl
    | some s =>
      exfalso
      unfold Addr.add at hv
      unfold World.cell? at hv
      split at hv <;> simp_all
  subst hsp
  have hadd : ∀ k, Addr.add ⟨b, off, none⟩ k = ⟨b, off + k, none⟩ := fun k => by unfold Addr.add; split <;> simp_all
  have hlt : b < w.heap.size := by
    obtain ⟨v, hv⟩ := hc1
    have := World.block_lt_of_cell? w _ hv
    rwa [hadd] at this
  refine ⟨(List.range len).map F, by simp, ?_, .inr ⟨b, off, rfl, hlt, ?_⟩⟩
  · intro c hc
    obtain ⟨i, hi, rfl⟩ := List.mem_map.1 hc
    have := hF i (by simpa using hi)
    exact ⟨this.1, this.2.2⟩
  · have key : ∀ n s, n + s ≤ len → ∀ i v, (((List.range' s n).map F).flatten)[i]? = some v → w.cell? ⟨b, off + s * P.cellsOf e + i, none⟩ = some v := by
      intro n
      induction n with
      | zero => intro s _ i v hv; simp at hv
      | succ n ih =>
        intro s hs i v hv
        rw [List.range'_succ, List.map_cons, List.flatten_cons] at hv
        have hFs := hF s (by omega)
        by_cases hi : i < (F s).length
        · rw [List.getElem?_append_left hi] at hv
          have := hFs.2.1 i v hv
          rw [add_add', hadd] at this
          rw [← this]
          congr 2; omega
        · rw [List.getElem?_append_right (by omega)] at hv
          have := ih (s + 1) (by omega) (i - (F s).length) v hv
          rw [← this]
          congr 2
          rw [Nat.add_mul, Nat.one_mul]
          have := hFs.1
          omega
    intro i v hv
    have := key len 0 (by omega) i v (by rwa [← List.range_eq_range'])
    rwa [Nat.zero_mul, Nat.add_zero] at this

/-- lists whose elements are told one by one -/
theorem list_told {α β : Type} {f : α → β} {p : α → Prop} : ∀ {vs : List β}, (∀ c ∈ vs, ∃ x, c = f x ∧ p x) → ∃ xs : List α, vs = xs.map f ∧ ∀ x ∈ xs, p x
  | [], _ => ⟨[], rfl, by simp⟩
  | c :: vs, h => by
    obtain ⟨x, rfl, hx⟩ := h c (by simp)
    obtain ⟨xs, rfl, hxs⟩ := list_told (vs := vs) fun c hc => h c (List.mem_cons_of_mem _ hc)
    exact ⟨x :: xs, rfl, fun y hy => by rcases List.mem_cons.1 hy with rfl | hy; exact hx; exact hxs y hy⟩

theorem fact_string {d : Nat} {t : TypeId} {cs : List Value} (ht : P.underlying t = some .string) (h : Fact P w (d + 1) t cs) : ∃ s : ByteArray, cs = [.string s] ∧ s.size ≤ 140737488351232 := by
  unfold Fact at h; rw [ht] at h; exact h
theorem fact_int {d : Nat} {t : TypeId} {k : IntKind} {cs : List Value} (ht : P.underlying t = some (.int k)) (h : Fact P w (d + 1) t cs) : ∃ n, cs = [.int k n] ∧ (Lit.int k n).wf = true := by
  unfold Fact at h; rw [ht] at h; exact h
theorem fact_bool {d : Nat} {t : TypeId} {cs : List Value} (ht : P.underlying t = some .bool) (h : Fact P w (d + 1) t cs) : ∃ b, cs = [.bool b] := by
  unfold Fact at h; rw [ht] at h; exact h
theorem fact_struct {d : Nat} {t : TypeId} {fs : Array Field} {cs : List Value} (ht : P.underlying t = some (.struct fs)) (h : Fact P w (d + 1) t cs) :
    cs.length = P.cellsOf t ∧ ∀ (i : Nat) (f : Field), fs[i]? = some f → Fact P w d f.type ((cs.drop f.offset).take (P.cellsOf f.type)) := by
  unfold Fact at h; rw [ht] at h; exact h
/-- one field of one cell -/
theorem fact_field {d t i : Nat} {fs : Array Field} {cs : List Value} {v : Value} (h : ∀ (i : Nat) (f : Field), fs[i]? = some f → Fact P w d f.type ((cs.drop f.offset).take (P.cellsOf f.type)))
    (hf : (fs[i]?).map (fun f => (f.type, f.offset)) = some (t, i)) (hc : P.cellsOf t = 1) (hv : cs[i]? = some v) : Fact P w d t [v] := by
  obtain ⟨f, h1, h2⟩ := Option.map_eq_some_iff.1 hf
  injection h2 with e1 e2
  have := h i f h1
  rw [e1, e2, hc] at this
  have hl := (List.getElem?_eq_some_iff.1 hv)
  obtain ⟨hil, hiv⟩ := hl
  rw [List.drop_eq_getElem_cons hil, hiv] at this
  simpa using this
theorem fact_slice {d : Nat} {t e : TypeId} {A : Option Addr} {len cap : Nat} (ht : P.underlying t = some (.slice e)) (hpos : 0 < P.cellsOf e) (h : Fact P w (d + 1) t [.slice A len cap]) :
    len ≤ cap ∧ cap ≤ maxLen ∧ cap * P.bytesOf e ≤ 140737488351232 ∧ ∃ vs : List (List Value), vs.length = len ∧ (∀ c ∈ vs, c.length = P.cellsOf e ∧ Fact P w d e c) ∧ Row w A vs.flatten := by
  unfold Fact at h; rw [ht] at h
  obtain ⟨A', len', cap', he, h1, h2, h3, h4⟩ := h
  simp only [List.cons.injEq, Value.slice.injEq, and_true] at he
  obtain ⟨rfl, rfl, rfl⟩ := he
  exact ⟨h1, h2, h3, fact_rows hpos h4⟩
theorem fact_strs {d : Nat} {t e : TypeId} {A : Option Addr} {len cap : Nat} (ht : P.underlying t = some (.slice e)) (he : P.underlying e = some .string) (hc : P.cellsOf e = 1) (h : Fact P w (d + 2) t [.slice A len cap]) :
    len ≤ cap ∧ cap ≤ maxLen ∧ cap * P.bytesOf e ≤ 140737488351232 ∧ ∃ ss : List ByteArray, ss.length = len ∧ (∀ s ∈ ss, s.size ≤ 140737488351232) ∧ Row w A (strs ss) := by
  obtain ⟨h1, h2, h3, vs, h4, h5, h6⟩ := fact_slice ht (by rw [hc]; decide) h
  obtain ⟨ss, rfl, hs⟩ := list_told (f := fun s : ByteArray => [Value.string s]) (p := fun s => s.size ≤ 140737488351232) (vs := vs) fun c hc => by
    obtain ⟨s, e, hz⟩ := fact_string he (h5 c hc).2
    exact ⟨s, e, hz⟩
  refine ⟨h1, h2, h3, ss, by simpa using h4, hs, ?_⟩
  rw [← List.flatMap_def] at h6
  rw [← List.map_eq_flatMap] at h6
  exact h6
theorem fact_ints {d : Nat} {t e : TypeId} {k : IntKind} {A : Option Addr} {len cap : Nat} (ht : P.underlying t = some (.slice e)) (he : P.underlying e = some (.int k)) (hc : P.cellsOf e = 1) (h : Fact P w (d + 2) t [.slice A len cap]) :
    len ≤ cap ∧ cap ≤ maxLen ∧ cap * P.bytesOf e ≤ 140737488351232 ∧ ∃ ns : List Int, ns.length = len ∧ (∀ n ∈ ns, (Lit.int k n).wf = true) ∧ Row w A (ns.map (Value.int k)) := by
  obtain ⟨h1, h2, h3, vs, h4, h5, h6⟩ := fact_slice ht (by rw [hc]; decide) h
  obtain ⟨ns, rfl, hs⟩ := list_told (f := fun n : Int => [Value.int k n]) (p := fun n => (Lit.int k n).wf = true) (vs := vs) fun c hc => fact_int he (h5 c hc).2
  refine ⟨h1, h2, h3, ns, by simpa using h4, hs, ?_⟩
  rw [← List.flatMap_def] at h6
  rw [← List.map_eq_flatMap] at h6
  exact h6
theorem fact_bools {d : Nat} {t e : TypeId} {A : Option Addr} {len cap : Nat} (ht : P.underlying t = some (.slice e)) (he : P.underlying e = some .bool) (hc : P.cellsOf e = 1) (h : Fact P w (d + 2) t [.slice A len cap]) :
    len ≤ cap ∧ cap ≤ maxLen ∧ cap * P.bytesOf e ≤ 140737488351232 ∧ ∃ bs : List Bool, bs.length = len ∧ Row w A (bs.map Value.bool) := by
  obtain ⟨h1, h2, h3, vs, h4, h5, h6⟩ := fact_slice ht (by rw [hc]; decide) h
  obtain ⟨bs, rfl, hs⟩ := list_told (f := fun b : Bool => [Value.bool b]) (p := fun _ => True) (vs := vs) fun c hc => by
    obtain ⟨b, e⟩ := fact_bool he (h5 c hc).2
    exact ⟨b, e, trivial⟩
  refine ⟨h1, h2, h3, bs, by simpa using h4, ?_⟩
  rw [← List.flatMap_def] at h6
  rw [← List.map_eq_flatMap] at h6
  exact h6
end
end Go.Proofs.Ytcklgaenedlbiaa
