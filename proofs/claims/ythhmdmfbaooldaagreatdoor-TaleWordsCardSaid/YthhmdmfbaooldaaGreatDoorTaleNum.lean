/-
  strconv.FormatUint at base 10, tale.Number, walked; what the library's variables hold.
-/
import Derived.Test.YthhmdmfbaooldaaGreatDoorTaleText
import Derived.Test.YthhmdmfbaooldaaGreatDoorShelf
import Derived.Lib.ItoaMem
import Derived.Lib.ParseIntB
import Derived.Lib.AppendIntMem
namespace Go.Proofs.YthhmdmfbaooldaaGreatDoor
open Go.RowKit Go.Sort

/-- what the library's own variables hold -/
structure Lib28 (w : World) : Prop where
  max : ∃ m, w.cell? ⟨0, 0, none⟩ = some (.int .i64 m)
  tab : Lib.TabIs Tryz.prog w "internal/strconv.uint64pow10" .u64 Lib.pow10Tab
  syn : ∃ ev, w.cell? ⟨1, 0, none⟩ = some ev ∧ (ev = .nilIface ∨ ∃ te pe, ev = .iface te pe)
  rng : ∃ ev, w.cell? ⟨2, 0, none⟩ = some ev ∧ (ev = .nilIface ∨ ∃ te pe, ev = .iface te pe)
theorem cell_lt {w : World} {b o : Nat} {v : Value} (h : w.cell? ⟨b, o, none⟩ = some v) : b < w.heap.size := World.block_lt_of_cell? w _ h
theorem tabIs_below {P : Program} {w w' : World} {name : String} {k : IntKind} {zs : List Int} (h : Lib.TabIs P w name k zs) (hb : Below w.heap.size w w') : Lib.TabIs P w' name k zs := by
  unfold Lib.TabIs World.var? at *
  cases hg : P.globalNamed name with
  | none => simp [hg] at h
  | some g =>
    simp only [hg, Option.bind_some] at h ⊢
    have hlt : g < w.heap.size := by
      rcases Nat.lt_or_ge g w.heap.size with h' | h'
      · exact h'
      · rw [Array.getElem?_eq_none h'] at h; simp at h
    rw [hb.block g hlt]
    exact h
theorem Lib28.below {w w' : World} (h : Lib28 w) (hb : Below w.heap.size w w') : Lib28 w' := by
  obtain ⟨⟨m, hm⟩, ht, ⟨e, he, he'⟩, ⟨r, hr, hr'⟩⟩ := h
  exact ⟨⟨m, by rw [hb.cell (p := ⟨_, 0, none⟩) (cell_lt hm)]; exact hm⟩, tabIs_below ht hb, ⟨e, by rw [hb.cell (p := ⟨_, 0, none⟩) (cell_lt he)]; exact he, he'⟩, ⟨r, by rw [hb.cell (p := ⟨_, 0, none⟩) (cell_lt hr)]; exact hr, hr'⟩⟩

theorem holds_zero0 (w : World) (T : TypeId) (nd : Nat) (hs : nd ≤ 24) : Holds (fun (b : UInt8) => Value.int .u8 (b.toNat : Int)) (w.alloc (.cells Lib.zeros24 T)) w.heap.size 0 (Array.replicate nd (0 : UInt8)) := fun j hj => by
  have hj' : j < nd := by simpa using hj
  refine ⟨?_, World.frozen?_alloc_new _ _ _ _⟩
  rw [World.cell?_alloc_new, Lib.zeros24_at _ (by omega), getElem!_pos _ j hj]
  simp
theorem fin0 (w : World) (o : Obj) (dk : Array UInt8) (k : Nat) : Below w.heap.size w ((putRow (fun (b : UInt8) => Value.int .u8 (b.toNat : Int)) (w.alloc o) w.heap.size 0 dk).drewN k) := by
  rw [alloc_eq_grow]
  obtain ⟨os', _, e⟩ := putRow_grow_new (fun (b : UInt8) => Value.int .u8 (b.toNat : Int)) w #[o] w.heap.size 0 dk (Nat.le_refl _)
  rw [e]
  exact Lib.below_grow w.heap.size w (Nat.le_refl _) k os'

set_option maxHeartbeats 6400000 in
set_option maxRecDepth 100000 in
theorem FormatUint_in (u : Nat) (hu64 : u < 18446744073709551616) (w : World) (hL : Lib28 w) :
    Calls Tryz.prog 51 #[.int .u64 u, .int .i64 10] w fun e w' => e = .returned (.string ⟨(Lib.decDigits u).toArray⟩) ∧ Below w.heap.size w w' := by
  have HL := hid hL; clear hL
  by_cases hs : u < 100
  · have hs' : (u : Int) < 100 := by omega
    go_enter Tryz.func51, Tryz.ntmps51
    go_wp2_with fail
    refine (Tryz.internal_strconv_small u hs _).mono ?_; rintro e w' ⟨rfl, rfl⟩
    go_wp2_with fail
    go_ret
    exact ⟨rfl, Below.refl _ _⟩
  · have hu1 : 1 ≤ u := by omega
    have hs' : ¬ (u : Int) < 100 := by omega
    have hnd20 : Lib.nDigits u ≤ 20 := by have := Lib.numDigits_eq u hu1 hu64; split at this <;> omega
    obtain ⟨nd, hnd⟩ : ∃ nd, nd = Lib.nDigits u := ⟨_, rfl⟩
    have hb3 : nd ≤ 24 := by omega
    have hal : Tryz.prog.arrayLen 114 = 24 := by simp [Program.arrayLen, Tryz.underlying114]
    have hH0 := holds_zero0 w 114 nd hb3
    have hfmt := Tryz.internal_strconv_formatBase10 w.heap.size 0 24 u (Array.replicate nd 0) (w.alloc (.cells Lib.zeros24 114)) hH0 (by rw [Array.size_replicate, hnd]; exact Lib.lt_pow_nDigits u) hu64 (by rw [Array.size_replicate]; omega)
    rw [Array.size_replicate] at hfmt
    have hT := Lib.tabIs_alloc HL.out.tab (.cells Lib.zeros24 114)
    have hnum := Tryz.internal_strconv_numDigits u hu1 hu64 _ hT
    rw [← hnd] at hnum
    have HH0 := hid hH0; have HF := hid hfmt; have HN := hid hnum; have HND := hid hnd
    clear hH0 hT hnum hfmt hnd hal
    go_enter Tryz.func51, Tryz.ntmps51
    go_wp2_with fail
    refine HN.out.mono ?_; rintro e w' ⟨rfl, rfl⟩
    have hal : Tryz.prog.arrayLen 114 = 24 := by simp [Program.arrayLen, Tryz.underlying114]
    have hsl : ∀ W, (Instr.sliceAt 114 (.pointer (some ⟨w.heap.size, 0, none⟩)) none (some (.int .i64 (nd : Int))) none).run Tryz.prog W = .ok (.slice (some ⟨w.heap.size, 0, none⟩) nd 24) W := fun W => by
      rw [run_sliceAt_array_h W 114 ⟨w.heap.size, 0, none⟩ Tryz.underlying114 .i64 (nd : Int) (by omega) (by rw [hal]; omega)]
      go_simp
    clear hal
    go_wp2_with fail
    refine HF.out.mono ?_; rintro e w' ⟨rfl, k, v', dk, rfl, hF⟩
    have hcv : ∀ j (hj : j < (Lib.decDigits u).length), ((putRow (fun (b : UInt8) => Value.int .u8 (b.toNat : Int)) (w.alloc (.cells Lib.zeros24 114)) w.heap.size 0 dk).drewN k).cell? ((⟨w.heap.size, 0, none⟩ : Addr).add j) = some (.int .u8 ((Lib.decDigits u)[j].toNat : Int)) := by
      intro j hj
      have hF' := hF
      rw [HND.out] at hF'
      rw [Lib.row_is_numeral hF' j hj, Lib.add_plain, World.cell?_drewN]
      have hj' : j < nd := by rw [HND.out, ← Lib.decDigits_length]; exact hj
      exact cell?_putRow (fun (b : UInt8) => Value.int .u8 (b.toNat : Int)) _ w.heap.size 0 _ dk HH0.out (by rw [hF.size, Array.size_replicate]) j (by rw [hF.size]; exact hj')
    have HE : Hid (Below w.heap.size w ((putRow (fun (b : UInt8) => Value.int .u8 (b.toNat : Int)) (w.alloc (.cells Lib.zeros24 114)) w.heap.size 0 dk).drewN k)) := fin0 w _ dk k
    have HCV := hid hcv
    clear hF hcv
    generalize (putRow (fun (b : UInt8) => Value.int .u8 (b.toNat : Int)) (w.alloc (.cells Lib.zeros24 114)) w.heap.size 0 dk).drewN k = w2 at HE HCV ⊢
    go_wp2_with (with_reducible refine at_op (.convert 64 9 (.tmp 23)) rfl ?_; refine Stopped.go ?_)
    refine Stopped.mk (wpList_string rfl _ _ 5 _ rfl ⟨w.heap.size, 0, none⟩ nd 24 (Lib.decDigits u) rfl (by rw [Lib.decDigits_length]; exact HND.out) Tryz.underlying64 Tryz.underlying5 Tryz.underlying9 HCV.out ?_)
    go_wp2_with fail
    go_ret
    exact ⟨rfl, HE.out⟩

set_option maxHeartbeats 1000000 in
theorem FormatUint_any (u : Nat) (hu64 : u < 18446744073709551616) (w : World) (hL : Lib28 w) :
    Calls Tryz.prog 30 #[.int .u64 u, .int .i64 10] w fun e w' => e = .returned (.string ⟨(Lib.decDigits u).toArray⟩) ∧ Below w.heap.size w w' := by
  have H := hid (FormatUint_in u hu64 w hL); clear hL
  go_enter Tryz.func30, Tryz.ntmps30
  go_wp2_with fail
  refine H.out.mono ?_; rintro e w' ⟨rfl, hb⟩
  have HB := hid hb; clear hb
  go_wp2_with fail
  go_ret
  exact ⟨rfl, HB.out⟩

theorem Itoa_any (n : Int) (h0 : -9223372036854775808 ≤ n) (h1 : n ≤ 9223372036854775807) (w : World) (hL : Lib28 w) :
    Calls Tryz.prog 40 #[.int .i64 n] w fun e w' => e = .returned (.string ⟨(Lib.itoa n).toArray⟩) ∧ Below w.heap.size w w' := by
  refine (Tryz.strconv_Itoa n h0 h1 w hL.tab).mono ?_
  rintro e w' ⟨rfl, k, os, rfl⟩
  exact ⟨rfl, Lib.below_grow w.heap.size w (Nat.le_refl _) k os⟩

theorem parseM_lt : ∀ (l : List UInt8) (acc u : Nat), acc < 18446744073709551616 → Lib.parseUintM (2 ^ 64 - 1) acc l = .ok u → u < 18446744073709551616
  | [], acc, u, ha, h => by
    simp only [Lib.parseUintM] at h
    injection h with h
    omega
  | c :: r, acc, u, ha, h => by
    simp only [Lib.parseUintM] at h
    split at h
    · split at h
      · cases h
      · split at h
        · cases h
        · exact parseM_lt r _ u (by omega) h
    · cases h
theorem parseM_append : ∀ (l r : List UInt8) (acc : Nat) (a : Nat), Lib.parseUintM (2 ^ 64 - 1) acc l = .ok a → Lib.parseUintM (2 ^ 64 - 1) acc (l ++ r) = Lib.parseUintM (2 ^ 64 - 1) a r
  | [], r, acc, a, h => by
    simp only [Lib.parseUintM] at h
    injection h with h
    rw [h]; rfl
  | c :: l, r, acc, a, h => by
    simp only [Lib.parseUintM, List.cons_append] at h ⊢
    split at h
    · rename_i h1
      rw [if_pos h1]
      split at h
      · cases h
      · rename_i h2
        rw [if_neg h2]
        split at h
        · cases h
        · rename_i h3
          rw [if_neg h3]
          exact parseM_append l r _ a h
    · cases h
theorem parse_dec (u : Nat) (hu : u < 18446744073709551616) : Lib.parseUintM (2 ^ 64 - 1) 0 (Lib.decDigits u) = .ok u := by
  induction u using Nat.strongRecOn with
  | _ u ih =>
    rw [Lib.decDigits]
    have key : ∀ (d acc : Nat), d < 10 → acc * 10 + d < 18446744073709551616 → Lib.parseUintM (2 ^ 64 - 1) acc [UInt8.ofNat (48 + d)] = .ok (acc * 10 + d) := by
      intro d acc hd ha
      have hn : (UInt8.ofNat (48 + d)).toNat = 48 + d := by
        have : (UInt8.ofNat (48 + d)).toNat = (48 + d) % 256 := by simp
        omega
      unfold Lib.parseUintM
      rw [hn, if_pos (by omega), if_neg (by omega), if_neg (by omega)]
      unfold Lib.parseUintM
      congr 1; omega
    split
    · rename_i h
      have := key u 0 h (by omega)
      simpa using this
    · rename_i h
      rw [parseM_append _ _ _ _ (ih (u / 10) (by omega) (by omega)), key (u % 10) (u / 10) (Nat.mod_lt _ (by decide)) (by omega)]
      congr 1; omega
theorem dec_ne (u : Nat) : Lib.decDigits u ≠ [] := by
  intro h
  have h2 := Lib.decDigits_length u
  have h3 := Lib.nDigits_pos u
  rw [h] at h2
  simp at h2
  omega
/-- the number of a word -/
def numT (l : List UInt8) : Option Nat := match Lib.parseUintB 64 l with
  | .ok u => if Lib.decDigits u = l then some u else none
  | _ => none
/-- Number's answer -/
def numA (l : List UInt8) : Nat := (numT l).getD 0
def numE (l : List UInt8) : Int := if (numT l).isSome = true then 0 else 5
theorem numT_lt {l : List UInt8} {u : Nat} (h : Lib.parseUintB 64 l = .ok u) : u < 18446744073709551616 := by
  unfold Lib.parseUintB at h
  split at h
  · cases h
  · exact parseM_lt l 0 u (by decide) h
theorem numT_dec (u : Nat) (hu : u < 18446744073709551616) : numT (Lib.decDigits u) = some u := by
  unfold numT Lib.parseUintB
  rw [if_neg (dec_ne u), parse_dec u hu]
  simp
theorem numT_some {l : List UInt8} {u : Nat} (h : numT l = some u) : l = Lib.decDigits u ∧ u < 18446744073709551616 := by
  unfold numT at h
  cases hp : Lib.parseUintB 64 l with
  | ok v =>
    rw [hp] at h
    simp only at h
    split at h
    · rename_i he
      injection h with h
      subst h
      exact ⟨he.symm, numT_lt hp⟩
    · cases h
  | _ => rw [hp] at h; cases h
theorem numA_none {l : List UInt8} (h : numT l = none) : numA l = 0 ∧ numE l = 5 := by unfold numA numE; rw [h]; exact ⟨rfl, rfl⟩
theorem numA_some {l : List UInt8} {u : Nat} (h : numT l = some u) : numA l = u ∧ numE l = 0 := by unfold numA numE; rw [h]; exact ⟨rfl, rfl⟩
theorem ba_ne {a b : ByteArray} (h : a ≠ b) : (a.toList == b.toList) = false := by
  rw [beq_eq_false_iff_ne]
  intro e
  apply h
  rw [ByteArray.toList_eq, ByteArray.toList_eq] at e
  cases a; cases b
  simp only [Array.toList_inj] at e
  rw [e]

set_option maxHeartbeats 2000000 in
set_option maxRecDepth 100000 in
theorem tale_Number_any (s : ByteArray) (hs : s.size ≤ 100000) (w : World) (hL : Lib28 w) :
    Calls Tryz.prog 12 #[.string s] w fun e w' => e = .returned (.tuple #[.int .u64 (numA s.data.toList), .int .i64 (numE s.data.toList)]) ∧ Below w.heap.size w w' := by
  obtain ⟨ev, hev, hev'⟩ := hL.syn
  obtain ⟨rv, hrv, hrv'⟩ := hL.rng
  cases hp : Lib.parseUintB 64 s.data.toList with
  | ok u =>
    have hu := numT_lt hp
    have C := hid (Tryz.strconv_ParseUint_10_at64_ok s (by omega) u hp w)
    obtain ⟨W, hW⟩ : ∃ W : ByteArray, W = ⟨(Lib.decDigits u).toArray⟩ := ⟨_, rfl⟩
    have F := fun w' hL' => FormatUint_any u hu w' hL'
    rw [← hW] at F
    have HF := hid F
    by_cases he : W = s
    · have hn : numT s.data.toList = some u := by
        unfold numT; rw [hp]
        simp only
        rw [if_pos (by rw [← he, hW])]
      have HA := hid (numA_some hn)
      have hss : (W.toList == s.toList) = true := by rw [he]; simp
      have HL := hid hL
      clear hev hrv hev' hrv' hL hn hW F hp he
      go_enter Tryz.func12, Tryz.ntmps12
      go_wp2_with fail
      refine C.out.mono ?_; rintro e w1 ⟨rfl, hw1⟩
      have hb1 : Below w.heap.size w w1 := by
        rcases hw1 with rfl | rfl
        · exact Below.refl _ _
        · exact bytesWorld_below _ _ _
      have HB1 := hid hb1; clear hw1 hb1
      go_wp2_with fail
      refine (HF.out w1 (HL.out.below HB1.out)).mono ?_; rintro e w2 ⟨rfl, hb2⟩
      have HB2 := hid (bt HB1.out hb2); clear hb2
      go_wp2_with fail
      go_ret2
      rw [HA.out.1, HA.out.2]
      exact ⟨rfl, HB2.out⟩
    · have hn : numT s.data.toList = none := by
        unfold numT; rw [hp]
        simp only
        rw [if_neg (fun e => he (by rw [hW, e]))]
      have HA := hid (numA_none hn)
      have hss := ba_ne he
      have HL := hid hL
      clear hev hrv hev' hrv' hL hn hW F hp he
      go_enter Tryz.func12, Tryz.ntmps12
      go_wp2_with fail
      refine C.out.mono ?_; rintro e w1 ⟨rfl, hw1⟩
      have hb1 : Below w.heap.size w w1 := by
        rcases hw1 with rfl | rfl
        · exact Below.refl _ _
        · exact bytesWorld_below _ _ _
      have HB1 := hid hb1; clear hw1 hb1
      go_wp2_with fail
      refine (HF.out w1 (HL.out.below HB1.out)).mono ?_; rintro e w2 ⟨rfl, hb2⟩
      have HB2 := hid (bt HB1.out hb2); clear hb2
      go_wp2_with fail
      go_ret2
      rw [HA.out.1, HA.out.2]
      exact ⟨rfl, HB2.out⟩
  | range =>
    have C := hid (Tryz.strconv_ParseUint_10_at64_range s (by omega) hp rv w hrv hrv')
    have hn : numT s.data.toList = none := by unfold numT; rw [hp]
    have HA := hid (numA_none hn)
    clear hev hrv hev' hrv' hL hn hp
    go_enter Tryz.func12, Tryz.ntmps12
    go_wp2_with fail
    refine C.out.mono ?_; rintro e w1 ⟨N, rfl, _, _, hb1⟩
    have HB1 := hid hb1; clear hb1
    go_wp2_with fail
    go_ret2
    rw [HA.out.1, HA.out.2]
    exact ⟨rfl, HB1.out⟩
  | _ =>
    replace hp : Lib.parseUintB 64 s.data.toList = Lib.parseUintB 64 [] := hp.trans rfl
    have C := hid (Tryz.strconv_ParseUint_10_at64_syntax s (by omega) hp ev w hev hev')
    have hn : numT s.data.toList = none := by unfold numT; rw [hp]; rfl
    have HA := hid (numA_none hn)
    clear hev hrv hev' hrv' hL hn hp
    go_enter Tryz.func12, Tryz.ntmps12
    go_wp2_with fail
    refine C.out.mono ?_; rintro e w1 ⟨N, rfl, _, _, hb1⟩
    have HB1 := hid hb1; clear hb1
    go_wp2_with fail
    go_ret2
    rw [HA.out.1, HA.out.2]
    exact ⟨rfl, HB1.out⟩
end Go.Proofs.YthhmdmfbaooldaaGreatDoor
