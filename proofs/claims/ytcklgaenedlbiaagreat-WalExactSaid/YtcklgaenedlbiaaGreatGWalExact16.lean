/-
  A device of layer 3 in a statement: blocks of one byte; awake.
  What a store of so many blocks holds: walked.
-/
import Derived.Test.YtcklgaenedlbiaaGreatGWalExact15
import Derived.Test.YtcklgaenedlbiaaGreatGWalExact12

namespace Go.Proofs.YtcklgaenedlbiaaGreat
open Go.RowKit

theorem rep_set (b : UInt8) : ∀ (i k : Nat), (List.replicate i b ++ List.replicate (k + 1) (0 : UInt8)).set i b = List.replicate (i + 1) b ++ List.replicate k 0
  | 0, k => rfl
  | i + 1, k => by
    rw [List.replicate_succ, List.cons_append, List.set_cons_succ, rep_set b i k]
    rfl

/-- with power and without a fuse: no deed burns -/
theorem Dv.burn_none {d : Dv} (h : d.fuse < 0) : d.burn = d := by
  unfold Dv.burn
  have h0 : ¬ d.fuse = 0 := by omega
  have h1 : ¬ 0 < d.fuse := by omega
  simp [h0, h1]
theorem Dv.write_none {d : Dv} (h : d.fuse < 0) (ho : d.off = false) (x : Nat × ByteArray) : d.write x = { d with loose := d.loose ++ [x], wr := d.wr + 1 } := by
  unfold Dv.write
  rw [Dv.burn_none h, if_neg (by rw [ho]; simp)]

/-- a device that the call made; what was there at the beginning is as it was -/
structure Dev (w0 w : World) (p : Nat) (n : Nat) (d : Dv) (F : List Nat) : Prop where
  at_ : DevAt w p d F
  bel : Below w0.heap.size w0 w
  own : ∀ k, k ∈ F → w0.heap.size ≤ k
  ok : DvOk n d
  kl : d.keep.length ≤ 1000
  ll : d.loose.length + d.rd + d.wr + d.fl ≤ 1000
theorem Dev.below {w0 w w' : World} {p n : Nat} {d : Dv} {F : List Nat} (h : Dev w0 w p n d F) (hb : Below w.heap.size w w') : Dev w0 w' p n d F :=
  ⟨h.at_.below hb, bt h.bel hb, h.own, h.ok, h.kl, h.ll⟩
theorem Dev.next {w0 w w' : World} {p n : Nat} {d d' : Dv} {F F' : List Nat} (h : Dev w0 w p n d F) (h' : DevAt w' p d' F') (hk : Keeps F w w') (hF : ∀ k, k ∈ F' → k ∈ F ∨ w.heap.size ≤ k) (ho : DvOk n d') (h1 : d'.keep.length ≤ 1000) (h2 : d'.loose.length + d'.rd + d'.wr + d'.fl ≤ 1000) : Dev w0 w' p n d' F' :=
  ⟨h', Keeps.below h.bel hk h.own, fun k hk' => by rcases hF k hk' with h3 | h3; exact h.own k h3; exact Nat.le_trans h.bel.size h3, ho, h1, h2⟩
theorem Dev.new {w0 w w' : World} {p n : Nat} {F : List Nat} (hb : Below w0.heap.size w0 w) (h : DevAt w' p (Dv.new n) F) (hb' : Below w.heap.size w w') (hF : ∀ k, k ∈ F → w.heap.size ≤ k) (h1 : 1 ≤ n) (h2 : n ≤ 512) : Dev w0 w' p n (Dv.new n) F :=
  ⟨h, bt hb hb', fun k hk => Nat.le_trans hb.size (hF k hk), DvOk.new n h1 h2, by simp [Dv.new], by simp [Dv.new]⟩

theorem Dv.cut_same (d : Dv) (keep : List Bool) : (d.cut keep).loose.length ≤ d.loose.length ∧ (d.cut keep).rd = d.rd ∧ (d.cut keep).wr = d.wr ∧ (d.cut keep).fl = d.fl ∧ (d.cut keep).keep.length = d.keep.length := by
  unfold Dv.cut
  split
  · exact ⟨Nat.le_refl _, rfl, rfl, rfl, rfl⟩
  · exact ⟨Nat.zero_le _, rfl, rfl, rfl, rfl⟩
theorem Dv.burn_same (d : Dv) : d.burn.loose.length ≤ d.loose.length ∧ d.burn.rd = d.rd ∧ d.burn.wr = d.wr ∧ d.burn.fl = d.fl ∧ d.burn.keep.length = d.keep.length := by
  have h1 : ∀ c : Dv, (c = d ∨ c = d.cut d.keep) → c.loose.length ≤ d.loose.length ∧ c.rd = d.rd ∧ c.wr = d.wr ∧ c.fl = d.fl ∧ c.keep.length = d.keep.length := by
    rintro c (rfl | rfl)
    · exact ⟨Nat.le_refl _, rfl, rfl, rfl, rfl⟩
    · exact d.cut_same _
  have h2 := h1 (if d.fuse = 0 then d.cut d.keep else d) (by split; exact .inr rfl; exact .inl rfl)
  unfold Dv.burn
  simp only
  generalize (if d.fuse = 0 then d.cut d.keep else d) = c at *
  split
  · exact h2
  · exact h2

theorem dv_Write {w0 w : World} {p n : Nat} {d : Dv} {F : List Nat} (h : Dev w0 w p n d F) (i : Nat) (blk : ByteArray) (hi : i < n) (hb : blk.size = 256) (hroom : d.loose.length + d.rd + d.wr + d.fl ≤ 990) :
    Calls Tryz.prog 39 #[.pointer (some ⟨p, 0, none⟩), .int .i64 i, .string blk] w fun e w' => e = .returned (.int .i64 (if d.burn.off then 4 else 0)) ∧ ∃ F', Dev w0 w' p n (d.write (i, blk)) F' ∧ Keeps F w w' ∧ ∀ k, k ∈ F' → k ∈ F ∨ w.heap.size ≤ k := by
  have hs := d.burn_same
  refine (dev_Write w p d F h.at_ n h.ok i blk hi hb (by have := h.kl; omega) (by omega) (by omega) (by omega)).mono ?_
  rintro e w' ⟨rfl, F', g1, g2, g3⟩
  refine ⟨rfl, F', h.next g1 g2 g3 (h.ok.write _ ⟨hi, hb⟩) ?_ ?_, g2, g3⟩
  · have := h.kl
    unfold Dv.write
    split
    · omega
    · simp only; omega
  · unfold Dv.write
    split
    · omega
    · simp only [List.length_append, List.length_cons, List.length_nil]; omega
theorem dv_Flush {w0 w : World} {p n : Nat} {d : Dv} {F : List Nat} (h : Dev w0 w p n d F) (hroom : d.loose.length + d.rd + d.wr + d.fl ≤ 990) :
    Calls Tryz.prog 41 #[.pointer (some ⟨p, 0, none⟩)] w fun e w' => e = .returned (.int .i64 (if d.burn.off then 4 else 0)) ∧ Dev w0 w' p n d.flush F ∧ Keeps F w w' := by
  have hs := d.burn_same
  refine (dev_Flush w p d F h.at_ n h.ok (by have := h.kl; omega) (by omega) (by omega) (by omega)).mono ?_
  rintro e w' ⟨rfl, g1, g2⟩
  refine ⟨rfl, h.next g1 g2 (fun k hk => .inl hk) h.ok.flush ?_ ?_, g2⟩
  · have := h.kl
    unfold Dv.flush
    split
    · omega
    · simp only; omega
  · unfold Dv.flush
    split
    · omega
    · simp only [List.length_nil]; omega
theorem dv_Cut {w0 w : World} {p n : Nat} {d : Dv} {F : List Nat} (h : Dev w0 w p n d F) (A : Option Addr) (cap : Nat) (keep : List Bool) (hr : Row w A (bools keep)) (hkl : keep.length ≤ 9223372036854775807) :
    Calls Tryz.prog 92 #[.pointer (some ⟨p, 0, none⟩), .slice A keep.length cap] w fun e w' => e = .returned (.tuple #[]) ∧ Dev w0 w' p n (d.cut keep) F ∧ Keeps F w w' := by
  have hs := d.cut_same keep
  have hl := h.ll
  refine (dev_Cut w p d F h.at_ n h.ok A cap keep hr hkl (by omega)).mono ?_
  rintro e w' ⟨rfl, g1, g2⟩
  exact ⟨rfl, h.next g1 g2 (fun k hk => .inl hk) (h.ok.cut _) (by have := h.kl; omega) (by omega), g2⟩
theorem dv_Read {w0 w : World} {p n : Nat} {d : Dv} {F : List Nat} (h : Dev w0 w p n d F) (i : Nat) (hi : i < n) (hof : d.off = false) (hroom : d.loose.length + d.rd + d.wr + d.fl ≤ 990) :
    Calls Tryz.prog 47 #[.pointer (some ⟨p, 0, none⟩), .int .i64 i] w fun e w' => e = .returned (.tuple #[.string (d.read i), .int .i64 0]) ∧ Dev w0 w' p n { d with rd := d.rd + 1 } F ∧ Keeps F w w' := by
  refine (dev_Read w p d F h.at_ n h.ok i hi hof (by omega) (by omega)).mono ?_
  rintro e w' ⟨rfl, g1, g2⟩
  exact ⟨rfl, h.next g1 g2 (fun k hk => .inl hk) ⟨h.ok.n1, h.ok.n2, h.ok.size, h.ok.loose, h.ok.fuse⟩ h.kl (by simp only; omega), g2⟩
theorem dv_New {w0 w : World} (hb : Below w0.heap.size w0 w) (n : Nat) (h1 : 1 ≤ n) (h2 : n ≤ 512) :
    Calls Tryz.prog 25 #[.int .i64 n] w fun e w' => ∃ p F, e = .returned (.pointer (some ⟨p, 0, none⟩)) ∧ Dev w0 w' p n (Dv.new n) F ∧ Below w.heap.size w w' ∧ ∀ k, k ∈ F → w.heap.size ≤ k := by
  refine (dev_New w n h1 h2).mono ?_
  rintro e w' ⟨p, F, rfl, g1, g2, g3⟩
  exact ⟨p, F, rfl, Dev.new hb g1 g2 g3 h1 h2, g2, g3⟩

def awk0 : Dv := Dv.new 2
def awk1 : Dv := { awk0 with loose := [(1, oneB 7)], wr := 1 }
def awk2 : Dv := { awk1 with rd := 1 }
def awk3 : Dv := awk2.cut [false, true]
def awk4 : Dv := awk3.come
def awk5 : Dv := { awk4 with rd := 2 }
theorem awk_write : awk0.write (1, oneB 7) = awk1 := by
  rw [Dv.write_none (by decide) rfl]; rfl
theorem awk_off : awk0.burn.off = false := by rw [Dv.burn_none (by decide)]; rfl
theorem awk_read : awk1.read 1 = oneB 7 := rfl
def awkB : ByteArray := awk4.read 1
theorem awkB_size : awkB.size = 256 := by decide +kernel
theorem awkB_63 : awkB.data.toList.getD 63 0 = 0 := by decide +kernel
theorem awkB_64 : awkB.data.toList.getD 64 0 = 7 := by decide +kernel
theorem awkB_127 : awkB.data.toList.getD 127 0 = 7 := by decide +kernel
theorem awkB_128 : awkB.data.toList.getD 128 0 = 0 := by decide +kernel

end Go.Proofs.YtcklgaenedlbiaaGreat

namespace Go.Proofs.YtcklgaenedlbiaaGreat
open Go.RowKit

/-- a plan: blocks, log, first, data, half, leaves, cap -/
structure Pl where
  (n log first data half leaves cap : Nat)
def planOf (n : Nat) : Pl :=
  ⟨n, (if n / 8 < 8 then 8 else n / 8), 2 + (if n / 8 < 8 then 8 else n / 8), n - (2 + (if n / 8 < 8 then 8 else n / 8)), (n - (2 + (if n / 8 < 8 then 8 else n / 8)) - 2) / 2,
    5 * ((n - (2 + (if n / 8 < 8 then 8 else n / 8)) - 2) / 2 - 3) / 6, 215 * (5 * ((n - (2 + (if n / 8 < 8 then 8 else n / 8)) - 2) / 2 - 3) / 6) - 1⟩
def Pl.vals (p : Pl) : Array Value := #[.int .i64 p.n, .int .i64 p.log, .int .i64 p.first, .int .i64 p.data, .int .i64 p.half, .int .i64 p.leaves, .int .i64 p.cap]
def zero7 : Array Value := #[.int .i64 0, .int .i64 0, .int .i64 0, .int .i64 0, .int .i64 0, .int .i64 0, .int .i64 0]
/-- a plan's numbers -/
theorem plan_facts {n : Nat} (h1 : 64 ≤ n) (h2 : n ≤ 512) : ∃ l8 log first data half leaves cap : Nat, planOf n = ⟨n, log, first, data, half, leaves, cap⟩ ∧ l8 = n / 8 ∧ (log = 8 ∧ l8 ≤ 8 ∨ log = l8 ∧ 8 ≤ l8) ∧ 8 ≤ log ∧ log ≤ 64 ∧ first = 2 + log ∧ n = data + first ∧ 54 ≤ data ∧ data ≤ 512 ∧ half = (data - 2) / 2 ∧ 26 ≤ half ∧ half ≤ 256 ∧ leaves = 5 * (half - 3) / 6 ∧ 19 ≤ leaves ∧ leaves ≤ 256 ∧ cap + 1 = 215 * leaves := by
  refine ⟨n / 8, _, _, _, _, _, _, rfl, rfl, ?_, ?_, ?_, rfl, ?_, ?_, ?_, rfl, ?_, ?_, rfl, ?_, ?_, ?_⟩ <;> (try split) <;> omega


theorem results_cell_tmp {P : Program} {fn : Func} {p q : Tmp} {ty : TypeId} (h : fn.results = #[.cell p ty, .tmp q]) (tmps : Array Value) (w : World) (g : Nat) (t : TypeId) (cs : Array Value) (d : TypeDesc)
    (hp : tmps.getD p undef = .pointer (some ⟨g, 0, none⟩)) (hg : Blk w g t cs.toList)
    (hu : P.underlying ty = some d) (hd : (match d with | .struct _ | .array _ _ => true | _ => false) = true) (hi : (P.info? ty).map (·.size) = some cs.size) :
    (results fn tmps).run P w = .ok (.tuple #[.agg cs, tmps.getD q undef]) w := by
  obtain ⟨fr, hg, _⟩ := hg
  have hp' : tmps[p]?.getD undef = .pointer (some ⟨g, 0, none⟩) := by simpa using hp
  have hg' : w.heap[g]? = some (.cells cs t fr) := by rw [hg]
  simp [results, h, hp', asAddr, run_loadVar_row w g t ty cs fr d hg' hu hd hi]

theorem vals7 {a b c d e f g a' b' c' d' e' f' g' : Int} (h1 : a = a') (h2 : b = b') (h3 : c = c') (h4 : d = d') (h5 : e = e') (h6 : f = f') (h7 : g = g') :
    (#[.int .i64 a, .int .i64 b, .int .i64 c, .int .i64 d, .int .i64 e, .int .i64 f, .int .i64 g] : Array Value) = #[.int .i64 a', .int .i64 b', .int .i64 c', .int .i64 d', .int .i64 e', .int .i64 f', .int .i64 g'] := by
  subst h1; subst h2; subst h3; subst h4; subst h5; subst h6; subst h7; rfl
theorem vals_of {n : Nat} (h1 : 64 ≤ n) (h2 : n ≤ 512) {a b c d e f g : Int} {p : Array Value} (hp : p = (planOf n).vals) (ha : a = n) (hb : b = 8 ∧ (n : Int) / 8 ≤ 8 ∨ b = (n : Int) / 8 ∧ 8 ≤ (n : Int) / 8) (hc : c = 2 + b) (hd : d = n - c) (he : e = (d - 2) / 2) (hf : f = 5 * (e - 3) / 6) (hg : g = 215 * f - 1) :
    (#[.int .i64 a, .int .i64 b, .int .i64 c, .int .i64 d, .int .i64 e, .int .i64 f, .int .i64 g] : Array Value) = p := by
  obtain ⟨l8, log, first, data, half, leaves, cap, hpp, r1, r2, r3, r4, r5, r6, r7, r8, r9, r10, r11, r12, r13, r14, r15⟩ := plan_facts h1 h2
  rw [hp, hpp]
  exact vals7 (by simp only; omega) (by simp only; omega) (by simp only; omega) (by simp only; omega) (by simp only; omega) (by simp only; omega) (by simp only; omega)
set_option maxHeartbeats 4000000 in
set_option maxRecDepth 100000 in
theorem capa_Of_no (n : Int) (h : n < 64 ∨ 512 < n) (w : World) :
    Calls Tryz.prog 29 #[.int .i64 n] w fun e w' => e = .returned (.tuple #[.agg zero7, .int .i64 1]) ∧ Below w.heap.size w w' := by
  have hu := Tryz.underlying65
  have hB := Blk.new w zero7 65
  have hA := below_alloc w (.cells zero7 65)
  have HB := hid hB; have HA := hid hA
  clear hB hA
  by_cases h1 : n < 64
  · skip
    go_enter Tryz.func29, Tryz.ntmps29
    go_wp2_with fail
    (try simp only [Exit.inBlock, Exit.then])
    exact bodyPost_ret (results_cell_tmp rfl _ _ w.heap.size _ zero7 _ rfl HB.out hu rfl (by kernel_rfl)) rfl ⟨rfl, HA.out⟩
  · have h2 : 512 < n := by omega
    go_enter Tryz.func29, Tryz.ntmps29
    go_wp2_with fail
    (try simp only [Exit.inBlock, Exit.then])
    exact bodyPost_ret (results_cell_tmp rfl _ _ w.heap.size _ zero7 _ rfl HB.out hu rfl (by kernel_rfl)) rfl ⟨rfl, HA.out⟩

set_option maxHeartbeats 4000000 in
set_option maxRecDepth 100000 in
theorem capa_Of_yes (n : Nat) (h1 : 64 ≤ n) (h2 : n ≤ 512) (w : World) :
    Calls Tryz.prog 29 #[.int .i64 n] w fun e w' => e = .returned (.tuple #[.agg (planOf n).vals, .int .i64 0]) ∧ Below w.heap.size w w' := by
  have g1 : ¬ (n : Int) < 64 := by omega
  have g2 : ¬ (512 : Int) < (n : Int) := by omega
  obtain ⟨p, hp⟩ : ∃ p, p = (planOf n).vals := ⟨_, rfl⟩
  rw [← hp]
  have HP := hid hp
  have hu := Tryz.underlying65
  clear hp
  go_enter Tryz.func29, Tryz.ntmps29
  go_wp2_with fail
  all_goals
    (try simp only [Exit.inBlock, Exit.then])
    refine bodyPost_ret (results_cell_tmp rfl _ _ w.heap.size _ _ _ rfl (Blk.belowS (Blk.new w _ 65) (below_alloc _ _)) hu rfl (by kernel_rfl)) rfl ?_
    refine ⟨?_, bt (below_alloc _ _) (below_alloc _ _)⟩
    exact congrArg (fun q => Ending.returned (.tuple #[.agg q, .int .i64 0])) (vals_of h1 h2 HP.out (by omega) (by omega) (by omega) (by omega) (by omega) (by omega) (by omega))

end Go.Proofs.YtcklgaenedlbiaaGreat
