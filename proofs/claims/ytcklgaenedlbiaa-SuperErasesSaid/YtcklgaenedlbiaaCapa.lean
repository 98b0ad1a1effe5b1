/-
  What a store of so many blocks holds: walked.
-/
import Derived.Test.YtcklgaenedlbiaaDevAt
namespace Go.Proofs.Ytcklgaenedlbiaa
open Go.RowKit

/-- a plan: blocks, log, first, data, half, leaves, cap -/
structure Pl where
  (n log first data half leaves cap : Nat)
def planOf (n : Nat) : Pl :=
  ⟨n, (if n / 8 < 8 then 8 else n / 8), 2 + (if n / 8 < 8 then 8 else n / 8), n - (2 + (if n / 8 < 8 then 8 else n / 8)), (n - (2 + (if n / 8 < 8 then 8 else n / 8)) - 2) / 2,
    5 * ((n - (2 + (if n / 8 < 8 then 8 else n / 8)) - 2) / 2 - 3) / 6, 215 * (5 * ((n - (2 + (if n / 8 < 8 then 8 else n / 8)) - 2) / 2 - 3) / 6) - 1⟩
def Pl.vals (p : Pl) : Array Value := #[.int .i64 p.n, .int .i64 p.log, .int .i64 p.first, .int .i64 p.data, .int .i64 p.half, .int .i64 p.leaves, .int .i64 p.cap]
def zero7 : Array Value := #[.int .i64 0, .int .i64 0, .int .i64 0, .int .i64 0, .int .i64 0, .int .i64 0, .int .i64 0]
/-- a plan's numbers -/
theorem plan_facts {n : Nat} (h1 : 64 ≤ n) (h2 : n ≤ 512) : ∃ l8 log first data half leaves cap : Nat, planOf n = ⟨n, log, first, data, half, leaves, cap⟩ ∧ l8 = n / 8 ∧ (log = 8 ∧ l8 ≤ 8 ∨ log = l8 ∧ 8 ≤ l8) ∧ 8 ≤ log ∧ log ≤ 64 ∧ first = 2 + log ∧ n = data + first ∧ 54 ≤ data ∧ data ≤ 512 ∧ half = (data - 2) / 2 ∧ 26 ≤ half ∧ half ≤ 256 ∧ leaves = 5 * (half - 3) / 6 ∧ 19 ≤ leaves ∧ leaves ≤ 256 ∧ cap + 1 = 215 * leaves := by
  refine ⟨n / 8, _, _, _, _, _, _, rfl, rfl, ?_, ?_, ?_, rfl, ?_, ?_, ?_, rfl, ?_, ?_, rfl, ?_, ?_, ?_⟩ <;> (try split) <;> omega


theorem results_cell_tmp {P : Program} {fn : Func} {p q : Tmp} {ty : TypeId} (h : fn.results = #[.cell p ty, .tmp q]) (tmps : Array Value) (w : World) (g : Nat) (t : TypeId) (cs : Array Value) (d : TypeDesc)
    (hp : tmps.getD p undef = .pointer (some ⟨g, 0, none⟩)) (hg : Blk w g t cs.toList)
    (hu : P.underlying ty = some d) (hd : (match d with | .struct _ | .array _ _ => true | _ => false) = true) (hi : (P.info? ty).map (·.size) = some cs.size) :
    (results fn tmps).run P w = .ok (.tuple #[.agg cs, tmps.getD q undef]) w := by
  obtain ⟨fr, hg, _⟩ := hg
  have hp' : tmps[p]?.getD undef = .pointer (some ⟨g, 0, none⟩) := by simpa using hp
  have hg' : w.heap[g]? = some (.cells cs t fr) := by rw [hg]
  simp [results, h, hp', asAddr, run_loadVar_row w g t ty cs fr d hg' hu hd hi]

theorem vals7 {a b c d e f g a' b' c' d' e' f' g' : Int} (h1 : a = a') (h2 : b = b') (h3 : c = c') (h4 : d = d') (h5 : e = e') (h6 : f = f') (h7 : g = g') :
    (#[.int .i64 a, .int .i64 b, .int .i64 c, .int .i64 d, .int .i64 e, .int .i64 f, .int .i64 g] : Array Value) = #[.int .i64 a', .int .i64 b', .int .i64 c', .int .i64 d', .int .i64 e', .int .i64 f', .int .i64 g'] := by
  subst h1; subst h2; subst h3; subst h4; subst h5; subst h6; subst h7; rfl
theorem vals_of {n : Nat} (h1 : 64 ≤ n) (h2 : n ≤ 512) {a b c d e f g : Int} {p : Array Value} (hp : p = (planOf n).vals) (ha : a = n) (hb : b = 8 ∧ (n : Int) / 8 ≤ 8 ∨ b = (n : Int) / 8 ∧ 8 ≤ (n : Int) / 8) (hc : c = 2 + b) (hd : d = n - c) (he : e = (d - 2) / 2) (hf : f = 5 * (e - 3) / 6) (hg : g = 215 * f - 1) :
    (#[.int .i64 a, .int .i64 b, .int .i64 c, .int .i64 d, .int .i64 e, .int .i64 f, .int .i64 g] : Array Value) = p := by
  obtain ⟨l8, log, first, data, half, leaves, cap, hpp, r1, r2, r3, r4, r5, r6, r7, r8, r9, r10, r11, r12, r13, r14, r15⟩ := plan_facts h1 h2
  rw [hp, hpp]
  exact vals7 (by simp only; omega) (by simp only; omega) (by simp only; omega) (by simp only; omega) (by simp only; omega) (by simp only; omega) (by simp only; omega)
set_option maxHeartbeats 4000000 in
set_option maxRecDepth 100000 in
theorem capa_Of_no (n : Int) (h : n < 64 ∨ 512 < n) (w : World) :
    Calls Try.prog 68 #[.int .i64 n] w fun e w' => e = .returned (.tuple #[.agg zero7, .int .i64 1]) ∧ Below w.heap.size w w' := by
  have hu := Try.underlying110
  have hB := Blk.new w zero7 110
  have hA := below_alloc w (.cells zero7 110)
  have HB := hid hB; have HA := hid hA
  clear hB hA
  by_cases h1 : n < 64
  · skip
    go_enter Try.func68, Try.ntmps68
    go_wp2_with fail
    (try simp only [Exit.inBlock, Exit.then])
    exact bodyPost_ret (results_cell_tmp rfl _ _ w.heap.size _ zero7 _ rfl HB.out hu rfl (by kernel_rfl)) rfl ⟨rfl, HA.out⟩
  · have h2 : 512 < n := by omega
    go_enter Try.func68, Try.ntmps68
    go_wp2_with fail
    (try simp only [Exit.inBlock, Exit.then])
    exact bodyPost_ret (results_cell_tmp rfl _ _ w.heap.size _ zero7 _ rfl HB.out hu rfl (by kernel_rfl)) rfl ⟨rfl, HA.out⟩

set_option maxHeartbeats 4000000 in
set_option maxRecDepth 100000 in
theorem capa_Of_yes (n : Nat) (h1 : 64 ≤ n) (h2 : n ≤ 512) (w : World) :
    Calls Try.prog 68 #[.int .i64 n] w fun e w' => e = .returned (.tuple #[.agg (planOf n).vals, .int .i64 0]) ∧ Below w.heap.size w w' := by
  have g1 : ¬ (n : Int) < 64 := by omega
  have g2 : ¬ (512 : Int) < (n : Int) := by omega
  obtain ⟨p, hp⟩ : ∃ p, p = (planOf n).vals := ⟨_, rfl⟩
  rw [← hp]
  have HP := hid hp
  have hu := Try.underlying110
  clear hp
  go_enter Try.func68, Try.ntmps68
  go_wp2_with fail
  all_goals
    (try simp only [Exit.inBlock, Exit.then])
    refine bodyPost_ret (results_cell_tmp rfl _ _ w.heap.size _ _ _ rfl (Blk.belowS (Blk.new w _ 110) (below_alloc _ _)) hu rfl (by kernel_rfl)) rfl ?_
    refine ⟨?_, bt (below_alloc _ _) (below_alloc _ _)⟩
    exact congrArg (fun q => Ending.returned (.tuple #[.agg q, .int .i64 0])) (vals_of h1 h2 HP.out (by omega) (by omega) (by omega) (by omega) (by omega) (by omega) (by omega))

end Go.Proofs.Ytcklgaenedlbiaa
