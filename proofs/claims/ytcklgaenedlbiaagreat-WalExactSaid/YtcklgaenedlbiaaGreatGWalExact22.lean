/-
  The sum's functions, walked: table, More, Sum.
  slab.frame, slab.text: walked.
-/
import Derived.Test.YtcklgaenedlbiaaGreatProg
import Derived.Test.YtcklgaenedlbiaaGreatGWalExact01
import Derived.Test.YtcklgaenedlbiaaGreatGWalExact19
import Derived.Test.YtcklgaenedlbiaaGreatGWalExact21
import Derived.Test.YtcklgaenedlbiaaGreatShelf

namespace Go.Proofs.YtcklgaenedlbiaaGreat
open Go.RowKit

def crcTable : Array Value := #[.int .u32 0, .int .u32 274646895, .int .u32 549293790, .int .u32 820201905, .int .u32 1098587580, .int .u32 1361435347, .int .u32 1640403810, .int .u32 1905808397, .int .u32 2197175160, .int .u32 2460548119, .int .u32 2722870694, .int .u32 2987750089, .int .u32 3280807620, .int .u32 3553878443, .int .u32 3811616794, .int .u32 4084100981]

theorem table_one : crcTable.all (·.oneCell') = true := by kernel_rfl
theorem table_size : (Tryz.prog.info? 166).map (·.size) = some crcTable.size := by kernel_rfl

set_option maxHeartbeats 400000 in
theorem crc_table_any (w : World) :
    Calls Tryz.prog 115 #[] w fun e w' => e = .returned (.agg crcTable) ∧ Below w.heap.size w w' := by
  go_enter Tryz.func115, Tryz.ntmps115
  go_wp2
  exact bodyPost_ret (results_cell_row rfl _ _ _ _ crcTable (0, 0) _ rfl (heap_alloc_new _ _) Tryz.underlying166 rfl (by kernel_rfl)) rfl ⟨rfl, (Below.refl _ _).alloc (Nat.le_refl _) _⟩

theorem xor_ones (s : Nat) (hs : s < 4294967296) : bits .xor .u32 (s : Int) 4294967295 = ((s ^^^ Crc.ones : Nat) : Int) := u32_xor_nat s 4294967295 hs (by omega)

/-- one step of the table, in the walk's words -/
theorem step_words (x : Nat) (hx : x < 4294967296) :
    bits .and .u32 (x : Int) 15 = ((x % 16 : Nat) : Int) ∧ crcTable[x % 16]? = some (.int .u32 ((Crc.T.getD (x % 16) 0 : Nat) : Int)) ∧
      bits .xor .u32 ((x : Int) / 16) ((Crc.T.getD (x % 16) 0 : Nat) : Int) = ((Crc.nib x : Nat) : Int) := by
  have tl : ∀ i, i < 16 → Crc.T.getD i 0 < 4294967296 ∧ crcTable[i]? = some (.int .u32 ((Crc.T.getD i 0 : Nat) : Int)) := by
    intro i hi
    have h : i = 0 ∨ i = 1 ∨ i = 2 ∨ i = 3 ∨ i = 4 ∨ i = 5 ∨ i = 6 ∨ i = 7 ∨ i = 8 ∨ i = 9 ∨ i = 10 ∨ i = 11 ∨ i = 12 ∨ i = 13 ∨ i = 14 ∨ i = 15 := by omega
    rcases h with rfl | rfl | rfl | rfl | rfl | rfl | rfl | rfl | rfl | rfl | rfl | rfl | rfl | rfl | rfl | rfl <;> exact ⟨by decide, rfl⟩
  obtain ⟨t1, t2⟩ := tl (x % 16) (Nat.mod_lt _ (by decide))
  refine ⟨?_, t2, ?_⟩
  · have := u32_and_nat x 15 hx (by omega)
    rw [nat_mask4] at this
    exact this
  · have := u32_xor_nat (x / 16) (Crc.T.getD (x % 16) 0) (by omega) t1
    rw [show ((x : Int) / 16) = ((x / 16 : Nat) : Int) by omega]
    exact this

def bytesAll (ps : List ByteArray) : List UInt8 := (ps.map fun s => s.data.toList).flatten
theorem bytesAll_take (ps : List ByteArray) (k : Nat) (h : k < ps.length) : bytesAll (ps.take (k + 1)) = bytesAll (ps.take k) ++ (ps.getD k ByteArray.empty).data.toList := by
  rw [List.take_succ_eq_append_getElem h]
  unfold bytesAll
  rw [List.map_append, List.flatten_append]
  have e : ps.getD k ByteArray.empty = ps[k] := by simp [h]
  rw [e, List.map_cons, List.map_nil, List.flatten_cons, List.flatten_nil, List.append_nil]

set_option maxHeartbeats 1000000 in
set_option maxRecDepth 100000 in
theorem crc_More_some (s : Nat) (hs : s < 4294967296) (ps : List ByteArray) (b off cap : Nat) (w : World) (hne : 0 < ps.length) (hlen : ps.length ≤ maxLen) (hb : b < w.heap.size)
    (hsz : ∀ p ∈ ps, p.size ≤ maxLen)
    (hc : ∀ i v, (strs ps)[i]? = some v → w.cell? ⟨b, off + i, none⟩ = some v) :
    Calls Tryz.prog 109 #[.int .u32 s, .slice (some ⟨b, off, none⟩) ps.length cap] w fun e w' => e = .returned (.int .u32 (Crc.more s (bytesAll ps))) ∧ Below w.heap.size w w' := by
  have hlen' : ps.length ≤ 9223372036854775807 := by unfold maxLen at hlen; exact hlen
  clear hlen
  have HC := hid hc; clear hc
  have HS := hid hsz; clear hsz
  go_enter Tryz.func109, Tryz.ntmps109
  have hzt : crcTable.size = 16 := by rfl
  have Hzt := hid hzt; clear hzt
  go_wp2_with (first
    | (go_at_call 115; refine (crc_table_any _).mono ?_; rintro e w1 ⟨rfl, hb1⟩)
    | (with_reducible refine at_op (.store 166 (.tmp 5) (.tmp 11)) rfl ?_; refine wpList_store_row_k rfl _ _ _ rfl _ crcTable rfl rfl 166 _ (heap_alloc_new _ _) table_size rfl table_one ?_; intro w2 ht hb2 hz2))
  have hb2' : Below w.heap.size w w2 := (hb1.alloc hb1.size _).trans (hb2 _ hb1.size)
  have hz2' : w2.heap.size = w1.heap.size + 1 := by rw [hz2]; simp
  have hsz1 : w.heap.size ≤ w1.heap.size := hb1.size
  clear hb1 hb2 hz2
  go_loopg [6, 16] ps.length (fun n r i wr => ∃ k : Nat, k + n = ps.length ∧ i = .int .i64 k ∧ r = .int .u32 (Crc.fold (s ^^^ Crc.ones) (bytesAll (ps.take k))) ∧ Below w2.heap.size w2 wr)
  case atStart => exact ⟨0, by omega, rfl, by rw [xor_ones s hs]; rfl, Below.refl _ _⟩
  case round =>
    obtain ⟨k, hk, rfl, rfl, hbr⟩ := hrel
    by_cases hlt : k < ps.length
    · obtain ⟨p, hp⟩ : ∃ p, p = ps.getD k ByteArray.empty := ⟨_, rfl⟩
      have hcell : wr.cell? ⟨b, off + k, none⟩ = some (.string p) := by
        rw [(hbr.cell (p := ⟨b, off + k, none⟩) (by show b < _; omega)), (hb2'.cell (p := ⟨b, off + k, none⟩) hb)]
        exact HC.out k _ (by simp [strs, hlt, hp])
      have HP := hid hp; clear hp
      go_wp2_with (first | (with_reducible refine at_op (.convert 9 62 (.tmp 20)) rfl ?_; refine wpList_bytes rfl _ _ 5 _ rfl _ rfl Tryz.underlying9 Tryz.underlying62 Tryz.underlying5 ?_; intro c w3 hb3 hz3 _ hB3))
      have hps : p.size ≤ 9223372036854775807 := by
        have := HS.out p (by rw [HP.out]; simp [hlt])
        unfold maxLen at this
        omega
      obtain ⟨R, hR⟩ : ∃ R, R = Crc.fold (s ^^^ Crc.ones) (bytesAll (ps.take k)) := ⟨_, rfl⟩
      rw [← hR]
      have hRl : R < 4294967296 := by rw [hR]; exact Crc.fold_lt (Nat.xor_lt_two_pow hs Crc.ones_lt) _
      have HR := hid hR; clear hR
      have htab : ∀ x, x < 16 → w3.cell? ⟨w1.heap.size, x, none⟩ = crcTable[x]? := by
        intro x _
        rw [hb3.cell (p := ⟨w1.heap.size, x, none⟩) (by have := hbr.size; show w1.heap.size < _; omega), hbr.cell (p := ⟨w1.heap.size, x, none⟩) (by show w1.heap.size < _; omega), cell_of_row w2 _ _ _ _ _ ht]
      have HT := hid htab; clear htab
      have HC3 : Hid (∀ j, j < p.size → w3.cell? ⟨wr.heap.size, j, none⟩ = some (.int .u8 (p.data.toList.getD j 0).toNat)) := fun j hj => bytes_at hB3 hj
      clear hB3
      go_loopg [6, 23] p.size (fun n r j wx => ∃ m : Nat, m + n = p.size ∧ j = .int .i64 m ∧ r = .int .u32 (Crc.fold R (p.data.toList.take m)) ∧ w3 = wx)
      case atStart => exact ⟨0, by omega, rfl, rfl, rfl⟩
      case round =>
        obtain ⟨m, hm, rfl, rfl, rfl⟩ := hrel
        by_cases hmt : m < p.size
        · have hsn := take_snoc p m hmt
          obtain ⟨c8, hc8⟩ : ∃ c8, c8 = p.data.toList.getD m 0 := ⟨_, rfl⟩
          have hcb := HC3.out m hmt
          rw [← hc8] at hcb hsn
          obtain ⟨v, hv⟩ : ∃ v, v = c8.toNat := ⟨_, rfl⟩
          rw [← hv] at hcb
          have hvl : v < 256 := by rw [hv]; exact c8.toNat_lt
          obtain ⟨r, hr⟩ : ∃ r, r = Crc.fold R (p.data.toList.take m) := ⟨_, rfl⟩
          rw [← hr]
          have hrl : r < 4294967296 := by rw [hr]; exact Crc.fold_lt hRl _
          have hnx : Crc.fold R (p.data.toList.take (m + 1)) = Crc.nib (Crc.nib (r ^^^ v)) := by rw [hsn, Crc.fold_snoc, ← hr, ← hv]; rfl
          have e1 := u32_xor_nat r v hrl (by omega)
          obtain ⟨x, hx⟩ : ∃ x, x = r ^^^ v := ⟨_, rfl⟩
          have hxl : x < 4294967296 := by rw [hx]; exact Nat.xor_lt_two_pow (n := 32) hrl (by omega)
          rw [← hx] at e1 hnx
          obtain ⟨a1, a2, a3⟩ := step_words x hxl
          obtain ⟨y, hy⟩ : ∃ y, y = Crc.nib x := ⟨_, rfl⟩
          have hyl : y < 4294967296 := by rw [hy]; exact Crc.nib_lt hxl
          rw [← hy] at a3 hnx
          obtain ⟨b1, b2, b3⟩ := step_words y hyl
          obtain ⟨z, hz⟩ : ∃ z, z = Crc.nib y := ⟨_, rfl⟩
          rw [← hz] at b3 hnx
          have t1 := (HT.out (x % 16) (Nat.mod_lt _ (by decide))).trans a2
          have t2 := (HT.out (y % 16) (Nat.mod_lt _ (by decide))).trans b2
          obtain ⟨p1, hp1⟩ : ∃ p1, p1 = Crc.T.getD (x % 16) 0 := ⟨_, rfl⟩
          obtain ⟨p2, hp2⟩ : ∃ p2, p2 = Crc.T.getD (y % 16) 0 := ⟨_, rfl⟩
          rw [← hp1] at t1 a3
          rw [← hp2] at t2 b3
          have HN := hid hnx
          have x16 : x % 16 < 16 := Nat.mod_lt _ (by decide)
          have y16 : y % 16 < 16 := Nat.mod_lt _ (by decide)
          clear hsn hc8 hv hr hnx hx hy hz hp1 hp2 a2 b2
          go_wp2_with fail
          go_roundg (p.size - (m + 1))
          case measure => omega
          case rel => exact ⟨m + 1, by omega, rfl, by rw [HN.out], rfl⟩
        · go_wp2_with fail
          go_roundg (ps.length - (k + 1))
          case measure => omega
          case rel =>
            refine ⟨k + 1, by omega, rfl, ?_, hbr.trans (hb3.mono hbr.size)⟩
            have h1 : m = p.size := by omega
            have h2 : bytesAll (ps.take (k + 1)) = bytesAll (ps.take k) ++ p.data.toList := by rw [HP.out]; exact bytesAll_take ps k hlt
            rw [h1, take_all, h2, Crc.fold_append, ← HR.out]
    · go_wp2_with fail
      go_ret
      refine ⟨ret_int ?_, hb2'.trans (hbr.mono hb2'.size)⟩
      have h1 : k = ps.length := by omega
      rw [h1, List.take_of_length_le (Nat.le_refl _)]
      exact u32_xor_nat _ Crc.ones (Crc.fold_lt (Nat.xor_lt_two_pow (n := 32) hs Crc.ones_lt) _) Crc.ones_lt

set_option maxHeartbeats 1000000 in
set_option maxRecDepth 100000 in
theorem crc_More_none (s : Nat) (hs : s < 4294967296) (A : Option Addr) (cap : Nat) (w : World) :
    Calls Tryz.prog 109 #[.int .u32 s, .slice A 0 cap] w fun e w' => e = .returned (.int .u32 s) ∧ Below w.heap.size w w' := by
  have hx := xor_ones s hs
  have hy := u32_xor_nat (s ^^^ Crc.ones) Crc.ones (Nat.xor_lt_two_pow (n := 32) hs Crc.ones_lt) Crc.ones_lt
  rw [Crc.xx] at hy
  have HY := hid hy; clear hy
  have hzt : crcTable.size = 16 := by rfl
  have Hzt := hid hzt; clear hzt
  go_enter Tryz.func109, Tryz.ntmps109
  go_wp2_with (first
    | (go_at_call 115; refine (crc_table_any _).mono ?_; rintro e w1 ⟨rfl, hb1⟩)
    | (with_reducible refine at_op (.store 166 (.tmp 5) (.tmp 11)) rfl ?_; refine wpList_store_row_k rfl _ _ _ rfl _ crcTable rfl rfl 166 _ (heap_alloc_new _ _) table_size rfl table_one ?_; intro w2 ht hb2 hz2))
  refine wp_loop_rounds 1 ?_
  rw [rounds_succ]
  go_wp2_with fail
  go_ret
  exact ⟨ret_int HY.out, (hb1.alloc hb1.size _).trans (hb2 _ hb1.size)⟩

/-- More: of whatever parts -/
theorem crc_More_any (s : Nat) (hs : s < 4294967296) (ps : List ByteArray) (A : Option Addr) (cap : Nat) (w : World) (hlen : ps.length ≤ maxLen) (hsz : ∀ p ∈ ps, p.size ≤ maxLen) (hr : Row w A (strs ps)) :
    Calls Tryz.prog 109 #[.int .u32 s, .slice A ps.length cap] w fun e w' => e = .returned (.int .u32 (Crc.more s (bytesAll ps))) ∧ Below w.heap.size w w' := by
  by_cases h0 : ps.length = 0
  · obtain rfl := List.eq_nil_of_length_eq_zero h0
    have hm : Crc.more s (bytesAll []) = s := Crc.more_nil s
    rw [hm]
    exact crc_More_none s hs A cap w
  · rcases hr with hr | ⟨b, off, rfl, hb, hc⟩
    · simp [strs] at hr; subst hr; simp at h0
    · exact crc_More_some s hs ps b off cap w (by omega) hlen hb hsz hc

set_option maxHeartbeats 400000 in
theorem crc_Sum_any (ps : List ByteArray) (A : Option Addr) (cap : Nat) (w : World) (hlen : ps.length ≤ maxLen) (hsz : ∀ p ∈ ps, p.size ≤ maxLen) (hr : Row w A (strs ps)) :
    Calls Tryz.prog 86 #[.slice A ps.length cap] w fun e w' => e = .returned (.int .u32 (Crc.sum (bytesAll ps))) ∧ Below w.heap.size w w' := by
  go_enter Tryz.func86, Tryz.ntmps86
  go_wp2_with (go_at_call 109; refine (crc_More_any 0 (by omega) ps A cap _ hlen hsz hr).mono ?_; rintro e w1 ⟨rfl, hb1⟩)
  go_ret
  exact ⟨rfl, hb1⟩

theorem small {ps : List ByteArray} (h : ps.all (fun p => decide (p.size ≤ 9223372036854775807)) = true) : ∀ p ∈ ps, p.size ≤ maxLen := by
  intro p hp
  have := List.all_eq_true.1 h p hp
  unfold maxLen
  simpa using this

/-- the sums of one part, of two, of three, where the call lays them itself -/
theorem crc_Sum_v (n : Nat) (ps : List ByteArray) (A : Option Addr) (len cap : Nat) (w : World) (vs : List Value) (hl : ps.length = len) (hlen : len ≤ 9223372036854775807) (hsz : ∀ p ∈ ps, p.size ≤ maxLen) (hv : strs ps = vs) (hr : Row w A vs) (hn : Crc.sum (bytesAll ps) = n) :
    Calls Tryz.prog 86 #[.slice A len cap] w fun e w' => e = .returned (.int .u32 n) ∧ Below w.heap.size w w' := by
  subst hl hv hn
  exact crc_Sum_any ps A cap w (by unfold maxLen; exact hlen) hsz hr
theorem crc_More_v (s n : Nat) (hs : s < 4294967296) (ps : List ByteArray) (A : Option Addr) (len cap : Nat) (w : World) (vs : List Value) (hl : ps.length = len) (hlen : len ≤ 9223372036854775807) (hsz : ∀ p ∈ ps, p.size ≤ maxLen) (hv : strs ps = vs) (hr : Row w A vs) (hn : Crc.more s (bytesAll ps) = n) :
    Calls Tryz.prog 109 #[.int .u32 s, .slice A len cap] w fun e w' => e = .returned (.int .u32 n) ∧ Below w.heap.size w w' := by
  subst hl hv hn
  exact crc_More_any s hs ps A cap w (by unfold maxLen; exact hlen) hsz hr
end Go.Proofs.YtcklgaenedlbiaaGreat

namespace Go.Proofs.YtcklgaenedlbiaaGreat
open Go.RowKit

theorem bytes1 (a : ByteArray) : bytesAll [a] = a.data.toList := by simp [bytesAll]
theorem crc_Sum1 (n : Nat) (a : ByteArray) (A : Option Addr) (w : World) (ha : a.size ≤ 9223372036854775807) (hn : Crc.sum a.data.toList = n) (hr : Row w A [.string a]) :
    Calls Tryz.prog 86 #[.slice A 1 1] w fun e w' => e = .returned (.int .u32 n) ∧ Below w.heap.size w w' :=
  crc_Sum_v n [a] _ 1 1 _ _ rfl (by decide) (by intro p hp; simp at hp; subst hp; unfold maxLen; exact ha) rfl hr (by rw [bytes1]; exact hn)
theorem sum_lt' (l : List UInt8) : Crc.sum l < 4294967296 := Crc.more_lt (by decide) l
theorem repeat_zero : ∀ c, Lib.repeatL [0] c = List.replicate c (0 : UInt8)
  | 0 => rfl
  | c + 1 => by rw [Lib.repeatL, repeat_zero c]; rfl
theorem Repeat_zeros (c : Nat) (w : World) (hc : c ≤ 100000) :
    Calls Tryz.prog 46 #[.string ⟨#[0]⟩, .int .i64 c] w fun e w' => e = .returned (.string ⟨(List.replicate c (0 : UInt8)).toArray⟩) ∧ Below w.heap.size w w' := by
  have h := Tryz.strings_Repeat ⟨#[0]⟩ c w (by omega) (by show 1 * c ≤ _; omega)
  rw [show (⟨#[0]⟩ : ByteArray).data.toList = [0] from rfl, repeat_zero] at h
  exact h
theorem numOk2 {n : Nat} (h : n < 65536) : numOk 2 [(n : Int)] = true ∧ beAll (2 : Int).toNat [(n : Int)] = beB 2 n := by
  constructor
  · show (isW 2 && [(n : Int)].all (fitsB 2)) = true
    simp [isW, fitsB]; omega
  · simp [beAll]
theorem any4 {n : Nat} (h : n < 4294967296) : ([(n : Int)].any fun n => !fitsB ((4 : Nat) : Int) n) = false := by
  simp [fitsB]; omega
theorem beAll4 (n : Nat) : beAll 4 [(n : Int)] = beB 4 n := by simp [beAll]

set_option maxHeartbeats 4000000 in
set_option maxRecDepth 100000 in
theorem slab_frame (size : Nat) (s : ByteArray) (h : s.size + 6 ≤ size) (hsz : size ≤ 1000) (w : World) :
    Calls Tryz.prog 60 #[.int .i64 size, .string s] w fun e w' => e = .returned (.string ⟨(frameB size s.data.toList).toArray⟩) ∧ Below w.heap.size w w' := by
  obtain ⟨z, hz⟩ : ∃ z, z = size - 6 - s.size := ⟨_, rfl⟩
  obtain ⟨z0, hz0⟩ : ∃ z, z = size - 6 := ⟨_, rfl⟩
  have e1 : IntKind.i64.wrap ((size : Int) - 6) = (z0 : Int) := by rw [IntKind.wrap_i64]; omega
  have e2 : IntKind.i64.wrap ((z0 : Int) - (s.size : Int)) = (z : Int) := by rw [IntKind.wrap_i64]; omega
  have hz1 : z ≤ 1000 := by omega
  obtain ⟨R, hR⟩ : ∃ R, R = restB size s.data.toList := ⟨_, rfl⟩
  have hRs : R = beB 2 s.size ++ s.data.toList ++ List.replicate z 0 := by rw [hR, hz]; rfl
  have hsl : s.data.toList.length = s.size := by simp
  have hRl : R.length ≤ 1000 := by rw [hR, restB_length (by rw [hsl]; exact h)]; omega
  obtain ⟨n, hn⟩ : ∃ n, n = Crc.sum R := ⟨_, rfl⟩
  have hnl : n < 4294967296 := by rw [hn]; exact sum_lt' R
  have hF : frameB size s.data.toList = beB 4 n ++ R := by unfold frameB; rw [← hR, ← hn]
  obtain ⟨o1, o2⟩ := numOk2 (show s.size < 65536 by omega)
  have O1 := hid o1; have O2 := hid o2; have HRS := hid hRs; have HF := hid hF; have HN := hid hn; have HRL := hid hRl; have HSL := hid hsl
  have P0 := hid (Pen.new (Below.refl w.heap.size w))
  clear hR hRs hsl hRl hn hF o1 o2 hz hz0
  go_enter Tryz.func60, Tryz.ntmps60
  go_wp2_with (with_reducible refine at_op (.buildSlice 60 1 #[(0, .tmp 8)]) rfl ?_; refine Stopped.go ?_)
  obtain ⟨p, hp⟩ : ∃ p, p = w.heap.size := ⟨_, rfl⟩
  rw [← hp] at P0 ⊢
  generalize w.alloc (.cells #[.pointer none, .slice none 0 0] 113) = w2 at P0 ⊢
  clear hp
  refine Stopped.mk ?_
  go_wp2_with fail
  refine (pen_Num P0.out 2 [(s.size : Int)] #[.int .i64 s.size] 3 rfl 1 (by simp) (by simp)).mono ?_
  rintro e w3 ⟨rfl, P3⟩
  rw [O1.out, O2.out] at P3
  rw [O1.out]
  simp only [if_true, List.nil_append] at P3 ⊢
  have HP3 := hid P3
  clear P3 P0
  go_wp2_with fail
  refine (pen_Raw HP3.out s (by have := HSL.out; rw [beB_length]; omega)).mono ?_
  rintro e w4 ⟨rfl, P4⟩
  have HP4 := hid P4
  clear P4 HP3
  go_wp2_with fail
  refine (Repeat_zeros z w4 (by omega)).mono ?_
  rintro e w5 ⟨rfl, hb5⟩
  have HP5 := hid (HP4.out.below hb5)
  clear hb5 HP4
  go_wp2_with fail
  refine (pen_Raw HP5.out ⟨(List.replicate z (0 : UInt8)).toArray⟩ (by have := HSL.out; rw [List.length_append, beB_length, HSL.out]; show _ + (List.replicate z (0 : UInt8)).toArray.size ≤ _; simp; omega)).mono ?_
  rintro e w6 ⟨rfl, P6⟩
  rw [show (⟨(List.replicate z (0 : UInt8)).toArray⟩ : ByteArray).data.toList = List.replicate z 0 by simp, ← HRS.out] at P6
  have T6 := hid (Two.new P6)
  clear P6 HP5
  obtain ⟨q, hq⟩ : ∃ q, q = w6.heap.size := ⟨_, rfl⟩
  have HQ := hid hq; clear hq
  go_wp2_with fail
  rw [← HQ.out] at T6 ⊢
  generalize w6.alloc (.cells #[.pointer none, .slice none 0 0] 113) = w7 at T6 ⊢
  clear HQ
  refine (two_Bytes T6.out.rot).mono ?_
  rintro e w8 ⟨rfl, T8⟩
  have HT8 := hid (T8.below (below_alloc w8 (.cells #[.string ⟨R.toArray⟩] 9)))
  have HROW := hid (row_new w8 #[.string ⟨R.toArray⟩] 9)
  clear T8 T6
  go_wp2_with fail
  refine (crc_Sum1 n ⟨R.toArray⟩ _ _ (by show R.toArray.size ≤ _; have := HRL.out; simp; omega) (by rw [HN.out]) HROW.out).mono ?_
  rintro e w9 ⟨rfl, hb9⟩
  have HT9 := hid (HT8.out.below hb9).rot
  clear hb9 HT8 HROW
  go_wp2_with fail
  refine (two_Num HT9.out 4 [(n : Int)] #[.int .i64 n] rfl (by decide) (any4 hnl) (by simp) (by simp) 1 1 rfl).mono ?_
  rintro e w10 ⟨rfl, T10⟩
  rw [beAll4, List.nil_append] at T10
  have HT10 := hid T10.rot
  clear T10 HT9
  go_wp2_with fail
  refine (two_Bytes HT10.out).mono ?_
  rintro e w11 ⟨rfl, T11⟩
  have HT11 := hid T11.rot
  clear T11 HT10
  go_wp2_with fail
  refine (two_Raw HT11.out ⟨R.toArray⟩ (by rw [beB_length]; show 4 + R.toArray.size ≤ _; have := HRL.out; simp; omega)).mono ?_
  rintro e w12 ⟨rfl, T12⟩
  rw [show (⟨R.toArray⟩ : ByteArray).data.toList = R by simp, ← HF.out] at T12
  have HT12 := hid T12
  clear T12 HT11
  go_wp2_with fail
  refine (two_Bytes HT12.out).mono ?_
  rintro e w13 ⟨rfl, T13⟩
  have HB := hid T13.bel
  clear T13 HT12
  go_wp2_with fail
  go_ret
  exact ⟨rfl, HB.out⟩
end Go.Proofs.YtcklgaenedlbiaaGreat
