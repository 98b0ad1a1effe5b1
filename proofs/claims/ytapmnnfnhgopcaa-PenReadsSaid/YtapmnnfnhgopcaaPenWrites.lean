/-
  PenWrites, walked.
-/
import Derived.Test.YtapmnnfnhgopcaaPenAwake
namespace Go.Proofs.Ytapmnnfnhgopcaa
open Go.RowKit

def rNumS (W n : Int) : ByteArray := if isW W && decide (0 ≤ n) then numS W.toNat n.toNat else ⟨#[]⟩
def rNumB (W n : Int) : Bool := isW W && fitsB W n
theorem ref01_Num_all (W n : Int) (hn : n < 9223372036854775808) (w : World) :
    Calls Try.prog 47 #[.int .i64 W, .int .i64 n] w fun e w' => e = .returned (.tuple #[.string (rNumS W n), .bool (rNumB W n)]) ∧ Below w.heap.size w w' := by
  unfold rNumS rNumB
  cases hw : isW W with
  | false =>
    refine (ref01_Num_no W n (.inl hw) w).mono ?_
    rintro e w' ⟨rfl, rfl⟩
    exact ⟨rfl, Below.refl _ _⟩
  | true =>
    by_cases h0 : 0 ≤ n
    · rw [decide_eq_true h0]
      exact ref01_Num_yes W n hw h0 hn w
    · rw [decide_eq_false h0]
      refine (ref01_Num_no W n (.inr (by omega)) w).mono ?_
      rintro e w' ⟨rfl, rfl⟩
      refine ⟨?_, Below.refl _ _⟩
      rw [show fitsB W n = false by unfold fitsB; rw [decide_eq_false h0]; rfl]
      rfl
def rTextS (s : ByteArray) : ByteArray := if s.size ≤ 255 then textS s else ⟨#[]⟩
def rTextB (s : ByteArray) : Bool := decide (s.size ≤ 255)
theorem ref01_Text_all (s : ByteArray) (w : World) :
    Calls Try.prog 49 #[.string s] w fun e w' => e = .returned (.tuple #[.string (rTextS s), .bool (rTextB s)]) ∧ Below w.heap.size w w' := by
  unfold rTextS rTextB
  by_cases h : s.size ≤ 255
  · rw [if_pos h, decide_eq_true h]; exact ref01_Text_yes s h w
  · rw [if_neg h, decide_eq_false h]
    refine (ref01_Text_no s (by omega) w).mono ?_
    rintro e w' ⟨rfl, rfl⟩
    exact ⟨rfl, Below.refl _ _⟩
theorem numOk_two (W n m : Int) : numOk W [n, m] = (rNumB W n && rNumB W m) := by
  unfold numOk rNumB
  simp only [List.all_cons, List.all_nil, Bool.and_true]
  cases isW W <;> cases fitsB W n <;> cases fitsB W m <;> rfl
theorem textOk_two (s t : ByteArray) : textOk [s, t] = (rTextB s && rTextB t) := by simp [textOk, rTextB]
theorem bytes_app (l m : List UInt8) : (⟨l.toArray⟩ : ByteArray) ++ ⟨m.toArray⟩ = ⟨(l ++ m).toArray⟩ := by
  apply ba_ext1
  rw [ByteArray.toList_eq, ByteArray.toList_eq]
  simp
theorem bytes_data (s : ByteArray) : (⟨s.data.toList.toArray⟩ : ByteArray) = s := by cases s; rfl
theorem num_app (l : List UInt8) (W n m : Int) (h : rNumB W n = true) (k : rNumB W m = true) : (⟨l.toArray⟩ : ByteArray) ++ rNumS W n ++ rNumS W m = ⟨(l ++ beAll W.toNat [n, m]).toArray⟩ := by
  unfold rNumB at h k
  rw [Bool.and_eq_true] at h k
  unfold rNumS numS
  rw [h.1, decide_eq_true (fitsB_nonneg h.2), decide_eq_true (fitsB_nonneg k.2), Bool.and_self, if_pos rfl, if_pos rfl, bytes_app, bytes_app, List.append_assoc]
  congr 2
  simp [beAll]
theorem text_app (l : List UInt8) (s t : ByteArray) (h : rTextB s = true) (k : rTextB t = true) : (⟨l.toArray⟩ : ByteArray) ++ rTextS s ++ rTextS t = ⟨(l ++ textAll [s, t]).toArray⟩ := by
  unfold rTextS textS
  rw [if_pos (of_decide_eq_true h), if_pos (of_decide_eq_true k), bytes_app, bytes_app, List.append_assoc]
  congr 2
  simp [textAll]
theorem raw_app (l : List UInt8) (s : ByteArray) : (⟨l.toArray⟩ : ByteArray) ++ s = ⟨(l ++ s.data.toList).toArray⟩ := by
  conv => lhs; rw [← bytes_data s]
  exact bytes_app _ _
theorem rNumS_size (W n : Int) : (rNumS W n).size ≤ 8 := by
  unfold rNumS
  split
  · rename_i h
    rw [Bool.and_eq_true] at h
    have : (numS W.toNat n.toNat).size = W.toNat := by show (beB W.toNat n.toNat).toArray.size = _; simp [beB_length]
    rw [this]
    rcases isW_cases h.1 with rfl | rfl | rfl | rfl <;> decide
  · decide
theorem rTextS_size (s : ByteArray) : (rTextS s).size ≤ 256 := by
  unfold rTextS
  split
  · have : (textS s).size = s.size + 1 := by show (textB s).toArray.size = _; simp [textB]
    omega
  · decide
theorem bytes_size (l : List UInt8) : (⟨l.toArray⟩ : ByteArray).size = l.length := by show l.toArray.size = _; simp
theorem ba_app_size (a b : ByteArray) : (a ++ b).size = a.size + b.size := by simp

abbrev Act6 := Int × Int × Int × Int × ByteArray × ByteArray
def actCells (x : Act6) : List Value := [.int .i64 x.1, .int .i64 x.2.1, .int .i64 x.2.2.1, .int .i64 x.2.2.2.1, .string x.2.2.2.2.1, .string x.2.2.2.2.2]
theorem act_at : ∀ (l : List Act6) (i j : Nat) (x : Act6) (v : Value), l[i]? = some x → (actCells x)[j]? = some v → (l.flatMap actCells)[i * 6 + j]? = some v
  | y :: l, 0, j, x, v, h, hv => by
    simp only [List.getElem?_cons_zero, Option.some.injEq] at h
    subst h
    rw [List.flatMap_cons, List.getElem?_append_left (by have := (List.getElem?_eq_some_iff.1 hv).1; omega)]
    simpa using hv
  | y :: l, i + 1, j, x, v, h, hv => by
    have := act_at l i j x v (by simpa using h) hv
    rw [List.flatMap_cons, List.getElem?_append_right (by show (actCells y).length ≤ _; simp [actCells]; omega)]
    rw [show (i + 1) * 6 + j - (actCells y).length = i * 6 + j by simp [actCells]; omega]
    exact this

set_option maxHeartbeats 16000000 in
set_option maxRecDepth 100000 in
theorem penWrites_walk (A : Option Addr) (cap : Nat) (xs : List Act6) (w : World) (hr : Row w A (xs.flatMap actCells)) (hok : ∀ x ∈ xs, (Lit.int .i64 x.2.2.1).wf = true ∧ (Lit.int .i64 x.2.2.2.1).wf = true) (hm : xs.length ≤ 9223372036854775807) :
    Calls Try.prog 11 #[.slice A xs.length cap] w fun e w' => e = .returned (.bool true) ∧ Below w.heap.size w w' := by
  have HR := hid hr; have HOK := hid hok; clear hr hok
  go_enter Try.func11, Try.ntmps11
  go_wp2_with fail
  refine (awake01_any _).mono ?_; rintro e w1 ⟨rfl, hb⟩
  have P0 := hid (Pen.new hb)
  obtain ⟨p, hp⟩ : ∃ p, p = w1.heap.size := ⟨_, rfl⟩
  have HPP := hid hp
  clear hb hp
  go_wp2_with fail
  rw [← HPP.out] at P0 ⊢
  clear HPP
  generalize w1.alloc (.cells #[.pointer none, .slice none 0 0] 75) = w1' at P0 ⊢
  go_loopg [4, 5] xs.length (fun g v4 v5 wx => ∃ (i : Nat) (l : List UInt8) (want : ByteArray), i + g = xs.length ∧ i ≤ 40 ∧ v4 = .string want ∧ v5 = .int .i64 i ∧ Hid (want = ⟨l.toArray⟩ ∧ Pen w wx p l ∧ l.length ≤ 1000 * i))
  case atStart => exact ⟨0, [], ⟨#[]⟩, by omega, by omega, rfl, rfl, rfl, P0.out, by simp⟩
  case round =>
    clear P0
    obtain ⟨i, l, want, hik, hi40, rfl, rfl, HI⟩ := hrel
    obtain ⟨hw, hP, hl⟩ := HI.out
    clear HI
    have HP := hid hP; have HW := hid hw; have HL := hid hl
    have hws : want.size ≤ 40000 := by rw [hw, bytes_size]; omega
    have HWS := hid hws
    clear hP hw hl hws
    by_cases hlt : i < xs.length
    · by_cases h40 : i < 40
      · have h40' : (i : Int) < 40 := by omega
        obtain ⟨b, off, rfl, hbl, hc⟩ := row_cell HR.out (by intro e; have h := act_at xs i 0 xs[i] (.int .i64 xs[i].1) (by simp [hlt]) rfl; rw [e] at h; cases h)
        obtain ⟨hn1, hm1⟩ := HOK.out xs[i] (List.getElem_mem _)
        obtain ⟨⟨K, W, n, m, s, t⟩, hx⟩ : ∃ x, x = xs[i] := ⟨_, rfl⟩
        rw [← hx] at hn1 hm1
        simp only at hn1 hm1
        have hnl : n < 9223372036854775808 := by have := wf_i64 hn1; omega
        have hml : m < 9223372036854775808 := by have := wf_i64 hm1; omega
        have hxi : xs[i]? = some (K, W, n, m, s, t) := by rw [hx]; simp [hlt]
        have d0 := hc _ _ (act_at xs i 0 _ (.int .i64 K) hxi rfl)
        rw [← HP.out.bel.cell (p := ⟨b, off + (i * 6 + 0), none⟩) hbl, ← Nat.add_assoc] at d0
        rw [Nat.add_zero] at d0
        have d1 := hc _ _ (act_at xs i 1 _ (.int .i64 W) hxi rfl)
        rw [← HP.out.bel.cell (p := ⟨b, off + (i * 6 + 1), none⟩) hbl, ← Nat.add_assoc] at d1
        have d2 := hc _ _ (act_at xs i 2 _ (.int .i64 n) hxi rfl)
        rw [← HP.out.bel.cell (p := ⟨b, off + (i * 6 + 2), none⟩) hbl, ← Nat.add_assoc] at d2
        have d3 := hc _ _ (act_at xs i 3 _ (.int .i64 m) hxi rfl)
        rw [← HP.out.bel.cell (p := ⟨b, off + (i * 6 + 3), none⟩) hbl, ← Nat.add_assoc] at d3
        have d4 := hc _ _ (act_at xs i 4 _ (.string s) hxi rfl)
        rw [← HP.out.bel.cell (p := ⟨b, off + (i * 6 + 4), none⟩) hbl, ← Nat.add_assoc] at d4
        have d5 := hc _ _ (act_at xs i 5 _ (.string t) hxi rfl)
        rw [← HP.out.bel.cell (p := ⟨b, off + (i * 6 + 5), none⟩) hbl, ← Nat.add_assoc] at d5
        have HNL := hid hnl; have HML := hid hml
        clear hc hbl hx hxi hn1 hm1 hnl hml
        by_cases hs3 : (300 : Int) < s.size
        · have hA := below_alloc wr (.cells #[.int .i64 K, .int .i64 W, .int .i64 n, .int .i64 m, .string s, .string t] 77)
          have BX := Blk.new wr #[.int .i64 K, .int .i64 W, .int .i64 n, .int .i64 m, .string s, .string t] 77
          obtain ⟨gx, hgx⟩ : ∃ g, g = wr.heap.size := ⟨_, rfl⟩
          rw [← hgx] at BX
          have HGX := hid hgx; have HA := hid hA; clear hgx hA
          have x0 : (wr.alloc (.cells #[.int .i64 K, .int .i64 W, .int .i64 n, .int .i64 m, .string s, .string t] 77)).cell? ⟨gx, 0, none⟩ = some (.int .i64 K) := BX.at rfl
          have x1 : (wr.alloc (.cells #[.int .i64 K, .int .i64 W, .int .i64 n, .int .i64 m, .string s, .string t] 77)).cell? ⟨gx, 1, none⟩ = some (.int .i64 W) := BX.at rfl
          have x2 : (wr.alloc (.cells #[.int .i64 K, .int .i64 W, .int .i64 n, .int .i64 m, .string s, .string t] 77)).cell? ⟨gx, 2, none⟩ = some (.int .i64 n) := BX.at rfl
          have x3 : (wr.alloc (.cells #[.int .i64 K, .int .i64 W, .int .i64 n, .int .i64 m, .string s, .string t] 77)).cell? ⟨gx, 3, none⟩ = some (.int .i64 m) := BX.at rfl
          have x4 : (wr.alloc (.cells #[.int .i64 K, .int .i64 W, .int .i64 n, .int .i64 m, .string s, .string t] 77)).cell? ⟨gx, 4, none⟩ = some (.string s) := BX.at rfl
          have x5 : (wr.alloc (.cells #[.int .i64 K, .int .i64 W, .int .i64 n, .int .i64 m, .string s, .string t] 77)).cell? ⟨gx, 5, none⟩ = some (.string t) := BX.at rfl
          have HBX := hid BX; clear BX
          go_wp2_with fail
          go_ret
          exact ⟨rfl, bt HP.out.bel HA.out⟩
        by_cases ht3 : (300 : Int) < t.size
        · have hA := below_alloc wr (.cells #[.int .i64 K, .int .i64 W, .int .i64 n, .int .i64 m, .string s, .string t] 77)
          have BX := Blk.new wr #[.int .i64 K, .int .i64 W, .int .i64 n, .int .i64 m, .string s, .string t] 77
          obtain ⟨gx, hgx⟩ : ∃ g, g = wr.heap.size := ⟨_, rfl⟩
          rw [← hgx] at BX
          have HGX := hid hgx; have HA := hid hA; clear hgx hA
          have x0 : (wr.alloc (.cells #[.int .i64 K, .int .i64 W, .int .i64 n, .int .i64 m, .string s, .string t] 77)).cell? ⟨gx, 0, none⟩ = some (.int .i64 K) := BX.at rfl
          have x1 : (wr.alloc (.cells #[.int .i64 K, .int .i64 W, .int .i64 n, .int .i64 m, .string s, .string t] 77)).cell? ⟨gx, 1, none⟩ = some (.int .i64 W) := BX.at rfl
          have x2 : (wr.alloc (.cells #[.int .i64 K, .int .i64 W, .int .i64 n, .int .i64 m, .string s, .string t] 77)).cell? ⟨gx, 2, none⟩ = some (.int .i64 n) := BX.at rfl
          have x3 : (wr.alloc (.cells #[.int .i64 K, .int .i64 W, .int .i64 n, .int .i64 m, .string s, .string t] 77)).cell? ⟨gx, 3, none⟩ = some (.int .i64 m) := BX.at rfl
          have x4 : (wr.alloc (.cells #[.int .i64 K, .int .i64 W, .int .i64 n, .int .i64 m, .string s, .string t] 77)).cell? ⟨gx, 4, none⟩ = some (.string s) := BX.at rfl
          have x5 : (wr.alloc (.cells #[.int .i64 K, .int .i64 W, .int .i64 n, .int .i64 m, .string s, .string t] 77)).cell? ⟨gx, 5, none⟩ = some (.string t) := BX.at rfl
          have HBX := hid BX; clear BX
          go_wp2_with fail
          go_ret
          exact ⟨rfl, bt HP.out.bel HA.out⟩
        have hss : s.size ≤ 300 := by omega
        have hts : t.size ≤ 300 := by omega
        have HSS := hid hss; have HTS := hid hts
        clear hss hts
        by_cases h1 : K = 1
        · subst h1
          obtain ⟨a, ha⟩ : ∃ a, a = rNumB W n := ⟨_, rfl⟩
          obtain ⟨c, hc⟩ : ∃ c, c = rNumB W m := ⟨_, rfl⟩
          obtain ⟨sa, hsa⟩ : ∃ a, a = rNumS W n := ⟨_, rfl⟩
          obtain ⟨sc, hsc⟩ : ∃ a, a = rNumS W m := ⟨_, rfl⟩
          have hok := numOk_two W n m
          rw [← ha, ← hc] at hok
          have hsz1 : sa.size ≤ 8 := by rw [hsa]; exact rNumS_size W n
          have hsz2 : sc.size ≤ 8 := by rw [hsc]; exact rNumS_size W m
          have hap : a = true → c = true → want ++ sa ++ sc = ⟨(l ++ beAll W.toNat [n, m]).toArray⟩ := fun h k => by rw [hsa, hsc, HW.out]; exact num_app l W n m (ha.symm.trans h) (hc.symm.trans k)
          have H1 := hid (And.intro ha hsa); have H2 := hid (And.intro hc hsc); have HOK2 := hid hok; have HSZ := hid (And.intro hsz1 hsz2); have HAP := hid hap
          clear ha hsa hc hsc hok hsz1 hsz2 hap
          cases a <;> cases c
          all_goals
            have hA := below_alloc wr (.cells #[.int .i64 1, .int .i64 W, .int .i64 n, .int .i64 m, .string s, .string t] 77)
            have BX := Blk.new wr #[.int .i64 1, .int .i64 W, .int .i64 n, .int .i64 m, .string s, .string t] 77
            obtain ⟨gx, hgx⟩ : ∃ g, g = wr.heap.size := ⟨_, rfl⟩
            rw [← hgx] at BX
            have HGX := hid hgx; have HA := hid hA; clear hgx hA
            have x0 : (wr.alloc (.cells #[.int .i64 1, .int .i64 W, .int .i64 n, .int .i64 m, .string s, .string t] 77)).cell? ⟨gx, 0, none⟩ = some (.int .i64 1) := BX.at rfl
            have x1 : (wr.alloc (.cells #[.int .i64 1, .int .i64 W, .int .i64 n, .int .i64 m, .string s, .string t] 77)).cell? ⟨gx, 1, none⟩ = some (.int .i64 W) := BX.at rfl
            have x2 : (wr.alloc (.cells #[.int .i64 1, .int .i64 W, .int .i64 n, .int .i64 m, .string s, .string t] 77)).cell? ⟨gx, 2, none⟩ = some (.int .i64 n) := BX.at rfl
            have x3 : (wr.alloc (.cells #[.int .i64 1, .int .i64 W, .int .i64 n, .int .i64 m, .string s, .string t] 77)).cell? ⟨gx, 3, none⟩ = some (.int .i64 m) := BX.at rfl
            have x4 : (wr.alloc (.cells #[.int .i64 1, .int .i64 W, .int .i64 n, .int .i64 m, .string s, .string t] 77)).cell? ⟨gx, 4, none⟩ = some (.string s) := BX.at rfl
            have x5 : (wr.alloc (.cells #[.int .i64 1, .int .i64 W, .int .i64 n, .int .i64 m, .string s, .string t] 77)).cell? ⟨gx, 5, none⟩ = some (.string t) := BX.at rfl
            have HBX := hid BX; clear BX
            go_wp2_with fail
            clear d0 d1 d2 d3 d4 d5
            rw [← HGX.out]
            have BX := HBX.out; clear HBX
            have HPX := hid (HP.out.below HA.out)
            generalize (wr.alloc (.cells #[.int .i64 1, .int .i64 W, .int .i64 n, .int .i64 m, .string s, .string t] 77)) = w2 at *
            refine (ref01_Num_all W n HNL.out _).mono ?_; rintro e w3 ⟨rfl, hb_⟩; rw [← H1.out.1, ← H1.out.2]
            clear x0 x1 x2 x3 x4 x5
            replace BX := BX.belowS hb_
            have HPX2 := hid (HPX.out.below hb_); clear HPX hb_; have HPX := HPX2; clear HPX2
            have x0 : w3.cell? ⟨gx, 0, none⟩ = some (.int .i64 1) := BX.at rfl
            have x1 : w3.cell? ⟨gx, 1, none⟩ = some (.int .i64 W) := BX.at rfl
            have x2 : w3.cell? ⟨gx, 2, none⟩ = some (.int .i64 n) := BX.at rfl
            have x3 : w3.cell? ⟨gx, 3, none⟩ = some (.int .i64 m) := BX.at rfl
            have x4 : w3.cell? ⟨gx, 4, none⟩ = some (.string s) := BX.at rfl
            have x5 : w3.cell? ⟨gx, 5, none⟩ = some (.string t) := BX.at rfl
            go_wp2_with fail
            refine (ref01_Num_all W m HML.out _).mono ?_; rintro e w4 ⟨rfl, hb_⟩; rw [← H2.out.1, ← H2.out.2]
            clear x0 x1 x2 x3 x4 x5
            replace BX := BX.belowS hb_
            have HPX2 := hid (HPX.out.below hb_); clear HPX hb_; have HPX := HPX2; clear HPX2
            have x0 : w4.cell? ⟨gx, 0, none⟩ = some (.int .i64 1) := BX.at rfl
            have x1 : w4.cell? ⟨gx, 1, none⟩ = some (.int .i64 W) := BX.at rfl
            have x2 : w4.cell? ⟨gx, 2, none⟩ = some (.int .i64 n) := BX.at rfl
            have x3 : w4.cell? ⟨gx, 3, none⟩ = some (.int .i64 m) := BX.at rfl
            have x4 : w4.cell? ⟨gx, 4, none⟩ = some (.string s) := BX.at rfl
            have x5 : w4.cell? ⟨gx, 5, none⟩ = some (.string t) := BX.at rfl
            go_wp2_with fail
            clear BX x0 x1 x2 x3 x4 x5
            refine (pen_Num HPX.out W [n, m] #[.int .i64 n, .int .i64 m] 3 rfl 2 (by simp) (by have h1 := HL.out; have h2 := hi40; simp only [List.length_cons, List.length_nil]; omega)).mono ?_
            rintro e w5 ⟨rfl, P5⟩
            rw [HOK2.out] at P5 ⊢
            simp only [Bool.and_self, Bool.and_false, Bool.and_true, Bool.false_and, Bool.true_and, if_true, if_false, Bool.false_eq_true] at P5 ⊢
            clear HPX; have HPX := hid P5; clear P5
          rotate_left 3
          ·
             have hap := HAP.out (by simp) (by simp)
             obtain ⟨want2, hw2⟩ : ∃ x, x = want ++ sa ++ sc := ⟨_, rfl⟩
             have HW2 := hid (hw2.trans hap)
             have HLEN := hid (show (((l ++ beAll W.toNat [n, m]).length : Nat) : Int) = (want2.size : Int) by rw [HW2.out, bytes_size])
             have HL2 : Hid ((l ++ beAll W.toNat [n, m]).length ≤ 1000 * (i + 1)) := by
               have h1 := congrArg ByteArray.size hw2
               rw [HW2.out, bytes_size, ba_app_size, ba_app_size, HW.out, bytes_size] at h1
               have := HSZ.out; have := HL.out
               show _ ≤ _
               omega
             have q1 : ¬ 9223372036854775807 < want.size + sa.size := by have := HSZ.out; have := HWS.out; omega
             have q2 : ¬ 9223372036854775807 < (want ++ sa).size + sc.size := by rw [ba_app_size]; have := HSZ.out; have := HWS.out; omega
             have q3 : ¬ 9223372036854775807 < want.size + sa.size + sc.size := by have := HSZ.out; have := HWS.out; omega
             have HQ2 := hid hw2
             clear hap hw2
             go_wp2_with fail
             clear q1 q2 q3
             rw [← HQ2.out]

             refine (pen_Bytes HPX.out).mono ?_; rintro e w8 ⟨rfl, P8⟩; rw [← HW2.out]
             clear HPX; have HPX := hid P8; clear P8
             go_wp2_with fail
             refine (pen_Len HPX.out).mono ?_; rintro e w9 ⟨rfl, P9⟩; rw [HLEN.out]
             clear HPX; have HPX := hid P9; clear P9
             clear HLEN
             go_wp2_with fail
             go_roundg (xs.length - (i + 1))
             case measure => omega
             case rel => exact ⟨i + 1, l ++ beAll W.toNat [n, m], want2, by omega, by omega, rfl, by go_num, HW2.out, HPX.out, HL2.out⟩
          all_goals
             have HW2 := HW
             have HLEN := hid (show ((l.length : Nat) : Int) = (want.size : Int) by rw [HW2.out, bytes_size])
             have HL2 : Hid (l.length ≤ 1000 * (i + 1)) := by have := HL.out; show _ ≤ _; omega
             go_wp2_with fail

             refine (pen_Bytes HPX.out).mono ?_; rintro e w8 ⟨rfl, P8⟩; rw [← HW2.out]
             clear HPX; have HPX := hid P8; clear P8
             go_wp2_with fail
             refine (pen_Len HPX.out).mono ?_; rintro e w9 ⟨rfl, P9⟩; rw [HLEN.out]
             clear HPX; have HPX := hid P9; clear P9
             clear HLEN
             go_wp2_with fail
             go_roundg (xs.length - (i + 1))
             case measure => omega
             case rel => exact ⟨i + 1, l, want, by omega, by omega, rfl, by go_num, HW2.out, HPX.out, HL2.out⟩

        have e1 : (K == 1) = false := by simpa using h1
        by_cases h2 : K = 2
        · subst h2
          obtain ⟨a, ha⟩ : ∃ a, a = rTextB s := ⟨_, rfl⟩
          obtain ⟨c, hc⟩ : ∃ c, c = rTextB t := ⟨_, rfl⟩
          obtain ⟨sa, hsa⟩ : ∃ a, a = rTextS s := ⟨_, rfl⟩
          obtain ⟨sc, hsc⟩ : ∃ a, a = rTextS t := ⟨_, rfl⟩
          have hok := textOk_two s t
          rw [← ha, ← hc] at hok
          have hsz1 : sa.size ≤ 256 := by rw [hsa]; exact rTextS_size s
          have hsz2 : sc.size ≤ 256 := by rw [hsc]; exact rTextS_size t
          have hap : a = true → c = true → want ++ sa ++ sc = ⟨(l ++ textAll [s, t]).toArray⟩ := fun h k => by rw [hsa, hsc, HW.out]; exact text_app l s t (ha.symm.trans h) (hc.symm.trans k)
          have H1 := hid (And.intro ha hsa); have H2 := hid (And.intro hc hsc); have HOK2 := hid hok; have HSZ := hid (And.intro hsz1 hsz2); have HAP := hid hap
          clear ha hsa hc hsc hok hsz1 hsz2 hap
          cases a <;> cases c
          all_goals
            have hA := below_alloc wr (.cells #[.int .i64 2, .int .i64 W, .int .i64 n, .int .i64 m, .string s, .string t] 77)
            have BX := Blk.new wr #[.int .i64 2, .int .i64 W, .int .i64 n, .int .i64 m, .string s, .string t] 77
            obtain ⟨gx, hgx⟩ : ∃ g, g = wr.heap.size := ⟨_, rfl⟩
            rw [← hgx] at BX
            have HGX := hid hgx; have HA := hid hA; clear hgx hA
            have x0 : (wr.alloc (.cells #[.int .i64 2, .int .i64 W, .int .i64 n, .int .i64 m, .string s, .string t] 77)).cell? ⟨gx, 0, none⟩ = some (.int .i64 2) := BX.at rfl
            have x1 : (wr.alloc (.cells #[.int .i64 2, .int .i64 W, .int .i64 n, .int .i64 m, .string s, .string t] 77)).cell? ⟨gx, 1, none⟩ = some (.int .i64 W) := BX.at rfl
            have x2 : (wr.alloc (.cells #[.int .i64 2, .int .i64 W, .int .i64 n, .int .i64 m, .string s, .string t] 77)).cell? ⟨gx, 2, none⟩ = some (.int .i64 n) := BX.at rfl
            have x3 : (wr.alloc (.cells #[.int .i64 2, .int .i64 W, .int .i64 n, .int .i64 m, .string s, .string t] 77)).cell? ⟨gx, 3, none⟩ = some (.int .i64 m) := BX.at rfl
            have x4 : (wr.alloc (.cells #[.int .i64 2, .int .i64 W, .int .i64 n, .int .i64 m, .string s, .string t] 77)).cell? ⟨gx, 4, none⟩ = some (.string s) := BX.at rfl
            have x5 : (wr.alloc (.cells #[.int .i64 2, .int .i64 W, .int .i64 n, .int .i64 m, .string s, .string t] 77)).cell? ⟨gx, 5, none⟩ = some (.string t) := BX.at rfl
            have HBX := hid BX; clear BX
            go_wp2_with fail
            clear d0 d1 d2 d3 d4 d5
            rw [← HGX.out]
            have BX := HBX.out; clear HBX
            have HPX := hid (HP.out.below HA.out)
            generalize (wr.alloc (.cells #[.int .i64 2, .int .i64 W, .int .i64 n, .int .i64 m, .string s, .string t] 77)) = w2 at *
            refine (ref01_Text_all s _).mono ?_; rintro e w3 ⟨rfl, hb_⟩; rw [← H1.out.1, ← H1.out.2]
            clear x0 x1 x2 x3 x4 x5
            replace BX := BX.belowS hb_
            have HPX2 := hid (HPX.out.below hb_); clear HPX hb_; have HPX := HPX2; clear HPX2
            have x0 : w3.cell? ⟨gx, 0, none⟩ = some (.int .i64 2) := BX.at rfl
            have x1 : w3.cell? ⟨gx, 1, none⟩ = some (.int .i64 W) := BX.at rfl
            have x2 : w3.cell? ⟨gx, 2, none⟩ = some (.int .i64 n) := BX.at rfl
            have x3 : w3.cell? ⟨gx, 3, none⟩ = some (.int .i64 m) := BX.at rfl
            have x4 : w3.cell? ⟨gx, 4, none⟩ = some (.string s) := BX.at rfl
            have x5 : w3.cell? ⟨gx, 5, none⟩ = some (.string t) := BX.at rfl
            go_wp2_with fail
            refine (ref01_Text_all t _).mono ?_; rintro e w4 ⟨rfl, hb_⟩; rw [← H2.out.1, ← H2.out.2]
            clear x0 x1 x2 x3 x4 x5
            replace BX := BX.belowS hb_
            have HPX2 := hid (HPX.out.below hb_); clear HPX hb_; have HPX := HPX2; clear HPX2
            have x0 : w4.cell? ⟨gx, 0, none⟩ = some (.int .i64 2) := BX.at rfl
            have x1 : w4.cell? ⟨gx, 1, none⟩ = some (.int .i64 W) := BX.at rfl
            have x2 : w4.cell? ⟨gx, 2, none⟩ = some (.int .i64 n) := BX.at rfl
            have x3 : w4.cell? ⟨gx, 3, none⟩ = some (.int .i64 m) := BX.at rfl
            have x4 : w4.cell? ⟨gx, 4, none⟩ = some (.string s) := BX.at rfl
            have x5 : w4.cell? ⟨gx, 5, none⟩ = some (.string t) := BX.at rfl
            go_wp2_with fail
            clear BX x0 x1 x2 x3 x4 x5
            refine (pen_Text HPX.out [s, t] #[.string s, .string t] 9 rfl 2 (by simp) (by have h1 := HL.out; have h2 := hi40; have h3 := HSS.out; have h4 := HTS.out; simp only [textAll, textB, List.map_cons, List.map_nil, List.flatten_cons, List.flatten_nil, List.length_append, List.length_cons, List.length_nil, Array.length_toList]; have h5 : s.data.size = s.size := rfl; have h6 : t.data.size = t.size := rfl; omega)).mono ?_
            rintro e w5 ⟨rfl, P5⟩
            rw [HOK2.out] at P5 ⊢
            simp only [Bool.and_self, Bool.and_false, Bool.and_true, if_true, if_false, Bool.false_eq_true] at P5 ⊢
            clear HPX; have HPX := hid P5; clear P5
          rotate_left 3
          ·
             have hap := HAP.out (by simp) (by simp)
             obtain ⟨want2, hw2⟩ : ∃ x, x = want ++ sa ++ sc := ⟨_, rfl⟩
             have HW2 := hid (hw2.trans hap)
             have HLEN := hid (show (((l ++ textAll [s, t]).length : Nat) : Int) = (want2.size : Int) by rw [HW2.out, bytes_size])
             have HL2 : Hid ((l ++ textAll [s, t]).length ≤ 1000 * (i + 1)) := by
               have h1 := congrArg ByteArray.size hw2
               rw [HW2.out, bytes_size, ba_app_size, ba_app_size, HW.out, bytes_size] at h1
               have := HSZ.out; have := HL.out
               show _ ≤ _
               omega
             have q1 : ¬ 9223372036854775807 < want.size + sa.size := by have := HSZ.out; have := HWS.out; omega
             have q2 : ¬ 9223372036854775807 < (want ++ sa).size + sc.size := by rw [ba_app_size]; have := HSZ.out; have := HWS.out; omega
             have q3 : ¬ 9223372036854775807 < want.size + sa.size + sc.size := by have := HSZ.out; have := HWS.out; omega
             have HQ2 := hid hw2
             clear hap hw2
             go_wp2_with fail
             clear q1 q2 q3
             rw [← HQ2.out]

             refine (pen_Bytes HPX.out).mono ?_; rintro e w8 ⟨rfl, P8⟩; rw [← HW2.out]
             clear HPX; have HPX := hid P8; clear P8
             go_wp2_with fail
             refine (pen_Len HPX.out).mono ?_; rintro e w9 ⟨rfl, P9⟩; rw [HLEN.out]
             clear HPX; have HPX := hid P9; clear P9
             clear HLEN
             go_wp2_with fail
             go_roundg (xs.length - (i + 1))
             case measure => omega
             case rel => exact ⟨i + 1, l ++ textAll [s, t], want2, by omega, by omega, rfl, by go_num, HW2.out, HPX.out, HL2.out⟩
          all_goals
             have HW2 := HW
             have HLEN := hid (show ((l.length : Nat) : Int) = (want.size : Int) by rw [HW2.out, bytes_size])
             have HL2 : Hid (l.length ≤ 1000 * (i + 1)) := by have := HL.out; show _ ≤ _; omega
             go_wp2_with fail

             refine (pen_Bytes HPX.out).mono ?_; rintro e w8 ⟨rfl, P8⟩; rw [← HW2.out]
             clear HPX; have HPX := hid P8; clear P8
             go_wp2_with fail
             refine (pen_Len HPX.out).mono ?_; rintro e w9 ⟨rfl, P9⟩; rw [HLEN.out]
             clear HPX; have HPX := hid P9; clear P9
             clear HLEN
             go_wp2_with fail
             go_roundg (xs.length - (i + 1))
             case measure => omega
             case rel => exact ⟨i + 1, l, want, by omega, by omega, rfl, by go_num, HW2.out, HPX.out, HL2.out⟩
        have e2 : (K == 2) = false := by simpa using h2
        obtain ⟨F, g1, g2, g3⟩ := HP.out
        have hxF : wr.heap.size ∉ F := fun h => absurd (g1.sizes _ h) (Nat.lt_irrefl _)
        have hge : w.heap.size ≤ wr.heap.size := g2.size
        have hA := below_alloc wr (.cells #[.int .i64 K, .int .i64 W, .int .i64 n, .int .i64 m, .string s, .string t] 77)
        have BX := Blk.new wr #[.int .i64 K, .int .i64 W, .int .i64 n, .int .i64 m, .string s, .string t] 77
        obtain ⟨gx, hgx⟩ : ∃ g, g = wr.heap.size := ⟨_, rfl⟩
        rw [← hgx] at BX
        have HGX := hid hgx; have HA := hid hA; clear hgx hA
        have x0 : (wr.alloc (.cells #[.int .i64 K, .int .i64 W, .int .i64 n, .int .i64 m, .string s, .string t] 77)).cell? ⟨gx, 0, none⟩ = some (.int .i64 K) := BX.at rfl
        have x1 : (wr.alloc (.cells #[.int .i64 K, .int .i64 W, .int .i64 n, .int .i64 m, .string s, .string t] 77)).cell? ⟨gx, 1, none⟩ = some (.int .i64 W) := BX.at rfl
        have x2 : (wr.alloc (.cells #[.int .i64 K, .int .i64 W, .int .i64 n, .int .i64 m, .string s, .string t] 77)).cell? ⟨gx, 2, none⟩ = some (.int .i64 n) := BX.at rfl
        have x3 : (wr.alloc (.cells #[.int .i64 K, .int .i64 W, .int .i64 n, .int .i64 m, .string s, .string t] 77)).cell? ⟨gx, 3, none⟩ = some (.int .i64 m) := BX.at rfl
        have x4 : (wr.alloc (.cells #[.int .i64 K, .int .i64 W, .int .i64 n, .int .i64 m, .string s, .string t] 77)).cell? ⟨gx, 4, none⟩ = some (.string s) := BX.at rfl
        have x5 : (wr.alloc (.cells #[.int .i64 K, .int .i64 W, .int .i64 n, .int .i64 m, .string s, .string t] 77)).cell? ⟨gx, 5, none⟩ = some (.string t) := BX.at rfl
        have HBX := hid BX; clear BX
        have g1' := g1.below HA.out
        rw [← HGX.out] at hxF
        have G1 := hid g1'; have G2 := hid (bt g2 HA.out); have G3 := hid g3; have GX := hid hxF
        clear g1 g2 g3 hxF g1' hge
        go_wp2_with fail
        clear d0 d1 d2 d3 d4 d5
        rw [← HGX.out]
        have BX := HBX.out; clear HBX
        have HPX := hid (HP.out.below HA.out)
        generalize (wr.alloc (.cells #[.int .i64 K, .int .i64 W, .int .i64 n, .int .i64 m, .string s, .string t] 77)) = w2 at *
        clear HPX
        refine (Out_Raw_any p l F s _ G1.out (by have h1 := HL.out; have h2 := hi40; have h3 := HSS.out; omega)).mono ?_; rintro e w3 ⟨rfl, F', k1, k2, k3⟩
        have HPX := hid (Pen.next G2.out G3.out k1 k2 k3)
        clear x0 x1 x2 x3 x4 x5
        replace BX := Blk.keeps BX k2 GX.out
        have x0 : w3.cell? ⟨gx, 0, none⟩ = some (.int .i64 K) := BX.at rfl
        have x1 : w3.cell? ⟨gx, 1, none⟩ = some (.int .i64 W) := BX.at rfl
        have x2 : w3.cell? ⟨gx, 2, none⟩ = some (.int .i64 n) := BX.at rfl
        have x3 : w3.cell? ⟨gx, 3, none⟩ = some (.int .i64 m) := BX.at rfl
        have x4 : w3.cell? ⟨gx, 4, none⟩ = some (.string s) := BX.at rfl
        have x5 : w3.cell? ⟨gx, 5, none⟩ = some (.string t) := BX.at rfl
        clear BX k1 k2 k3 G1 G2 G3 GX
        obtain ⟨want2, hw2⟩ : ∃ x, x = want ++ s := ⟨_, rfl⟩
        have HW2 := hid (show want2 = ⟨(l ++ s.data.toList).toArray⟩ by rw [hw2, HW.out]; exact raw_app l s)
        have HLEN := hid (show (((l ++ s.data.toList).length : Nat) : Int) = (want2.size : Int) by rw [HW2.out, bytes_size])
        have HL2 : Hid ((l ++ s.data.toList).length ≤ 1000 * (i + 1)) := by
          have h1 := congrArg ByteArray.size hw2
          rw [HW2.out, bytes_size, ba_app_size, HW.out, bytes_size] at h1
          have := HSS.out; have := HL.out
          show _ ≤ _
          omega
        have q1 : ¬ 9223372036854775807 < want.size + s.size := by have := HSS.out; have := HWS.out; omega
        have HQ2 := hid hw2
        clear hw2
        go_wp2_with fail
        clear q1 x0 x1 x2 x3 x4 x5
        rw [← HQ2.out]

        refine (pen_Bytes HPX.out).mono ?_; rintro e w8 ⟨rfl, P8⟩; rw [← HW2.out]
        clear HPX; have HPX := hid P8; clear P8
        go_wp2_with fail
        refine (pen_Len HPX.out).mono ?_; rintro e w9 ⟨rfl, P9⟩; rw [HLEN.out]
        clear HPX; have HPX := hid P9; clear P9
        clear HLEN
        go_wp2_with fail
        go_roundg (xs.length - (i + 1))
        case measure => omega
        case rel => exact ⟨i + 1, l ++ s.data.toList, want2, by omega, by omega, rfl, by go_num, HW2.out, HPX.out, HL2.out⟩
      · have h40' : (i : Int) = 40 := by omega
        have hb := HP.out.bel
        clear HP HW HL HWS HR
        go_wp2_with fail
        refine (Out_Raw_nil _ _).mono ?_; rintro e w3 ⟨rfl, rfl⟩
        have hA := bt hb (below_alloc wr (.cells #[.int .i64 1] 3))
        go_wp2_with fail
        refine (Out_Num_nil 1 _ _).mono ?_; rintro e w4 ⟨rfl, hb4⟩
        replace hb := bt hA hb4; clear hA hb4
        have hA := bt hb (below_alloc w4 (.cells #[.string ⟨#[97]⟩] 9))
        go_wp2_with fail
        refine (Out_Text_nil _ _).mono ?_; rintro e w5 ⟨rfl, rfl⟩
        go_wp2_with fail
        refine (Out_Bytes_nil _).mono ?_; rintro e w5 ⟨rfl, rfl⟩
        rw [show emptyB = ⟨#[]⟩ from rfl]
        go_wp2_with fail
        refine (Out_Len_nil _).mono ?_; rintro e w5 ⟨rfl, rfl⟩
        go_wp2_with fail
        go_ret
        exact ⟨rfl, hA⟩
    · have hin : i = xs.length := by omega
      subst hin
      have hb := HP.out.bel
      clear HP HW HL HWS HR
      go_wp2_with fail
      refine (Out_Raw_nil _ _).mono ?_; rintro e w3 ⟨rfl, rfl⟩
      have hA := bt hb (below_alloc wr (.cells #[.int .i64 1] 3))
      go_wp2_with fail
      refine (Out_Num_nil 1 _ _).mono ?_; rintro e w4 ⟨rfl, hb4⟩
      replace hb := bt hA hb4; clear hA hb4
      have hA := bt hb (below_alloc w4 (.cells #[.string ⟨#[97]⟩] 9))
      go_wp2_with fail
      refine (Out_Text_nil _ _).mono ?_; rintro e w5 ⟨rfl, rfl⟩
      go_wp2_with fail
      refine (Out_Bytes_nil _).mono ?_; rintro e w5 ⟨rfl, rfl⟩
      rw [show emptyB = ⟨#[]⟩ from rfl]
      go_wp2_with fail
      refine (Out_Len_nil _).mono ?_; rintro e w5 ⟨rfl, rfl⟩
      go_wp2_with fail
      go_ret
      exact ⟨rfl, hA⟩

/-- in the row's words -/
theorem penWrites_law (A : Option Addr) (cap : Nat) (xs : List Act6) (w : World) (hr : Row w A (xs.flatMap actCells))
    (hok : ∀ x ∈ xs, (Lit.int .i64 x.1).wf = true ∧ (Lit.int .i64 x.2.1).wf = true ∧ (Lit.int .i64 x.2.2.1).wf = true ∧ (Lit.int .i64 x.2.2.2.1).wf = true ∧ x.2.2.2.2.1.size ≤ 140737488351232 ∧ x.2.2.2.2.2.size ≤ 140737488351232)
    (hu : xs.length ≤ cap) (hm : cap ≤ maxLen) :
    Calls Try.prog 11 #[.slice A xs.length cap] w fun e w' => e = .returned (.bool true) ∧ Below w.heap.size w w' :=
  penWrites_walk A cap xs w hr (fun x hx => ⟨(hok x hx).2.2.1, (hok x hx).2.2.2.1⟩) (by simp only [maxLen] at hm; omega)
end Go.Proofs.Ytapmnnfnhgopcaa
