/-
  However bytes are parted the sum is the same: the law, walked; its drawn region operation by operation.
-/
import Derived.Test.YtcklgaenedlbiaaCrcLaws
import Derived.Test.YtcklgaenedlbiaaLocal
namespace Go.Proofs.Ytcklgaenedlbiaa
open Go.RowKit

def slotP (k : Nat) : Nat := if k = 58 then 6 else 38 + k
inductive Fct where
  | is (v : Value)
  | row (n : Nat) (vs : List Value)
def Fct.holds : Fct → Value → World → Prop
  | .is v, x, _ => x = v
  | .row n vs, x, w => ∃ g : Nat, x = .slice (some ⟨g, 0, none⟩) n n ∧ Row w (some ⟨g, 0, none⟩) vs
def factL (s p1 p2 p3 : ByteArray) (i J n m1 m2 : Nat) : List Fct := [
  .is (.string s),
  .is (.int .i64 (i : Int)),
  .is (.string p1),
  .is (.string s),
  .is (.int .i64 (i : Int)),
  .is (.int .i64 (J : Int)),
  .is (.string p2),
  .is (.string s),
  .is (.int .i64 (J : Int)),
  .is (.string p3),
  .row 3 [.string p1, .string p2, .string p3],
  .is (.int .u32 (n : Int)),
  .is (.int .u32 (n : Int)),
  .is (.bool true),
  .is (.bool true),
  .is (.string s),
  .is (.int .i64 (i : Int)),
  .is (.string p1),
  .row 1 [.string p1],
  .is (.int .u32 (m1 : Int)),
  .is (.string s),
  .is (.int .i64 (i : Int)),
  .is (.int .i64 (J : Int)),
  .is (.string p2),
  .is (.string s),
  .is (.int .i64 (J : Int)),
  .is (.string p3),
  .row 2 [.string p2, .string p3],
  .is (.int .u32 (n : Int)),
  .is (.int .u32 (n : Int)),
  .is (.bool true),
  .is (.bool true),
  .is (.bool true),
  .is (.string s),
  .is (.int .i64 (i : Int)),
  .is (.string p1),
  .row 1 [.string p1],
  .is (.int .u32 (m1 : Int)),
  .is (.string s),
  .is (.int .i64 (i : Int)),
  .is (.int .i64 (J : Int)),
  .is (.string p2),
  .row 1 [.string p2],
  .is (.int .u32 (m2 : Int)),
  .is (.string s),
  .is (.int .i64 (J : Int)),
  .is (.string p3),
  .row 1 [.string p3],
  .is (.int .u32 (n : Int)),
  .is (.int .u32 (n : Int)),
  .is (.bool true),
  .is (.bool true),
  .is (.bool true),
  .is (.int .u32 (n : Int)),
  .is (.int .u32 (n : Int)),
  .is (.int .u32 (n : Int)),
  .is (.bool true),
  .is (.bool true),
  .is (.bool true)]
def factS (L : List Fct) (k : Nat) (x : Value) (w : World) : Prop := match L[k]? with
  | some f => f.holds x w
  | none => False
theorem factS_keep {L : List Fct} (j : Nat) (v : Value) (w w' : World) (h : factS L j v w) (hb : Below w.heap.size w w') : factS L j v w' := by
  unfold factS at h ⊢
  cases hl : L[j]? with
  | none => rw [hl] at h; exact h
  | some f =>
    rw [hl] at h
    cases f with
    | is c => exact h
    | row n vs =>
      obtain ⟨g, h1, h2⟩ := h
      exact ⟨g, h1, h2.below hb⟩
theorem slotP_lt (k : Nat) (h : k < 59) : slotP k < 96 := by unfold slotP; split <;> omega
theorem slotP_inj (k : Nat) (h : k < 59) (j : Nat) (hj : j ≠ k) : slotP j ≠ slotP k := by unfold slotP; split <;> split <;> omega

set_option maxHeartbeats 20000000 in
set_option maxRecDepth 100000 in
theorem CrcParts_walk (s : ByteArray) (a b : Int) (w : World) (hs : s.size ≤ 140737488351232) (_ : (Lit.int .i64 a).wf = true) (_ : (Lit.int .i64 b).wf = true) :
    Calls Try.prog 3 #[.string s, .int .i64 a, .int .i64 b] w fun e w' => e = .returned (.bool true) ∧ Below w.heap.size w w' := by
  by_cases h1 : s.size ≤ 1024
  · go_enter Try.func3, Try.ntmps3
    go_wp2_with fail
    refine (awake02_any _).mono ?_; rintro e w1 ⟨rfl, hb1⟩
    obtain ⟨i, hi, hil⟩ := umod a ((s.size : Int) + 1) (by omega)
    obtain ⟨d, hd, hdl⟩ := umod b ((s.size : Int) - (i : Int) + 1) (by omega)
    obtain ⟨J, hJ⟩ : ∃ J : Nat, (i : Int) + (d : Int) = (J : Int) := ⟨i + d, by omega⟩
    have b0 : (0 : Int) ≤ (i : Int) := by omega
    have b1 : (i : Int) ≤ (s.size : Int) := by omega
    have b2 : (0 : Int) ≤ (J : Int) := by omega
    have b3 : (i : Int) ≤ (J : Int) := by omega
    have b4 : (J : Int) ≤ (s.size : Int) := by omega
    go_wp2_with fail
    clear hi hd hJ hdl hil
    obtain ⟨n, hn⟩ : ∃ n, n = Crc.sum s.data.toList := ⟨_, rfl⟩
    have n1 : Crc.sum (bytesAll [s]) = n := by rw [all1, hn]
    have N1 := hid n1; clear n1
    have HN := hid hn; clear hn
    refine (crc_Sum_v n [s] _ _ _ _ _ rfl (by simp) (small1 (by omega)) rfl (row_new _ _ _) N1.out).mono ?_; rintro e w2 ⟨rfl, hb2⟩
    go_wp2_with fail
    have hb3 : Below w.heap.size w w2 := by repeat (first | exact Below.refl _ _ | (refine ba ?_ (by assumption)) | (refine bt ?_ (by assumption)) | (refine bt ?_ (below_alloc _ _)))
    clear hb1 hb2
    have e1 := Lib.extract_data s 0 i
    have e2 := Lib.extract_data s i J
    have e3 := Lib.extract_data s J s.size
    have z1 : (s.extract 0 i).size ≤ 9223372036854775807 := by simp; omega
    have z2 : (s.extract i J).size ≤ 9223372036854775807 := by simp; omega
    have z3 : (s.extract J s.size).size ≤ 9223372036854775807 := by simp; omega
    have hall : (s.extract 0 i).data.toList ++ (s.extract i J).data.toList ++ (s.extract J s.size).data.toList = s.data.toList := by
      rw [e1, e2, e3]
      have hl : s.data.toList.length = s.size := by simp
      have d1 : s.data.toList.drop i = (s.data.toList.drop i).take (J - i) ++ s.data.toList.drop J := by
        conv => lhs; rw [← List.take_append_drop (J - i) (s.data.toList.drop i)]
        rw [List.drop_drop, show i + (J - i) = J by omega]
      rw [List.drop_zero, Nat.sub_zero, List.append_assoc, List.take_of_length_le (l := s.data.toList.drop J) (by rw [List.length_drop]; omega), ← d1, List.take_append_drop]
    obtain ⟨m1, hm1⟩ : ∃ m, m = Crc.sum (s.extract 0 i).data.toList := ⟨_, rfl⟩
    obtain ⟨m2, hm2⟩ : ∃ m, m = Crc.more m1 (s.extract i J).data.toList := ⟨_, rfl⟩
    have l1 : m1 < 4294967296 := by rw [hm1]; exact sum_lt _
    have l2 : m2 < 4294967296 := by rw [hm2]; exact Crc.more_lt l1 _
    have c1 : Crc.sum ((s.extract 0 i).data.toList ++ (s.extract i J).data.toList ++ (s.extract J s.size).data.toList) = n := by rw [hall, HN.out]
    have c3 : Crc.more m1 ((s.extract i J).data.toList ++ (s.extract J s.size).data.toList) = n := by
      rw [hm1, ← c1, List.append_assoc]; exact (Crc.more_append 0 _ _).symm
    have c6 : Crc.more m2 (s.extract J s.size).data.toList = n := by rw [hm2, ← c3, Crc.more_append]
    have ln : n < 4294967296 := by rw [HN.out]; exact sum_lt _
    have C1 := hid c1; have C2 := hid hm1.symm; have C3 := hid c3; have C5 := hid hm2.symm; have C6 := hid c6
    clear e1 e2 e3 hall hm1 hm2 c1 c3 c6
    obtain ⟨p1, hp1⟩ : ∃ p, p = s.extract 0 i := ⟨_, rfl⟩
    obtain ⟨p2, hp2⟩ : ∃ p, p = s.extract i J := ⟨_, rfl⟩
    obtain ⟨p3, hp3⟩ : ∃ p, p = s.extract J s.size := ⟨_, rfl⟩
    rw [← hp1] at z1 C1 C2; rw [← hp2] at z2 C1 C3 C5; rw [← hp3] at z3 C1 C3 C6
    obtain ⟨FL, hFL⟩ : ∃ FL, FL = factL s p1 p2 p3 i J n m1 m2 := ⟨_, rfl⟩
    have LK : ∀ k, k < 59 → LocalOk slotP (factS (factL s p1 p2 p3 i J n m1 m2)) 96 [(0, .string s), (7, .int .i64 (i : Int)), (8, .int .i64 (J : Int)), (9, .int .u32 (n : Int))] k := fun k hk =>
      ⟨slotP_lt k hk, fun x hx => by
        simp only [List.mem_cons, List.not_mem_nil, or_false] at hx
        unfold slotP
        rcases hx with rfl | rfl | rfl | rfl <;> simp only <;> split <;> omega, slotP_inj k hk, fun j v w w' => factS_keep j v w w'⟩
    clear hFL FL HN N1
    refine wp_region_each (by kernel_rfl) (by kernel_rfl) slotP (factS (factL s p1 p2 p3 i J n m1 m2)) w2 96 [(0, .string s), (7, .int .i64 (i : Int)), (8, .int .i64 (J : Int)), (9, .int .u32 (n : Int))] ?_ ?_ ?_
    · refine ⟨(Below.refl _ _).drew, rfl, rfl, fun x hx => ?_⟩
      simp only [List.mem_cons, List.not_mem_nil, or_false] at hx
      rcases hx with rfl | rfl | rfl | rfl <;> rfl
    · skip
      refine Each.cons ?_ ?_
      · intro a w hG hT
        have ek : ∀ v, a.eval (.const v) = v := fun _ => rfl
        have ef : ∀ f, a.eval (.func f) = .func (.func f) #[] #[] := fun _ => rfl
        have e0 : a.eval (.tmp 0) = .string s := hG.2.2.2 (0, .string s) (by simp)
        refine local_value (v := .string s) (LK 0 (by decide)) rfl rfl (wanted_none rfl) hG ?_ (Below.refl _ _) rfl
        generalize a.eval = ρ at *
        clear hG hT
        go_simp
      refine Each.cons ?_ ?_
      · intro a w hG hT
        have ek : ∀ v, a.eval (.const v) = v := fun _ => rfl
        have ef : ∀ f, a.eval (.func f) = .func (.func f) #[] #[] := fun _ => rfl
        have e7 : a.eval (.tmp 7) = .int .i64 (i : Int) := hG.2.2.2 (7, .int .i64 (i : Int)) (by simp)
        refine local_value (v := .int .i64 (i : Int)) (LK 1 (by decide)) rfl rfl (wanted_none rfl) hG ?_ (Below.refl _ _) rfl
        generalize a.eval = ρ at *
        clear hG hT
        go_simp
      refine Each.cons ?_ ?_
      · intro a w hG hT
        have ek : ∀ v, a.eval (.const v) = v := fun _ => rfl
        have ef : ∀ f, a.eval (.func f) = .func (.func f) #[] #[] := fun _ => rfl
        have e38 : a.eval (.tmp 38) = .string s := hT 0 (by kernel_rfl)
        have e39 : a.eval (.tmp 39) = .int .i64 (i : Int) := hT 1 (by kernel_rfl)
        refine local_value (v := .string p1) (LK 2 (by decide)) rfl rfl (wanted_none rfl) hG ?_ (Below.refl _ _) rfl
        generalize a.eval = ρ at *
        clear hG hT
        go_simp
      refine Each.cons ?_ ?_
      · intro a w hG hT
        have ek : ∀ v, a.eval (.const v) = v := fun _ => rfl
        have ef : ∀ f, a.eval (.func f) = .func (.func f) #[] #[] := fun _ => rfl
        have e0 : a.eval (.tmp 0) = .string s := hG.2.2.2 (0, .string s) (by simp)
        refine local_value (v := .string s) (LK 3 (by decide)) rfl rfl (wanted_none rfl) hG ?_ (Below.refl _ _) rfl
        generalize a.eval = ρ at *
        clear hG hT
        go_simp
      refine Each.cons ?_ ?_
      · intro a w hG hT
        have ek : ∀ v, a.eval (.const v) = v := fun _ => rfl
        have ef : ∀ f, a.eval (.func f) = .func (.func f) #[] #[] := fun _ => rfl
        have e7 : a.eval (.tmp 7) = .int .i64 (i : Int) := hG.2.2.2 (7, .int .i64 (i : Int)) (by simp)
        refine local_value (v := .int .i64 (i : Int)) (LK 4 (by decide)) rfl rfl (wanted_none rfl) hG ?_ (Below.refl _ _) rfl
        generalize a.eval = ρ at *
        clear hG hT
        go_simp
      refine Each.cons ?_ ?_
      · intro a w hG hT
        have ek : ∀ v, a.eval (.const v) = v := fun _ => rfl
        have ef : ∀ f, a.eval (.func f) = .func (.func f) #[] #[] := fun _ => rfl
        have e8 : a.eval (.tmp 8) = .int .i64 (J : Int) := hG.2.2.2 (8, .int .i64 (J : Int)) (by simp)
        refine local_value (v := .int .i64 (J : Int)) (LK 5 (by decide)) rfl rfl (wanted_none rfl) hG ?_ (Below.refl _ _) rfl
        generalize a.eval = ρ at *
        clear hG hT
        go_simp
      refine Each.cons ?_ ?_
      · intro a w hG hT
        have ek : ∀ v, a.eval (.const v) = v := fun _ => rfl
        have ef : ∀ f, a.eval (.func f) = .func (.func f) #[] #[] := fun _ => rfl
        have e41 : a.eval (.tmp 41) = .string s := hT 3 (by kernel_rfl)
        have e42 : a.eval (.tmp 42) = .int .i64 (i : Int) := hT 4 (by kernel_rfl)
        have e43 : a.eval (.tmp 43) = .int .i64 (J : Int) := hT 5 (by kernel_rfl)
        refine local_value (v := .string p2) (LK 6 (by decide)) rfl rfl (wanted_none rfl) hG ?_ (Below.refl _ _) rfl
        generalize a.eval = ρ at *
        clear hG hT
        go_simp
      refine Each.cons ?_ ?_
      · intro a w hG hT
        have ek : ∀ v, a.eval (.const v) = v := fun _ => rfl
        have ef : ∀ f, a.eval (.func f) = .func (.func f) #[] #[] := fun _ => rfl
        have e0 : a.eval (.tmp 0) = .string s := hG.2.2.2 (0, .string s) (by simp)
        refine local_value (v := .string s) (LK 7 (by decide)) rfl rfl (wanted_none rfl) hG ?_ (Below.refl _ _) rfl
        generalize a.eval = ρ at *
        clear hG hT
        go_simp
      refine Each.cons ?_ ?_
      · intro a w hG hT
        have ek : ∀ v, a.eval (.const v) = v := fun _ => rfl
        have ef : ∀ f, a.eval (.func f) = .func (.func f) #[] #[] := fun _ => rfl
        have e8 : a.eval (.tmp 8) = .int .i64 (J : Int) := hG.2.2.2 (8, .int .i64 (J : Int)) (by simp)
        refine local_value (v := .int .i64 (J : Int)) (LK 8 (by decide)) rfl rfl (wanted_none rfl) hG ?_ (Below.refl _ _) rfl
        generalize a.eval = ρ at *
        clear hG hT
        go_simp
      refine Each.cons ?_ ?_
      · intro a w hG hT
        have ek : ∀ v, a.eval (.const v) = v := fun _ => rfl
        have ef : ∀ f, a.eval (.func f) = .func (.func f) #[] #[] := fun _ => rfl
        have e45 : a.eval (.tmp 45) = .string s := hT 7 (by kernel_rfl)
        have e46 : a.eval (.tmp 46) = .int .i64 (J : Int) := hT 8 (by kernel_rfl)
        refine local_value (v := .string p3) (LK 9 (by decide)) rfl rfl (wanted_none rfl) hG ?_ (Below.refl _ _) rfl
        generalize a.eval = ρ at *
        clear hG hT
        go_simp
      refine Each.cons ?_ ?_
      · intro a w hG hT
        have ek : ∀ v, a.eval (.const v) = v := fun _ => rfl
        have ef : ∀ f, a.eval (.func f) = .func (.func f) #[] #[] := fun _ => rfl
        have e40 : a.eval (.tmp 40) = .string p1 := hT 2 (by kernel_rfl)
        have e44 : a.eval (.tmp 44) = .string p2 := hT 6 (by kernel_rfl)
        have e47 : a.eval (.tmp 47) = .string p3 := hT 9 (by kernel_rfl)
        refine local_value (w' := w.alloc (.cells #[.string p1, .string p2, .string p3] 9)) (v := .slice (some ⟨w.heap.size, 0, none⟩) 3 3) (LK 10 (by decide)) rfl rfl (wanted_none rfl) hG ?_ (below_alloc _ _) ⟨w.heap.size, rfl, row_new w #[.string p1, .string p2, .string p3] _⟩
        generalize a.eval = ρ at *
        clear hG hT
        go_simp
      refine Each.cons ?_ ?_
      · intro a w hG hT
        have ek : ∀ v, a.eval (.const v) = v := fun _ => rfl
        have ef : ∀ f, a.eval (.func f) = .func (.func f) #[] #[] := fun _ => rfl
        obtain ⟨gb, ee, hrow⟩ := hT 10 (by kernel_rfl)
        have e48 : a.eval (.tmp 48) = .slice (some ⟨gb, 0, none⟩) 3 3 := ee
        clear ee
        refine local_call (LK 11 (by decide)) rfl rfl (wanted_none rfl) hG (?_) (crc_Sum_3 n p1 p2 p3 _ _ z1 z2 z3 C1.out hrow) (fun _ => rfl)
        generalize a.eval = ρ at *
        clear hG hT
        go_simp
      refine Each.cons ?_ ?_
      · intro a w hG hT
        have ek : ∀ v, a.eval (.const v) = v := fun _ => rfl
        have ef : ∀ f, a.eval (.func f) = .func (.func f) #[] #[] := fun _ => rfl
        have e9 : a.eval (.tmp 9) = .int .u32 (n : Int) := hG.2.2.2 (9, .int .u32 (n : Int)) (by simp)
        refine local_value (v := .int .u32 (n : Int)) (LK 12 (by decide)) rfl rfl (wanted_none rfl) hG ?_ (Below.refl _ _) rfl
        generalize a.eval = ρ at *
        clear hG hT
        go_simp
      refine Each.cons ?_ ?_
      · intro a w hG hT
        have ek : ∀ v, a.eval (.const v) = v := fun _ => rfl
        have ef : ∀ f, a.eval (.func f) = .func (.func f) #[] #[] := fun _ => rfl
        have e49 : a.eval (.tmp 49) = .int .u32 (n : Int) := hT 11 (by kernel_rfl)
        have e50 : a.eval (.tmp 50) = .int .u32 (n : Int) := hT 12 (by kernel_rfl)
        refine local_value (v := .bool true) (LK 13 (by decide)) rfl rfl (wanted_none rfl) hG ?_ (Below.refl _ _) rfl
        generalize a.eval = ρ at *
        clear hG hT
        go_simp
      refine Each.cons ?_ ?_
      · intro a w hG hT
        have ek : ∀ v, a.eval (.const v) = v := fun _ => rfl
        have ef : ∀ f, a.eval (.func f) = .func (.func f) #[] #[] := fun _ => rfl
        have e51 : a.eval (.tmp 51) = .bool true := hT 13 (by kernel_rfl)
        refine local_value (v := .bool true) (LK 14 (by decide)) rfl rfl (wanted_none rfl) hG ?_ (Below.refl _ _) rfl
        generalize a.eval = ρ at *
        clear hG hT
        go_simp
      refine Each.cons ?_ ?_
      · intro a w hG hT
        have ek : ∀ v, a.eval (.const v) = v := fun _ => rfl
        have ef : ∀ f, a.eval (.func f) = .func (.func f) #[] #[] := fun _ => rfl
        have e0 : a.eval (.tmp 0) = .string s := hG.2.2.2 (0, .string s) (by simp)
        have eg : a.eval (.tmp 52) = .bool true := hT 14 (by kernel_rfl)
        refine local_value (v := .string s) (LK 15 (by decide)) rfl rfl (wanted_some (g := 14) (b := true) rfl rfl rfl eg) hG ?_ (Below.refl _ _) rfl
        generalize a.eval = ρ at *
        clear hG hT
        go_simp
      refine Each.cons ?_ ?_
      · intro a w hG hT
        have ek : ∀ v, a.eval (.const v) = v := fun _ => rfl
        have ef : ∀ f, a.eval (.func f) = .func (.func f) #[] #[] := fun _ => rfl
        have e7 : a.eval (.tmp 7) = .int .i64 (i : Int) := hG.2.2.2 (7, .int .i64 (i : Int)) (by simp)
        have eg : a.eval (.tmp 52) = .bool true := hT 14 (by kernel_rfl)
        refine local_value (v := .int .i64 (i : Int)) (LK 16 (by decide)) rfl rfl (wanted_some (g := 14) (b := true) rfl rfl rfl eg) hG ?_ (Below.refl _ _) rfl
        generalize a.eval = ρ at *
        clear hG hT
        go_simp
      refine Each.cons ?_ ?_
      · intro a w hG hT
        have ek : ∀ v, a.eval (.const v) = v := fun _ => rfl
        have ef : ∀ f, a.eval (.func f) = .func (.func f) #[] #[] := fun _ => rfl
        have e53 : a.eval (.tmp 53) = .string s := hT 15 (by kernel_rfl)
        have e54 : a.eval (.tmp 54) = .int .i64 (i : Int) := hT 16 (by kernel_rfl)
        have eg : a.eval (.tmp 52) = .bool true := hT 14 (by kernel_rfl)
        refine local_value (v := .string p1) (LK 17 (by decide)) rfl rfl (wanted_some (g := 14) (b := true) rfl rfl rfl eg) hG ?_ (Below.refl _ _) rfl
        generalize a.eval = ρ at *
        clear hG hT
        go_simp
      refine Each.cons ?_ ?_
      · intro a w hG hT
        have ek : ∀ v, a.eval (.const v) = v := fun _ => rfl
        have ef : ∀ f, a.eval (.func f) = .func (.func f) #[] #[] := fun _ => rfl
        have e55 : a.eval (.tmp 55) = .string p1 := hT 17 (by kernel_rfl)
        have eg : a.eval (.tmp 52) = .bool true := hT 14 (by kernel_rfl)
        refine local_value (w' := w.alloc (.cells #[.string p1] 9)) (v := .slice (some ⟨w.heap.size, 0, none⟩) 1 1) (LK 18 (by decide)) rfl rfl (wanted_some (g := 14) (b := true) rfl rfl rfl eg) hG ?_ (below_alloc _ _) ⟨w.heap.size, rfl, row_new w #[.string p1] _⟩
        generalize a.eval = ρ at *
        clear hG hT
        go_simp
      refine Each.cons ?_ ?_
      · intro a w hG hT
        have ek : ∀ v, a.eval (.const v) = v := fun _ => rfl
        have ef : ∀ f, a.eval (.func f) = .func (.func f) #[] #[] := fun _ => rfl
        obtain ⟨gb, ee, hrow⟩ := hT 18 (by kernel_rfl)
        have e56 : a.eval (.tmp 56) = .slice (some ⟨gb, 0, none⟩) 1 1 := ee
        clear ee
        have eg : a.eval (.tmp 52) = .bool true := hT 14 (by kernel_rfl)
        refine local_call (LK 19 (by decide)) rfl rfl (wanted_some (g := 14) (b := true) rfl rfl rfl eg) hG (?_) (crc_Sum_1 m1 p1 _ _ z1 C2.out hrow) (fun _ => rfl)
        generalize a.eval = ρ at *
        clear hG hT
        go_simp
      refine Each.cons ?_ ?_
      · intro a w hG hT
        have ek : ∀ v, a.eval (.const v) = v := fun _ => rfl
        have ef : ∀ f, a.eval (.func f) = .func (.func f) #[] #[] := fun _ => rfl
        have e0 : a.eval (.tmp 0) = .string s := hG.2.2.2 (0, .string s) (by simp)
        have eg : a.eval (.tmp 52) = .bool true := hT 14 (by kernel_rfl)
        refine local_value (v := .string s) (LK 20 (by decide)) rfl rfl (wanted_some (g := 14) (b := true) rfl rfl rfl eg) hG ?_ (Below.refl _ _) rfl
        generalize a.eval = ρ at *
        clear hG hT
        go_simp
      refine Each.cons ?_ ?_
      · intro a w hG hT
        have ek : ∀ v, a.eval (.const v) = v := fun _ => rfl
        have ef : ∀ f, a.eval (.func f) = .func (.func f) #[] #[] := fun _ => rfl
        have e7 : a.eval (.tmp 7) = .int .i64 (i : Int) := hG.2.2.2 (7, .int .i64 (i : Int)) (by simp)
        have eg : a.eval (.tmp 52) = .bool true := hT 14 (by kernel_rfl)
        refine local_value (v := .int .i64 (i : Int)) (LK 21 (by decide)) rfl rfl (wanted_some (g := 14) (b := true) rfl rfl rfl eg) hG ?_ (Below.refl _ _) rfl
        generalize a.eval = ρ at *
        clear hG hT
        go_simp
      refine Each.cons ?_ ?_
      · intro a w hG hT
        have ek : ∀ v, a.eval (.const v) = v := fun _ => rfl
        have ef : ∀ f, a.eval (.func f) = .func (.func f) #[] #[] := fun _ => rfl
        have e8 : a.eval (.tmp 8) = .int .i64 (J : Int) := hG.2.2.2 (8, .int .i64 (J : Int)) (by simp)
        have eg : a.eval (.tmp 52) = .bool true := hT 14 (by kernel_rfl)
        refine local_value (v := .int .i64 (J : Int)) (LK 22 (by decide)) rfl rfl (wanted_some (g := 14) (b := true) rfl rfl rfl eg) hG ?_ (Below.refl _ _) rfl
        generalize a.eval = ρ at *
        clear hG hT
        go_simp
      refine Each.cons ?_ ?_
      · intro a w hG hT
        have ek : ∀ v, a.eval (.const v) = v := fun _ => rfl
        have ef : ∀ f, a.eval (.func f) = .func (.func f) #[] #[] := fun _ => rfl
        have e58 : a.eval (.tmp 58) = .string s := hT 20 (by kernel_rfl)
        have e59 : a.eval (.tmp 59) = .int .i64 (i : Int) := hT 21 (by kernel_rfl)
        have e60 : a.eval (.tmp 60) = .int .i64 (J : Int) := hT 22 (by kernel_rfl)
        have eg : a.eval (.tmp 52) = .bool true := hT 14 (by kernel_rfl)
        refine local_value (v := .string p2) (LK 23 (by decide)) rfl rfl (wanted_some (g := 14) (b := true) rfl rfl rfl eg) hG ?_ (Below.refl _ _) rfl
        generalize a.eval = ρ at *
        clear hG hT
        go_simp
      refine Each.cons ?_ ?_
      · intro a w hG hT
        have ek : ∀ v, a.eval (.const v) = v := fun _ => rfl
        have ef : ∀ f, a.eval (.func f) = .func (.func f) #[] #[] := fun _ => rfl
        have e0 : a.eval (.tmp 0) = .string s := hG.2.2.2 (0, .string s) (by simp)
        have eg : a.eval (.tmp 52) = .bool true := hT 14 (by kernel_rfl)
        refine local_value (v := .string s) (LK 24 (by decide)) rfl rfl (wanted_some (g := 14) (b := true) rfl rfl rfl eg) hG ?_ (Below.refl _ _) rfl
        generalize a.eval = ρ at *
        clear hG hT
        go_simp
      refine Each.cons ?_ ?_
      · intro a w hG hT
        have ek : ∀ v, a.eval (.const v) = v := fun _ => rfl
        have ef : ∀ f, a.eval (.func f) = .func (.func f) #[] #[] := fun _ => rfl
        have e8 : a.eval (.tmp 8) = .int .i64 (J : Int) := hG.2.2.2 (8, .int .i64 (J : Int)) (by simp)
        have eg : a.eval (.tmp 52) = .bool true := hT 14 (by kernel_rfl)
        refine local_value (v := .int .i64 (J : Int)) (LK 25 (by decide)) rfl rfl (wanted_some (g := 14) (b := true) rfl rfl rfl eg) hG ?_ (Below.refl _ _) rfl
        generalize a.eval = ρ at *
        clear hG hT
        go_simp
      refine Each.cons ?_ ?_
      · intro a w hG hT
        have ek : ∀ v, a.eval (.const v) = v := fun _ => rfl
        have ef : ∀ f, a.eval (.func f) = .func (.func f) #[] #[] := fun _ => rfl
        have e62 : a.eval (.tmp 62) = .string s := hT 24 (by kernel_rfl)
        have e63 : a.eval (.tmp 63) = .int .i64 (J : Int) := hT 25 (by kernel_rfl)
        have eg : a.eval (.tmp 52) = .bool true := hT 14 (by kernel_rfl)
        refine local_value (v := .string p3) (LK 26 (by decide)) rfl rfl (wanted_some (g := 14) (b := true) rfl rfl rfl eg) hG ?_ (Below.refl _ _) rfl
        generalize a.eval = ρ at *
        clear hG hT
        go_simp
      refine Each.cons ?_ ?_
      · intro a w hG hT
        have ek : ∀ v, a.eval (.const v) = v := fun _ => rfl
        have ef : ∀ f, a.eval (.func f) = .func (.func f) #[] #[] := fun _ => rfl
        have e61 : a.eval (.tmp 61) = .string p2 := hT 23 (by kernel_rfl)
        have e64 : a.eval (.tmp 64) = .string p3 := hT 26 (by kernel_rfl)
        have eg : a.eval (.tmp 52) = .bool true := hT 14 (by kernel_rfl)
        refine local_value (w' := w.alloc (.cells #[.string p2, .string p3] 9)) (v := .slice (some ⟨w.heap.size, 0, none⟩) 2 2) (LK 27 (by decide)) rfl rfl (wanted_some (g := 14) (b := true) rfl rfl rfl eg) hG ?_ (below_alloc _ _) ⟨w.heap.size, rfl, row_new w #[.string p2, .string p3] _⟩
        generalize a.eval = ρ at *
        clear hG hT
        go_simp
      refine Each.cons ?_ ?_
      · intro a w hG hT
        have ek : ∀ v, a.eval (.const v) = v := fun _ => rfl
        have ef : ∀ f, a.eval (.func f) = .func (.func f) #[] #[] := fun _ => rfl
        have e57 : a.eval (.tmp 57) = .int .u32 (m1 : Int) := hT 19 (by kernel_rfl)
        obtain ⟨gb, ee, hrow⟩ := hT 27 (by kernel_rfl)
        have e65 : a.eval (.tmp 65) = .slice (some ⟨gb, 0, none⟩) 2 2 := ee
        clear ee
        have eg : a.eval (.tmp 52) = .bool true := hT 14 (by kernel_rfl)
        refine local_call (LK 28 (by decide)) rfl rfl (wanted_some (g := 14) (b := true) rfl rfl rfl eg) hG (?_) (crc_More_2 m1 n p2 p3 _ _ l1 z2 z3 C3.out hrow) (fun _ => rfl)
        generalize a.eval = ρ at *
        clear hG hT
        go_simp
      refine Each.cons ?_ ?_
      · intro a w hG hT
        have ek : ∀ v, a.eval (.const v) = v := fun _ => rfl
        have ef : ∀ f, a.eval (.func f) = .func (.func f) #[] #[] := fun _ => rfl
        have e9 : a.eval (.tmp 9) = .int .u32 (n : Int) := hG.2.2.2 (9, .int .u32 (n : Int)) (by simp)
        have eg : a.eval (.tmp 52) = .bool true := hT 14 (by kernel_rfl)
        refine local_value (v := .int .u32 (n : Int)) (LK 29 (by decide)) rfl rfl (wanted_some (g := 14) (b := true) rfl rfl rfl eg) hG ?_ (Below.refl _ _) rfl
        generalize a.eval = ρ at *
        clear hG hT
        go_simp
      refine Each.cons ?_ ?_
      · intro a w hG hT
        have ek : ∀ v, a.eval (.const v) = v := fun _ => rfl
        have ef : ∀ f, a.eval (.func f) = .func (.func f) #[] #[] := fun _ => rfl
        have e66 : a.eval (.tmp 66) = .int .u32 (n : Int) := hT 28 (by kernel_rfl)
        have e67 : a.eval (.tmp 67) = .int .u32 (n : Int) := hT 29 (by kernel_rfl)
        have eg : a.eval (.tmp 52) = .bool true := hT 14 (by kernel_rfl)
        refine local_value (v := .bool true) (LK 30 (by decide)) rfl rfl (wanted_some (g := 14) (b := true) rfl rfl rfl eg) hG ?_ (Below.refl _ _) rfl
        generalize a.eval = ρ at *
        clear hG hT
        go_simp
      refine Each.cons ?_ ?_
      · intro a w hG hT
        have ek : ∀ v, a.eval (.const v) = v := fun _ => rfl
        have ef : ∀ f, a.eval (.func f) = .func (.func f) #[] #[] := fun _ => rfl
        have e52 : a.eval (.tmp 52) = .bool true := hT 14 (by kernel_rfl)
        have e68 : a.eval (.tmp 68) = .bool true := hT 30 (by kernel_rfl)
        refine local_value (v := .bool true) (LK 31 (by decide)) rfl rfl (wanted_none rfl) hG ?_ (Below.refl _ _) rfl
        generalize a.eval = ρ at *
        clear hG hT
        go_simp
      refine Each.cons ?_ ?_
      · intro a w hG hT
        have ek : ∀ v, a.eval (.const v) = v := fun _ => rfl
        have ef : ∀ f, a.eval (.func f) = .func (.func f) #[] #[] := fun _ => rfl
        have e69 : a.eval (.tmp 69) = .bool true := hT 31 (by kernel_rfl)
        refine local_value (v := .bool true) (LK 32 (by decide)) rfl rfl (wanted_none rfl) hG ?_ (Below.refl _ _) rfl
        generalize a.eval = ρ at *
        clear hG hT
        go_simp
      refine Each.cons ?_ ?_
      · intro a w hG hT
        have ek : ∀ v, a.eval (.const v) = v := fun _ => rfl
        have ef : ∀ f, a.eval (.func f) = .func (.func f) #[] #[] := fun _ => rfl
        have e0 : a.eval (.tmp 0) = .string s := hG.2.2.2 (0, .string s) (by simp)
        have eg : a.eval (.tmp 70) = .bool true := hT 32 (by kernel_rfl)
        refine local_value (v := .string s) (LK 33 (by decide)) rfl rfl (wanted_some (g := 32) (b := true) rfl rfl rfl eg) hG ?_ (Below.refl _ _) rfl
        generalize a.eval = ρ at *
        clear hG hT
        go_simp
      refine Each.cons ?_ ?_
      · intro a w hG hT
        have ek : ∀ v, a.eval (.const v) = v := fun _ => rfl
        have ef : ∀ f, a.eval (.func f) = .func (.func f) #[] #[] := fun _ => rfl
        have e7 : a.eval (.tmp 7) = .int .i64 (i : Int) := hG.2.2.2 (7, .int .i64 (i : Int)) (by simp)
        have eg : a.eval (.tmp 70) = .bool true := hT 32 (by kernel_rfl)
        refine local_value (v := .int .i64 (i : Int)) (LK 34 (by decide)) rfl rfl (wanted_some (g := 32) (b := true) rfl rfl rfl eg) hG ?_ (Below.refl _ _) rfl
        generalize a.eval = ρ at *
        clear hG hT
        go_simp
      refine Each.cons ?_ ?_
      · intro a w hG hT
        have ek : ∀ v, a.eval (.const v) = v := fun _ => rfl
        have ef : ∀ f, a.eval (.func f) = .func (.func f) #[] #[] := fun _ => rfl
        have e71 : a.eval (.tmp 71) = .string s := hT 33 (by kernel_rfl)
        have e72 : a.eval (.tmp 72) = .int .i64 (i : Int) := hT 34 (by kernel_rfl)
        have eg : a.eval (.tmp 70) = .bool true := hT 32 (by kernel_rfl)
        refine local_value (v := .string p1) (LK 35 (by decide)) rfl rfl (wanted_some (g := 32) (b := true) rfl rfl rfl eg) hG ?_ (Below.refl _ _) rfl
        generalize a.eval = ρ at *
        clear hG hT
        go_simp
      refine Each.cons ?_ ?_
      · intro a w hG hT
        have ek : ∀ v, a.eval (.const v) = v := fun _ => rfl
        have ef : ∀ f, a.eval (.func f) = .func (.func f) #[] #[] := fun _ => rfl
        have e73 : a.eval (.tmp 73) = .string p1 := hT 35 (by kernel_rfl)
        have eg : a.eval (.tmp 70) = .bool true := hT 32 (by kernel_rfl)
        refine local_value (w' := w.alloc (.cells #[.string p1] 9)) (v := .slice (some ⟨w.heap.size, 0, none⟩) 1 1) (LK 36 (by decide)) rfl rfl (wanted_some (g := 32) (b := true) rfl rfl rfl eg) hG ?_ (below_alloc _ _) ⟨w.heap.size, rfl, row_new w #[.string p1] _⟩
        generalize a.eval = ρ at *
        clear hG hT
        go_simp
      refine Each.cons ?_ ?_
      · intro a w hG hT
        have ek : ∀ v, a.eval (.const v) = v := fun _ => rfl
        have ef : ∀ f, a.eval (.func f) = .func (.func f) #[] #[] := fun _ => rfl
        obtain ⟨gb, ee, hrow⟩ := hT 36 (by kernel_rfl)
        have e74 : a.eval (.tmp 74) = .slice (some ⟨gb, 0, none⟩) 1 1 := ee
        clear ee
        have eg : a.eval (.tmp 70) = .bool true := hT 32 (by kernel_rfl)
        refine local_call (LK 37 (by decide)) rfl rfl (wanted_some (g := 32) (b := true) rfl rfl rfl eg) hG (?_) (crc_Sum_1 m1 p1 _ _ z1 C2.out hrow) (fun _ => rfl)
        generalize a.eval = ρ at *
        clear hG hT
        go_simp
      refine Each.cons ?_ ?_
      · intro a w hG hT
        have ek : ∀ v, a.eval (.const v) = v := fun _ => rfl
        have ef : ∀ f, a.eval (.func f) = .func (.func f) #[] #[] := fun _ => rfl
        have e0 : a.eval (.tmp 0) = .string s := hG.2.2.2 (0, .string s) (by simp)
        have eg : a.eval (.tmp 70) = .bool true := hT 32 (by kernel_rfl)
        refine local_value (v := .string s) (LK 38 (by decide)) rfl rfl (wanted_some (g := 32) (b := true) rfl rfl rfl eg) hG ?_ (Below.refl _ _) rfl
        generalize a.eval = ρ at *
        clear hG hT
        go_simp
      refine Each.cons ?_ ?_
      · intro a w hG hT
        have ek : ∀ v, a.eval (.const v) = v := fun _ => rfl
        have ef : ∀ f, a.eval (.func f) = .func (.func f) #[] #[] := fun _ => rfl
        have e7 : a.eval (.tmp 7) = .int .i64 (i : Int) := hG.2.2.2 (7, .int .i64 (i : Int)) (by simp)
        have eg : a.eval (.tmp 70) = .bool true := hT 32 (by kernel_rfl)
        refine local_value (v := .int .i64 (i : Int)) (LK 39 (by decide)) rfl rfl (wanted_some (g := 32) (b := true) rfl rfl rfl eg) hG ?_ (Below.refl _ _) rfl
        generalize a.eval = ρ at *
        clear hG hT
        go_simp
      refine Each.cons ?_ ?_
      · intro a w hG hT
        have ek : ∀ v, a.eval (.const v) = v := fun _ => rfl
        have ef : ∀ f, a.eval (.func f) = .func (.func f) #[] #[] := fun _ => rfl
        have e8 : a.eval (.tmp 8) = .int .i64 (J : Int) := hG.2.2.2 (8, .int .i64 (J : Int)) (by simp)
        have eg : a.eval (.tmp 70) = .bool true := hT 32 (by kernel_rfl)
        refine local_value (v := .int .i64 (J : Int)) (LK 40 (by decide)) rfl rfl (wanted_some (g := 32) (b := true) rfl rfl rfl eg) hG ?_ (Below.refl _ _) rfl
        generalize a.eval = ρ at *
        clear hG hT
        go_simp
      refine Each.cons ?_ ?_
      · intro a w hG hT
        have ek : ∀ v, a.eval (.const v) = v := fun _ => rfl
        have ef : ∀ f, a.eval (.func f) = .func (.func f) #[] #[] := fun _ => rfl
        have e76 : a.eval (.tmp 76) = .string s := hT 38 (by kernel_rfl)
        have e77 : a.eval (.tmp 77) = .int .i64 (i : Int) := hT 39 (by kernel_rfl)
        have e78 : a.eval (.tmp 78) = .int .i64 (J : Int) := hT 40 (by kernel_rfl)
        have eg : a.eval (.tmp 70) = .bool true := hT 32 (by kernel_rfl)
        refine local_value (v := .string p2) (LK 41 (by decide)) rfl rfl (wanted_some (g := 32) (b := true) rfl rfl rfl eg) hG ?_ (Below.refl _ _) rfl
        generalize a.eval = ρ at *
        clear hG hT
        go_simp
      refine Each.cons ?_ ?_
      · intro a w hG hT
        have ek : ∀ v, a.eval (.const v) = v := fun _ => rfl
        have ef : ∀ f, a.eval (.func f) = .func (.func f) #[] #[] := fun _ => rfl
        have e79 : a.eval (.tmp 79) = .string p2 := hT 41 (by kernel_rfl)
        have eg : a.eval (.tmp 70) = .bool true := hT 32 (by kernel_rfl)
        refine local_value (w' := w.alloc (.cells #[.string p2] 9)) (v := .slice (some ⟨w.heap.size, 0, none⟩) 1 1) (LK 42 (by decide)) rfl rfl (wanted_some (g := 32) (b := true) rfl rfl rfl eg) hG ?_ (below_alloc _ _) ⟨w.heap.size, rfl, row_new w #[.string p2] _⟩
        generalize a.eval = ρ at *
        clear hG hT
        go_simp
      refine Each.cons ?_ ?_
      · intro a w hG hT
        have ek : ∀ v, a.eval (.const v) = v := fun _ => rfl
        have ef : ∀ f, a.eval (.func f) = .func (.func f) #[] #[] := fun _ => rfl
        have e75 : a.eval (.tmp 75) = .int .u32 (m1 : Int) := hT 37 (by kernel_rfl)
        obtain ⟨gb, ee, hrow⟩ := hT 42 (by kernel_rfl)
        have e80 : a.eval (.tmp 80) = .slice (some ⟨gb, 0, none⟩) 1 1 := ee
        clear ee
        have eg : a.eval (.tmp 70) = .bool true := hT 32 (by kernel_rfl)
        refine local_call (LK 43 (by decide)) rfl rfl (wanted_some (g := 32) (b := true) rfl rfl rfl eg) hG (?_) (crc_More_1 m1 m2 p2 _ _ l1 z2 C5.out hrow) (fun _ => rfl)
        generalize a.eval = ρ at *
        clear hG hT
        go_simp
      refine Each.cons ?_ ?_
      · intro a w hG hT
        have ek : ∀ v, a.eval (.const v) = v := fun _ => rfl
        have ef : ∀ f, a.eval (.func f) = .func (.func f) #[] #[] := fun _ => rfl
        have e0 : a.eval (.tmp 0) = .string s := hG.2.2.2 (0, .string s) (by simp)
        have eg : a.eval (.tmp 70) = .bool true := hT 32 (by kernel_rfl)
        refine local_value (v := .string s) (LK 44 (by decide)) rfl rfl (wanted_some (g := 32) (b := true) rfl rfl rfl eg) hG ?_ (Below.refl _ _) rfl
        generalize a.eval = ρ at *
        clear hG hT
        go_simp
      refine Each.cons ?_ ?_
      · intro a w hG hT
        have ek : ∀ v, a.eval (.const v) = v := fun _ => rfl
        have ef : ∀ f, a.eval (.func f) = .func (.func f) #[] #[] := fun _ => rfl
        have e8 : a.eval (.tmp 8) = .int .i64 (J : Int) := hG.2.2.2 (8, .int .i64 (J : Int)) (by simp)
        have eg : a.eval (.tmp 70) = .bool true := hT 32 (by kernel_rfl)
        refine local_value (v := .int .i64 (J : Int)) (LK 45 (by decide)) rfl rfl (wanted_some (g := 32) (b := true) rfl rfl rfl eg) hG ?_ (Below.refl _ _) rfl
        generalize a.eval = ρ at *
        clear hG hT
        go_simp
      refine Each.cons ?_ ?_
      · intro a w hG hT
        have ek : ∀ v, a.eval (.const v) = v := fun _ => rfl
        have ef : ∀ f, a.eval (.func f) = .func (.func f) #[] #[] := fun _ => rfl
        have e82 : a.eval (.tmp 82) = .string s := hT 44 (by kernel_rfl)
        have e83 : a.eval (.tmp 83) = .int .i64 (J : Int) := hT 45 (by kernel_rfl)
        have eg : a.eval (.tmp 70) = .bool true := hT 32 (by kernel_rfl)
        refine local_value (v := .string p3) (LK 46 (by decide)) rfl rfl (wanted_some (g := 32) (b := true) rfl rfl rfl eg) hG ?_ (Below.refl _ _) rfl
        generalize a.eval = ρ at *
        clear hG hT
        go_simp
      refine Each.cons ?_ ?_
      · intro a w hG hT
        have ek : ∀ v, a.eval (.const v) = v := fun _ => rfl
        have ef : ∀ f, a.eval (.func f) = .func (.func f) #[] #[] := fun _ => rfl
        have e84 : a.eval (.tmp 84) = .string p3 := hT 46 (by kernel_rfl)
        have eg : a.eval (.tmp 70) = .bool true := hT 32 (by kernel_rfl)
        refine local_value (w' := w.alloc (.cells #[.string p3] 9)) (v := .slice (some ⟨w.heap.size, 0, none⟩) 1 1) (LK 47 (by decide)) rfl rfl (wanted_some (g := 32) (b := true) rfl rfl rfl eg) hG ?_ (below_alloc _ _) ⟨w.heap.size, rfl, row_new w #[.string p3] _⟩
        generalize a.eval = ρ at *
        clear hG hT
        go_simp
      refine Each.cons ?_ ?_
      · intro a w hG hT
        have ek : ∀ v, a.eval (.const v) = v := fun _ => rfl
        have ef : ∀ f, a.eval (.func f) = .func (.func f) #[] #[] := fun _ => rfl
        have e81 : a.eval (.tmp 81) = .int .u32 (m2 : Int) := hT 43 (by kernel_rfl)
        obtain ⟨gb, ee, hrow⟩ := hT 47 (by kernel_rfl)
        have e85 : a.eval (.tmp 85) = .slice (some ⟨gb, 0, none⟩) 1 1 := ee
        clear ee
        have eg : a.eval (.tmp 70) = .bool true := hT 32 (by kernel_rfl)
        refine local_call (LK 48 (by decide)) rfl rfl (wanted_some (g := 32) (b := true) rfl rfl rfl eg) hG (?_) (crc_More_1 m2 n p3 _ _ l2 z3 C6.out hrow) (fun _ => rfl)
        generalize a.eval = ρ at *
        clear hG hT
        go_simp
      refine Each.cons ?_ ?_
      · intro a w hG hT
        have ek : ∀ v, a.eval (.const v) = v := fun _ => rfl
        have ef : ∀ f, a.eval (.func f) = .func (.func f) #[] #[] := fun _ => rfl
        have e9 : a.eval (.tmp 9) = .int .u32 (n : Int) := hG.2.2.2 (9, .int .u32 (n : Int)) (by simp)
        have eg : a.eval (.tmp 70) = .bool true := hT 32 (by kernel_rfl)
        refine local_value (v := .int .u32 (n : Int)) (LK 49 (by decide)) rfl rfl (wanted_some (g := 32) (b := true) rfl rfl rfl eg) hG ?_ (Below.refl _ _) rfl
        generalize a.eval = ρ at *
        clear hG hT
        go_simp
      refine Each.cons ?_ ?_
      · intro a w hG hT
        have ek : ∀ v, a.eval (.const v) = v := fun _ => rfl
        have ef : ∀ f, a.eval (.func f) = .func (.func f) #[] #[] := fun _ => rfl
        have e86 : a.eval (.tmp 86) = .int .u32 (n : Int) := hT 48 (by kernel_rfl)
        have e87 : a.eval (.tmp 87) = .int .u32 (n : Int) := hT 49 (by kernel_rfl)
        have eg : a.eval (.tmp 70) = .bool true := hT 32 (by kernel_rfl)
        refine local_value (v := .bool true) (LK 50 (by decide)) rfl rfl (wanted_some (g := 32) (b := true) rfl rfl rfl eg) hG ?_ (Below.refl _ _) rfl
        generalize a.eval = ρ at *
        clear hG hT
        go_simp
      refine Each.cons ?_ ?_
      · intro a w hG hT
        have ek : ∀ v, a.eval (.const v) = v := fun _ => rfl
        have ef : ∀ f, a.eval (.func f) = .func (.func f) #[] #[] := fun _ => rfl
        have e70 : a.eval (.tmp 70) = .bool true := hT 32 (by kernel_rfl)
        have e88 : a.eval (.tmp 88) = .bool true := hT 50 (by kernel_rfl)
        refine local_value (v := .bool true) (LK 51 (by decide)) rfl rfl (wanted_none rfl) hG ?_ (Below.refl _ _) rfl
        generalize a.eval = ρ at *
        clear hG hT
        go_simp
      refine Each.cons ?_ ?_
      · intro a w hG hT
        have ek : ∀ v, a.eval (.const v) = v := fun _ => rfl
        have ef : ∀ f, a.eval (.func f) = .func (.func f) #[] #[] := fun _ => rfl
        have e89 : a.eval (.tmp 89) = .bool true := hT 51 (by kernel_rfl)
        refine local_value (v := .bool true) (LK 52 (by decide)) rfl rfl (wanted_none rfl) hG ?_ (Below.refl _ _) rfl
        generalize a.eval = ρ at *
        clear hG hT
        go_simp
      refine Each.cons ?_ ?_
      · intro a w hG hT
        have ek : ∀ v, a.eval (.const v) = v := fun _ => rfl
        have ef : ∀ f, a.eval (.func f) = .func (.func f) #[] #[] := fun _ => rfl
        have e9 : a.eval (.tmp 9) = .int .u32 (n : Int) := hG.2.2.2 (9, .int .u32 (n : Int)) (by simp)
        have eg : a.eval (.tmp 90) = .bool true := hT 52 (by kernel_rfl)
        refine local_value (v := .int .u32 (n : Int)) (LK 53 (by decide)) rfl rfl (wanted_some (g := 52) (b := true) rfl rfl rfl eg) hG ?_ (Below.refl _ _) rfl
        generalize a.eval = ρ at *
        clear hG hT
        go_simp
      refine Each.cons ?_ ?_
      · intro a w hG hT
        have ek : ∀ v, a.eval (.const v) = v := fun _ => rfl
        have ef : ∀ f, a.eval (.func f) = .func (.func f) #[] #[] := fun _ => rfl
        have e91 : a.eval (.tmp 91) = .int .u32 (n : Int) := hT 53 (by kernel_rfl)
        have eg : a.eval (.tmp 90) = .bool true := hT 52 (by kernel_rfl)
        refine local_call (LK 54 (by decide)) rfl rfl (wanted_some (g := 52) (b := true) rfl rfl rfl eg) hG (?_) (crc_More_0 n _ ln) (fun _ => rfl)
        generalize a.eval = ρ at *
        clear hG hT
        go_simp
      refine Each.cons ?_ ?_
      · intro a w hG hT
        have ek : ∀ v, a.eval (.const v) = v := fun _ => rfl
        have ef : ∀ f, a.eval (.func f) = .func (.func f) #[] #[] := fun _ => rfl
        have e9 : a.eval (.tmp 9) = .int .u32 (n : Int) := hG.2.2.2 (9, .int .u32 (n : Int)) (by simp)
        have eg : a.eval (.tmp 90) = .bool true := hT 52 (by kernel_rfl)
        refine local_value (v := .int .u32 (n : Int)) (LK 55 (by decide)) rfl rfl (wanted_some (g := 52) (b := true) rfl rfl rfl eg) hG ?_ (Below.refl _ _) rfl
        generalize a.eval = ρ at *
        clear hG hT
        go_simp
      refine Each.cons ?_ ?_
      · intro a w hG hT
        have ek : ∀ v, a.eval (.const v) = v := fun _ => rfl
        have ef : ∀ f, a.eval (.func f) = .func (.func f) #[] #[] := fun _ => rfl
        have e92 : a.eval (.tmp 92) = .int .u32 (n : Int) := hT 54 (by kernel_rfl)
        have e93 : a.eval (.tmp 93) = .int .u32 (n : Int) := hT 55 (by kernel_rfl)
        have eg : a.eval (.tmp 90) = .bool true := hT 52 (by kernel_rfl)
        refine local_value (v := .bool true) (LK 56 (by decide)) rfl rfl (wanted_some (g := 52) (b := true) rfl rfl rfl eg) hG ?_ (Below.refl _ _) rfl
        generalize a.eval = ρ at *
        clear hG hT
        go_simp
      refine Each.cons ?_ ?_
      · intro a w hG hT
        have ek : ∀ v, a.eval (.const v) = v := fun _ => rfl
        have ef : ∀ f, a.eval (.func f) = .func (.func f) #[] #[] := fun _ => rfl
        have e90 : a.eval (.tmp 90) = .bool true := hT 52 (by kernel_rfl)
        have e94 : a.eval (.tmp 94) = .bool true := hT 56 (by kernel_rfl)
        refine local_value (v := .bool true) (LK 57 (by decide)) rfl rfl (wanted_none rfl) hG ?_ (Below.refl _ _) rfl
        generalize a.eval = ρ at *
        clear hG hT
        go_simp
      refine Each.cons ?_ ?_
      · intro a w hG hT
        have ek : ∀ v, a.eval (.const v) = v := fun _ => rfl
        have ef : ∀ f, a.eval (.func f) = .func (.func f) #[] #[] := fun _ => rfl
        have e95 : a.eval (.tmp 95) = .bool true := hT 57 (by kernel_rfl)
        refine local_value (v := .bool true) (LK 58 (by decide)) rfl rfl (wanted_none rfl) hG ?_ (Below.refl _ _) rfl
        generalize a.eval = ρ at *
        clear hG hT
        go_simp
      exact Each.nil
    · intro a w hG hT
      have e6 : a.eval (.tmp 6) = .bool true := hT 58 (by decide)
      go_wp2_with fail
      refine bodyPost_ret (results_tmp rfl _ _ _) hG.2.2.1 ?_
      exact ⟨congrArg Ending.returned e6, bt hb3 hG.1⟩
  · go_enter Try.func3, Try.ntmps3
    go_wp2_with fail
    refine (awake02_any _).mono ?_; rintro e w1 ⟨rfl, hb1⟩
    go_wp2_with fail
    go_ret
    exact ⟨rfl, hb1⟩
end Go.Proofs.Ytcklgaenedlbiaa
