/-
  The writer of layer 1, walked: fits, Num, Text, Raw, Bytes, Len; of a nil one too.
-/
import Derived.Test.YthhmdmfbaooldaaGreatDoorProg
import Derived.Test.YthhmdmfbaooldaaGreatDoorBuilder
import Derived.Test.YthhmdmfbaooldaaGreatDoorPenIn
import Derived.Shelf.Abstract
namespace Go.Proofs.YthhmdmfbaooldaaGreatDoor
open Go.RowKit

/-- whether a number has so many bytes at most -/
def fitsB (width n : Int) : Bool := decide (0 ≤ n) && (width == 8 || decide (n < 256 ^ width.toNat))

set_option maxHeartbeats 1000000 in
theorem fits_any (width n : Int) (hw : isW width = true) (w : World) :
    Calls Tryz.prog 119 #[.int .i64 width, .int .i64 n] w fun e w' => e = .returned (.bool (fitsB width n)) ∧ w = w' := by
  obtain ⟨f, hf⟩ : ∃ f, f = fitsB width n := ⟨_, rfl⟩
  rw [← hf]
  by_cases h0 : 0 ≤ n
  · have H0 := hid h0
    rcases isW_cases hw with rfl | rfl | rfl | rfl
    · by_cases h1 : n < 256
      · have hf1 : f = true := by rw [hf]; simp [fitsB, h0, h1]
        subst hf1
        clear hf hw
        go_enter Tryz.func119, Tryz.ntmps119
        go_wp2_with fail
        go_ret
        exact ⟨rfl, rfl⟩
      · have hf1 : f = false := by rw [hf]; simp [fitsB, h1]
        subst hf1
        clear hf hw
        go_enter Tryz.func119, Tryz.ntmps119
        go_wp2_with fail
        go_ret
        exact ⟨rfl, rfl⟩
    · by_cases h1 : n < 65536
      · have hf1 : f = true := by rw [hf]; simp [fitsB, h0, h1]
        subst hf1
        clear hf hw
        go_enter Tryz.func119, Tryz.ntmps119
        go_wp2_with fail
        go_ret
        exact ⟨rfl, rfl⟩
      · have hf1 : f = false := by rw [hf]; simp [fitsB, h1]
        subst hf1
        clear hf hw
        go_enter Tryz.func119, Tryz.ntmps119
        go_wp2_with fail
        go_ret
        exact ⟨rfl, rfl⟩
    · by_cases h1 : n < 4294967296
      · have hf1 : f = true := by rw [hf]; simp [fitsB, h0, h1]
        subst hf1
        clear hf hw
        go_enter Tryz.func119, Tryz.ntmps119
        go_wp2_with fail
        go_ret
        exact ⟨rfl, rfl⟩
      · have hf1 : f = false := by rw [hf]; simp [fitsB, h1]
        subst hf1
        clear hf hw
        go_enter Tryz.func119, Tryz.ntmps119
        go_wp2_with fail
        go_ret
        exact ⟨rfl, rfl⟩
    · have hf1 : f = true := by rw [hf]; simp [fitsB, h0]
      subst hf1
      clear hf hw
      go_enter Tryz.func119, Tryz.ntmps119
      go_wp2_with fail
      go_ret
      exact ⟨rfl, rfl⟩
  · have hf1 : f = false := by rw [hf]; simp [fitsB, h0]
    subst hf1
    clear hf hw
    go_enter Tryz.func119, Tryz.ntmps119
    go_wp2_with fail
    go_ret
    exact ⟨rfl, rfl⟩

set_option maxHeartbeats 1000000 in
theorem Num1_any (width n : Int) (hw : isW width = true) (B : Nat) (w : World) (hB : w.cell? ⟨B, 0, none⟩ = some (.int .i64 width)) :
    Calls Tryz.prog 118 #[.int .i64 n, .pointer (some ⟨B, 0, none⟩)] w fun e w' => e = .returned (.bool (!fitsB width n)) ∧ w = w' := by
  have HW := hid hw; clear hw
  go_enter Tryz.func118, Tryz.ntmps118
  go_wp2_with fail
  refine (fits_any width n HW.out _).mono ?_; rintro e w1 ⟨rfl, rfl⟩
  obtain ⟨f, hf⟩ : ∃ f, f = fitsB width n := ⟨_, rfl⟩
  rw [← hf]
  have HF := hid hf; clear hf
  go_wp2_with fail
  go_ret
  rw [← HF.out]
  exact ⟨rfl, rfl⟩

set_option maxHeartbeats 1000000 in
theorem Text1_any (s : ByteArray) (w : World) :
    Calls Tryz.prog 104 #[.string s] w fun e w' => e = .returned (.bool (decide (255 < s.size))) ∧ w = w' := by
  obtain ⟨f, hf⟩ : ∃ f, f = decide (255 < s.size) := ⟨_, rfl⟩
  rw [← hf]
  cases f with
  | true =>
    have h : (255 : Int) < s.size := by have := of_decide_eq_true hf.symm; omega
    clear hf
    go_enter Tryz.func104, Tryz.ntmps104
    go_wp2_with fail
    go_ret
    exact ⟨rfl, rfl⟩
  | false =>
    have h : ¬ (255 : Int) < s.size := by have := of_decide_eq_false hf.symm; omega
    clear hf
    go_enter Tryz.func104, Tryz.ntmps104
    go_wp2_with fail
    go_ret
    exact ⟨rfl, rfl⟩

set_option maxHeartbeats 1000000 in
set_option maxRecDepth 100000 in
theorem IndexFunc_ints (g : Nat) (lb : Array Value) (p : Int → Bool) (eg : ∀ args w, (callFunc g args).run Tryz.prog w = .ok (.enter g args) w) (A : Option Addr) (cap : Nat) (l : List Int) (hlen : l.length ≤ 9223372036854775807) (w : World) (hr : Row w A (i64s l))
    (hp : ∀ n, Calls Tryz.prog g (#[.int .i64 n] ++ lb) w fun e w' => e = .returned (.bool (p n)) ∧ w = w') :
    Calls Tryz.prog 121 #[.slice A l.length cap, .func (.func g) #[] lb] w fun e w' => (∃ i : Int, e = .returned (.int .i64 i) ∧ (0 ≤ i ↔ l.any p = true)) ∧ w = w' := by
  have HP := hid hp; clear hp
  cases hl : l with
  | nil =>
    subst hl
    go_enter Tryz.func121, Tryz.ntmps121
    go_wp2_with fail
    refine wp_loop_rounds 1 ?_
    rw [rounds_succ]
    go_wp2_with fail
    go_ret
    exact ⟨⟨_, rfl, by simp⟩, rfl⟩
  | cons x r =>
    rw [← hl]
    obtain ⟨b, off, rfl, hb, hc⟩ := row_cell hr (by rw [hl]; simp [i64s])
    clear hl hr
    have HC := hid hc; clear hc
    go_enter Tryz.func121, Tryz.ntmps121
    go_wp2_with fail
    go_loopg [8] l.length (fun g j wx => ∃ k : Nat, k + g = l.length ∧ j = .int .i64 k ∧ Hid (∀ i (h : i < l.length), i < k → p l[i] = false) ∧ w = wx)
    case atStart => exact ⟨0, by omega, rfl, (show ∀ i (h : i < l.length), i < 0 → p l[i] = false from fun i _ h => absurd h (by omega)), rfl⟩
    case round =>
      obtain ⟨k, hk, rfl, HN, rfl⟩ := hrel
      by_cases hlt : k < l.length
      · have hcell := HC.out k (.int .i64 l[k]) (by simp [i64s, hlt])
        obtain ⟨x, hx⟩ : ∃ x, x = l[k] := ⟨_, rfl⟩
        rw [← hx] at hcell
        have HX := hid hx; clear hx
        go_wp2_with fail
        refine (HP.out x).mono ?_; rintro e w1 ⟨rfl, rfl⟩
        obtain ⟨f, hf⟩ : ∃ f, f = p x := ⟨_, rfl⟩
        rw [← hf]
        have HF := hid hf; clear hf
        cases f with
        | true =>
          go_wp2_with fail
          go_ret
          refine ⟨⟨_, rfl, ?_⟩, rfl⟩
          rw [List.any_eq_true]
          exact ⟨fun _ => ⟨x, by rw [HX.out]; exact List.getElem_mem _, HF.out.symm⟩, fun _ => by omega⟩
        | false =>
          go_wp2_with fail
          go_roundg (l.length - (k + 1))
          case measure => omega
          case rel =>
            refine ⟨k + 1, by omega, by go_num, ?_, rfl⟩
            intro i hi hik
            by_cases e : i = k
            · subst e; rw [← HX.out]; exact HF.out.symm
            · exact HN.out i hi (by omega)
      · go_wp2_with fail
        go_ret
        refine ⟨⟨_, rfl, ?_⟩, rfl⟩
        rw [List.any_eq_true]
        constructor
        · intro h; exact absurd h (by decide)
        · rintro ⟨y, hy, hpy⟩
          obtain ⟨i, hi, rfl⟩ := List.getElem_of_mem hy
          rw [HN.out i hi (by omega)] at hpy
          cases hpy

set_option maxHeartbeats 1000000 in
theorem ContainsFunc_ints (g : Nat) (lb : Array Value) (p : Int → Bool) (eg : ∀ args w, (callFunc g args).run Tryz.prog w = .ok (.enter g args) w) (A : Option Addr) (cap : Nat) (l : List Int) (hlen : l.length ≤ 9223372036854775807) (w : World) (hr : Row w A (i64s l))
    (hp : ∀ n, Calls Tryz.prog g (#[.int .i64 n] ++ lb) w fun e w' => e = .returned (.bool (p n)) ∧ w = w') :
    Calls Tryz.prog 117 #[.slice A l.length cap, .func (.func g) #[] lb] w fun e w' => e = .returned (.bool (l.any p)) ∧ w = w' := by
  have HP := hid hp; clear hp
  have HR := hid hr; clear hr
  have HE := hid eg; clear eg
  obtain ⟨f, hf⟩ : ∃ f, f = l.any p := ⟨_, rfl⟩
  rw [← hf]
  go_enter Tryz.func117, Tryz.ntmps117
  go_wp2_with fail
  refine (IndexFunc_ints g lb p HE.out A cap l hlen _ HR.out HP.out).mono ?_; rintro e w1 ⟨⟨i, rfl, hi⟩, rfl⟩
  rw [← hf] at hi
  cases f with
  | true =>
    have h0 : 0 ≤ i := hi.2 rfl
    clear hi hf
    go_wp2_with fail
    go_ret
    exact ⟨rfl, rfl⟩
  | false =>
    have h0 : ¬ 0 ≤ i := fun h => by simpa using hi.1 h
    clear hi hf
    go_wp2_with fail
    go_ret
    exact ⟨ret_bool (decide_eq_false (by omega)), rfl⟩

set_option maxHeartbeats 1000000 in
set_option maxRecDepth 100000 in
theorem IndexFunc_strs (g : Nat) (lb : Array Value) (p : ByteArray → Bool) (eg : ∀ args w, (callFunc g args).run Tryz.prog w = .ok (.enter g args) w) (A : Option Addr) (cap : Nat) (l : List ByteArray) (hlen : l.length ≤ 9223372036854775807) (w : World) (hr : Row w A (strs l))
    (hp : ∀ n, Calls Tryz.prog g (#[.string n] ++ lb) w fun e w' => e = .returned (.bool (p n)) ∧ w = w') :
    Calls Tryz.prog 68 #[.slice A l.length cap, .func (.func g) #[] lb] w fun e w' => (∃ i : Int, e = .returned (.int .i64 i) ∧ (0 ≤ i ↔ l.any p = true)) ∧ w = w' := by
  have HP := hid hp; clear hp
  cases hl : l with
  | nil =>
    subst hl
    go_enter Tryz.func68, Tryz.ntmps68
    go_wp2_with fail
    refine wp_loop_rounds 1 ?_
    rw [rounds_succ]
    go_wp2_with fail
    go_ret
    exact ⟨⟨_, rfl, by simp⟩, rfl⟩
  | cons x r =>
    rw [← hl]
    obtain ⟨b, off, rfl, hb, hc⟩ := row_cell hr (by rw [hl]; simp [strs])
    clear hl hr
    have HC := hid hc; clear hc
    go_enter Tryz.func68, Tryz.ntmps68
    go_wp2_with fail
    go_loopg [8] l.length (fun g j wx => ∃ k : Nat, k + g = l.length ∧ j = .int .i64 k ∧ Hid (∀ i (h : i < l.length), i < k → p l[i] = false) ∧ w = wx)
    case atStart => exact ⟨0, by omega, rfl, (show ∀ i (h : i < l.length), i < 0 → p l[i] = false from fun i _ h => absurd h (by omega)), rfl⟩
    case round =>
      obtain ⟨k, hk, rfl, HN, rfl⟩ := hrel
      by_cases hlt : k < l.length
      · have hcell := HC.out k (.string l[k]) (by simp [strs, hlt])
        obtain ⟨x, hx⟩ : ∃ x, x = l[k] := ⟨_, rfl⟩
        rw [← hx] at hcell
        have HX := hid hx; clear hx
        go_wp2_with fail
        refine (HP.out x).mono ?_; rintro e w1 ⟨rfl, rfl⟩
        obtain ⟨f, hf⟩ : ∃ f, f = p x := ⟨_, rfl⟩
        rw [← hf]
        have HF := hid hf; clear hf
        cases f with
        | true =>
          go_wp2_with fail
          go_ret
          refine ⟨⟨_, rfl, ?_⟩, rfl⟩
          rw [List.any_eq_true]
          exact ⟨fun _ => ⟨x, by rw [HX.out]; exact List.getElem_mem _, HF.out.symm⟩, fun _ => by omega⟩
        | false =>
          go_wp2_with fail
          go_roundg (l.length - (k + 1))
          case measure => omega
          case rel =>
            refine ⟨k + 1, by omega, by go_num, ?_, rfl⟩
            intro i hi hik
            by_cases e : i = k
            · subst e; rw [← HX.out]; exact HF.out.symm
            · exact HN.out i hi (by omega)
      · go_wp2_with fail
        go_ret
        refine ⟨⟨_, rfl, ?_⟩, rfl⟩
        rw [List.any_eq_true]
        constructor
        · intro h; exact absurd h (by decide)
        · rintro ⟨y, hy, hpy⟩
          obtain ⟨i, hi, rfl⟩ := List.getElem_of_mem hy
          rw [HN.out i hi (by omega)] at hpy
          cases hpy

set_option maxHeartbeats 1000000 in
theorem ContainsFunc_strs (g : Nat) (lb : Array Value) (p : ByteArray → Bool) (eg : ∀ args w, (callFunc g args).run Tryz.prog w = .ok (.enter g args) w) (A : Option Addr) (cap : Nat) (l : List ByteArray) (hlen : l.length ≤ 9223372036854775807) (w : World) (hr : Row w A (strs l))
    (hp : ∀ n, Calls Tryz.prog g (#[.string n] ++ lb) w fun e w' => e = .returned (.bool (p n)) ∧ w = w') :
    Calls Tryz.prog 45 #[.slice A l.length cap, .func (.func g) #[] lb] w fun e w' => e = .returned (.bool (l.any p)) ∧ w = w' := by
  have HP := hid hp; clear hp
  have HR := hid hr; clear hr
  have HE := hid eg; clear eg
  obtain ⟨f, hf⟩ : ∃ f, f = l.any p := ⟨_, rfl⟩
  rw [← hf]
  go_enter Tryz.func45, Tryz.ntmps45
  go_wp2_with fail
  refine (IndexFunc_strs g lb p HE.out A cap l hlen _ HR.out HP.out).mono ?_; rintro e w1 ⟨⟨i, rfl, hi⟩, rfl⟩
  rw [← hf] at hi
  cases f with
  | true =>
    have h0 : 0 ≤ i := hi.2 rfl
    clear hi hf
    go_wp2_with fail
    go_ret
    exact ⟨rfl, rfl⟩
  | false =>
    have h0 : ¬ 0 ≤ i := fun h => by simpa using hi.1 h
    clear hi hf
    go_wp2_with fail
    go_ret
    exact ⟨ret_bool (decide_eq_false (by omega)), rfl⟩

/-- a number's bytes, the highest first -/
def beB : Nat → Nat → List UInt8
  | 0, _ => []
  | k + 1, n => UInt8.ofNat (n / 256 ^ k % 256) :: beB k n
def beAll (width : Nat) (ns : List Int) : List UInt8 := (ns.map fun n => beB width n.toNat).flatten
theorem beB_length (k n : Nat) : (beB k n).length = k := by
  induction k with
  | zero => rfl
  | succ k ih => simp [beB, ih]
theorem beAll_length (width : Nat) (ns : List Int) : (beAll width ns).length = width * ns.length := by
  induction ns with
  | nil => rfl
  | cons n ns ih => simp only [beAll, List.map_cons, List.flatten_cons, List.length_append, beB_length, List.length_cons] at *; rw [ih, Nat.mul_succ]; omega
theorem beAll_snoc (width : Nat) (ns : List Int) (n : Int) : beAll width (ns ++ [n]) = beAll width ns ++ beB width n.toNat := by simp [beAll]

theorem OutAt.drew {T : TypeId} {w : World} {b : Nat} {l : List UInt8} {F : List Nat} (h : OutAt T w b l F) : OutAt T w.drew b l F := h

/-- a byte of a number, in the walk's words -/
theorem shr_byte (n : Int) (k : Nat) (h0 : 0 ≤ n) : ∃ x : UInt8, IntKind.u8.wrap (n / 2 ^ (8 * k)) = (x.toNat : Int) ∧ x = UInt8.ofNat (n.toNat / 256 ^ k % 256) := by
  refine ⟨UInt8.ofNat (n.toNat / 256 ^ k % 256), ?_, rfl⟩
  have e1 : (256 : Nat) ^ k = 2 ^ (8 * k) := by rw [Nat.pow_mul]
  have e2 : (UInt8.ofNat (n.toNat / 256 ^ k % 256)).toNat = n.toNat / 256 ^ k % 256 := by simp
  have e3 : n = (n.toNat : Int) := by omega
  rw [e2, IntKind.wrap_u8, e1]
  rw [e3]
  have e4 : ((2 : Int) ^ (8 * k)) = ((2 ^ (8 * k) : Nat) : Int) := by push_cast; rfl
  rw [e4]
  simp only [Int.toNat_natCast]
  omega

set_option maxHeartbeats 2000000 in
set_option maxRecDepth 100000 in
theorem Out_Num_no (p : Nat) (width : Int) (ns : List Int) (A : Option Addr) (cap : Nat) (w : World) (hr : Row w A (i64s ns)) (hlen : ns.length ≤ 9223372036854775807) (hc : isW width = false ∨ (ns.any fun n => !fitsB width n) = true) :
    Calls Tryz.prog 106 #[.pointer (some ⟨p, 0, none⟩), .int .i64 width, .slice A ns.length cap] w fun e w' => e = .returned (.int .i64 1) ∧ Below w.heap.size w w' := by
  have HR := hid hr; clear hr
  cases hw : isW width with
  | false =>
    clear hc
    go_enter Tryz.func106, Tryz.ntmps106
    go_wp2_with fail
    refine (isWidth_any _ _).mono ?_; rintro e w1 ⟨rfl, rfl⟩
    go_wp2_with fail
    go_ret
    exact ⟨rfl, below_alloc _ _⟩
  | true =>
    have hc' : (ns.any fun n => !fitsB width n) = true := by rcases hc with h | h; rw [hw] at h; cases h; exact h
    have HC := hid hc'; have HW := hid hw; clear hc hc' hw
    go_enter Tryz.func106, Tryz.ntmps106
    go_wp2_with fail
    refine (isWidth_any _ _).mono ?_; rintro e w1 ⟨rfl, rfl⟩
    rw [HW.out]
    go_wp2_with fail
    refine (ContainsFunc_ints 118 #[.pointer (some ⟨w.heap.size, 0, none⟩)] (fun n => !fitsB width n) (enters_of Tryz.func118 (by kernel_rfl) rfl) A cap ns hlen _ (HR.out.below (below_alloc _ _)) (fun n => Num1_any width n HW.out w.heap.size _ (by simp))).mono ?_
    rintro e w1 ⟨rfl, rfl⟩
    rw [HC.out]
    go_wp2_with fail
    go_ret
    exact ⟨rfl, below_alloc _ _⟩

theorem fitsB_nonneg {width n : Int} (h : fitsB width n = true) : 0 ≤ n := by simp [fitsB] at h; exact h.1

set_option maxHeartbeats 4000000 in
set_option maxRecDepth 100000 in
theorem Out_Num_yes (p : Nat) (l : List UInt8) (F : List Nat) (width : Nat) (ns : List Int) (A : Option Addr) (cap : Nat) (w : World) (h : OutAt 142 w p l F) (hr : Row w A (i64s ns)) (hd : ∀ a, A = some a → a.block ∉ F)
    (hlen : ns.length ≤ 9223372036854775807) (hw : isW (width : Int) = true) (hf : (ns.any fun n => !fitsB width n) = false) (hroom : l.length + width * ns.length ≤ 140737488355328) :
    Calls Tryz.prog 106 #[.pointer (some ⟨p, 0, none⟩), .int .i64 width, .slice A ns.length cap] w fun e w' => e = .returned (.int .i64 0) ∧ ∃ F', OutAt 142 w' p (l ++ beAll width ns) F' ∧ Keeps F w w' ∧ ∀ k, k ∈ F' → k ∈ F ∨ w.heap.size ≤ k := by
  have hwid : width ≤ 8 := by rcases isW_cases hw with h | h | h | h <;> omega
  have HR := hid hr; clear hr
  have HC := hid hf; have HW := hid hw; have H := hid h; have HD := hid hd; have HL := hid hroom
  clear hf hw h hd hroom
  go_enter Tryz.func106, Tryz.ntmps106
  go_wp2_with fail
  refine (isWidth_any _ _).mono ?_; rintro e w1 ⟨rfl, rfl⟩
  rw [HW.out]
  go_wp2_with fail
  refine (ContainsFunc_ints 118 #[.pointer (some ⟨w.heap.size, 0, none⟩)] (fun n => !fitsB width n) (enters_of Tryz.func118 (by kernel_rfl) rfl) A cap ns hlen _ (HR.out.below (below_alloc _ _)) (fun n => Num1_any width n HW.out w.heap.size _ (by simp))).mono ?_
  rintro e w1 ⟨rfl, rfl⟩
  rw [HC.out]
  go_wp2_with fail
  have hb1 : Below w.heap.size w (w.alloc (.cells #[.int .i64 width] 3)) := below_alloc _ _
  have hz1 : (w.alloc (.cells #[.int .i64 width] 3)).heap.size = w.heap.size + 1 := by simp
  have hbox : (w.alloc (.cells #[.int .i64 width] 3)).cell? ⟨w.heap.size, 0, none⟩ = some (.int .i64 width) := by simp
  have HO := hid (H.out.below hb1)
  have HR1 := hid (HR.out.below hb1)
  have HK1 := hid (Keeps.of (F := F) hb1)
  have HB := hid hbox; have HZ := hid hz1
  have HS := hid H.out.sizes
  generalize hw2 : w.alloc (.cells #[.int .i64 width] 3) = w2 at *
  clear hw2 hb1 hz1 hbox
  go_loopg [24] ns.length (fun g j wx => ∃ (k : Nat) (F1 : List Nat), k + g = ns.length ∧ j = .int .i64 k ∧ Hid (OutAt 142 wx p (l ++ beAll width (ns.take k)) F1 ∧ Keeps F w2 wx ∧ ∀ x, x ∈ F1 → x ∈ F ∨ w2.heap.size ≤ x))
  case atStart => exact ⟨0, F, by omega, rfl, ⟨by simpa [beAll] using HO.out, Keeps.refl _ _, fun x h => .inl h⟩⟩
  case round =>
    obtain ⟨k, F1, hk, rfl, HI⟩ := hrel
    by_cases hlt : k < ns.length
    · obtain ⟨b, off, rfl, hb, hc⟩ := row_cell HR1.out (by intro e; have := congrArg List.length e; simp [i64s] at this; subst this; exact absurd hlt (by simp))
      have hcell := hc k (.int .i64 ns[k]) (by simp [i64s, hlt])
      rw [← HI.out.2.1.cell hb (HD.out _ rfl)] at hcell
      have hboxx := HB.out
      rw [← HI.out.2.1.cell (by rw [HZ.out]; omega) (fun h => by have := HS.out _ h; omega)] at hboxx
      obtain ⟨n, hn⟩ : ∃ n, n = ns[k] := ⟨_, rfl⟩
      rw [← hn] at hcell
      have hcell0 : fitsB width n = true := by
        have := HC.out
        rw [List.any_eq_false] at this
        have h2 := this n (by rw [hn]; exact List.getElem_mem _)
        simpa using h2
      have hn0 := fitsB_nonneg hcell0
      have HN := hid hn
      clear hn hb hc hcell0
      go_wp2_with fail
      have HI0 := HI; clear HI hboxx hcell
      go_loopg [9] (width + 1) (fun g j wx => ∃ (m : Nat) (done : List UInt8) (F2 : List Nat), m + 1 = g ∧ m ≤ width ∧ j = .int .i64 ((m : Int) - 1) ∧ Hid (done ++ beB m n.toNat = beB width n.toNat ∧ OutAt 142 wx p (l ++ beAll width (ns.take k) ++ done) F2 ∧ Keeps F w2 wx ∧ ∀ x, x ∈ F2 → x ∈ F ∨ w2.heap.size ≤ x))
      case atStart => exact ⟨width, [], F1, by omega, by omega, by go_num, ⟨by simp, by simpa using HI0.out.1, HI0.out.2.1, HI0.out.2.2⟩⟩
      case round =>
        obtain ⟨m, done, F2, hm, hmw, rfl, HJ⟩ := hrel
        cases m with
        | zero =>
          go_wp2_with fail
          go_roundg (ns.length - (k + 1))
          case measure => omega
          case rel =>
            refine ⟨k + 1, F2, by omega, by go_num, ?_, HJ.out.2.2.1, HJ.out.2.2.2⟩
            have h1 := HJ.out.1
            simp only [beB, List.append_nil] at h1
            have h2 := HJ.out.2.1
            rw [List.take_succ_eq_append_getElem hlt, beAll_snoc, ← HN.out, ← h1, ← List.append_assoc]
            exact h2
        | succ m =>
          rw [show ((m + 1 : Nat) : Int) - 1 = (m : Int) by omega]
          have hm8 : m < 8 := by omega
          obtain ⟨q, hq⟩ : ∃ q, q = 8 * m := ⟨_, rfl⟩
          have e8 : IntKind.i64.wrap (8 * (m : Int)) = (q : Int) := by rw [IntKind.wrap_i64]; omega
          have hq64 : (q : Int) < 64 := by omega
          obtain ⟨x, hx, hxe⟩ := shr_byte n m hn0
          rw [← hq] at hx
          have hroom : (l ++ beAll width (ns.take k) ++ done).length + 1 ≤ 140737488355328 := by
            have h1 := congrArg List.length HJ.out.1
            simp only [List.length_append, beB_length] at h1
            simp only [List.length_append, beAll_length, List.length_take]
            have h2 : min k ns.length = k := by omega
            have h3 : width * (k + 1) ≤ width * ns.length := Nat.mul_le_mul_left _ hlt
            rw [Nat.mul_succ] at h3
            have := HL.out
            rw [h2]
            omega
          have HX := hid hx; have HXE := hid hxe; have HRM := hid hroom
          clear hx hxe hroom hq
          go_wp2_with fail
          go_region_with (go_at_call 32; with_reducible refine (WriteByte_any 142 bt_Out p _ F2 _ x HX.out _ HJ.out.2.1.drew HRM.out).mono ?_; rintro e w3 ⟨rfl, F3, hO3, hK3, hF3⟩)
          have HO3 := hid hO3; have HK3 := hid hK3; have HF3 := hid hF3
          clear hO3 hK3 hF3
          go_wp2_with fail
          go_roundg (m + 1)
          case measure => omega
          case rel =>
            refine ⟨m, done ++ [x], F3, by omega, by omega, by go_num, ⟨?_, ?_, ?_, ?_⟩⟩
            · rw [← HJ.out.1, HXE.out]; simp [beB]
            · have := HO3.out; rwa [List.append_assoc] at this
            · exact (HJ.out.2.2.1.drew).go HK3.out HJ.out.2.2.2
            · intro y hy
              rcases HF3.out y hy with h | h
              · exact HJ.out.2.2.2 y h
              · exact .inr (Nat.le_trans HJ.out.2.2.1.size h)
    · go_wp2_with fail
      go_ret
      refine ⟨rfl, F1, ?_, HK1.out.trans HI.out.2.1, ?_⟩
      · have := HI.out.1
        rwa [List.take_of_length_le (by omega)] at this
      · intro x hx
        rcases HI.out.2.2 x hx with h | h
        · exact .inl h
        · right; have := HZ.out; omega

end Go.Proofs.YthhmdmfbaooldaaGreatDoor
