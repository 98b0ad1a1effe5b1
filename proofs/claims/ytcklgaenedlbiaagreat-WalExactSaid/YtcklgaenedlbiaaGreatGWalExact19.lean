/-
  A log of layer 23: a new one.
  Plain law of the sum: the table's two steps are the eight steps bit by bit; what is turned is told.
-/
import Derived.Test.YtcklgaenedlbiaaGreatGWalExact18

namespace Go.Proofs.YtcklgaenedlbiaaGreat
open Go.RowKit Go.Sort

theorem plan64 : (planOf 64).vals = #[.int .i64 64, .int .i64 8, .int .i64 10, .int .i64 54, .int .i64 26, .int .i64 19, .int .i64 4084] := by
  simp [planOf, Pl.vals]
theorem wal_New_nil (w : World) (e f : Int) : Calls Tryz.prog 7 #[.pointer none, .int .i64 e, .int .i64 f] w fun e w' => e = .returned (.tuple #[.pointer none, .int .i64 2]) ∧ w = w' := by
  go_enter Tryz.func7, Tryz.ntmps7
  go_wp2_with fail
  go_ret2
  exact ⟨rfl, rfl⟩

set_option maxHeartbeats 2000000 in
set_option maxRecDepth 100000 in
theorem wal_New_small {w0 w : World} {p n : Nat} {d : Dv} {F : List Nat} (h : Dev w0 w p n d F) (hn : n < 64) (e f : Int) :
    Calls Tryz.prog 7 #[.pointer (some ⟨p, 0, none⟩), .int .i64 e, .int .i64 f] w fun e w' => e = .returned (.tuple #[.pointer none, .int .i64 1]) ∧ Below w.heap.size w w' := by
  have H := hid h
  have KC := hid (capa_Of_no n (by omega))
  clear h
  unfold zero7 at KC
  go_enter Tryz.func7, Tryz.ntmps7
  go_wp2_with fail
  refine (dev_Len w p d F H.out.at_ n H.out.ok).mono ?_; rintro e w1 ⟨rfl, rfl⟩
  go_wp2_with fail
  refine (KC.out w).mono ?_; rintro e w1 ⟨rfl, hb⟩
  have HB := hid hb; clear hb
  go_wp2_with fail
  go_ret2
  exact ⟨rfl, bt HB.out (below_alloc _ _)⟩

set_option maxHeartbeats 4000000 in
set_option maxRecDepth 100000 in
theorem wal_New_arg {w0 w : World} {p : Nat} {d : Dv} {F : List Nat} (h : Dev w0 w p 64 d F) (e f : Int) (hno : e < 1 ∨ 2147483647 < e ∨ f < 0 ∨ 8 ≤ f) :
    Calls Tryz.prog 7 #[.pointer (some ⟨p, 0, none⟩), .int .i64 e, .int .i64 f] w fun e w' => e = .returned (.tuple #[.pointer none, .int .i64 1]) ∧ Below w.heap.size w w' := by
  have H := hid h
  have KC := hid (capa_Of_yes 64 (by decide) (by decide))
  clear h
  rw [plan64] at KC
  by_cases h1 : e < 1
  · go_enter Tryz.func7, Tryz.ntmps7
    go_wp2_with fail
    refine (dev_Len w p d F H.out.at_ 64 H.out.ok).mono ?_; rintro e w1 ⟨rfl, rfl⟩
    go_wp2_with fail
    refine (KC.out w).mono ?_; rintro e w1 ⟨rfl, hb⟩
    have HB := hid hb; clear hb
    go_wp2_with fail
    go_ret2
    exact ⟨rfl, bt HB.out (below_alloc _ _)⟩
  have h1' : decide (e < 1) = false := decide_eq_false h1
  by_cases h2 : 2147483647 < e
  · go_enter Tryz.func7, Tryz.ntmps7
    go_wp2_with fail
    refine (dev_Len w p d F H.out.at_ 64 H.out.ok).mono ?_; rintro e w1 ⟨rfl, rfl⟩
    go_wp2_with fail
    refine (KC.out w).mono ?_; rintro e w1 ⟨rfl, hb⟩
    have HB := hid hb; clear hb
    go_wp2_with fail
    go_ret2
    exact ⟨rfl, bt HB.out (below_alloc _ _)⟩
  have h2' : decide (2147483647 < e) = false := decide_eq_false h2
  by_cases h3 : f < 0
  · go_enter Tryz.func7, Tryz.ntmps7
    go_wp2_with fail
    refine (dev_Len w p d F H.out.at_ 64 H.out.ok).mono ?_; rintro e w1 ⟨rfl, rfl⟩
    go_wp2_with fail
    refine (KC.out w).mono ?_; rintro e w1 ⟨rfl, hb⟩
    have HB := hid hb; clear hb
    go_wp2_with fail
    go_ret2
    exact ⟨rfl, bt HB.out (below_alloc _ _)⟩
  have h3' : decide (f < 0) = false := decide_eq_false h3
  have h4 : 8 ≤ f := by omega
  go_enter Tryz.func7, Tryz.ntmps7
  go_wp2_with fail
  refine (dev_Len w p d F H.out.at_ 64 H.out.ok).mono ?_; rintro e w1 ⟨rfl, rfl⟩
  go_wp2_with fail
  refine (KC.out w).mono ?_; rintro e w1 ⟨rfl, hb⟩
  have HB := hid hb; clear hb
  go_wp2_with fail
  go_ret2
  exact ⟨rfl, bt HB.out (below_alloc _ _)⟩

def Wl.new (e : Int) (f : Nat) : Wl := ⟨8, e, f, 0, []⟩
set_option maxHeartbeats 4000000 in
set_option maxRecDepth 100000 in
theorem wal_New_yes {w0 w : World} {p : Nat} {d : Dv} {F : List Nat} (h : Dev w0 w p 64 d F) (e : Int) (f : Nat) (h1 : 1 ≤ e) (h2 : e ≤ 2147483647) (hf : f < 8) :
    Calls Tryz.prog 7 #[.pointer (some ⟨p, 0, none⟩), .int .i64 e, .int .i64 f] w fun e' w' => ∃ r G, e' = .returned (.tuple #[.pointer (some ⟨r, 0, none⟩), .int .i64 0]) ∧ WlAt w0 w' r p (Wl.new e f) G ∧ Below w.heap.size w w' ∧ ∀ k, k ∈ G → w.heap.size ≤ k := by
  have H := hid h
  have KC := hid (capa_Of_yes 64 (by decide) (by decide))
  clear h
  rw [plan64] at KC
  have h1' : decide (e < 1) = false := decide_eq_false (by omega)
  have h2' : decide (2147483647 < e) = false := decide_eq_false (by omega)
  have h3' : decide ((f : Int) < 0) = false := decide_eq_false (by omega)
  have h4' : decide ((8 : Int) ≤ (f : Int)) = false := decide_eq_false (by omega)
  have h5 : ¬ (8 : Int) ≤ (f : Int) := by omega
  go_enter Tryz.func7, Tryz.ntmps7
  go_wp2_with fail
  refine (dev_Len w p d F H.out.at_ 64 H.out.ok).mono ?_; rintro e w1 ⟨rfl, rfl⟩
  go_wp2_with fail
  refine (KC.out w).mono ?_; rintro e w1 ⟨rfl, hb⟩
  have HB := hid hb; clear hb
  go_wp2_with fail
  go_ret2
  have hsz : (w1.alloc (.cells #[.int .i64 64, .int .i64 8, .int .i64 10, .int .i64 54, .int .i64 26, .int .i64 19, .int .i64 4084] 65)).heap.size = w1.heap.size + 1 := by simp
  have hB := Blk.new (w1.alloc (.cells #[.int .i64 64, .int .i64 8, .int .i64 10, .int .i64 54, .int .i64 26, .int .i64 19, .int .i64 4084] 65)) #[.pointer (some ⟨p, 0, none⟩), .int .i64 8, .int .i64 e, .int .i64 f, .int .i64 0, .slice none 0 0] 69
  rw [hsz] at hB
  have h6 := H.out.bel.size
  have h7 := HB.out.size
  refine ⟨w1.heap.size + 1, [w1.heap.size + 1], rfl, ⟨fun k hk => ?_, by simp, .slice none 0 0, ⟨hB, World.ownsRowF_nil _ _ _ _⟩, fun k hk => by cases hk⟩, bt (bt HB.out (below_alloc _ _)) (below_alloc _ _), fun k hk => ?_⟩
  · simp at hk
    subst hk
    exact ⟨by omega, hB.lt⟩
  · simp at hk; omega
end Go.Proofs.YtcklgaenedlbiaaGreat

namespace Go.Proofs.YtcklgaenedlbiaaGreat.Crc

def P : Nat := 0x82F63B78
/-- one bit -/
def one (r : Nat) : Nat := if r % 2 = 1 then r / 2 ^^^ P else r / 2
def T : List Nat := [0x00000000, 0x105EC76F, 0x20BD8EDE, 0x30E349B1, 0x417B1DBC, 0x5125DAD3, 0x61C69362, 0x7198540D,
  0x82F63B78, 0x92A8FC17, 0xA24BB5A6, 0xB21572C9, 0xC38D26C4, 0xD3D3E1AB, 0xE330A81A, 0xF36E6F75]
def nib (r : Nat) : Nat := r / 16 ^^^ T.getD (r % 16) 0
def upd (r b : Nat) : Nat := nib (nib (r ^^^ b))
def upd8 (r b : Nat) : Nat := one (one (one (one (one (one (one (one (r ^^^ b))))))))

theorem mod2_xor (a b : Nat) : (a ^^^ b) % 2 = (a % 2 + b % 2) % 2 := by
  have := Nat.xor_mod_two_pow (a := a) (b := b) (n := 1)
  simp only [Nat.pow_one] at this
  rw [this]
  rcases Nat.mod_two_eq_zero_or_one a with h | h <;> rcases Nat.mod_two_eq_zero_or_one b with g | g <;> rw [h, g] <;> rfl

theorem div2_xor (a b : Nat) : (a ^^^ b) / 2 = a / 2 ^^^ b / 2 := by
  have := Nat.xor_div_two_pow (a := a) (b := b) (n := 1)
  simpa using this

theorem one_xor (a b : Nat) : one (a ^^^ b) = one a ^^^ one b := by
  unfold one
  rw [mod2_xor, div2_xor]
  rcases Nat.mod_two_eq_zero_or_one a with h | h <;> rcases Nat.mod_two_eq_zero_or_one b with g | g <;> rw [h, g] <;> simp
  · rw [Nat.xor_assoc]
  · rw [Nat.xor_assoc, Nat.xor_assoc, Nat.xor_comm (b / 2) P]
  · rw [Nat.xor_assoc, ← Nat.xor_assoc P, Nat.xor_comm P (b / 2), Nat.xor_assoc (b/2) P P, Nat.xor_self, Nat.xor_zero]

theorem one_even (h : Nat) : one (2 * h) = h := by
  unfold one; rw [if_neg (by omega)]; omega

theorem split16 (r : Nat) : r = (2 * (2 * (2 * (2 * (r / 16))))) ^^^ (r % 16) := by
  have h := Nat.two_pow_add_eq_or_of_lt (i := 4) (b := r % 16) (Nat.mod_lt _ (by decide)) (r / 16)
  have h2 : (2 ^ 4 * (r / 16)) ^^^ (r % 16) = 2 ^ 4 * (r / 16) + r % 16 := by
    have := Nat.xor_mod_two_pow (a := 2 ^ 4 * (r / 16)) (b := r % 16) (n := 4)
    have d := Nat.xor_div_two_pow (a := 2 ^ 4 * (r / 16)) (b := r % 16) (n := 4)
    have e1 : 2 ^ 4 * (r / 16) % 2 ^ 4 = 0 := Nat.mul_mod_right _ _
    have e2 : r % 16 % 2 ^ 4 = r % 16 := by omega
    have e3 : 2 ^ 4 * (r / 16) / 2 ^ 4 = r / 16 := Nat.mul_div_cancel_left _ (by decide)
    have e4 : r % 16 / 2 ^ 4 = 0 := by omega
    rw [e1, e2, Nat.zero_xor] at this
    rw [e3, e4, Nat.xor_zero] at d
    omega
  have e : 2 * (2 * (2 * (2 * (r / 16)))) = 2 ^ 4 * (r / 16) := by omega
  rw [e, h2]; omega

theorem four_nib (r : Nat) : one (one (one (one r))) = nib r := by
  have key : ∀ l, l < 16 → one (one (one (one l))) = T.getD l 0 := by decide
  conv => lhs; rw [split16 r]
  rw [one_xor, one_even, one_xor, one_even, one_xor, one_even, one_xor, one_even, key _ (Nat.mod_lt _ (by decide))]
  rfl

theorem upd8_eq (r b : Nat) : upd8 r b = upd r b := by
  unfold upd8 upd; rw [four_nib, four_nib]

theorem P_lt : P < 2 ^ 32 := by decide
theorem one_lt {r : Nat} (h : r < 2 ^ 32) : one r < 2 ^ 32 := by
  unfold one; split
  · exact Nat.xor_lt_two_pow (by omega) P_lt
  · omega
theorem nib_lt {r : Nat} (h : r < 2 ^ 32) : nib r < 2 ^ 32 := by
  rw [← four_nib]; exact one_lt (one_lt (one_lt (one_lt h)))
theorem upd_lt {r b : Nat} (h : r < 2 ^ 32) (hb : b < 2 ^ 32) : upd r b < 2 ^ 32 := nib_lt (nib_lt (Nat.xor_lt_two_pow h hb))

/-- a sum's register over bytes -/
def fold (r : Nat) (l : List UInt8) : Nat := l.foldl (fun r b => upd r b.toNat) r
def ones : Nat := 4294967295
def more (s : Nat) (l : List UInt8) : Nat := fold (s ^^^ ones) l ^^^ ones
def sum (l : List UInt8) : Nat := more 0 l

theorem fold_append (r : Nat) (a b : List UInt8) : fold r (a ++ b) = fold (fold r a) b := by simp [fold]
theorem fold_snoc (r : Nat) (a : List UInt8) (b : UInt8) : fold r (a ++ [b]) = upd (fold r a) b.toNat := by simp [fold]
theorem u8lt (b : UInt8) : b.toNat < 2 ^ 32 := Nat.lt_trans b.toNat_lt (by decide)
theorem fold_lt {r : Nat} (h : r < 2 ^ 32) (l : List UInt8) : fold r l < 2 ^ 32 := by
  induction l generalizing r with
  | nil => exact h
  | cons b l ih => exact ih (upd_lt h (u8lt b))
theorem ones_lt : ones < 2 ^ 32 := by decide
theorem more_lt {s : Nat} (h : s < 2 ^ 32) (l : List UInt8) : more s l < 2 ^ 32 := Nat.xor_lt_two_pow (fold_lt (Nat.xor_lt_two_pow h ones_lt) l) ones_lt
theorem xx (a b : Nat) : a ^^^ b ^^^ b = a := by rw [Nat.xor_assoc, Nat.xor_self, Nat.xor_zero]
theorem more_append (s : Nat) (a b : List UInt8) : more s (a ++ b) = more (more s a) b := by
  unfold more; rw [xx, fold_append]
theorem more_nil (s : Nat) : more s [] = s := by unfold more fold; exact xx _ _

/-! what is turned is told -/
theorem one_inj {a b : Nat} (ha : a < 2 ^ 32) (hb : b < 2 ^ 32) (h : one a = one b) : a = b := by
  have hz : ∀ x, x < 2 ^ 32 → one x = 0 → x = 0 := by
    intro x hx h0
    unfold one at h0
    split at h0
    · have hp : x / 2 = P := by
        have := congrArg (· ^^^ P) h0
        simp only [xx, Nat.zero_xor] at this
        exact this
      have : P < 2 ^ 31 := by omega
      exact absurd this (by decide)
    · omega
  have hx : one (a ^^^ b) = 0 := by rw [one_xor, h, Nat.xor_self]
  have h0 := hz _ (Nat.xor_lt_two_pow ha hb) hx
  have := congrArg (· ^^^ b) h0
  simpa [xx] using this
theorem nib_inj {a b : Nat} (ha : a < 2 ^ 32) (hb : b < 2 ^ 32) (h : nib a = nib b) : a = b := by
  rw [← four_nib, ← four_nib] at h
  exact one_inj ha hb (one_inj (one_lt ha) (one_lt hb) (one_inj (one_lt (one_lt ha)) (one_lt (one_lt hb)) (one_inj (one_lt (one_lt (one_lt ha))) (one_lt (one_lt (one_lt hb))) h)))
theorem nib_xor (a b : Nat) : nib (a ^^^ b) = nib a ^^^ nib b := by
  simp only [← four_nib, one_xor]
theorem upd_inj {a b c : Nat} (ha : a < 2 ^ 32) (hb : b < 2 ^ 32) (hc : c < 2 ^ 32) (h : upd a c = upd b c) : a = b := by
  have := nib_inj (Nat.xor_lt_two_pow ha hc) (Nat.xor_lt_two_pow hb hc) (nib_inj (nib_lt (Nat.xor_lt_two_pow ha hc)) (nib_lt (Nat.xor_lt_two_pow hb hc)) h)
  have := congrArg (· ^^^ c) this
  simpa [xx] using this
theorem fold_inj (l : List UInt8) : ∀ {a b : Nat}, a < 2 ^ 32 → b < 2 ^ 32 → fold a l = fold b l → a = b := by
  induction l with
  | nil => intro a b _ _ h; exact h
  | cons c l ih => intro a b ha hb h; exact upd_inj ha hb (u8lt c) (ih (upd_lt ha (u8lt c)) (upd_lt hb (u8lt c)) h)

/-- eight steps without a byte -/
def z (r : Nat) : Nat := nib (nib r)
theorem z_xor (a b : Nat) : z (a ^^^ b) = z a ^^^ z b := by simp [z, nib_xor]
theorem z_lt {a : Nat} (h : a < 2 ^ 32) : z a < 2 ^ 32 := nib_lt (nib_lt h)
theorem z_inj {a b : Nat} (ha : a < 2 ^ 32) (hb : b < 2 ^ 32) (h : z a = z b) : a = b := nib_inj ha hb (nib_inj (nib_lt ha) (nib_lt hb) h)
theorem z_shift (h : Nat) : z (256 * h) = h := by
  have e : nib (16 * (16 * h)) = 16 * h := by rw [← four_nib]; rw [show 16 * (16 * h) = 2 * (2 * (2 * (2 * (16 * h)))) by omega]; simp [one_even]
  have e2 : nib (16 * h) = h := by rw [← four_nib]; rw [show 16 * h = 2 * (2 * (2 * (2 * h))) by omega]; simp [one_even]
  unfold z; rw [show 256 * h = 16 * (16 * h) by omega, e, e2]

/-- four bytes, as one number -/
theorem fold4 (r : Nat) (a b c d : UInt8) :
    fold r [a, b, c, d] = z (z (z (z (r ^^^ a.toNat ^^^ 256 * b.toNat ^^^ 256 * (256 * c.toNat) ^^^ 256 * (256 * (256 * d.toNat)))))) := by
  simp only [z_xor, z_shift]
  simp only [fold, List.foldl_cons, List.foldl_nil, upd]
  simp only [← z_xor]
  simp only [z, nib_xor]

/-- two rows alike but for four bytes, these not all alike: other registers -/
theorem turned {r : Nat} (hr : r < 2 ^ 32) (p q : List UInt8) (a b c d a' b' c' d' : UInt8)
    (h : fold r (p ++ [a, b, c, d] ++ q) = fold r (p ++ [a', b', c', d'] ++ q)) : a = a' ∧ b = b' ∧ c = c' ∧ d = d' := by
  simp only [fold_append] at h
  have hp := fold_lt hr p
  have h := fold_inj q (fold_lt hp _) (fold_lt hp _) h
  rw [fold4, fold4] at h
  have bd : ∀ x : UInt8, x.toNat < 256 := fun x => x.toNat_lt
  have e4 : (4294967296 : Nat) = 2 ^ 32 := rfl
  have big : ∀ a b c d : UInt8, fold r p ^^^ a.toNat ^^^ 256 * b.toNat ^^^ 256 * (256 * c.toNat) ^^^ 256 * (256 * (256 * d.toNat)) < 2 ^ 32 := by
    intro a b c d
    have := bd a; have := bd b; have := bd c; have := bd d
    exact Nat.xor_lt_two_pow (Nat.xor_lt_two_pow (Nat.xor_lt_two_pow (Nat.xor_lt_two_pow hp (by omega)) (by omega)) (by omega)) (by omega)
  have h := z_inj (big ..) (big ..) (z_inj (z_lt (big ..)) (z_lt (big ..)) (z_inj (z_lt (z_lt (big ..))) (z_lt (z_lt (big ..))) (z_inj (z_lt (z_lt (z_lt (big ..)))) (z_lt (z_lt (z_lt (big ..)))) h)))
  have cut : ∀ x y : Nat, x < 256 → x ^^^ 256 * y = x + 256 * y := by
    intro x y hx
    have m := Nat.xor_mod_two_pow (a := x) (b := 256 * y) (n := 8)
    have d := Nat.xor_div_two_pow (a := x) (b := 256 * y) (n := 8)
    rw [show 256 * y % 2 ^ 8 = 0 by omega, Nat.xor_zero, show x % 2 ^ 8 = x by omega] at m
    rw [show 256 * y / 2 ^ 8 = y by omega, show x / 2 ^ 8 = 0 by omega, Nat.zero_xor] at d
    omega
  have dist : ∀ x y : Nat, 256 * x ^^^ 256 * y = 256 * (x ^^^ y) := by
    intro x y
    have m := Nat.xor_mod_two_pow (a := 256 * x) (b := 256 * y) (n := 8)
    have d := Nat.xor_div_two_pow (a := 256 * x) (b := 256 * y) (n := 8)
    rw [show 256 * x % 2 ^ 8 = 0 by omega, show 256 * y % 2 ^ 8 = 0 by omega, Nat.xor_zero] at m
    rw [show 256 * x / 2 ^ 8 = x by omega, show 256 * y / 2 ^ 8 = y by omega] at d
    omega
  have all : ∀ a b c d : UInt8, a.toNat ^^^ 256 * b.toNat ^^^ 256 * (256 * c.toNat) ^^^ 256 * (256 * (256 * d.toNat)) = a.toNat + 256 * (b.toNat + 256 * (c.toNat + 256 * d.toNat)) := by
    intro a b c d
    rw [Nat.xor_assoc, Nat.xor_assoc, dist, dist, dist, cut _ _ (bd b), cut _ _ (bd c), cut _ _ (bd a)] <;> skip
  have h2 : a.toNat ^^^ 256 * b.toNat ^^^ 256 * (256 * c.toNat) ^^^ 256 * (256 * (256 * d.toNat)) = a'.toNat ^^^ 256 * b'.toNat ^^^ 256 * (256 * c'.toNat) ^^^ 256 * (256 * (256 * d'.toNat)) := by
    have := congrArg (fold r p ^^^ ·) h
    simp only [← Nat.xor_assoc, Nat.xor_self, Nat.zero_xor] at this
    exact this
  rw [all, all] at h2
  have := bd a; have := bd b; have := bd c; have := bd d; have := bd a'; have := bd b'; have := bd c'; have := bd d'
  refine ⟨UInt8.toNat_inj.1 (by omega), UInt8.toNat_inj.1 (by omega), UInt8.toNat_inj.1 (by omega), UInt8.toNat_inj.1 (by omega)⟩

end Go.Proofs.YtcklgaenedlbiaaGreat.Crc
namespace Go.Proofs.YtcklgaenedlbiaaGreat.Crc
theorem sum_eq {l m : List UInt8} (h : sum l = sum m) : fold ones l = fold ones m := by
  unfold sum more at h
  rw [Nat.zero_xor] at h
  have := congrArg (· ^^^ ones) h
  simpa [xx] using this

theorem cut4 (l : List UInt8) (i : Nat) (a b c d : UInt8) (h0 : l[i]? = some a) (h1 : l[i + 1]? = some b) (h2 : l[i + 2]? = some c) (h3 : l[i + 3]? = some d) :
    l = l.take i ++ [a, b, c, d] ++ l.drop (i + 4) := by
  obtain ⟨g0, rfl⟩ := List.getElem?_eq_some_iff.1 h0
  obtain ⟨g1, rfl⟩ := List.getElem?_eq_some_iff.1 h1
  obtain ⟨g2, rfl⟩ := List.getElem?_eq_some_iff.1 h2
  obtain ⟨g3, rfl⟩ := List.getElem?_eq_some_iff.1 h3
  conv => lhs; rw [← List.take_append_drop i l, List.drop_eq_getElem_cons g0, List.drop_eq_getElem_cons g1, List.drop_eq_getElem_cons g2, List.drop_eq_getElem_cons g3]
  simp

/-- four bytes set anew -/
def set4 (l : List UInt8) (i : Nat) (a b c d : UInt8) : List UInt8 := (((l.set i a).set (i + 1) b).set (i + 2) c).set (i + 3) d
theorem set4_cut (p q : List UInt8) (a b c d a' b' c' d' : UInt8) : set4 (p ++ [a, b, c, d] ++ q) p.length a' b' c' d' = p ++ [a', b', c', d'] ++ q := by
  unfold set4
  simp

theorem turned4 (l : List UInt8) (i : Nat) (a b c d a' b' c' d' : UInt8) (h0 : l[i]? = some a) (h1 : l[i + 1]? = some b) (h2 : l[i + 2]? = some c) (h3 : l[i + 3]? = some d)
    (h : sum (set4 l i a' b' c' d') = sum l) : a' = a ∧ b' = b ∧ c' = c ∧ d' = d := by
  have hi : i ≤ l.length := by have := (List.getElem?_eq_some_iff.1 h0).1; omega
  have hl := cut4 l i a b c d h0 h1 h2 h3
  have hlen : (l.take i).length = i := by simp; omega
  have hs := set4_cut (l.take i) (l.drop (i + 4)) a b c d a' b' c' d'
  rw [← hl, hlen] at hs
  rw [hs] at h
  have h := sum_eq h
  rw [show fold ones l = fold ones (l.take i ++ [a, b, c, d] ++ l.drop (i + 4)) from congrArg _ hl] at h
  exact turned ones_lt _ _ _ _ _ _ _ _ _ _ h

/-- the bytes of a number, turned in: a number that isn't 0 turns one at least -/
theorem turns (C : Nat) (hC : C < 4294967296) (x0 x1 x2 x3 : UInt8) (e0 : x0 ^^^ UInt8.ofNat (C % 256) = x0) (e1 : x1 ^^^ UInt8.ofNat (C / 256 % 256) = x1)
    (e2 : x2 ^^^ UInt8.ofNat (C / 65536 % 256) = x2) (e3 : x3 ^^^ UInt8.ofNat (C / 16777216) = x3) : C = 0 := by
  have z : ∀ (x : UInt8) (c : Nat), c < 256 → x ^^^ UInt8.ofNat c = x → c = 0 := by
    intro x c hc h
    have h2 : (x ^^^ UInt8.ofNat c).toNat = x.toNat := by rw [h]
    rw [UInt8.toNat_xor, UInt8.toNat_ofNat', Nat.mod_eq_of_lt hc] at h2
    have := congrArg (x.toNat ^^^ ·) h2
    simpa [← Nat.xor_assoc] using this
  have := z x0 _ (by omega) e0
  have := z x1 _ (by omega) e1
  have := z x2 _ (by omega) e2
  have := z x3 _ (by omega) e3
  omega
end Go.Proofs.YtcklgaenedlbiaaGreat.Crc
