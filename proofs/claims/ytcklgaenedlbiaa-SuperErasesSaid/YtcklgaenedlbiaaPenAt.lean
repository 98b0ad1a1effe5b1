/-
  A writer of layer 1 that the call made: what each deed does to it, whatever the deed.
-/
import Derived.Test.YtcklgaenedlbiaaPenText
namespace Go.Proofs.Ytcklgaenedlbiaa
open Go.RowKit

/-- a writer that the call made, with the bytes l; what was there at the beginning is as it was -/
def Pen (w0 w : World) (p : Nat) (l : List UInt8) : Prop := ∃ F, OutAt 131 w p l F ∧ Below w0.heap.size w0 w ∧ ∀ x, x ∈ F → w0.heap.size ≤ x
theorem Pen.new {w0 w : World} (hb : Below w0.heap.size w0 w) : Pen w0 (w.alloc (.cells #[.pointer none, .slice none 0 0] 131)) w.heap.size [] :=
  ⟨[w.heap.size], OutAt.new _ w, bt hb (below_alloc _ _), fun x hx => by simp at hx; rw [hx]; exact hb.size⟩
theorem Pen.bel {w0 w : World} {p : Nat} {l : List UInt8} (h : Pen w0 w p l) : Below w0.heap.size w0 w := h.choose_spec.2.1
theorem Pen.below {w0 w w' : World} {p : Nat} {l : List UInt8} (h : Pen w0 w p l) (hb : Below w.heap.size w w') : Pen w0 w' p l := by
  obtain ⟨F, h1, h2, h3⟩ := h
  exact ⟨F, h1.below hb, bt h2 hb, h3⟩
/-- another block is written, that is none of its own -/
theorem Pen.keeps {w0 w w' : World} {p q : Nat} {l : List UInt8} (h : Pen w0 w p l) (hk : Keeps [q] w w') (hq : w0.heap.size ≤ q) (hn : ∀ F, OutAt 131 w p l F → (∀ x, x ∈ F → w0.heap.size ≤ x) → q ∉ F) : Pen w0 w' p l := by
  obtain ⟨F, h1, h2, h3⟩ := h
  exact ⟨F, h1.keeps hk (fun k hkF hk2 => hn F h1 h3 (by simp at hk2; rw [← hk2]; exact hkF)), Keeps.below1 h2 hk hq, h3⟩
theorem Pen.next {w0 w w' : World} {p : Nat} {l : List UInt8} {F F' : List Nat} (hb : Below w0.heap.size w0 w) (hF : ∀ x, x ∈ F → w0.heap.size ≤ x) (h : OutAt 131 w' p l F') (hk : Keeps F w w') (hF' : ∀ k, k ∈ F' → k ∈ F ∨ w.heap.size ≤ k) : Pen w0 w' p l :=
  ⟨F', h, Keeps.below hb hk hF, fun x hx => by rcases hF' x hx with h | h; exact hF x h; exact Nat.le_trans hb.size h⟩

/-- whether numbers can be written -/
def numOk (width : Int) (ns : List Int) : Bool := isW width && ns.all (fitsB width)
theorem numOk_not {width : Int} {ns : List Int} (h : numOk width ns = false) : isW width = false ∨ (ns.any fun n => !fitsB width n) = true := by
  unfold numOk at h
  cases hw : isW width with
  | false => exact .inl rfl
  | true =>
    rw [hw, Bool.true_and] at h
    right
    rw [← Bool.not_eq_false', ← h, List.not_any_eq_all_not] <;> simp
theorem numOk_yes {width : Int} {ns : List Int} (h : numOk width ns = true) : isW width = true ∧ (ns.any fun n => !fitsB width n) = false := by
  unfold numOk at h
  rw [Bool.and_eq_true] at h
  refine ⟨h.1, ?_⟩
  rw [List.any_eq_false]
  intro x hx
  have := List.all_eq_true.1 h.2 x hx
  simp [this]

theorem pen_Num_row {w0 w : World} {p : Nat} {l : List UInt8} (h : Pen w0 w p l) (width : Int) (ns : List Int) (A : Option Addr) (cap : Nat) (hr : Row w A (i64s ns)) (hlen : ns.length ≤ 9223372036854775807)
    (hd : ∀ F, OutAt 131 w p l F → (∀ x, x ∈ F → w0.heap.size ≤ x) → ∀ a, A = some a → a.block ∉ F) (hroom : l.length + 8 * ns.length ≤ 140737488355328) :
    Calls Try.prog 83 #[.pointer (some ⟨p, 0, none⟩), .int .i64 width, .slice A ns.length cap] w fun e w' => e = .returned (.int .i64 (if numOk width ns then 0 else 1)) ∧ Pen w0 w' p (if numOk width ns then l ++ beAll width.toNat ns else l) := by
  cases ho : numOk width ns with
  | false =>
    refine (Out_Num_no p width ns A cap w hr hlen (numOk_not ho)).mono ?_
    rintro e w' ⟨rfl, hb⟩
    exact ⟨rfl, h.below hb⟩
  | true =>
    obtain ⟨hw, hf⟩ := numOk_yes ho
    obtain ⟨F, h1, h2, h3⟩ := h
    obtain ⟨W, rfl, hW⟩ : ∃ W : Nat, width = (W : Int) ∧ W ≤ 8 := by
      rcases isW_cases hw with rfl | rfl | rfl | rfl
      · exact ⟨1, rfl, by decide⟩
      · exact ⟨2, rfl, by decide⟩
      · exact ⟨4, rfl, by decide⟩
      · exact ⟨8, rfl, by decide⟩
    refine (Out_Num_yes p l F W ns A cap w h1 hr (hd F h1 h3) hlen hw hf (by have := Nat.mul_le_mul_right ns.length hW; omega)).mono ?_
    rintro e w' ⟨rfl, F', g1, g2, g3⟩
    exact ⟨rfl, Pen.next h2 h3 g1 g2 g3⟩

/-- numbers that stand in the call itself -/
theorem pen_Num {w0 w : World} {p : Nat} {l : List UInt8} (h : Pen w0 w p l) (width : Int) (ns : List Int) (vs : Array Value) (e : TypeId) (hvs : vs.toList = i64s ns) (cap : Nat) (hlen : ns.length ≤ 9223372036854775807) (hroom : l.length + 8 * ns.length ≤ 140737488355328) :
    Calls Try.prog 83 #[.pointer (some ⟨p, 0, none⟩), .int .i64 width, .slice (some ⟨w.heap.size, 0, none⟩) ns.length cap] (w.alloc (.cells vs e)) fun e w' => e = .returned (.int .i64 (if numOk width ns then 0 else 1)) ∧ Pen w0 w' p (if numOk width ns then l ++ beAll width.toNat ns else l) := by
  obtain ⟨F0, g1, g2, g3⟩ := h
  have hr := row_new w vs e
  rw [hvs] at hr
  -- the row's block is none of the writer's
  cases ho : numOk width ns with
  | false =>
    refine (Out_Num_no p width ns _ cap _ hr hlen (numOk_not ho)).mono ?_
    rintro e w' ⟨rfl, hb⟩
    exact ⟨rfl, Pen.below (Pen.below ⟨F0, g1, g2, g3⟩ (below_alloc _ _)) hb⟩
  | true =>
    obtain ⟨hw, hf⟩ := numOk_yes ho
    obtain ⟨W, rfl, hW⟩ : ∃ W : Nat, width = (W : Int) ∧ W ≤ 8 := by
      rcases isW_cases hw with rfl | rfl | rfl | rfl
      · exact ⟨1, rfl, by decide⟩
      · exact ⟨2, rfl, by decide⟩
      · exact ⟨4, rfl, by decide⟩
      · exact ⟨8, rfl, by decide⟩
    refine (Out_Num_yes p l F0 W ns _ cap _ (g1.below (below_alloc _ _)) hr ?_ hlen hw hf (by have := Nat.mul_le_mul_right ns.length hW; omega)).mono ?_
    · intro a ha hF
      injection ha with ha
      subst ha
      exact absurd (g1.sizes _ hF) (Nat.lt_irrefl _)
    · rintro e w' ⟨rfl, F', k1, k2, k3⟩
      exact ⟨rfl, Pen.next (bt g2 (below_alloc _ _)) g3 k1 k2 k3⟩

def textOk (ss : List ByteArray) : Bool := ss.all fun s => decide (s.size ≤ 255)
theorem textOk_eq (ss : List ByteArray) : (ss.any fun s => decide (255 < s.size)) = !textOk ss := by
  unfold textOk
  induction ss with
  | nil => rfl
  | cons s ss ih =>
    rw [List.any_cons, List.all_cons, ih, Bool.not_and]
    congr 1
    by_cases h : s.size ≤ 255
    · rw [decide_eq_true h, decide_eq_false (by omega)]; rfl
    · rw [decide_eq_false h, decide_eq_true (by omega)]; rfl

theorem pen_Text_row {w0 w : World} {p : Nat} {l : List UInt8} {F : List Nat} (h1 : OutAt 131 w p l F) (h2 : Below w0.heap.size w0 w) (h3 : ∀ x, x ∈ F → w0.heap.size ≤ x) (ss : List ByteArray) (A : Option Addr) (cap : Nat) (hr : Row w A (strs ss)) (hlen : ss.length ≤ 9223372036854775807)
    (hd : ∀ a, A = some a → a.block ∉ F) (hroom : l.length + (textAll ss).length ≤ 140737488355328) :
    Calls Try.prog 128 #[.pointer (some ⟨p, 0, none⟩), .slice A ss.length cap] w fun e w' => e = .returned (.int .i64 (if textOk ss then 0 else 1)) ∧ Pen w0 w' p (if textOk ss then l ++ textAll ss else l) := by
  have hq := textOk_eq ss
  cases ho : textOk ss with
  | false =>
    rw [ho] at hq
    refine (Out_Text_no p ss A cap w hr hlen hq).mono ?_
    rintro e w' ⟨rfl, rfl⟩
    exact ⟨rfl, F, h1, h2, h3⟩
  | true =>
    rw [ho] at hq
    refine (Out_Text_yes p l F ss A cap w h1 hr hd hlen hq hroom).mono ?_
    rintro e w' ⟨rfl, F', k1, k2, k3⟩
    exact ⟨rfl, Pen.next h2 h3 k1 k2 k3⟩
/-- texts that stand in the call itself -/
theorem pen_Text {w0 w : World} {p : Nat} {l : List UInt8} (h : Pen w0 w p l) (ss : List ByteArray) (vs : Array Value) (e : TypeId) (hvs : vs.toList = strs ss) (cap : Nat) (hlen : ss.length ≤ 9223372036854775807) (hroom : l.length + (textAll ss).length ≤ 140737488355328) :
    Calls Try.prog 128 #[.pointer (some ⟨p, 0, none⟩), .slice (some ⟨w.heap.size, 0, none⟩) ss.length cap] (w.alloc (.cells vs e)) fun e w' => e = .returned (.int .i64 (if textOk ss then 0 else 1)) ∧ Pen w0 w' p (if textOk ss then l ++ textAll ss else l) := by
  obtain ⟨F0, g1, g2, g3⟩ := h
  have hr := row_new w vs e
  rw [hvs] at hr
  refine pen_Text_row (g1.below (below_alloc _ _)) (bt g2 (below_alloc _ _)) g3 ss _ cap hr hlen ?_ hroom
  intro a ha hF
  injection ha with ha
  subst ha
  exact absurd (g1.sizes _ hF) (Nat.lt_irrefl _)
/-- texts that came in -/
theorem pen_Text_old {w0 w : World} {p : Nat} {l : List UInt8} (h : Pen w0 w p l) (ss : List ByteArray) (A : Option Addr) (cap : Nat) (hr : Row w A (strs ss)) (hA : ∀ a, A = some a → a.block < w0.heap.size) (hlen : ss.length ≤ 9223372036854775807) (hroom : l.length + (textAll ss).length ≤ 140737488355328) :
    Calls Try.prog 128 #[.pointer (some ⟨p, 0, none⟩), .slice A ss.length cap] w fun e w' => e = .returned (.int .i64 (if textOk ss then 0 else 1)) ∧ Pen w0 w' p (if textOk ss then l ++ textAll ss else l) := by
  obtain ⟨F0, g1, g2, g3⟩ := h
  refine pen_Text_row g1 g2 g3 ss _ cap hr hlen ?_ hroom
  intro a ha hF
  have := hA a ha; have := g3 _ hF; omega

theorem pen_Raw {w0 w : World} {p : Nat} {l : List UInt8} (h : Pen w0 w p l) (s : ByteArray) (hroom : l.length + s.size ≤ 140737488355328) :
    Calls Try.prog 82 #[.pointer (some ⟨p, 0, none⟩), .string s] w fun e w' => e = .returned (.tuple #[]) ∧ Pen w0 w' p (l ++ s.data.toList) := by
  obtain ⟨F, h1, h2, h3⟩ := h
  refine (Out_Raw_any p l F s w h1 hroom).mono ?_
  rintro e w' ⟨rfl, F', k1, k2, k3⟩
  exact ⟨rfl, Pen.next h2 h3 k1 k2 k3⟩
theorem pen_Bytes {w0 w : World} {p : Nat} {l : List UInt8} (h : Pen w0 w p l) :
    Calls Try.prog 84 #[.pointer (some ⟨p, 0, none⟩)] w fun e w' => e = .returned (.string ⟨l.toArray⟩) ∧ Pen w0 w' p l := by
  obtain ⟨F, h1, h2, h3⟩ := h
  refine (Out_Bytes_any p l F w h1).mono ?_
  rintro e w' ⟨rfl, k1, k2⟩
  exact ⟨rfl, F, k1, Keeps.below h2 k2 h3, h3⟩
end Go.Proofs.Ytcklgaenedlbiaa
