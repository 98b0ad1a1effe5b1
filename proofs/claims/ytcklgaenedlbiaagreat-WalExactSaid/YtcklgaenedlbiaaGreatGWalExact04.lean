/-
  The writer of layer 1, walked: Text, Raw, Bytes, Len; of a nil one too.
  A writer of layer 1 that the call made: what each deed does to it, whatever the deed.
-/
import Derived.Test.YtcklgaenedlbiaaGreatGWalExact03

namespace Go.Proofs.YtcklgaenedlbiaaGreat
open Go.RowKit

/-- texts with their lengths -/
def textB (s : ByteArray) : List UInt8 := UInt8.ofNat s.size :: s.data.toList
def textAll (ss : List ByteArray) : List UInt8 := (ss.map textB).flatten
theorem textB_length (s : ByteArray) : (textB s).length = s.size + 1 := by simp [textB]
theorem textAll_snoc (ss : List ByteArray) (s : ByteArray) : textAll (ss ++ [s]) = textAll ss ++ textB s := by simp [textAll]
theorem textAll_take (ss : List ByteArray) (k : Nat) (h : k < ss.length) : textAll (ss.take (k + 1)) = textAll (ss.take k) ++ textB ss[k] := by
  rw [List.take_succ_eq_append_getElem h, textAll_snoc]
theorem textAll_le (ss : List ByteArray) (k : Nat) : (textAll (ss.take k)).length ≤ (textAll ss).length := by
  have h : textAll ss = textAll (ss.take k) ++ textAll (ss.drop k) := by
    unfold textAll
    rw [← List.flatten_append, ← List.map_append, List.take_append_drop]
  rw [h, List.length_append]; omega

set_option maxHeartbeats 2000000 in
set_option maxRecDepth 100000 in
theorem Out_Text_no (p : Nat) (ss : List ByteArray) (A : Option Addr) (cap : Nat) (w : World) (hr : Row w A (strs ss)) (hlen : ss.length ≤ 9223372036854775807) (hc : (ss.any fun s => decide (255 < s.size)) = true) :
    Calls Tryz.prog 108 #[.pointer (some ⟨p, 0, none⟩), .slice A ss.length cap] w fun e w' => e = .returned (.int .i64 1) ∧ w = w' := by
  have HR := hid hr; have HC := hid hc; clear hr hc
  go_enter Tryz.func108, Tryz.ntmps108
  go_wp2_with fail
  refine (ContainsFunc_strs 114 #[] (fun s => decide (255 < s.size)) (enters_of Tryz.func114 (by kernel_rfl) rfl) A cap ss hlen _ HR.out (fun s => Text1_any s _)).mono ?_
  rintro e w1 ⟨rfl, rfl⟩
  rw [HC.out]
  go_wp2_with fail
  go_ret
  exact ⟨rfl, rfl⟩

set_option maxHeartbeats 4000000 in
set_option maxRecDepth 100000 in
theorem Out_Text_gen (p : Nat) (l : List UInt8) (F : List Nat) (ss : List ByteArray) (A : Option Addr) (cap : Nat) (w : World) (h : OutAt 113 w p l F) (hr : Row w A (strs ss)) (hd : 0 < ss.length → ∀ a, A = some a → a.block ∉ F)
    (hlen : ss.length ≤ 9223372036854775807) (hf : (ss.any fun s => decide (255 < s.size)) = false) (hroom : l.length + (textAll ss).length ≤ 140737488355328) :
    Calls Tryz.prog 108 #[.pointer (some ⟨p, 0, none⟩), .slice A ss.length cap] w fun e w' => e = .returned (.int .i64 0) ∧ ∃ F', OutAt 113 w' p (l ++ textAll ss) F' ∧ Keeps F w w' ∧ ∀ k, k ∈ F' → k ∈ F ∨ w.heap.size ≤ k := by
  have HR := hid hr; have HC := hid hf; have H := hid h; have HD := hid hd; have HL := hid hroom
  clear hr hf h hd hroom
  go_enter Tryz.func108, Tryz.ntmps108
  go_wp2_with fail
  refine (ContainsFunc_strs 114 #[] (fun s => decide (255 < s.size)) (enters_of Tryz.func114 (by kernel_rfl) rfl) A cap ss hlen _ HR.out (fun s => Text1_any s _)).mono ?_
  rintro e w1 ⟨rfl, rfl⟩
  rw [HC.out]
  go_wp2_with fail
  go_loopg [15] ss.length (fun g j wx => ∃ (k : Nat) (F1 : List Nat), k + g = ss.length ∧ j = .int .i64 k ∧ Hid (OutAt 113 wx p (l ++ textAll (ss.take k)) F1 ∧ Keeps F w wx ∧ ∀ x, x ∈ F1 → x ∈ F ∨ w.heap.size ≤ x))
  case atStart => exact ⟨0, F, by omega, rfl, ⟨by simpa [textAll] using H.out, Keeps.refl _ _, fun x h => .inl h⟩⟩
  case round =>
    obtain ⟨k, F1, hk, rfl, HI⟩ := hrel
    by_cases hlt : k < ss.length
    · obtain ⟨b, off, rfl, hb, hc⟩ := row_cell HR.out (by intro e; have := congrArg List.length e; simp [strs] at this; subst this; exact absurd hlt (by simp))
      have hcell := hc k (.string ss[k]) (by simp [strs, hlt])
      rw [← HI.out.2.1.cell hb (HD.out (by omega) _ rfl)] at hcell
      obtain ⟨s, hs⟩ : ∃ s, s = ss[k] := ⟨_, rfl⟩
      rw [← hs] at hcell
      have hsz : s.size ≤ 255 := by
        have := HC.out
        rw [List.any_eq_false] at this
        have h2 := this s (by rw [hs]; exact List.getElem_mem _)
        simpa using h2
      have hszi : (s.size : Int) ≤ 255 := by omega
      have hcu : (s.size : Int) = ((UInt8.ofNat s.size).toNat : Int) := by
        have h2 : (UInt8.ofNat s.size).toNat = s.size % 256 := by simp
        rw [h2]
        omega
      have hle : (l ++ textAll (ss.take k)).length + (s.size + 1) ≤ 140737488355328 := by
        have h1 := textAll_le ss (k + 1)
        rw [textAll_take ss k hlt, List.length_append, textB_length, ← hs] at h1
        have := HL.out
        rw [List.length_append]; omega
      have HN := hid hs; have HCU := hid hcu; have HLE := hid hle
      clear hs hb hc hcu hle hsz
      go_wp2_with fail
      refine (WriteByte_any 113 bt_Out p _ F1 _ (UInt8.ofNat s.size) HCU.out _ HI.out.1 (by have := HLE.out; omega)).mono ?_
      rintro e w3 ⟨rfl, F3, hO3, hK3, hF3⟩
      have HO3 := hid hO3; have HK3 := hid hK3; have HF3 := hid hF3
      clear hO3 hK3 hF3
      go_wp2_with fail
      refine (WriteString_any 113 bt_Out p _ F3 s _ HO3.out (by have := HLE.out; simp only [List.length_append, List.length_cons, List.length_nil] at this ⊢; omega)).mono ?_
      rintro e w4 ⟨rfl, F4, hO4, hK4, hF4⟩
      have HO4 := hid hO4; have HK4 := hid hK4; have HF4 := hid hF4
      clear hO4 hK4 hF4
      go_wp2_with fail
      go_roundg (ss.length - (k + 1))
      case measure => omega
      case rel =>
        have hk3 := HI.out.2.1.go HK3.out HI.out.2.2
        have hf3 : ∀ y, y ∈ F3 → y ∈ F ∨ w.heap.size ≤ y := fun y hy => by
          rcases HF3.out y hy with h | h
          · exact HI.out.2.2 y h
          · exact .inr (Nat.le_trans HI.out.2.1.size h)
        refine ⟨k + 1, F4, by omega, by go_num, ⟨?_, hk3.go HK4.out hf3, ?_⟩⟩
        · have := HO4.out
          rw [textAll_take ss k hlt, ← HN.out]
          simpa [textB] using this
        · intro y hy
          rcases HF4.out y hy with h | h
          · exact hf3 y h
          · exact .inr (Nat.le_trans hk3.size h)
    · go_wp2_with fail
      go_ret
      refine ⟨rfl, F1, ?_, HI.out.2.1, HI.out.2.2⟩
      have := HI.out.1
      rwa [List.take_of_length_le (by omega)] at this

theorem Out_Text_yes (p : Nat) (l : List UInt8) (F : List Nat) (ss : List ByteArray) (A : Option Addr) (cap : Nat) (w : World) (h : OutAt 113 w p l F) (hr : Row w A (strs ss)) (hd : ∀ a, A = some a → a.block ∉ F)
    (hlen : ss.length ≤ 9223372036854775807) (hf : (ss.any fun s => decide (255 < s.size)) = false) (hroom : l.length + (textAll ss).length ≤ 140737488355328) :
    Calls Tryz.prog 108 #[.pointer (some ⟨p, 0, none⟩), .slice A ss.length cap] w fun e w' => e = .returned (.int .i64 0) ∧ ∃ F', OutAt 113 w' p (l ++ textAll ss) F' ∧ Keeps F w w' ∧ ∀ k, k ∈ F' → k ∈ F ∨ w.heap.size ≤ k :=
  Out_Text_gen p l F ss A cap w h hr (fun _ => hd) hlen hf hroom

set_option maxHeartbeats 1000000 in
theorem Out_Raw_any (p : Nat) (l : List UInt8) (F : List Nat) (s : ByteArray) (w : World) (h : OutAt 113 w p l F) (hroom : l.length + s.size ≤ 140737488355328) :
    Calls Tryz.prog 62 #[.pointer (some ⟨p, 0, none⟩), .string s] w fun e w' => e = .returned (.tuple #[]) ∧ ∃ F', OutAt 113 w' p (l ++ s.data.toList) F' ∧ Keeps F w w' ∧ ∀ k, k ∈ F' → k ∈ F ∨ w.heap.size ≤ k := by
  have H := hid h; clear h
  go_enter Tryz.func62, Tryz.ntmps62
  go_wp2_with fail
  refine (WriteString_any 113 bt_Out p l F s _ H.out hroom).mono ?_; rintro e w1 ⟨rfl, F1, h1, h2, h3⟩
  have h4 := hid h1; have h5 := hid h2; have h6 := hid h3
  clear h1 h2 h3
  go_wp2_with fail
  go_end0
  exact ⟨rfl, F1, h4.out, h5.out, h6.out⟩

set_option maxHeartbeats 1000000 in
theorem Out_Bytes_any (p : Nat) (l : List UInt8) (F : List Nat) (w : World) (h : OutAt 113 w p l F) :
    Calls Tryz.prog 63 #[.pointer (some ⟨p, 0, none⟩)] w fun e w' => e = .returned (.string ⟨l.toArray⟩) ∧ OutAt 113 w' p l F ∧ Keeps F w w' := by
  have H := hid h; clear h
  go_enter Tryz.func63, Tryz.ntmps63
  go_wp2_with fail
  refine (String_any 113 p l F _ H.out).mono ?_; rintro e w1 ⟨rfl, h1, h2⟩
  have h4 := hid h1; have h5 := hid h2
  clear h1 h2
  go_wp2_with fail
  go_ret
  exact ⟨rfl, h4.out, h5.out⟩

/-! a nil one -/
set_option maxHeartbeats 1000000 in
theorem Out_Num_nil (width : Int) (v : Value) (w : World) :
    Calls Tryz.prog 61 #[.pointer none, .int .i64 width, v] w fun e w' => e = .returned (.int .i64 2) ∧ Below w.heap.size w w' := by
  go_enter Tryz.func61, Tryz.ntmps61
  go_wp2_with fail
  go_ret
  exact ⟨rfl, below_alloc _ _⟩
set_option maxHeartbeats 1000000 in
theorem Out_Text_nil (v : Value) (w : World) :
    Calls Tryz.prog 108 #[.pointer none, v] w fun e w' => e = .returned (.int .i64 2) ∧ w = w' := by
  go_enter Tryz.func108, Tryz.ntmps108
  go_wp2_with fail
  go_ret
  exact ⟨rfl, rfl⟩
set_option maxHeartbeats 1000000 in
theorem Out_Raw_nil (v : Value) (w : World) :
    Calls Tryz.prog 62 #[.pointer none, v] w fun e w' => e = .returned (.tuple #[]) ∧ w = w' := by
  go_enter Tryz.func62, Tryz.ntmps62
  go_wp2_with fail
  go_end0
  exact ⟨rfl, rfl⟩
set_option maxHeartbeats 1000000 in
theorem Out_Bytes_nil (w : World) :
    Calls Tryz.prog 63 #[.pointer none] w fun e w' => e = .returned (.string emptyB) ∧ w = w' := by
  go_enter Tryz.func63, Tryz.ntmps63
  go_wp2_with fail
  go_ret
  exact ⟨rfl, rfl⟩
end Go.Proofs.YtcklgaenedlbiaaGreat

namespace Go.Proofs.YtcklgaenedlbiaaGreat
open Go.RowKit

/-- a writer that the call made, with the bytes l; what was there at the beginning is as it was -/
def Pen (w0 w : World) (p : Nat) (l : List UInt8) : Prop := ∃ F, OutAt 113 w p l F ∧ Below w0.heap.size w0 w ∧ ∀ x, x ∈ F → w0.heap.size ≤ x
theorem Pen.new {w0 w : World} (hb : Below w0.heap.size w0 w) : Pen w0 (w.alloc (.cells #[.pointer none, .slice none 0 0] 113)) w.heap.size [] :=
  ⟨[w.heap.size], OutAt.new _ w, bt hb (below_alloc _ _), fun x hx => by simp at hx; rw [hx]; exact hb.size⟩
theorem Pen.bel {w0 w : World} {p : Nat} {l : List UInt8} (h : Pen w0 w p l) : Below w0.heap.size w0 w := h.choose_spec.2.1
theorem Pen.below {w0 w w' : World} {p : Nat} {l : List UInt8} (h : Pen w0 w p l) (hb : Below w.heap.size w w') : Pen w0 w' p l := by
  obtain ⟨F, h1, h2, h3⟩ := h
  exact ⟨F, h1.below hb, bt h2 hb, h3⟩
/-- another block is written, that is none of its own -/
theorem Pen.keeps {w0 w w' : World} {p q : Nat} {l : List UInt8} (h : Pen w0 w p l) (hk : Keeps [q] w w') (hq : w0.heap.size ≤ q) (hn : ∀ F, OutAt 113 w p l F → (∀ x, x ∈ F → w0.heap.size ≤ x) → q ∉ F) : Pen w0 w' p l := by
  obtain ⟨F, h1, h2, h3⟩ := h
  exact ⟨F, h1.keeps hk (fun k hkF hk2 => hn F h1 h3 (by simp at hk2; rw [← hk2]; exact hkF)), Keeps.below1 h2 hk hq, h3⟩
theorem Pen.next {w0 w w' : World} {p : Nat} {l : List UInt8} {F F' : List Nat} (hb : Below w0.heap.size w0 w) (hF : ∀ x, x ∈ F → w0.heap.size ≤ x) (h : OutAt 113 w' p l F') (hk : Keeps F w w') (hF' : ∀ k, k ∈ F' → k ∈ F ∨ w.heap.size ≤ k) : Pen w0 w' p l :=
  ⟨F', h, Keeps.below hb hk hF, fun x hx => by rcases hF' x hx with h | h; exact hF x h; exact Nat.le_trans hb.size h⟩

/-- whether numbers can be written -/
def numOk (width : Int) (ns : List Int) : Bool := isW width && ns.all (fitsB width)
theorem numOk_not {width : Int} {ns : List Int} (h : numOk width ns = false) : isW width = false ∨ (ns.any fun n => !fitsB width n) = true := by
  unfold numOk at h
  cases hw : isW width with
  | false => exact .inl rfl
  | true =>
    rw [hw, Bool.true_and] at h
    right
    rw [← Bool.not_eq_false', ← h, List.not_any_eq_all_not] <;> simp
theorem numOk_yes {width : Int} {ns : List Int} (h : numOk width ns = true) : isW width = true ∧ (ns.any fun n => !fitsB width n) = false := by
  unfold numOk at h
  rw [Bool.and_eq_true] at h
  refine ⟨h.1, ?_⟩
  rw [List.any_eq_false]
  intro x hx
  have := List.all_eq_true.1 h.2 x hx
  simp [this]

theorem pen_Num_row {w0 w : World} {p : Nat} {l : List UInt8} (h : Pen w0 w p l) (width : Int) (ns : List Int) (A : Option Addr) (cap : Nat) (hr : Row w A (i64s ns)) (hlen : ns.length ≤ 9223372036854775807)
    (hd : ∀ F, OutAt 113 w p l F → (∀ x, x ∈ F → w0.heap.size ≤ x) → ∀ a, A = some a → a.block ∉ F) (hroom : l.length + 8 * ns.length ≤ 140737488355328) :
    Calls Tryz.prog 61 #[.pointer (some ⟨p, 0, none⟩), .int .i64 width, .slice A ns.length cap] w fun e w' => e = .returned (.int .i64 (if numOk width ns then 0 else 1)) ∧ Pen w0 w' p (if numOk width ns then l ++ beAll width.toNat ns else l) := by
  cases ho : numOk width ns with
  | false =>
    refine (Out_Num_no p width ns A cap w hr hlen (numOk_not ho)).mono ?_
    rintro e w' ⟨rfl, hb⟩
    exact ⟨rfl, h.below hb⟩
  | true =>
    obtain ⟨hw, hf⟩ := numOk_yes ho
    obtain ⟨F, h1, h2, h3⟩ := h
    obtain ⟨W, rfl, hW⟩ : ∃ W : Nat, width = (W : Int) ∧ W ≤ 8 := by
      rcases isW_cases hw with rfl | rfl | rfl | rfl
      · exact ⟨1, rfl, by decide⟩
      · exact ⟨2, rfl, by decide⟩
      · exact ⟨4, rfl, by decide⟩
      · exact ⟨8, rfl, by decide⟩
    refine (Out_Num_yes p l F W ns A cap w h1 hr (hd F h1 h3) hlen hw hf (by have := Nat.mul_le_mul_right ns.length hW; omega)).mono ?_
    rintro e w' ⟨rfl, F', g1, g2, g3⟩
    exact ⟨rfl, Pen.next h2 h3 g1 g2 g3⟩

/-- numbers that stand in the call itself -/
theorem pen_Num {w0 w : World} {p : Nat} {l : List UInt8} (h : Pen w0 w p l) (width : Int) (ns : List Int) (vs : Array Value) (e : TypeId) (hvs : vs.toList = i64s ns) (cap : Nat) (hlen : ns.length ≤ 9223372036854775807) (hroom : l.length + 8 * ns.length ≤ 140737488355328) :
    Calls Tryz.prog 61 #[.pointer (some ⟨p, 0, none⟩), .int .i64 width, .slice (some ⟨w.heap.size, 0, none⟩) ns.length cap] (w.alloc (.cells vs e)) fun e w' => e = .returned (.int .i64 (if numOk width ns then 0 else 1)) ∧ Pen w0 w' p (if numOk width ns then l ++ beAll width.toNat ns else l) := by
  obtain ⟨F0, g1, g2, g3⟩ := h
  have hr := row_new w vs e
  rw [hvs] at hr
  -- the row's block is none of the writer's
  cases ho : numOk width ns with
  | false =>
    refine (Out_Num_no p width ns _ cap _ hr hlen (numOk_not ho)).mono ?_
    rintro e w' ⟨rfl, hb⟩
    exact ⟨rfl, Pen.below (Pen.below ⟨F0, g1, g2, g3⟩ (below_alloc _ _)) hb⟩
  | true =>
    obtain ⟨hw, hf⟩ := numOk_yes ho
    obtain ⟨W, rfl, hW⟩ : ∃ W : Nat, width = (W : Int) ∧ W ≤ 8 := by
      rcases isW_cases hw with rfl | rfl | rfl | rfl
      · exact ⟨1, rfl, by decide⟩
      · exact ⟨2, rfl, by decide⟩
      · exact ⟨4, rfl, by decide⟩
      · exact ⟨8, rfl, by decide⟩
    refine (Out_Num_yes p l F0 W ns _ cap _ (g1.below (below_alloc _ _)) hr ?_ hlen hw hf (by have := Nat.mul_le_mul_right ns.length hW; omega)).mono ?_
    · intro a ha hF
      injection ha with ha
      subst ha
      exact absurd (g1.sizes _ hF) (Nat.lt_irrefl _)
    · rintro e w' ⟨rfl, F', k1, k2, k3⟩
      exact ⟨rfl, Pen.next (bt g2 (below_alloc _ _)) g3 k1 k2 k3⟩

def textOk (ss : List ByteArray) : Bool := ss.all fun s => decide (s.size ≤ 255)
theorem textOk_eq (ss : List ByteArray) : (ss.any fun s => decide (255 < s.size)) = !textOk ss := by
  unfold textOk
  induction ss with
  | nil => rfl
  | cons s ss ih =>
    rw [List.any_cons, List.all_cons, ih, Bool.not_and]
    congr 1
    by_cases h : s.size ≤ 255
    · rw [decide_eq_true h, decide_eq_false (by omega)]; rfl
    · rw [decide_eq_false h, decide_eq_true (by omega)]; rfl

theorem pen_Text_row {w0 w : World} {p : Nat} {l : List UInt8} {F : List Nat} (h1 : OutAt 113 w p l F) (h2 : Below w0.heap.size w0 w) (h3 : ∀ x, x ∈ F → w0.heap.size ≤ x) (ss : List ByteArray) (A : Option Addr) (cap : Nat) (hr : Row w A (strs ss)) (hlen : ss.length ≤ 9223372036854775807)
    (hd : ∀ a, A = some a → a.block ∉ F) (hroom : l.length + (textAll ss).length ≤ 140737488355328) :
    Calls Tryz.prog 108 #[.pointer (some ⟨p, 0, none⟩), .slice A ss.length cap] w fun e w' => e = .returned (.int .i64 (if textOk ss then 0 else 1)) ∧ Pen w0 w' p (if textOk ss then l ++ textAll ss else l) := by
  have hq := textOk_eq ss
  cases ho : textOk ss with
  | false =>
    rw [ho] at hq
    refine (Out_Text_no p ss A cap w hr hlen hq).mono ?_
    rintro e w' ⟨rfl, rfl⟩
    exact ⟨rfl, F, h1, h2, h3⟩
  | true =>
    rw [ho] at hq
    refine (Out_Text_yes p l F ss A cap w h1 hr hd hlen hq hroom).mono ?_
    rintro e w' ⟨rfl, F', k1, k2, k3⟩
    exact ⟨rfl, Pen.next h2 h3 k1 k2 k3⟩
/-- texts that stand in the call itself -/
theorem pen_Text {w0 w : World} {p : Nat} {l : List UInt8} (h : Pen w0 w p l) (ss : List ByteArray) (vs : Array Value) (e : TypeId) (hvs : vs.toList = strs ss) (cap : Nat) (hlen : ss.length ≤ 9223372036854775807) (hroom : l.length + (textAll ss).length ≤ 140737488355328) :
    Calls Tryz.prog 108 #[.pointer (some ⟨p, 0, none⟩), .slice (some ⟨w.heap.size, 0, none⟩) ss.length cap] (w.alloc (.cells vs e)) fun e w' => e = .returned (.int .i64 (if textOk ss then 0 else 1)) ∧ Pen w0 w' p (if textOk ss then l ++ textAll ss else l) := by
  obtain ⟨F0, g1, g2, g3⟩ := h
  have hr := row_new w vs e
  rw [hvs] at hr
  refine pen_Text_row (g1.below (below_alloc _ _)) (bt g2 (below_alloc _ _)) g3 ss _ cap hr hlen ?_ hroom
  intro a ha hF
  injection ha with ha
  subst ha
  exact absurd (g1.sizes _ hF) (Nat.lt_irrefl _)
/-- texts that came in -/
theorem pen_Text_old {w0 w : World} {p : Nat} {l : List UInt8} (h : Pen w0 w p l) (ss : List ByteArray) (A : Option Addr) (cap : Nat) (hr : Row w A (strs ss)) (hA : ∀ a, A = some a → a.block < w0.heap.size) (hlen : ss.length ≤ 9223372036854775807) (hroom : l.length + (textAll ss).length ≤ 140737488355328) :
    Calls Tryz.prog 108 #[.pointer (some ⟨p, 0, none⟩), .slice A ss.length cap] w fun e w' => e = .returned (.int .i64 (if textOk ss then 0 else 1)) ∧ Pen w0 w' p (if textOk ss then l ++ textAll ss else l) := by
  obtain ⟨F0, g1, g2, g3⟩ := h
  refine pen_Text_row g1 g2 g3 ss _ cap hr hlen ?_ hroom
  intro a ha hF
  have := hA a ha; have := g3 _ hF; omega

theorem pen_Raw {w0 w : World} {p : Nat} {l : List UInt8} (h : Pen w0 w p l) (s : ByteArray) (hroom : l.length + s.size ≤ 140737488355328) :
    Calls Tryz.prog 62 #[.pointer (some ⟨p, 0, none⟩), .string s] w fun e w' => e = .returned (.tuple #[]) ∧ Pen w0 w' p (l ++ s.data.toList) := by
  obtain ⟨F, h1, h2, h3⟩ := h
  refine (Out_Raw_any p l F s w h1 hroom).mono ?_
  rintro e w' ⟨rfl, F', k1, k2, k3⟩
  exact ⟨rfl, Pen.next h2 h3 k1 k2 k3⟩
theorem pen_Bytes {w0 w : World} {p : Nat} {l : List UInt8} (h : Pen w0 w p l) :
    Calls Tryz.prog 63 #[.pointer (some ⟨p, 0, none⟩)] w fun e w' => e = .returned (.string ⟨l.toArray⟩) ∧ Pen w0 w' p l := by
  obtain ⟨F, h1, h2, h3⟩ := h
  refine (Out_Bytes_any p l F w h1).mono ?_
  rintro e w' ⟨rfl, k1, k2⟩
  exact ⟨rfl, F, k1, Keeps.below h2 k2 h3, h3⟩
end Go.Proofs.YtcklgaenedlbiaaGreat
