/-
  slab.IsBlank, awake: walked.
-/
import Derived.Test.YtjeoelhenlckaaaDoorSlabRead
namespace Go.Proofs.YtjeoelhenlckaaaDoor
open Go.RowKit

section
variable {P : Program} {ops : Array Oper} {rest : List Oper} {o : Oper} {a : Act} {w : World} {Q : Exit → Act → World → Prop}
/-- a guarded operation whose guard is met -/
theorem wpList_unguard (hw : Region.wanted o (yielded ops a.tmps) = true) (h : wpList P ops Q ({ o with guard := none } :: rest) a w) : wpList P ops Q (o :: rest) a w := by
  cases o
  simp only [wpList] at h ⊢
  rw [if_pos hw]
  rw [if_pos (by simp [Region.wanted])] at h
  exact h
end

theorem openV_lay {s : ByteArray} (h : s.size ≤ 250) : layV s = (⟨(frameB 256 s.data.toList).toArray⟩, 0) ∧ (layV s).1.size = 256 ∧ openV (layV s).1 = (s, 0) := by
  have hl : s.data.toList.length = s.size := by simp
  have h1 : layV s = (⟨(frameB 256 s.data.toList).toArray⟩, 0) := by unfold layV; rw [if_pos h]
  have h2 : (⟨(frameB 256 s.data.toList).toArray⟩ : ByteArray).size = 256 := by
    show (frameB 256 s.data.toList).toArray.size = 256
    rw [List.size_toArray, frameB_length (by omega)]
  rw [h1]
  refine ⟨rfl, h2, ?_⟩
  unfold openV textV
  rw [if_pos h2, textR_frame (by omega) (by omega)]
theorem readV_stamp {e q : Int} {s : ByteArray} (h : s.size ≤ 218) (h1 : 1 ≤ e) (h2 : e ≤ 2147483647) (h3 : 0 ≤ q) (h4 : q ≤ 2147483647) :
    stampV e q s = (⟨(stampB e.toNat q.toNat (frameB 224 s.data.toList)).toArray⟩, 0) ∧ (stampV e q s).1.size = 256 ∧ readV (stampV e q s).1 = (e, q, s, 0) := by
  have hl : s.data.toList.length = s.size := by simp
  have g1 : stampV e q s = (⟨(stampB e.toNat q.toNat (frameB 224 s.data.toList)).toArray⟩, 0) := by unfold stampV; rw [if_pos ⟨h, h1, h2, h3, h4⟩]
  have g2 : (⟨(stampB e.toNat q.toNat (frameB 224 s.data.toList)).toArray⟩ : ByteArray).size = 256 := by
    show (stampB e.toNat q.toNat (frameB 224 s.data.toList)).toArray.size = 256
    rw [List.size_toArray, stampB_length _ _ _ (frameB_length (by omega))]
  rw [g1]
  refine ⟨rfl, g2, ?_⟩
  unfold readV
  rw [if_pos g2]
  show (match readR (stampB e.toNat q.toNat (frameB 224 s.data.toList)) with | .ok (e, q, s) => ((e : Int), (q : Int), (⟨s.toArray⟩ : ByteArray), (0 : Int)) | .error k => (0, 0, ⟨#[]⟩, k)) = _
  rw [readR_stamp (by omega) (by omega) (by omega) (by omega)]
  simp only [Int.toNat_of_nonneg (show 0 ≤ e by omega), Int.toNat_of_nonneg h3]

/-- whether a block is blank -/
def isBlankV (b : ByteArray) : Bool := decide (b.size = 256) && b.data.toList.all (· == 0)
theorem drop_nil (p : UInt8 → Bool) : ∀ l : List UInt8, l.dropWhile p = [] ↔ ∀ x ∈ l, p x = true
  | [] => by simp
  | y :: l => by
    rw [List.dropWhile_cons]
    by_cases h : p y = true
    · rw [if_pos h, drop_nil p l]; simp [h]
    · rw [if_neg h]; simp [h]
theorem take_all_p (p : UInt8 → Bool) : ∀ (l : List UInt8) (x : UInt8), x ∈ l.takeWhile p → p x = true
  | [], x, h => by cases h
  | y :: l, x, h => by
    rw [List.takeWhile_cons] at h
    by_cases hy : p y = true
    · rw [if_pos hy] at h
      rcases List.mem_cons.1 h with rfl | h
      · exact hy
      · exact take_all_p p l x h
    · rw [if_neg hy] at h; cases h
theorem trim_nil (l : List UInt8) : decide (Lib.trimB l 0 = []) = l.all (· == 0) := by
  rw [Bool.eq_iff_iff, decide_eq_true_eq, List.all_eq_true]
  unfold Lib.trimB Lib.trimLeftB Lib.trimRightB
  constructor
  · intro h x hx
    have h1 := (drop_nil _ _).1 h
    by_cases hz : (x == 0) = true
    · exact hz
    · exfalso
      have h2 : x ∈ (l.reverse.dropWhile (· == 0)).reverse := by
        rw [List.mem_reverse]
        have := List.takeWhile_append_dropWhile (p := (· == (0 : UInt8))) (l := l.reverse)
        have hm : x ∈ l.reverse := List.mem_reverse.2 hx
        rw [← this] at hm
        rcases List.mem_append.1 hm with h3 | h3
        · have := take_all_p _ _ _ h3
          exact absurd this hz
        · exact h3
      exact hz (h1 x h2)
  · intro h
    have h1 : l.reverse.dropWhile (· == 0) = [] := (drop_nil _ _).2 (fun x hx => h x (List.mem_reverse.1 hx))
    rw [h1]; rfl

set_option maxHeartbeats 1000000 in
theorem slab_IsBlank (b : ByteArray) (hb : b.size ≤ 9223372036854775807) (w : World) :
    Calls Tryd.prog 15 #[.string b] w fun e w' => e = .returned (.bool (isBlankV b)) ∧ Below w.heap.size w w' := by
  by_cases h : b.size = 256
  · have hh : (((b.size : Int)) == 256) = true := by rw [h]; rfl
    have HT := hid (Tryd.strings_Trim_one b 0 (by decide) w hb)
    obtain ⟨t, ht⟩ : ∃ t : ByteArray, t = ⟨(Lib.trimB b.data.toList 0).toArray⟩ := ⟨_, rfl⟩
    obtain ⟨f, hf⟩ : ∃ f, f = b.data.toList.all (· == 0) := ⟨_, rfl⟩
    have hbeq : (t.toList == ([] : List UInt8)) = f := by
      rw [hf, ← trim_nil, ht, ByteArray.toList_eq, Bool.eq_iff_iff]; simp
    have hv : isBlankV b = f := by unfold isBlankV; rw [← hf, h]; simp
    rw [← ht] at HT
    have HV := hid hv
    clear ht hf hv
    go_enter Tryd.func15, Tryd.ntmps15
    go_wp2_with fail
    refine HT.out.mono ?_; rintro e w1 ⟨rfl, hw1⟩
    have HB : Hid (Below w.heap.size w w1) := by
      rcases hw1 with rfl | rfl
      · exact Below.refl _ _
      · exact Below.drew (Below.refl _ _)
    clear hw1 HT
    go_wp2_with fail
    go_ret
    exact ⟨by rw [HV.out]; rfl, HB.out⟩
  · have hh : (((b.size : Int)) == 256) = false := by rw [beq_eq_false_iff_ne]; omega
    have hv : isBlankV b = false := by unfold isBlankV; rw [decide_eq_false h]; rfl
    have HV := hid hv
    clear hv
    go_enter Tryd.func15, Tryd.ntmps15
    go_wp2_with fail
    go_ret
    exact ⟨by rw [HV.out]; rfl, Below.refl _ _⟩

def plainS : ByteArray := ⟨#[112, 108, 97, 105, 110]⟩
def stampedS : ByteArray := ⟨#[115, 116, 97, 109, 112, 101, 100]⟩
def zerosS (n : Nat) : ByteArray := ⟨(List.replicate n (0 : UInt8)).toArray⟩
theorem zerosS_size (n : Nat) : (zerosS n).size = n := by show (List.replicate n (0 : UInt8)).toArray.size = n; simp
theorem blank_zeros : isBlankV (zerosS 256) = true := by
  kernel_rfl
theorem blank_plain : isBlankV (layV plainS).1 = false := by
  rw [(openV_lay (s := plainS) (by decide)).1]
  unfold isBlankV
  rw [show (⟨(frameB 256 plainS.data.toList).toArray⟩ : ByteArray).data.toList = frameB 256 plainS.data.toList by simp]
  rw [show (frameB 256 plainS.data.toList).all (· == 0) = false from ?_, Bool.and_false]
  unfold frameB
  rw [List.all_append, show (restB 256 plainS.data.toList).all (· == 0) = false by kernel_rfl, Bool.and_false]
theorem lay_251 : layV (zerosS 251) = (⟨#[]⟩, 1) := by unfold layV; rw [zerosS_size, if_neg (by decide)]
theorem stamp_01 : stampV 0 1 ⟨#[]⟩ = (⟨#[]⟩, 1) := by unfold stampV; rw [if_neg (by decide)]
theorem blank_empty : isBlankV ⟨#[]⟩ = false := by kernel_rfl

set_option maxHeartbeats 4000000 in
set_option maxRecDepth 100000 in
theorem awake04_any (w : World) :
    Calls Tryd.prog 7 #[] w fun e w' => e = .returned (.bool true) ∧ Below w.heap.size w w' := by
  obtain ⟨i0, hi0, hz0, hz1, hz2⟩ := info_parts info_byte
  obtain ⟨a1, a2, a3⟩ := openV_lay (s := plainS) (by decide)
  obtain ⟨b1, b2, b3⟩ := readV_stamp (e := 7) (q := 8) (s := stampedS) (by decide) (by decide) (by decide) (by decide) (by decide)
  obtain ⟨a, ha⟩ : ∃ a, a = (layV plainS).1 := ⟨_, rfl⟩
  obtain ⟨b, hb⟩ : ∃ b, b = (stampV 7 8 stampedS).1 := ⟨_, rfl⟩
  have hbl := blank_plain
  rw [← ha] at a2 a3 hbl
  rw [← hb] at b2 b3
  have ha2 : layV plainS = (a, 0) := by rw [ha, a1]
  have hb2 : stampV 7 8 stampedS = (b, 0) := by rw [hb, b1]
  have C1 := hid (fun w' => slab_Lay plainS w')
  have C2 := hid (fun w' => slab_Open a w')
  have C3 := hid (fun w' => slab_Stamp 7 8 stampedS w')
  have C4 := hid (fun w' => slab_Read b w')
  have C5 := hid (fun w' => slab_Lay (zerosS 251) w')
  have C6 := hid (fun w' => slab_Stamp 0 1 ⟨#[]⟩ w')
  have C7 := hid (fun w' => slab_IsBlank (zerosS 256) (by rw [zerosS_size]; decide) w')
  have C8 := hid (fun w' => slab_IsBlank a (by omega) w')
  have C9 := hid (fun w' => slab_IsBlank ⟨#[]⟩ (by decide) w')
  rw [ha2] at C1
  rw [a3] at C2
  rw [hb2] at C3
  rw [b3] at C4
  rw [lay_251] at C5
  rw [stamp_01] at C6
  rw [blank_zeros] at C7
  rw [hbl] at C8
  rw [blank_empty] at C9
  have HI0 := hid hi0; have HZ0 := hid hz0; have HZ1 := hid hz1; have HZ2 := hid hz2
  clear a1 a3 b1 b3 ha hb hbl ha2 hb2 hi0 hz0 hz1 hz2
  go_enter Tryd.func7, Tryd.ntmps7
  go_wp2_with fail
  refine (C1.out w).mono ?_; rintro e w1 ⟨rfl, hb1⟩
  have H1 := hid hb1; clear hb1 C1
  go_wp2_with fail
  refine (C2.out w1).mono ?_; rintro e w2 ⟨rfl, hb1⟩
  have H2 := hid (bt H1.out hb1); clear hb1 C2 H1
  go_wp2_with fail
  refine (C3.out w2).mono ?_; rintro e w3 ⟨rfl, hb1⟩
  have H3 := hid (bt H2.out hb1); clear hb1 C3 H2
  go_wp2_with fail
  refine (C4.out w3).mono ?_; rintro e w4 ⟨rfl, hb1⟩
  have H4 := hid (bt H3.out hb1); clear hb1 C4 H3
  go_wp2_with (with_reducible refine at_op (.makeSlice 40 (.const (.int .i64 251)) (.const (.int .i64 251))) rfl ?_; refine Stopped.go ?_)
  refine Stopped.mk (wpList_make_k rfl _ _ _ rfl 5 i0 (.int .u8 0) Tryd.underlying40 HI0.out HZ0.out HZ1.out rfl .i64 .i64 251 251 251 rfl rfl rfl rfl (by rw [HZ2.out]; decide) (by decide) ?_)
  intro w5 hB hb5 hs5
  obtain ⟨g, hg⟩ : ∃ g, g = w4.heap.size := ⟨_, rfl⟩
  rw [← hg] at hB ⊢
  have HBY : Hid (∀ j (hj : j < (List.replicate 251 (0 : UInt8)).length), w5.cell? ((⟨g, 0, none⟩ : Addr).add j) = some (.int .u8 ((List.replicate 251 (0 : UInt8))[j].toNat : Int))) := fun j hj => Blk.bytes' (l := List.replicate 251 0) (by simpa [u8s] using hB) j hj
  have H5 := hid (bt H4.out hb5); clear hB hb5 hs5 hg H4
  go_wp2_with (with_reducible refine at_op (.convert 40 9 (.tmp 36)) rfl ?_; refine Stopped.go ?_)
  refine Stopped.mk (wpList_string rfl _ _ 5 _ rfl ⟨g, 0, none⟩ 251 251 (List.replicate 251 0) rfl (by rw [List.length_replicate]) Tryd.underlying40 Tryd.underlying5 Tryd.underlying9 HBY.out ?_)
  clear HBY
  rw [show (⟨(List.replicate 251 (0 : UInt8)).toArray⟩ : ByteArray) = zerosS 251 from rfl]
  go_wp2_with fail
  refine (C5.out w5).mono ?_; rintro e w6 ⟨rfl, hb1⟩
  have H6 := hid (bt H5.out hb1); clear hb1 C5 H5
  go_wp2_with fail
  refine (C6.out w6).mono ?_; rintro e w7 ⟨rfl, hb1⟩
  have H7 := hid (bt H6.out hb1); clear hb1 C6 H6
  have pp : (plainS.toList == [112, 108, 97, 105, 110]) = true := by kernel_rfl
  have ss : (stampedS.toList == [115, 116, 97, 109, 112, 101, 100]) = true := by kernel_rfl
  have sa : ((a.size : Int) == 256) = true := by rw [a2]; rfl
  have sb : ((b.size : Int) == 256) = true := by rw [b2]; rfl
  go_wp2_with (with_reducible refine at_op (.makeSlice 40 (.const (.int .i64 256)) (.const (.int .i64 256))) rfl ?_; refine Stopped.go ?_)
  refine Stopped.mk (wpList_unguard rfl (wpList_make_k rfl _ _ _ rfl 5 i0 (.int .u8 0) Tryd.underlying40 HI0.out HZ0.out HZ1.out rfl .i64 .i64 256 256 256 rfl rfl rfl rfl (by rw [HZ2.out]; decide) (by decide) ?_))
  intro w8 hB hb5 hs5
  obtain ⟨g, hg⟩ : ∃ g, g = w7.heap.size := ⟨_, rfl⟩
  rw [← hg] at hB ⊢
  have HBY : Hid (∀ j (hj : j < (List.replicate 256 (0 : UInt8)).length), w8.cell? ((⟨g, 0, none⟩ : Addr).add j) = some (.int .u8 ((List.replicate 256 (0 : UInt8))[j].toNat : Int))) := fun j hj => Blk.bytes' (l := List.replicate 256 0) (by simpa [u8s] using hB) j hj
  have H8 := hid (bt H7.out hb5); clear hB hb5 hs5 hg H7
  go_wp2_with (with_reducible refine at_op (.convert 40 9 (.tmp 94)) rfl ?_; refine Stopped.go ?_)
  refine Stopped.mk (wpList_unguard rfl (wpList_string rfl _ _ 5 _ rfl ⟨g, 0, none⟩ 256 256 (List.replicate 256 0) rfl (by rw [List.length_replicate]) Tryd.underlying40 Tryd.underlying5 Tryd.underlying9 HBY.out ?_))
  clear HBY
  rw [show (⟨(List.replicate 256 (0 : UInt8)).toArray⟩ : ByteArray) = zerosS 256 from rfl]
  go_wp2_with fail
  refine (C7.out w8).mono ?_; rintro e w9 ⟨rfl, hb1⟩
  have H9 := hid (bt H8.out hb1); clear hb1 C7 H8
  go_wp2_with fail
  refine (C8.out w9).mono ?_; rintro e w10 ⟨rfl, hb1⟩
  have H10 := hid (bt H9.out hb1); clear hb1 C8 H9
  go_wp2_with fail
  refine (C9.out w10).mono ?_; rintro e w11 ⟨rfl, hb1⟩
  have H11 := hid (bt H10.out hb1); clear hb1 C9 H10
  go_wp2_with fail
  go_ret
  exact ⟨rfl, H11.out⟩
end Go.Proofs.YtjeoelhenlckaaaDoor
