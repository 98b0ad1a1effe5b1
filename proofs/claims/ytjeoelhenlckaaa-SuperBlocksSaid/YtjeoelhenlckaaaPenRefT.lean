/-
  The document's writer of layer 1: Text.
-/
import Derived.Test.YtjeoelhenlckaaaPenText
namespace Go.Proofs.Ytjeoelhenlckaaa
open Go.RowKit

theorem ba_ext1 {a b : ByteArray} (h : a.toList = b.toList) : a = b := by
  rw [ByteArray.toList_eq, ByteArray.toList_eq] at h
  cases a; cases b
  simp only [Array.toList_inj] at h
  rw [h]
def textS (s : ByteArray) : ByteArray := ⟨(textB s).toArray⟩
set_option maxHeartbeats 1000000 in
theorem ref01_Text_no (s : ByteArray) (h : 255 < s.size) (w : World) :
    Calls Try.prog 80 #[.string s] w fun e w' => e = .returned (.tuple #[.string ⟨#[]⟩, .bool false]) ∧ w = w' := by
  have h' : (255 : Int) < s.size := by omega
  clear h
  go_enter Try.func80, Try.ntmps80
  go_wp2_with fail
  go_ret2
  exact ⟨rfl, rfl⟩
set_option maxHeartbeats 2000000 in
set_option maxRecDepth 100000 in
theorem ref01_Text_yes (s : ByteArray) (h : s.size ≤ 255) (w : World) :
    Calls Try.prog 80 #[.string s] w fun e w' => e = .returned (.tuple #[.string (textS s), .bool true]) ∧ Below w.heap.size w w' := by
  have h' : (s.size : Int) ≤ 255 := by omega
  have hu : IntKind.u8.wrap (s.size : Int) = ((UInt8.ofNat s.size).toNat : Int) := by
    have h2 : (UInt8.ofNat s.size).toNat = s.size % 256 := by simp
    rw [h2, IntKind.wrap_u8]; omega
  have hm : (s.size : Int) = ((UInt8.ofNat s.size).toNat : Int) := by
    have h2 : (UInt8.ofNat s.size).toNat = s.size % 256 := by simp
    rw [h2]; omega
  clear h
  have hA := below_alloc w (.cells #[.int .u8 (s.size : Int)] 5)
  have hN : Blk (w.alloc (.cells #[.int .u8 (s.size : Int)] 5)) w.heap.size 5 (u8s [UInt8.ofNat s.size]) := by
    have h := Blk.new w #[.int .u8 (s.size : Int)] 5
    rw [show u8s [UInt8.ofNat s.size] = [.int .u8 (s.size : Int)] by unfold u8s; rw [List.map_cons, List.map_nil, ← hm]]
    exact h
  have HA := hid hA; have HN := hid hN; clear hA hN hu hm
  go_enter Try.func80, Try.ntmps80
  go_wp2_with (with_reducible refine at_op (.convert 64 9 (.tmp 10)) rfl ?_; refine Stopped.go ?_)
  refine Stopped.mk (wpList_string rfl _ _ 5 _ rfl ⟨w.heap.size, 0, none⟩ 1 1 [UInt8.ofNat s.size] rfl rfl Try.underlying64 Try.underlying5 Try.underlying9 (fun j hj => HN.out.bytes' j hj) ?_)
  have hx : (⟨[UInt8.ofNat s.size].toArray⟩ : ByteArray) ++ s = textS s := by
    apply ba_ext1
    rw [ByteArray.toList_eq, ByteArray.toList_eq]
    simp [textS, textB]
  obtain ⟨q, hq⟩ : ∃ q : ByteArray, q = ⟨[UInt8.ofNat s.size].toArray⟩ := ⟨_, rfl⟩
  rw [← hq] at hx ⊢
  have hqs : ¬ 9223372036854775807 < q.size + s.size := by
    have h1 : q.size = 1 := by rw [hq]; rfl
    omega
  clear hq
  have HX := hid hx; clear hx
  go_wp2_with fail
  go_ret2
  exact ⟨by rw [← HX.out]; rfl, HA.out⟩
end Go.Proofs.Ytjeoelhenlckaaa
