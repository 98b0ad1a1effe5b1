/-
  strings.Builder at the head of a block of whatever type that is laid out so: WriteByte, WriteString, String, walked.
-/
import Derived.Test.YthhmdmfbaooldaaGreatDoorProg
import Derived.Test.YthhmdmfbaooldaaGreatDoorAppend
import Derived.Lib.Builder
import Derived.Lib.UnsafeStr
import Derived.RegionTactic
namespace Go.Proofs.YthhmdmfbaooldaaGreatDoor
open Go.RowKit

/-- a block's type under whose head a builder lies -/
structure BT (T : TypeId) : Prop where
  lies : liesAt Tryz.prog Tryz.prog.depth T (2 / Tryz.prog.cellsOf T) 0 73 1 = true
  ne : T ≠ 5

theorem bt_Builder : BT 73 := ⟨by kernel_rfl, by decide⟩
theorem bt_Out : BT 142 := ⟨by kernel_rfl, by decide⟩

/-- a builder that holds the bytes l, of the blocks F alone -/
def OutAt (T : TypeId) (w : World) (b : Nat) (l : List UInt8) (F : List Nat) : Prop :=
  b ∈ F ∧ (∀ k, k ∈ F → k < w.heap.size) ∧ ∃ p v, (p = .pointer none ∨ p = .pointer (some ⟨b, 0, none⟩)) ∧ w.heap[b]? = some (.cells #[p, v] T (0, 0)) ∧ w.ownsRowF 0 5 1 v l.length (u8s l) ∧ v.ownBlock ≠ some b ∧ ∀ k, v.ownBlock = some k → k ∈ F

theorem OutAt.lt {T : TypeId} {w : World} {b : Nat} {l : List UInt8} {F : List Nat} (h : OutAt T w b l F) : b < w.heap.size := by
  obtain ⟨_, _, p, v, _, h, _⟩ := h
  exact (Array.getElem?_eq_some_iff.1 h).1
theorem OutAt.keeps {T : TypeId} {w w' : World} {b : Nat} {l : List UInt8} {F G : List Nat} (h : OutAt T w b l F) (hk : Keeps G w w') (hd : ∀ k, k ∈ F → k ∉ G) : OutAt T w' b l F := by
  have hl := h.lt
  obtain ⟨hb, hs, p, v, hp, hh, hown, hne, hF⟩ := h
  refine ⟨hb, fun k h => Nat.lt_of_lt_of_le (hs k h) hk.size, p, v, hp, ?_, ?_, hne, hF⟩
  · rw [hk.block b hl (hd b hb)]; exact hh
  · refine ⟨hown.1, ?_⟩
    rcases hown.2 with hn | ⟨g, cap, cur, fz, hv, hbg, hg, r⟩
    · exact .inl hn
    · refine .inr ⟨g, cap, cur, fz, hv, hbg, ?_, r⟩
      rw [hk.block g (Array.getElem?_eq_some_iff.1 hg).1 (hd g (hF g (by rw [hv]; rfl)))]
      exact hg
theorem OutAt.below {T : TypeId} {w w' : World} {b : Nat} {l : List UInt8} {F : List Nat} (h : OutAt T w b l F) (hk : Below w.heap.size w w') : OutAt T w' b l F :=
  h.keeps (G := []) (Keeps.of hk) (by simp)
theorem OutAt.sizes {T : TypeId} {w : World} {b : Nat} {l : List UInt8} {F : List Nat} (h : OutAt T w b l F) : ∀ k, k ∈ F → k < w.heap.size := h.2.1
/-- a new one -/
theorem OutAt.new (T : TypeId) (w : World) : OutAt T (w.alloc (.cells #[.pointer none, .slice none 0 0] T)) w.heap.size [] [w.heap.size] :=
  ⟨by simp, by simp, _, _, .inl rfl, heap_alloc_new w _, World.ownsRowF_nil _ _ _ _, by simp [Value.ownBlock], by simp [Value.ownBlock]⟩

theorem info_byte : (Tryz.prog.info? 5).map (fun i => (i.zero, i.size, i.bytes)) = some (some (.int .u8 0), 1, 1) := by kernel_rfl
theorem info_builder : (Tryz.prog.info? 73).map (·.size) = some 2 := by kernel_rfl
theorem cells_byte : Tryz.prog.cellsOf 5 = 1 := by kernel_rfl
theorem noEscape_run (a : Value) (w : World) : (callFunc 80 #[a]).run Tryz.prog w = .ok (.value a) w := by
  rw [run_callFunc_extern (e := Extern.AbiNoEscape.same) Tryz.func80 (by kernel_rfl) (by kernel_rfl) (by kernel_rfl) (by kernel_rfl), Lib.run_noEscape]
  rfl

set_option maxHeartbeats 1000000 in
set_option maxRecDepth 100000 in
theorem copyCheck_used (b : Nat) (w : World) (h0 : w.cell? ⟨b, 0, none⟩ = some (.pointer (some ⟨b, 0, none⟩))) :
    Calls Tryz.prog 52 #[.pointer (some ⟨b, 0, none⟩)] w fun e w' => e = .returned (.tuple #[]) ∧ w = w' := by
  obtain ⟨j, hj, _⟩ := Option.map_eq_some_iff.1 info_builder
  go_enter Tryz.func52, Tryz.ntmps52
  go_wp2_with fail
  rw [Lib.run_neq_ptr_same w _ Tryz.underlying71 hj]
  go_wp2_with fail
  go_end0
  exact ⟨rfl, rfl⟩

set_option maxHeartbeats 1000000 in
set_option maxRecDepth 100000 in
theorem copyCheck_fresh (T : TypeId) (hT : BT T) (b : Nat) (w : World) (h0 : w.cell? ⟨b, 0, none⟩ = some (.pointer none)) (hsh : w.shape? b = some (T, 2)) (hfz : w.frozen? ⟨b, 0, none⟩ = false) :
    Calls Tryz.prog 52 #[.pointer (some ⟨b, 0, none⟩)] w fun e w' => e = .returned (.tuple #[]) ∧ w' = w.setCell ⟨b, 0, none⟩ (.pointer (some ⟨b, 0, none⟩)) := by
  obtain ⟨j, hj, hjs⟩ := Option.map_eq_some_iff.1 info_builder
  have hne := noEscape_run
  go_enter Tryz.func52, Tryz.ntmps52
  go_wp2_with fail
  rw [Lib.run_to_unsafe w ⟨b, 0, none⟩ Tryz.underlying71 Tryz.underlying119 hj (by rw [hjs]; decide) hsh (Nat.zero_lt_succ 1)]
  go_wp2_with fail
  rw [Lib.run_from_unsafe w ⟨b, 0, none⟩ Tryz.underlying119 Tryz.underlying71 hj hsh hT.lies]
  go_wp2_with fail
  go_end0
  exact ⟨rfl, rfl⟩

theorem copyCheck_any (T : TypeId) (hT : BT T) (b : Nat) (l : List UInt8) (F : List Nat) (w : World) (h : OutAt T w b l F) :
    Calls Tryz.prog 52 #[.pointer (some ⟨b, 0, none⟩)] w fun e w' => e = .returned (.tuple #[]) ∧ Keeps [b] w w' ∧ w'.heap.size = w.heap.size ∧
      ∃ v, w'.heap[b]? = some (.cells #[.pointer (some ⟨b, 0, none⟩), v] T (0, 0)) ∧ w'.ownsRowF 0 5 1 v l.length (u8s l) ∧ v.ownBlock ≠ some b ∧ ∀ k, v.ownBlock = some k → k ∈ F := by
  obtain ⟨hb, hs, p, v, hp, hh, hown, hne, hF⟩ := h
  have c0 : w.cell? ⟨b, 0, none⟩ = some p := by rw [cell_of_row w b 0 _ _ _ hh]; rfl
  rcases hp with rfl | rfl
  · refine (copyCheck_fresh T hT b w c0 (by simp [World.shape?, hh]) (frozen_of_row w b 0 _ _ hh)).mono ?_
    rintro e w' ⟨rfl, rfl⟩
    refine ⟨rfl, (Keeps.refl _ _).setCell (by simp) _, by simp [World.setCell], v, ?_, ?_, hne, hF⟩
    · rw [heap_setCell_same w b 0 _ _ _ hh]; rfl
    · exact hown.kept (row := some b) ⟨rfl, rfl, rfl, by simp [World.setCell], fun k _ hk => Below.heap_setCell _ _ _ _ (fun e => hk (by simp [e]))⟩ (Or.inr hne)
  · refine (copyCheck_used b w c0).mono ?_
    rintro e w' ⟨rfl, rfl⟩
    exact ⟨rfl, Keeps.refl _ _, rfl, v, hh, hown, hne, hF⟩

theorem ownF_ne {w : World} {T : TypeId} {v : Value} {n : Nat} {xs : List Value} {b : Nat} {cs : Array Value} {fr : Nat × Nat} (hown : w.ownsRowF 0 5 1 v n xs) (hb : w.heap[b]? = some (.cells cs T fr)) (hT : T ≠ 5) : v.ownBlock ≠ some b := Lib.ownBlock_neF hown hb hT

/-- what an append has left, stored back -/
theorem OutAt.back {T : TypeId} (hT : T ≠ 5) {w0 w1 w2 : World} {b : Nat} {m : List UInt8} {v v' : Value} {F : List Nat} (hbF : b ∈ F) (hk : Keeps F w0 w1)
    (hh : w1.heap[b]? = some (.cells #[.pointer (some ⟨b, 0, none⟩), v] T (0, 0))) (hne : v.ownBlock ≠ some b) (hF : ∀ k, v.ownBlock = some k → k ∈ F)
    (hown : w2.ownsRowF 0 5 1 v' m.length (u8s m)) (hg : w1.grownBy w2 v.ownBlock) (hw : ∀ k, v'.ownBlock = some k → v.ownBlock = some k ∨ w1.heap.size ≤ k) :
    ∃ F', OutAt T (w2.setCell ⟨b, 1, none⟩ v') b m F' ∧ Keeps F w0 (w2.setCell ⟨b, 1, none⟩ v') ∧ ∀ k, k ∈ F' → k ∈ F ∨ w0.heap.size ≤ k := by
  have hlt := (Array.getElem?_eq_some_iff.1 hh).1
  have hh2 : w2.heap[b]? = some (.cells #[.pointer (some ⟨b, 0, none⟩), v] T (0, 0)) := by rw [hg.block b hlt (fun e => hne e.symm)]; exact hh
  have hne' := ownF_ne hown hh2 hT
  have hkg : Keeps F w1 w2 := ⟨hg.os, hg.tape, hg.output, hg.size, fun k hk' hkF => hg.block k hk' (fun e => hkF (hF k e.symm))⟩
  refine ⟨b :: v'.ownBlock.toList, ?_, (hk.trans hkg).setCell (p := ⟨b, 1, none⟩) hbF _, ?_⟩
  · refine ⟨by simp, ?_, _, v', .inr rfl, ?_, ?_, hne', ?_⟩
    · intro k hk
      have hsz : (w2.setCell ⟨b, 1, none⟩ v').heap.size = w2.heap.size := by simp [World.setCell]
      rw [hsz]
      rcases List.mem_cons.1 hk with rfl | hk
      · exact (Array.getElem?_eq_some_iff.1 hh2).1
      · have hk : v'.ownBlock = some k := by simpa using hk
        rcases hown.2 with ⟨hn, _⟩ | ⟨g, cap, cur, fz, hv, _, hg, _⟩
        · rw [hn] at hk; cases hk
        · rw [hv] at hk
          simp [Value.ownBlock] at hk
          subst hk
          exact (Array.getElem?_eq_some_iff.1 hg).1
    · rw [heap_setCell_same w2 b 1 _ _ _ hh2]; rfl
    · exact hown.kept (row := some b) ⟨rfl, rfl, rfl, by simp [World.setCell], fun k _ hk => Below.heap_setCell _ _ _ _ (fun e => hk (by simp [e]))⟩ (Or.inr hne')
    · intro k hk; simp [hk]
  · intro k hk
    rcases List.mem_cons.1 hk with rfl | hk
    · exact .inl hbF
    · have hk : v'.ownBlock = some k := by simpa using hk
      rcases hw k hk with h | h
      · exact .inl (hF k h)
      · right; have := hk; have := hk; exact Nat.le_trans (by have := ‹Keeps F w0 w1›.size; exact this) h

set_option maxHeartbeats 2000000 in
set_option maxRecDepth 100000 in
theorem WriteByte_any (T : TypeId) (hT : BT T) (b : Nat) (l : List UInt8) (F : List Nat) (c : Int) (x : UInt8) (hc : c = (x.toNat : Int)) (w : World) (h : OutAt T w b l F) (hlen : l.length + 1 ≤ 140737488355328) :
    Calls Tryz.prog 32 #[.pointer (some ⟨b, 0, none⟩), .int .u8 c] w fun e w' => e = .returned .nilIface ∧ ∃ F', OutAt T w' b (l ++ [x]) F' ∧ Keeps F w w' ∧ ∀ k, k ∈ F' → k ∈ F ∨ w.heap.size ≤ k := by
  subst hc
  obtain ⟨i0, hi, hz0, hz1, hz2⟩ := info_parts info_byte
  have hbF := h.1
  have HB := hid hbF; clear hbF
  have H := hid h; clear h
  go_enter Tryz.func32, Tryz.ntmps32
  go_wp2_with fail
  refine (copyCheck_any T hT b l F _ H.out).mono ?_
  rintro e w1 ⟨rfl, hk1, -, v, hh, hown, hne, hF⟩
  have c1 : w1.cell? ⟨b, 1, none⟩ = some v := by rw [cell_of_row w1 b 1 _ _ _ hh]; rfl
  have HH := hid hh; have HN := hid hne; have HF := hid hF
  have hlt : b < w1.heap.size := (Array.getElem?_eq_some_iff.1 hh).1
  clear hh hne hF
  go_wp2_with (with_reducible refine at_op (.call { callee := .builtin .append, args := #[.tmp 11, .tmp 13], argTypes := #[64, 64] }) rfl ?_; refine Stopped.go ?_)
  refine Stopped.mk (wpList_append_w rfl _ _ _ 5 rfl i0 (.int .u8 0) 1 1 Tryz.underlying64 hi hz0 hz1 hz2 rfl (by decide) v l.length (u8s l) rfl (hown.alloc _) ⟨w1.heap.size, 0, none⟩ 1 1 [.int .u8 x.toNat] rfl rfl ?_ ?_ (by unfold maxLen; omega) (by omega) ?_)
  · intro j u hj
    match j, hj with
    | 0, hj => simp at hj; subst hj; simp [Addr.add]
  · intro u hu; simp at hu; subst hu; rfl
  · intro v' w2 hown2 hg2 hw2
    have hh1 : (w1.alloc (.cells #[.int .u8 x.toNat] 5)).heap[b]? = some (.cells #[.pointer (some ⟨b, 0, none⟩), v] T (0, 0)) := by rw [Below.heap_alloc w1 _ b hlt]; exact HH.out
    have hk2 : Keeps F w (w1.alloc (.cells #[.int .u8 x.toNat] 5)) := (hk1.mono (by simp; exact HB.out)).alloc _
    have hm : u8s l ++ [Value.int .u8 (x.toNat : Int)] = u8s (l ++ [x]) := by simp [u8s]
    rw [hm, show l.length + 1 = (l ++ [x]).length by simp] at hown2
    have HX := OutAt.back hT.ne HB.out hk2 hh1 HN.out HF.out hown2 hg2 hw2
    have hh2 : w2.heap[b]? = some (.cells #[.pointer (some ⟨b, 0, none⟩), v] T (0, 0)) := by rw [hg2.block b (by simp; omega) (fun e => HN.out e.symm)]; exact hh1
    have d0 : w2.cell? ⟨b, 0, none⟩ = some (.pointer (some ⟨b, 0, none⟩)) := by rw [cell_of_row w2 b 0 _ _ _ hh2]; rfl
    have d1 : w2.cell? ⟨b, 1, none⟩ = some v := by rw [cell_of_row w2 b 1 _ _ _ hh2]; rfl
    have f1 : w2.frozen? ⟨b, 1, none⟩ = false := frozen_of_row w2 b 1 _ _ hh2
    have h1c : v'.oneCell' = true := by
      rcases hown2.2 with ⟨rfl, _⟩ | ⟨g, cap, cur, fz, rfl, _⟩ <;> rfl
    obtain ⟨A', n', c', rfl⟩ : ∃ A' n' c', v' = .slice A' n' c' := by
      rcases hown2.2 with ⟨rfl, _⟩ | ⟨g, cap, cur, fz, rfl, _⟩ <;> exact ⟨_, _, _, rfl⟩
    have HXX := hid HX
    clear HX hown2 hg2 hw2 hh1 hk2 hm hh2 hown
    go_wp2_with fail
    go_ret
    exact ⟨rfl, HXX.out⟩

set_option maxHeartbeats 2000000 in
set_option maxRecDepth 100000 in
theorem WriteString_any (T : TypeId) (hT : BT T) (b : Nat) (l : List UInt8) (F : List Nat) (s : ByteArray) (w : World) (h : OutAt T w b l F) (hlen : l.length + s.size ≤ 140737488355328) :
    Calls Tryz.prog 54 #[.pointer (some ⟨b, 0, none⟩), .string s] w fun e w' => e = .returned (.tuple #[.int .i64 s.size, .nilIface]) ∧ ∃ F', OutAt T w' b (l ++ s.data.toList) F' ∧ Keeps F w w' ∧ ∀ k, k ∈ F' → k ∈ F ∨ w.heap.size ≤ k := by
  obtain ⟨i0, hi, hz0, hz1, hz2⟩ := info_parts info_byte
  have hbF := h.1
  have HB := hid hbF; clear hbF
  have H := hid h; clear h
  go_enter Tryz.func54, Tryz.ntmps54
  go_wp2_with fail
  refine (copyCheck_any T hT b l F _ H.out).mono ?_
  rintro e w1 ⟨rfl, hk1, -, v, hh, hown, hne, hF⟩
  have c1 : w1.cell? ⟨b, 1, none⟩ = some v := by rw [cell_of_row w1 b 1 _ _ _ hh]; rfl
  have HH := hid hh; have HN := hid hne; have HF := hid hF
  have hlt : b < w1.heap.size := (Array.getElem?_eq_some_iff.1 hh).1
  clear hh hne hF
  go_wp2_with (with_reducible refine at_op (.call { callee := .builtin .append, args := #[.tmp 12, .tmp 13], argTypes := #[64, 9] }) rfl ?_; refine Stopped.go ?_)
  refine Stopped.mk (wpList_append_w_string rfl _ _ _ _ 5 rfl i0 Tryz.underlying64 Tryz.underlying9 hi hz0 hz1 hz2 v l.length (u8s l) rfl hown s rfl (by unfold maxLen; omega) hlen ?_)
  intro v' w2 hown2 hg2 hw2
  have hk2 : Keeps F w w1 := hk1.mono (by simp; exact HB.out)
  have hm : u8s l ++ Lib.strCells s = u8s (l ++ s.data.toList) := by simp [u8s, Lib.strCells]
  rw [hm, show l.length + s.size = (l ++ s.data.toList).length by simp] at hown2
  have HX := OutAt.back hT.ne HB.out hk2 HH.out HN.out HF.out hown2 hg2 hw2
  have hh2 : w2.heap[b]? = some (.cells #[.pointer (some ⟨b, 0, none⟩), v] T (0, 0)) := by rw [hg2.block b hlt (fun e => HN.out e.symm)]; exact HH.out
  have d0 : w2.cell? ⟨b, 0, none⟩ = some (.pointer (some ⟨b, 0, none⟩)) := by rw [cell_of_row w2 b 0 _ _ _ hh2]; rfl
  have d1 : w2.cell? ⟨b, 1, none⟩ = some v := by rw [cell_of_row w2 b 1 _ _ _ hh2]; rfl
  have f1 : w2.frozen? ⟨b, 1, none⟩ = false := frozen_of_row w2 b 1 _ _ hh2
  obtain ⟨A', n', c', rfl⟩ : ∃ A' n' c', v' = .slice A' n' c' := by
    rcases hown2.2 with ⟨rfl, _⟩ | ⟨g, cap, cur, fz, rfl, _⟩ <;> exact ⟨_, _, _, rfl⟩
  have HXX := hid HX
  clear HX hown2 hg2 hw2 hk2 hm hh2 hown
  go_wp2_with fail
  go_ret2
  exact ⟨rfl, HXX.out⟩

theorem keeps_freeze {F : List Nat} {w a : World} (h : Keeps F w a) {p : Addr} (hp : p.block ∈ F) (n : Nat) : Keeps F w (a.freeze p n) := by
  refine h.trans ?_
  unfold World.freeze
  split
  · exact Keeps.refl F a
  · exact ⟨rfl, rfl, rfl, by simp, fun k hk hf => by
      simp only [Array.getElem?_modify]
      rw [if_neg (by intro e; subst e; exact hf hp)]⟩

theorem u8s_eq (l : List UInt8) : u8s l = Lib.byteCells l := rfl

set_option maxHeartbeats 2000000 in
set_option maxRecDepth 100000 in
theorem String_full (T : TypeId) (b : Nat) (l : List UInt8) (F : List Nat) (w : World) (h : OutAt T w b l F) (h0 : l ≠ []) :
    Calls Tryz.prog 33 #[.pointer (some ⟨b, 0, none⟩)] w fun e w' => e = .returned (.string ⟨l.toArray⟩) ∧ OutAt T w' b l F ∧ Keeps F w w' := by
  obtain ⟨hbF, hs, p, v, hp, hh, hown, hne, hF⟩ := h
  have hl0 : l.length ≠ 0 := by simpa using h0
  obtain ⟨g, cap, cur, fz, rfl, hg, hfz, hnc, hcm, hcs, htake⟩ : ∃ g cap cur fz, v = .slice (some ⟨g, 0, none⟩) l.length cap ∧ w.heap[g]? = some (.cells cur 5 fz) ∧ fz.2 ≤ l.length * 1 ∧ l.length ≤ cap ∧ cap ≤ maxLen ∧ cur.size = cap * 1 ∧ cur.toList.take (l.length * 1) = u8s l := by
    rcases hown.2 with ⟨_, hz⟩ | ⟨g, cap, cur, fz, hv, _, r⟩
    · exact absurd hz hl0
    · exact ⟨g, cap, cur, fz, hv, r⟩
  have hgF : g ∈ F := hF g rfl
  have c1 : w.drew.cell? ⟨b, 1, none⟩ = some (.slice (some ⟨g, 0, none⟩) l.length cap) := by
    have : w.drew.heap[b]? = some (.cells #[p, .slice (some ⟨g, 0, none⟩) l.length cap] T (0, 0)) := hh
    rw [cell_of_row _ b 1 _ _ _ this]; rfl
  have hSD : (Builtin.unsafeSliceData_ #[64] 96 #[.slice (some ⟨g, 0, none⟩) l.length cap]).run Tryz.prog w.drew = .ok (.pointer (some ⟨g, 0, none⟩)) w.drew :=
    Lib.run_unsafeSliceData_row _ _ _ _ _ _ (by omega)
  have hUS : (Builtin.unsafeString_ #[96, 3] 9 #[.pointer (some ⟨g, 0, none⟩), .int .i64 l.length]).run Tryz.prog w.drew = .ok (.string ⟨l.toArray⟩) (w.drew.freeze ⟨g, 0, none⟩ l.length) := by
    refine Lib.run_unsafeString_row w.drew 96 3 9 5 Tryz.underlying96 cells_byte g cur.size (by have hg' : w.drew.heap[g]? = some (.cells cur 5 fz) := hg; simp [World.shape?, hg']) l h0 (by omega) (by unfold maxLen at hcm; omega) ?_
    intro j x hx
    exact hown.cells (g := g) rfl j (.int .u8 x.toNat) (by simp [u8s, hx])
  have hkeep : OutAt T (w.drew.freeze ⟨g, 0, none⟩ l.length) b l F := by
    have hA : Lib.BuilderAtF T 5 0 b p (u8s l) w.drew := ⟨Nat.zero_le _, _, hh, by rw [u8s_eq, Lib.byteCells_length]; exact hown, hne⟩
    have hlen : (u8s l).length = l.length := by simp [u8s]
    have hFz := hA.froze (g := g) (cap := cap) (by rw [hlen]; exact c1)
    rw [hlen] at hFz
    obtain ⟨_, v', hh', hown', hne'⟩ := hFz
    have hvv : v' = .slice (some ⟨g, 0, none⟩) l.length cap := by
      have h1 : (w.drew.freeze ⟨g, 0, none⟩ l.length).heap[b]? = w.heap[b]? := by
        have hgb : g ≠ b := fun e => hne (by simp [Value.ownBlock, e])
        unfold World.freeze
        split
        · rfl
        · simp only [Array.getElem?_modify]
          rw [if_neg hgb]; rfl
      rw [h1, hh] at hh'
      simp only [Option.some.injEq, Obj.cells.injEq] at hh'
      have := hh'.1
      simp at this
      exact this.symm
    subst hvv
    rw [hlen] at hown'
    exact ⟨hbF, fun k h => Nat.lt_of_lt_of_le (hs k h) (by unfold World.freeze; split <;> simp), p, _, hp, hh', hown', hne', hF⟩
  have hkk : Keeps F w (w.drew.freeze ⟨g, 0, none⟩ l.length) := keeps_freeze (Keeps.refl F w).drew (p := ⟨g, 0, none⟩) hgF _
  have HK := hid hkeep; have HKK := hid hkk
  clear hkeep hkk hown hh hg htake
  go_enter Tryz.func33, Tryz.ntmps33
  go_wp2
  go_region
  all_goals (go_wp2; go_ret; exact ⟨rfl, HK.out, HKK.out⟩)

theorem ustr_none (W : World) (q : Option Addr) : (Builtin.unsafeString_ #[96, 3] 9 #[.pointer q, .int .i64 0]).run Tryz.prog W = .ok (.string .empty) W := Lib.run_unsafeString_none W _ _ _ q

set_option maxHeartbeats 2000000 in
set_option maxRecDepth 100000 in
theorem String_nil (T : TypeId) (b : Nat) (p : Value) (w : World) (hh : w.heap[b]? = some (.cells #[p, .slice none 0 0] T (0, 0))) :
    Calls Tryz.prog 33 #[.pointer (some ⟨b, 0, none⟩)] w fun e w' => e = .returned (.string ⟨#[]⟩) ∧ w' = w.drew := by
  have hUS := ustr_none
  have c1 : w.drew.cell? ⟨b, 1, none⟩ = some (.slice none 0 0) := by
    have : w.drew.heap[b]? = some (.cells #[p, .slice none 0 0] T (0, 0)) := hh
    rw [cell_of_row _ b 1 _ _ _ this]; rfl
  have hSD : (Builtin.unsafeSliceData_ #[64] 96 #[.slice none 0 0]).run Tryz.prog w.drew = .ok (.pointer none) w.drew := rfl
  go_enter Tryz.func33, Tryz.ntmps33
  go_wp2
  go_region
  all_goals (go_wp2; go_ret; exact ⟨rfl, rfl⟩)

set_option maxHeartbeats 2000000 in
set_option maxRecDepth 100000 in
theorem String_room (T : TypeId) (b g cap : Nat) (p : Value) (w : World) (hc0 : cap ≠ 0) (hh : w.heap[b]? = some (.cells #[p, .slice (some ⟨g, 0, none⟩) 0 cap] T (0, 0))) :
    Calls Tryz.prog 33 #[.pointer (some ⟨b, 0, none⟩)] w fun e w' => e = .returned (.string ⟨#[]⟩) ∧ w' = w.drew := by
  have hUS := ustr_none
  have c1 : w.drew.cell? ⟨b, 1, none⟩ = some (.slice (some ⟨g, 0, none⟩) 0 cap) := by
    have : w.drew.heap[b]? = some (.cells #[p, .slice (some ⟨g, 0, none⟩) 0 cap] T (0, 0)) := hh
    rw [cell_of_row _ b 1 _ _ _ this]; rfl
  have hSD : (Builtin.unsafeSliceData_ #[64] 96 #[.slice (some ⟨g, 0, none⟩) 0 cap]).run Tryz.prog w.drew = .ok (.pointer (some ⟨g, 0, none⟩)) w.drew :=
    Lib.run_unsafeSliceData_row _ _ _ _ _ _ hc0
  clear hc0
  go_enter Tryz.func33, Tryz.ntmps33
  go_wp2
  go_region
  all_goals (go_wp2; go_ret; exact ⟨rfl, rfl⟩)

set_option maxHeartbeats 2000000 in
set_option maxRecDepth 100000 in
theorem String_noroom (T : TypeId) (b g : Nat) (p : Value) (cur : Array Value) (w : World) (hh : w.heap[b]? = some (.cells #[p, .slice (some ⟨g, 0, none⟩) 0 0] T (0, 0))) (fz : Nat × Nat) (hg : w.heap[g]? = some (.cells cur 5 fz)) :
    Calls Tryz.prog 33 #[.pointer (some ⟨b, 0, none⟩)] w fun e w' => e = .returned (.string ⟨#[]⟩) ∧ w' = (w.alloc (.view ⟨g, 0, none⟩ 5)).drew := by
  have hUS := ustr_none
  have hlt : b < w.heap.size := (Array.getElem?_eq_some_iff.1 hh).1
  have c1 : w.drew.cell? ⟨b, 1, none⟩ = some (.slice (some ⟨g, 0, none⟩) 0 0) := by
    have : w.drew.heap[b]? = some (.cells #[p, .slice (some ⟨g, 0, none⟩) 0 0] T (0, 0)) := hh
    rw [cell_of_row _ b 1 _ _ _ this]; rfl
  have hSD : (Builtin.unsafeSliceData_ #[64] 96 #[.slice (some ⟨g, 0, none⟩) 0 0]).run Tryz.prog w.drew = .ok (.pointer (some ⟨w.drew.heap.size, 0, none⟩)) (w.drew.alloc (.view ⟨g, 0, none⟩ 5)) :=
    Lib.run_unsafeSliceData_zero w.drew _ _ 5 Tryz.underlying96 ⟨g, 0, none⟩ 0 (5, cur.size) (by have hg' : w.drew.heap[g]? = some (.cells cur 5 fz) := hg; simp [World.shape?, hg'])
  have c2 : (w.drew.alloc (.view ⟨g, 0, none⟩ 5)).cell? ⟨b, 1, none⟩ = some (.slice (some ⟨g, 0, none⟩) 0 0) := by
    have : (w.drew.alloc (.view ⟨g, 0, none⟩ 5)).heap[b]? = _ := (Below.heap_alloc w.drew _ b hlt).trans hh
    rw [cell_of_row _ b 1 _ _ _ this]; rfl
  have c3 : (w.alloc (.view ⟨g, 0, none⟩ 5)).drew.cell? ⟨b, 1, none⟩ = some (.slice (some ⟨g, 0, none⟩) 0 0) := c2
  have c0 : w.cell? ⟨b, 1, none⟩ = some (.slice (some ⟨g, 0, none⟩) 0 0) := c1
  go_enter Tryz.func33, Tryz.ntmps33
  go_wp2
  go_region
  all_goals (go_wp2; go_ret; exact ⟨rfl, rfl⟩)

theorem String_any (T : TypeId) (b : Nat) (l : List UInt8) (F : List Nat) (w : World) (h : OutAt T w b l F) :
    Calls Tryz.prog 33 #[.pointer (some ⟨b, 0, none⟩)] w fun e w' => e = .returned (.string ⟨l.toArray⟩) ∧ OutAt T w' b l F ∧ Keeps F w w' := by
  cases l with
  | cons x r => exact String_full T b (x :: r) F w h (by simp)
  | nil =>
    have h' := h
    obtain ⟨hbF, hs, p, v, hp, hh, hown, hne, hF⟩ := h
    rcases hown.2 with ⟨rfl, _⟩ | ⟨g, cap, cur, fz, rfl, _, hg, _⟩
    · refine (String_nil T b p w hh).mono ?_
      rintro e w' ⟨rfl, rfl⟩
      exact ⟨rfl, h', (Keeps.refl _ _).drew⟩
    · by_cases hc0 : cap = 0
      · subst hc0
        refine (String_noroom T b g p cur w hh fz hg).mono ?_
        rintro e w' ⟨rfl, rfl⟩
        exact ⟨rfl, h'.below (Below.drew (below_alloc _ _)), ((Keeps.refl _ _).alloc _).drew⟩
      · refine (String_room T b g cap p w hc0 hh).mono ?_
        rintro e w' ⟨rfl, rfl⟩
        exact ⟨rfl, h', (Keeps.refl _ _).drew⟩
end Go.Proofs.YthhmdmfbaooldaaGreatDoor
