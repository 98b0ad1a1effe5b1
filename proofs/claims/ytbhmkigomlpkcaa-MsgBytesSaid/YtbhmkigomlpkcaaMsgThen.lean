/-
  Messages (layer 8), walked: Then; and the document's.
-/
import Derived.Test.YtbhmkigomlpkcaaMsgApply
namespace Go.Proofs.Ytbhmkigomlpkcaa
open Go.RowKit

theorem results_cell_row_tmp {P : Program} {fn : Func} {p u : Tmp} {ty : TypeId} (h : fn.results = #[.cell p ty, .tmp u]) (tmps : Array Value) (w : World) (g : Nat) (t : TypeId) (cs : Array Value) (fr : Nat × Nat) (d : TypeDesc)
    (hp : tmps.getD p undef = .pointer (some ⟨g, 0, none⟩)) (hg : w.heap[g]? = some (.cells cs t fr))
    (hu : P.underlying ty = some d) (hd : (match d with | .struct _ | .array _ _ => true | _ => false) = true) (hi : (P.info? ty).map (·.size) = some cs.size) :
    (results fn tmps).run P w = .ok (.tuple #[.agg cs, tmps.getD u undef]) w := by
  rw [results_cell_tmp h, hp]
  simp [asAddr, run_loadVar_row w g t ty cs fr d hg hu hd hi]

/-- what both are: a message's kind, key and value; an error's number -/
def thenM (K : Int) (k v : ByteArray) (K' : Int) (k' v' : ByteArray) : Int × ByteArray × ByteArray :=
  if msgIs K k v && msgIs K' k' v' && (k.toList == k'.toList) then
    (if K' = 3 then (if K = 2 then (1, k', v') else (K, k, sumK v v')) else (K', k', v'))
  else (0, ⟨#[]⟩, ⟨#[]⟩)
def thenIs (K : Int) (k v : ByteArray) (K' : Int) (k' v' : ByteArray) : Bool := msgIs K k v && msgIs K' k' v' && (k.toList == k'.toList)
theorem msgIs_kind {K : Int} {k v : ByteArray} (h : msgIs K k v = true) : K = 1 ∨ K = 2 ∨ K = 3 := by
  unfold msgIs at h
  by_cases h1 : K = 1
  · exact .inl h1
  by_cases h2 : K = 2
  · exact .inr (.inl h2)
  by_cases h3 : K = 3
  · exact .inr (.inr h3)
  rw [if_neg h1, if_neg h2, if_neg h3, Bool.and_false] at h
  cases h
theorem msgIs_num {k v : ByteArray} (h : msgIs 3 k v = true) : numB v = true := by
  unfold msgIs at h
  rw [if_neg (by decide), if_neg (by decide), if_pos rfl] at h
  have h := (Bool.and_eq_true _ _ ▸ h).2
  rw [beq_iff_eq] at h
  exact decide_eq_true (by omega)

set_option maxHeartbeats 8000000 in
set_option maxRecDepth 100000 in
theorem msg_Then_any (K : Int) (k v : ByteArray) (K' : Int) (k' v' : ByteArray) (w : World) :
    Calls Try.prog 24 #[.agg #[.int .i64 K, .string k, .string v], .agg #[.int .i64 K', .string k', .string v']] w fun e w' => e = .returned (.tuple #[.agg #[.int .i64 (thenM K k v K' k' v').1, .string (thenM K k v K' k' v').2.1, .string (thenM K k v K' k' v').2.2], .int .i64 (if thenIs K k v K' k' v' then 0 else 1)]) ∧ Below w.heap.size w w' := by
  obtain ⟨f, hf⟩ : ∃ f, f = msgIs K k v := ⟨_, rfl⟩
  obtain ⟨f', hf'⟩ : ∃ f, f = msgIs K' k' v' := ⟨_, rfl⟩
  have HF := hid hf; have HF' := hid hf'; clear hf hf'
  cases f with
  | false =>
    have ht : thenM K k v K' k' v' = (0, ⟨#[]⟩, ⟨#[]⟩) := by unfold thenM; rw [← HF.out]; rfl
    have hi : thenIs K k v K' k' v' = false := by unfold thenIs; rw [← HF.out]; rfl
    rw [ht, hi]
    clear ht hi
    go_enter Try.func24, Try.ntmps24
    go_wp2_with (with_reducible refine at_op (.box 23 (.tmp 0)) rfl ?_; refine Stopped.go ?_)
    refine Stopped.mk (wpList_box rfl #[.int .i64 K, .string k, .string v] 23 (by go_simp) ?_)
    intro g w1 hg_ Bg hb_ hz_
    have hb := hb_
    have HGG := hid (show w.heap.size ≤ g by omega)
    clear hg_ hz_ hb_
    go_wp2_with (with_reducible refine at_op (.box 23 (.tmp 1)) rfl ?_; refine Stopped.go ?_)
    refine Stopped.mk (wpList_box rfl #[.int .i64 K', .string k', .string v'] 23 (by go_simp) ?_)
    intro g' w2 hg_ Bg' hb_ hz_
    replace Bg := Bg.belowS hb_
    replace hb := bt hb hb_
    clear hg_ hz_ hb_
    have hA := below_alloc w2 (.cells #[.int .i64 0, .string ⟨#[]⟩, .string ⟨#[]⟩] 23)
    have hN : (w2.alloc (.cells #[.int .i64 0, .string ⟨#[]⟩, .string ⟨#[]⟩] 23)).heap[w2.heap.size]? = some (.cells #[.int .i64 0, .string ⟨#[]⟩, .string ⟨#[]⟩] 23 (0, 0)) := heap_alloc_new w2 _
    obtain ⟨g4, hg4⟩ : ∃ g4, g4 = w2.heap.size := ⟨_, rfl⟩
    have hge : w.heap.size ≤ g4 := by rw [hg4]; exact hb.size
    have HGN := hid (show g4 ≠ g by have := Bg.lt; omega)
    have HGN' := hid (show g4 ≠ g' by have := Bg'.lt; omega)
    replace Bg := Bg.belowS hA; replace Bg' := Bg'.belowS hA; replace hb := bt hb hA
    rw [← hg4] at hN
    have HG4 := hid hg4; have HGE := hid hge; have NG := hid hN; clear hg4 hA hge hN
    have cg_0 : (w2.alloc (.cells #[.int .i64 0, .string ⟨#[]⟩, .string ⟨#[]⟩] 23)).cell? ⟨g, 0, none⟩ = some (.int .i64 K) := Bg.at rfl
    have cg_1 : (w2.alloc (.cells #[.int .i64 0, .string ⟨#[]⟩, .string ⟨#[]⟩] 23)).cell? ⟨g, 1, none⟩ = some (.string k) := Bg.at rfl
    have cg_2 : (w2.alloc (.cells #[.int .i64 0, .string ⟨#[]⟩, .string ⟨#[]⟩] 23)).cell? ⟨g, 2, none⟩ = some (.string v) := Bg.at rfl
    have cg'_0 : (w2.alloc (.cells #[.int .i64 0, .string ⟨#[]⟩, .string ⟨#[]⟩] 23)).cell? ⟨g', 0, none⟩ = some (.int .i64 K') := Bg'.at rfl
    have cg'_1 : (w2.alloc (.cells #[.int .i64 0, .string ⟨#[]⟩, .string ⟨#[]⟩] 23)).cell? ⟨g', 1, none⟩ = some (.string k') := Bg'.at rfl
    have cg'_2 : (w2.alloc (.cells #[.int .i64 0, .string ⟨#[]⟩, .string ⟨#[]⟩] 23)).cell? ⟨g', 2, none⟩ = some (.string v') := Bg'.at rfl
    go_wp2_with fail
    rw [← HG4.out]
    clear HG4
    generalize (w2.alloc (.cells #[.int .i64 0, .string ⟨#[]⟩, .string ⟨#[]⟩] 23)) = w3 at *
    refine (msg_isNot_any K k v _).mono ?_; rintro e w4 ⟨rfl, hb_⟩; rw [← HF.out]
    have hN_ := NG.out; rw [← hb_.block g4 (Array.getElem?_eq_some_iff.1 hN_).1] at hN_; clear NG; have NG := hid hN_; clear hN_
    clear cg_0
    clear cg_1
    clear cg_2
    replace Bg := Bg.belowS hb_
    clear cg'_0
    clear cg'_1
    clear cg'_2
    replace Bg' := Bg'.belowS hb_
    replace hb := bt hb hb_
    clear hb_
    have cg_0 : w4.cell? ⟨g, 0, none⟩ = some (.int .i64 K) := Bg.at rfl
    have cg_1 : w4.cell? ⟨g, 1, none⟩ = some (.string k) := Bg.at rfl
    have cg_2 : w4.cell? ⟨g, 2, none⟩ = some (.string v) := Bg.at rfl
    have cg'_0 : w4.cell? ⟨g', 0, none⟩ = some (.int .i64 K') := Bg'.at rfl
    have cg'_1 : w4.cell? ⟨g', 1, none⟩ = some (.string k') := Bg'.at rfl
    have cg'_2 : w4.cell? ⟨g', 2, none⟩ = some (.string v') := Bg'.at rfl
    go_wp2_with (with_reducible refine at_op (.store 23 (.tmp 4) (.tmp 20)) rfl ?_; refine Stopped.go ?_)
    refine Stopped.mk (wpList_store_row_k rfl _ _ _ rfl g4 #[.int .i64 0, .string ⟨#[]⟩, .string ⟨#[]⟩] rfl rfl _ _ NG.out (by kernel_rfl) rfl (by simp [Value.oneCell']) ?_)
    intro w9 h9 hb9 _
    have HB := hid (hb.trans (hb9 _ HGE.out)); have H9 := hid h9
    clear h9 hb9 hb NG
    go_wp2_with fail
    (try simp only [Exit.inBlock, Exit.then])
    exact bodyPost_ret (results_cell_row_tmp rfl _ _ g4 _ _ (0, 0) _ rfl H9.out Try.underlying23 rfl (by kernel_rfl)) rfl ⟨rfl, HB.out⟩
  | true =>
  cases f' with
  | false =>
    have ht : thenM K k v K' k' v' = (0, ⟨#[]⟩, ⟨#[]⟩) := by unfold thenM; rw [← HF.out, ← HF'.out]; rfl
    have hi : thenIs K k v K' k' v' = false := by unfold thenIs; rw [← HF.out, ← HF'.out]; rfl
    rw [ht, hi]
    clear ht hi
    go_enter Try.func24, Try.ntmps24
    go_wp2_with (with_reducible refine at_op (.box 23 (.tmp 0)) rfl ?_; refine Stopped.go ?_)
    refine Stopped.mk (wpList_box rfl #[.int .i64 K, .string k, .string v] 23 (by go_simp) ?_)
    intro g w1 hg_ Bg hb_ hz_
    have hb := hb_
    have HGG := hid (show w.heap.size ≤ g by omega)
    clear hg_ hz_ hb_
    go_wp2_with (with_reducible refine at_op (.box 23 (.tmp 1)) rfl ?_; refine Stopped.go ?_)
    refine Stopped.mk (wpList_box rfl #[.int .i64 K', .string k', .string v'] 23 (by go_simp) ?_)
    intro g' w2 hg_ Bg' hb_ hz_
    replace Bg := Bg.belowS hb_
    replace hb := bt hb hb_
    clear hg_ hz_ hb_
    have hA := below_alloc w2 (.cells #[.int .i64 0, .string ⟨#[]⟩, .string ⟨#[]⟩] 23)
    have hN : (w2.alloc (.cells #[.int .i64 0, .string ⟨#[]⟩, .string ⟨#[]⟩] 23)).heap[w2.heap.size]? = some (.cells #[.int .i64 0, .string ⟨#[]⟩, .string ⟨#[]⟩] 23 (0, 0)) := heap_alloc_new w2 _
    obtain ⟨g4, hg4⟩ : ∃ g4, g4 = w2.heap.size := ⟨_, rfl⟩
    have hge : w.heap.size ≤ g4 := by rw [hg4]; exact hb.size
    have HGN := hid (show g4 ≠ g by have := Bg.lt; omega)
    have HGN' := hid (show g4 ≠ g' by have := Bg'.lt; omega)
    replace Bg := Bg.belowS hA; replace Bg' := Bg'.belowS hA; replace hb := bt hb hA
    rw [← hg4] at hN
    have HG4 := hid hg4; have HGE := hid hge; have NG := hid hN; clear hg4 hA hge hN
    have cg_0 : (w2.alloc (.cells #[.int .i64 0, .string ⟨#[]⟩, .string ⟨#[]⟩] 23)).cell? ⟨g, 0, none⟩ = some (.int .i64 K) := Bg.at rfl
    have cg_1 : (w2.alloc (.cells #[.int .i64 0, .string ⟨#[]⟩, .string ⟨#[]⟩] 23)).cell? ⟨g, 1, none⟩ = some (.string k) := Bg.at rfl
    have cg_2 : (w2.alloc (.cells #[.int .i64 0, .string ⟨#[]⟩, .string ⟨#[]⟩] 23)).cell? ⟨g, 2, none⟩ = some (.string v) := Bg.at rfl
    have cg'_0 : (w2.alloc (.cells #[.int .i64 0, .string ⟨#[]⟩, .string ⟨#[]⟩] 23)).cell? ⟨g', 0, none⟩ = some (.int .i64 K') := Bg'.at rfl
    have cg'_1 : (w2.alloc (.cells #[.int .i64 0, .string ⟨#[]⟩, .string ⟨#[]⟩] 23)).cell? ⟨g', 1, none⟩ = some (.string k') := Bg'.at rfl
    have cg'_2 : (w2.alloc (.cells #[.int .i64 0, .string ⟨#[]⟩, .string ⟨#[]⟩] 23)).cell? ⟨g', 2, none⟩ = some (.string v') := Bg'.at rfl
    go_wp2_with fail
    rw [← HG4.out]
    clear HG4
    generalize (w2.alloc (.cells #[.int .i64 0, .string ⟨#[]⟩, .string ⟨#[]⟩] 23)) = w3 at *
    refine (msg_isNot_any K k v _).mono ?_; rintro e w4 ⟨rfl, hb_⟩; rw [← HF.out]
    have hN_ := NG.out; rw [← hb_.block g4 (Array.getElem?_eq_some_iff.1 hN_).1] at hN_; clear NG; have NG := hid hN_; clear hN_
    clear cg_0
    clear cg_1
    clear cg_2
    replace Bg := Bg.belowS hb_
    clear cg'_0
    clear cg'_1
    clear cg'_2
    replace Bg' := Bg'.belowS hb_
    replace hb := bt hb hb_
    clear hb_
    have cg_0 : w4.cell? ⟨g, 0, none⟩ = some (.int .i64 K) := Bg.at rfl
    have cg_1 : w4.cell? ⟨g, 1, none⟩ = some (.string k) := Bg.at rfl
    have cg_2 : w4.cell? ⟨g, 2, none⟩ = some (.string v) := Bg.at rfl
    have cg'_0 : w4.cell? ⟨g', 0, none⟩ = some (.int .i64 K') := Bg'.at rfl
    have cg'_1 : w4.cell? ⟨g', 1, none⟩ = some (.string k') := Bg'.at rfl
    have cg'_2 : w4.cell? ⟨g', 2, none⟩ = some (.string v') := Bg'.at rfl
    go_wp2_with fail
    refine (msg_isNot_any K' k' v' _).mono ?_; rintro e w5 ⟨rfl, hb_⟩; rw [← HF'.out]
    have hN_ := NG.out; rw [← hb_.block g4 (Array.getElem?_eq_some_iff.1 hN_).1] at hN_; clear NG; have NG := hid hN_; clear hN_
    clear cg_0
    clear cg_1
    clear cg_2
    replace Bg := Bg.belowS hb_
    clear cg'_0
    clear cg'_1
    clear cg'_2
    replace Bg' := Bg'.belowS hb_
    replace hb := bt hb hb_
    clear hb_
    have cg_0 : w5.cell? ⟨g, 0, none⟩ = some (.int .i64 K) := Bg.at rfl
    have cg_1 : w5.cell? ⟨g, 1, none⟩ = some (.string k) := Bg.at rfl
    have cg_2 : w5.cell? ⟨g, 2, none⟩ = some (.string v) := Bg.at rfl
    have cg'_0 : w5.cell? ⟨g', 0, none⟩ = some (.int .i64 K') := Bg'.at rfl
    have cg'_1 : w5.cell? ⟨g', 1, none⟩ = some (.string k') := Bg'.at rfl
    have cg'_2 : w5.cell? ⟨g', 2, none⟩ = some (.string v') := Bg'.at rfl
    go_wp2_with (with_reducible refine at_op (.store 23 (.tmp 4) (.tmp 20)) rfl ?_; refine Stopped.go ?_)
    refine Stopped.mk (wpList_store_row_k rfl _ _ _ rfl g4 #[.int .i64 0, .string ⟨#[]⟩, .string ⟨#[]⟩] rfl rfl _ _ NG.out (by kernel_rfl) rfl (by simp [Value.oneCell']) ?_)
    intro w9 h9 hb9 _
    have HB := hid (hb.trans (hb9 _ HGE.out)); have H9 := hid h9
    clear h9 hb9 hb NG
    go_wp2_with fail
    (try simp only [Exit.inBlock, Exit.then])
    exact bodyPost_ret (results_cell_row_tmp rfl _ _ g4 _ _ (0, 0) _ rfl H9.out Try.underlying23 rfl (by kernel_rfl)) rfl ⟨rfl, HB.out⟩
  | true =>
  cases hkk : (k.toList == k'.toList) with
  | false =>
    have ht : thenM K k v K' k' v' = (0, ⟨#[]⟩, ⟨#[]⟩) := by unfold thenM; rw [← HF.out, ← HF'.out, hkk]; rfl
    have hi : thenIs K k v K' k' v' = false := by unfold thenIs; rw [← HF.out, ← HF'.out, hkk]; rfl
    rw [ht, hi]
    clear ht hi
    go_enter Try.func24, Try.ntmps24
    go_wp2_with (with_reducible refine at_op (.box 23 (.tmp 0)) rfl ?_; refine Stopped.go ?_)
    refine Stopped.mk (wpList_box rfl #[.int .i64 K, .string k, .string v] 23 (by go_simp) ?_)
    intro g w1 hg_ Bg hb_ hz_
    have hb := hb_
    have HGG := hid (show w.heap.size ≤ g by omega)
    clear hg_ hz_ hb_
    go_wp2_with (with_reducible refine at_op (.box 23 (.tmp 1)) rfl ?_; refine Stopped.go ?_)
    refine Stopped.mk (wpList_box rfl #[.int .i64 K', .string k', .string v'] 23 (by go_simp) ?_)
    intro g' w2 hg_ Bg' hb_ hz_
    replace Bg := Bg.belowS hb_
    replace hb := bt hb hb_
    clear hg_ hz_ hb_
    have hA := below_alloc w2 (.cells #[.int .i64 0, .string ⟨#[]⟩, .string ⟨#[]⟩] 23)
    have hN : (w2.alloc (.cells #[.int .i64 0, .string ⟨#[]⟩, .string ⟨#[]⟩] 23)).heap[w2.heap.size]? = some (.cells #[.int .i64 0, .string ⟨#[]⟩, .string ⟨#[]⟩] 23 (0, 0)) := heap_alloc_new w2 _
    obtain ⟨g4, hg4⟩ : ∃ g4, g4 = w2.heap.size := ⟨_, rfl⟩
    have hge : w.heap.size ≤ g4 := by rw [hg4]; exact hb.size
    have HGN := hid (show g4 ≠ g by have := Bg.lt; omega)
    have HGN' := hid (show g4 ≠ g' by have := Bg'.lt; omega)
    replace Bg := Bg.belowS hA; replace Bg' := Bg'.belowS hA; replace hb := bt hb hA
    rw [← hg4] at hN
    have HG4 := hid hg4; have HGE := hid hge; have NG := hid hN; clear hg4 hA hge hN
    have cg_0 : (w2.alloc (.cells #[.int .i64 0, .string ⟨#[]⟩, .string ⟨#[]⟩] 23)).cell? ⟨g, 0, none⟩ = some (.int .i64 K) := Bg.at rfl
    have cg_1 : (w2.alloc (.cells #[.int .i64 0, .string ⟨#[]⟩, .string ⟨#[]⟩] 23)).cell? ⟨g, 1, none⟩ = some (.string k) := Bg.at rfl
    have cg_2 : (w2.alloc (.cells #[.int .i64 0, .string ⟨#[]⟩, .string ⟨#[]⟩] 23)).cell? ⟨g, 2, none⟩ = some (.string v) := Bg.at rfl
    have cg'_0 : (w2.alloc (.cells #[.int .i64 0, .string ⟨#[]⟩, .string ⟨#[]⟩] 23)).cell? ⟨g', 0, none⟩ = some (.int .i64 K') := Bg'.at rfl
    have cg'_1 : (w2.alloc (.cells #[.int .i64 0, .string ⟨#[]⟩, .string ⟨#[]⟩] 23)).cell? ⟨g', 1, none⟩ = some (.string k') := Bg'.at rfl
    have cg'_2 : (w2.alloc (.cells #[.int .i64 0, .string ⟨#[]⟩, .string ⟨#[]⟩] 23)).cell? ⟨g', 2, none⟩ = some (.string v') := Bg'.at rfl
    go_wp2_with fail
    rw [← HG4.out]
    clear HG4
    generalize (w2.alloc (.cells #[.int .i64 0, .string ⟨#[]⟩, .string ⟨#[]⟩] 23)) = w3 at *
    refine (msg_isNot_any K k v _).mono ?_; rintro e w4 ⟨rfl, hb_⟩; rw [← HF.out]
    have hN_ := NG.out; rw [← hb_.block g4 (Array.getElem?_eq_some_iff.1 hN_).1] at hN_; clear NG; have NG := hid hN_; clear hN_
    clear cg_0
    clear cg_1
    clear cg_2
    replace Bg := Bg.belowS hb_
    clear cg'_0
    clear cg'_1
    clear cg'_2
    replace Bg' := Bg'.belowS hb_
    replace hb := bt hb hb_
    clear hb_
    have cg_0 : w4.cell? ⟨g, 0, none⟩ = some (.int .i64 K) := Bg.at rfl
    have cg_1 : w4.cell? ⟨g, 1, none⟩ = some (.string k) := Bg.at rfl
    have cg_2 : w4.cell? ⟨g, 2, none⟩ = some (.string v) := Bg.at rfl
    have cg'_0 : w4.cell? ⟨g', 0, none⟩ = some (.int .i64 K') := Bg'.at rfl
    have cg'_1 : w4.cell? ⟨g', 1, none⟩ = some (.string k') := Bg'.at rfl
    have cg'_2 : w4.cell? ⟨g', 2, none⟩ = some (.string v') := Bg'.at rfl
    go_wp2_with fail
    refine (msg_isNot_any K' k' v' _).mono ?_; rintro e w5 ⟨rfl, hb_⟩; rw [← HF'.out]
    have hN_ := NG.out; rw [← hb_.block g4 (Array.getElem?_eq_some_iff.1 hN_).1] at hN_; clear NG; have NG := hid hN_; clear hN_
    clear cg_0
    clear cg_1
    clear cg_2
    replace Bg := Bg.belowS hb_
    clear cg'_0
    clear cg'_1
    clear cg'_2
    replace Bg' := Bg'.belowS hb_
    replace hb := bt hb hb_
    clear hb_
    have cg_0 : w5.cell? ⟨g, 0, none⟩ = some (.int .i64 K) := Bg.at rfl
    have cg_1 : w5.cell? ⟨g, 1, none⟩ = some (.string k) := Bg.at rfl
    have cg_2 : w5.cell? ⟨g, 2, none⟩ = some (.string v) := Bg.at rfl
    have cg'_0 : w5.cell? ⟨g', 0, none⟩ = some (.int .i64 K') := Bg'.at rfl
    have cg'_1 : w5.cell? ⟨g', 1, none⟩ = some (.string k') := Bg'.at rfl
    have cg'_2 : w5.cell? ⟨g', 2, none⟩ = some (.string v') := Bg'.at rfl
    go_wp2_with (with_reducible refine at_op (.store 23 (.tmp 4) (.tmp 20)) rfl ?_; refine Stopped.go ?_)
    refine Stopped.mk (wpList_store_row_k rfl _ _ _ rfl g4 #[.int .i64 0, .string ⟨#[]⟩, .string ⟨#[]⟩] rfl rfl _ _ NG.out (by kernel_rfl) rfl (by simp [Value.oneCell']) ?_)
    intro w9 h9 hb9 _
    have HB := hid (hb.trans (hb9 _ HGE.out)); have H9 := hid h9
    clear h9 hb9 hb NG
    go_wp2_with fail
    (try simp only [Exit.inBlock, Exit.then])
    exact bodyPost_ret (results_cell_row_tmp rfl _ _ g4 _ _ (0, 0) _ rfl H9.out Try.underlying23 rfl (by kernel_rfl)) rfl ⟨rfl, HB.out⟩
  | true =>
  have hki := ba_inj (beq_iff_eq.1 hkk)
  subst hki
  have hi : thenIs K k v K' k v' = true := by unfold thenIs; rw [← HF.out, ← HF'.out, hkk]; rfl
  have ht : thenM K k v K' k v' = (if K' = 3 then (if K = 2 then (1, k, v') else (K, k, sumK v v')) else (K', k, v')) := by unfold thenM; rw [← HF.out, ← HF'.out, hkk]; rfl
  rw [hi]
  obtain ⟨q, hq⟩ : ∃ q, q = thenM K k v K' k v' := ⟨_, rfl⟩
  rw [← hq]
  rw [ht] at hq
  clear ht hi hkk
  by_cases h3 : K' = 3
  · subst h3
    rw [if_pos rfl] at hq
    by_cases h2 : K = 2
    · subst h2
      rw [if_pos rfl] at hq
      subst hq
      go_enter Try.func24, Try.ntmps24
      go_wp2_with (with_reducible refine at_op (.box 23 (.tmp 0)) rfl ?_; refine Stopped.go ?_)
      refine Stopped.mk (wpList_box rfl #[.int .i64 2, .string k, .string v] 23 (by go_simp) ?_)
      intro g w1 hg_ Bg hb_ hz_
      have hb := hb_
      have HGG := hid (show w.heap.size ≤ g by omega)
      clear hg_ hz_ hb_
      go_wp2_with (with_reducible refine at_op (.box 23 (.tmp 1)) rfl ?_; refine Stopped.go ?_)
      refine Stopped.mk (wpList_box rfl #[.int .i64 3, .string k, .string v'] 23 (by go_simp) ?_)
      intro g' w2 hg_ Bg' hb_ hz_
      replace Bg := Bg.belowS hb_
      replace hb := bt hb hb_
      clear hg_ hz_ hb_
      have hA := below_alloc w2 (.cells #[.int .i64 0, .string ⟨#[]⟩, .string ⟨#[]⟩] 23)
      have hN : (w2.alloc (.cells #[.int .i64 0, .string ⟨#[]⟩, .string ⟨#[]⟩] 23)).heap[w2.heap.size]? = some (.cells #[.int .i64 0, .string ⟨#[]⟩, .string ⟨#[]⟩] 23 (0, 0)) := heap_alloc_new w2 _
      obtain ⟨g4, hg4⟩ : ∃ g4, g4 = w2.heap.size := ⟨_, rfl⟩
      have hge : w.heap.size ≤ g4 := by rw [hg4]; exact hb.size
      have HGN := hid (show g4 ≠ g by have := Bg.lt; omega)
      have HGN' := hid (show g4 ≠ g' by have := Bg'.lt; omega)
      replace Bg := Bg.belowS hA; replace Bg' := Bg'.belowS hA; replace hb := bt hb hA
      rw [← hg4] at hN
      have HG4 := hid hg4; have HGE := hid hge; have NG := hid hN; clear hg4 hA hge hN
      have cg_0 : (w2.alloc (.cells #[.int .i64 0, .string ⟨#[]⟩, .string ⟨#[]⟩] 23)).cell? ⟨g, 0, none⟩ = some (.int .i64 2) := Bg.at rfl
      have cg_1 : (w2.alloc (.cells #[.int .i64 0, .string ⟨#[]⟩, .string ⟨#[]⟩] 23)).cell? ⟨g, 1, none⟩ = some (.string k) := Bg.at rfl
      have cg_2 : (w2.alloc (.cells #[.int .i64 0, .string ⟨#[]⟩, .string ⟨#[]⟩] 23)).cell? ⟨g, 2, none⟩ = some (.string v) := Bg.at rfl
      have cg'_0 : (w2.alloc (.cells #[.int .i64 0, .string ⟨#[]⟩, .string ⟨#[]⟩] 23)).cell? ⟨g', 0, none⟩ = some (.int .i64 3) := Bg'.at rfl
      have cg'_1 : (w2.alloc (.cells #[.int .i64 0, .string ⟨#[]⟩, .string ⟨#[]⟩] 23)).cell? ⟨g', 1, none⟩ = some (.string k) := Bg'.at rfl
      have cg'_2 : (w2.alloc (.cells #[.int .i64 0, .string ⟨#[]⟩, .string ⟨#[]⟩] 23)).cell? ⟨g', 2, none⟩ = some (.string v') := Bg'.at rfl
      go_wp2_with fail
      rw [← HG4.out]
      clear HG4
      generalize (w2.alloc (.cells #[.int .i64 0, .string ⟨#[]⟩, .string ⟨#[]⟩] 23)) = w3 at *
      refine (msg_isNot_any 2 k v _).mono ?_; rintro e w4 ⟨rfl, hb_⟩; rw [← HF.out]
      have hN_ := NG.out; rw [← hb_.block g4 (Array.getElem?_eq_some_iff.1 hN_).1] at hN_; clear NG; have NG := hid hN_; clear hN_
      clear cg_0
      clear cg_1
      clear cg_2
      replace Bg := Bg.belowS hb_
      clear cg'_0
      clear cg'_1
      clear cg'_2
      replace Bg' := Bg'.belowS hb_
      replace hb := bt hb hb_
      clear hb_
      have cg_0 : w4.cell? ⟨g, 0, none⟩ = some (.int .i64 2) := Bg.at rfl
      have cg_1 : w4.cell? ⟨g, 1, none⟩ = some (.string k) := Bg.at rfl
      have cg_2 : w4.cell? ⟨g, 2, none⟩ = some (.string v) := Bg.at rfl
      have cg'_0 : w4.cell? ⟨g', 0, none⟩ = some (.int .i64 3) := Bg'.at rfl
      have cg'_1 : w4.cell? ⟨g', 1, none⟩ = some (.string k) := Bg'.at rfl
      have cg'_2 : w4.cell? ⟨g', 2, none⟩ = some (.string v') := Bg'.at rfl
      go_wp2_with fail
      refine (msg_isNot_any 3 k v' _).mono ?_; rintro e w5 ⟨rfl, hb_⟩; rw [← HF'.out]
      have hN_ := NG.out; rw [← hb_.block g4 (Array.getElem?_eq_some_iff.1 hN_).1] at hN_; clear NG; have NG := hid hN_; clear hN_
      clear cg_0
      clear cg_1
      clear cg_2
      replace Bg := Bg.belowS hb_
      clear cg'_0
      clear cg'_1
      clear cg'_2
      replace Bg' := Bg'.belowS hb_
      replace hb := bt hb hb_
      clear hb_
      have cg_0 : w5.cell? ⟨g, 0, none⟩ = some (.int .i64 2) := Bg.at rfl
      have cg_1 : w5.cell? ⟨g, 1, none⟩ = some (.string k) := Bg.at rfl
      have cg_2 : w5.cell? ⟨g, 2, none⟩ = some (.string v) := Bg.at rfl
      have cg'_0 : w5.cell? ⟨g', 0, none⟩ = some (.int .i64 3) := Bg'.at rfl
      have cg'_1 : w5.cell? ⟨g', 1, none⟩ = some (.string k) := Bg'.at rfl
      have cg'_2 : w5.cell? ⟨g', 2, none⟩ = some (.string v') := Bg'.at rfl
      go_wp2_with fail
      refine (msg_OfPut_any k v' _).mono ?_; rintro e w6 ⟨rfl, hb_⟩
      have hN_ := NG.out; rw [← hb_.block g4 (Array.getElem?_eq_some_iff.1 hN_).1] at hN_; clear NG; have NG := hid hN_; clear hN_
      clear cg_0
      clear cg_1
      clear cg_2
      replace Bg := Bg.belowS hb_
      clear cg'_0
      clear cg'_1
      clear cg'_2
      replace Bg' := Bg'.belowS hb_
      replace hb := bt hb hb_
      clear hb_
      have cg_0 : w6.cell? ⟨g, 0, none⟩ = some (.int .i64 2) := Bg.at rfl
      have cg_1 : w6.cell? ⟨g, 1, none⟩ = some (.string k) := Bg.at rfl
      have cg_2 : w6.cell? ⟨g, 2, none⟩ = some (.string v) := Bg.at rfl
      have cg'_0 : w6.cell? ⟨g', 0, none⟩ = some (.int .i64 3) := Bg'.at rfl
      have cg'_1 : w6.cell? ⟨g', 1, none⟩ = some (.string k) := Bg'.at rfl
      have cg'_2 : w6.cell? ⟨g', 2, none⟩ = some (.string v') := Bg'.at rfl
      go_wp2_with (with_reducible refine at_op (.store 23 (.tmp 4) (.tmp 34)) rfl ?_; refine Stopped.go ?_)
      refine Stopped.mk (wpList_store_row_k rfl _ _ _ rfl g4 #[.int .i64 1, .string k, .string v'] rfl rfl _ _ NG.out (by kernel_rfl) rfl (by simp [Value.oneCell']) ?_)
      intro w9 h9 hb9 _
      have HB := hid (hb.trans (hb9 _ HGE.out)); have H9 := hid h9
      clear h9 hb9 hb NG
      go_wp2_with fail
      (try simp only [Exit.inBlock, Exit.then])
      exact bodyPost_ret (results_cell_row_tmp rfl _ _ g4 _ _ (0, 0) _ rfl H9.out Try.underlying23 rfl (by kernel_rfl)) rfl ⟨rfl, HB.out⟩
    · rw [if_neg h2] at hq
      have e2 : (K == 2) = false := by simpa using h2
      go_enter Try.func24, Try.ntmps24
      go_wp2_with (with_reducible refine at_op (.box 23 (.tmp 0)) rfl ?_; refine Stopped.go ?_)
      refine Stopped.mk (wpList_box rfl #[.int .i64 K, .string k, .string v] 23 (by go_simp) ?_)
      intro g w1 hg_ Bg hb_ hz_
      have hb := hb_
      have HGG := hid (show w.heap.size ≤ g by omega)
      clear hg_ hz_ hb_
      go_wp2_with (with_reducible refine at_op (.box 23 (.tmp 1)) rfl ?_; refine Stopped.go ?_)
      refine Stopped.mk (wpList_box rfl #[.int .i64 3, .string k, .string v'] 23 (by go_simp) ?_)
      intro g' w2 hg_ Bg' hb_ hz_
      replace Bg := Bg.belowS hb_
      replace hb := bt hb hb_
      clear hg_ hz_ hb_
      have hA := below_alloc w2 (.cells #[.int .i64 0, .string ⟨#[]⟩, .string ⟨#[]⟩] 23)
      have hN : (w2.alloc (.cells #[.int .i64 0, .string ⟨#[]⟩, .string ⟨#[]⟩] 23)).heap[w2.heap.size]? = some (.cells #[.int .i64 0, .string ⟨#[]⟩, .string ⟨#[]⟩] 23 (0, 0)) := heap_alloc_new w2 _
      obtain ⟨g4, hg4⟩ : ∃ g4, g4 = w2.heap.size := ⟨_, rfl⟩
      have hge : w.heap.size ≤ g4 := by rw [hg4]; exact hb.size
      have HGN := hid (show g4 ≠ g by have := Bg.lt; omega)
      have HGN' := hid (show g4 ≠ g' by have := Bg'.lt; omega)
      replace Bg := Bg.belowS hA; replace Bg' := Bg'.belowS hA; replace hb := bt hb hA
      rw [← hg4] at hN
      have HG4 := hid hg4; have HGE := hid hge; have NG := hid hN; clear hg4 hA hge hN
      have cg_0 : (w2.alloc (.cells #[.int .i64 0, .string ⟨#[]⟩, .string ⟨#[]⟩] 23)).cell? ⟨g, 0, none⟩ = some (.int .i64 K) := Bg.at rfl
      have cg_1 : (w2.alloc (.cells #[.int .i64 0, .string ⟨#[]⟩, .string ⟨#[]⟩] 23)).cell? ⟨g, 1, none⟩ = some (.string k) := Bg.at rfl
      have cg_2 : (w2.alloc (.cells #[.int .i64 0, .string ⟨#[]⟩, .string ⟨#[]⟩] 23)).cell? ⟨g, 2, none⟩ = some (.string v) := Bg.at rfl
      have cg'_0 : (w2.alloc (.cells #[.int .i64 0, .string ⟨#[]⟩, .string ⟨#[]⟩] 23)).cell? ⟨g', 0, none⟩ = some (.int .i64 3) := Bg'.at rfl
      have cg'_1 : (w2.alloc (.cells #[.int .i64 0, .string ⟨#[]⟩, .string ⟨#[]⟩] 23)).cell? ⟨g', 1, none⟩ = some (.string k) := Bg'.at rfl
      have cg'_2 : (w2.alloc (.cells #[.int .i64 0, .string ⟨#[]⟩, .string ⟨#[]⟩] 23)).cell? ⟨g', 2, none⟩ = some (.string v') := Bg'.at rfl
      go_wp2_with fail
      rw [← HG4.out]
      clear HG4
      generalize (w2.alloc (.cells #[.int .i64 0, .string ⟨#[]⟩, .string ⟨#[]⟩] 23)) = w3 at *
      refine (msg_isNot_any K k v _).mono ?_; rintro e w4 ⟨rfl, hb_⟩; rw [← HF.out]
      have hN_ := NG.out; rw [← hb_.block g4 (Array.getElem?_eq_some_iff.1 hN_).1] at hN_; clear NG; have NG := hid hN_; clear hN_
      clear cg_0
      clear cg_1
      clear cg_2
      replace Bg := Bg.belowS hb_
      clear cg'_0
      clear cg'_1
      clear cg'_2
      replace Bg' := Bg'.belowS hb_
      replace hb := bt hb hb_
      clear hb_
      have cg_0 : w4.cell? ⟨g, 0, none⟩ = some (.int .i64 K) := Bg.at rfl
      have cg_1 : w4.cell? ⟨g, 1, none⟩ = some (.string k) := Bg.at rfl
      have cg_2 : w4.cell? ⟨g, 2, none⟩ = some (.string v) := Bg.at rfl
      have cg'_0 : w4.cell? ⟨g', 0, none⟩ = some (.int .i64 3) := Bg'.at rfl
      have cg'_1 : w4.cell? ⟨g', 1, none⟩ = some (.string k) := Bg'.at rfl
      have cg'_2 : w4.cell? ⟨g', 2, none⟩ = some (.string v') := Bg'.at rfl
      go_wp2_with fail
      refine (msg_isNot_any 3 k v' _).mono ?_; rintro e w5 ⟨rfl, hb_⟩; rw [← HF'.out]
      have hN_ := NG.out; rw [← hb_.block g4 (Array.getElem?_eq_some_iff.1 hN_).1] at hN_; clear NG; have NG := hid hN_; clear hN_
      clear cg_0
      clear cg_1
      clear cg_2
      replace Bg := Bg.belowS hb_
      clear cg'_0
      clear cg'_1
      clear cg'_2
      replace Bg' := Bg'.belowS hb_
      replace hb := bt hb hb_
      clear hb_
      have cg_0 : w5.cell? ⟨g, 0, none⟩ = some (.int .i64 K) := Bg.at rfl
      have cg_1 : w5.cell? ⟨g, 1, none⟩ = some (.string k) := Bg.at rfl
      have cg_2 : w5.cell? ⟨g, 2, none⟩ = some (.string v) := Bg.at rfl
      have cg'_0 : w5.cell? ⟨g', 0, none⟩ = some (.int .i64 3) := Bg'.at rfl
      have cg'_1 : w5.cell? ⟨g', 1, none⟩ = some (.string k) := Bg'.at rfl
      have cg'_2 : w5.cell? ⟨g', 2, none⟩ = some (.string v') := Bg'.at rfl
      go_wp2_with fail
      refine (msg_sum_any v v' _).mono ?_; rintro e w6 ⟨rfl, hb_⟩
      have hN_ := NG.out; rw [← hb_.block g4 (Array.getElem?_eq_some_iff.1 hN_).1] at hN_; clear NG; have NG := hid hN_; clear hN_
      clear cg_0
      clear cg_1
      clear cg_2
      replace Bg := Bg.belowS hb_
      clear cg'_0
      clear cg'_1
      clear cg'_2
      replace Bg' := Bg'.belowS hb_
      replace hb := bt hb hb_
      clear hb_
      have cg_0 : w6.cell? ⟨g, 0, none⟩ = some (.int .i64 K) := Bg.at rfl
      have cg_1 : w6.cell? ⟨g, 1, none⟩ = some (.string k) := Bg.at rfl
      have cg_2 : w6.cell? ⟨g, 2, none⟩ = some (.string v) := Bg.at rfl
      have cg'_0 : w6.cell? ⟨g', 0, none⟩ = some (.int .i64 3) := Bg'.at rfl
      have cg'_1 : w6.cell? ⟨g', 1, none⟩ = some (.string k) := Bg'.at rfl
      have cg'_2 : w6.cell? ⟨g', 2, none⟩ = some (.string v') := Bg'.at rfl
      obtain ⟨s, hs⟩ : ∃ s, s = sumK v v' := ⟨_, rfl⟩
      rw [← hs]
      have HS := hid hs; clear hs
      have hbg : w.heap.size ≤ g := HGG.out
      have hgg4 : g4 ≠ g := HGN.out
      have f2 : w6.frozen? ⟨g, 2, none⟩ = false := Bg.free (by simp)
      have BG := hid (Bg.set 2 (.string s))
      have HK := hid ((Keeps.refl [g] w6).setCell (p := ⟨g, 2, none⟩) (by simp) (.string s))
      go_wp2_with (with_reducible refine at_op (.load 23 (.tmp 2)) rfl ?_; refine Stopped.go ?_)
      have hg4 : g4 < w6.heap.size := (Array.getElem?_eq_some_iff.1 NG.out).1
      have hb7 := Keeps.below1 hb HK.out HGG.out
      have hN7 := NG.out
      rw [← HK.out.block g4 hg4 (by simp; exact hgg4)] at hN7
      have Bg := BG.out
      clear cg_0 cg_1 cg_2 cg'_0 cg'_1 cg'_2 Bg' f2 BG HK hg4 NG hb
      generalize w6.setCell ⟨g, 2, none⟩ (.string s) = w7 at hb7 hN7 Bg ⊢
      have hb := hb7
      have NG := hid hN7
      have cg_0 : w7.cell? ⟨g, 0, none⟩ = some (.int .i64 K) := Bg.at rfl
      have cg_1 : w7.cell? ⟨g, 1, none⟩ = some (.string k) := Bg.at rfl
      have cg_2 : w7.cell? ⟨g, 2, none⟩ = some (.string s) := Bg.at rfl
      clear Bg hN7 hb7
      refine Stopped.mk ?_

      go_wp2_with (with_reducible refine at_op (.store 23 (.tmp 4) (.tmp 41)) rfl ?_; refine Stopped.go ?_)
      refine Stopped.mk (wpList_store_row_k rfl _ _ _ rfl g4 #[.int .i64 K, .string k, .string s] rfl rfl _ _ NG.out (by kernel_rfl) rfl (by simp [Value.oneCell']) ?_)
      intro w9 h9 hb9 _
      have HB := hid (hb.trans (hb9 _ HGE.out)); have H9 := hid h9
      clear h9 hb9 hb NG
      go_wp2_with fail
      (try simp only [Exit.inBlock, Exit.then])
      exact bodyPost_ret (results_cell_row_tmp rfl _ _ g4 _ _ (0, 0) _ rfl H9.out Try.underlying23 rfl (by kernel_rfl)) rfl ⟨by rw [HS.out]; rfl, HB.out⟩
  · rw [if_neg h3] at hq
    have e3 : (K' != 3) = true := by simpa using h3
    subst hq
    go_enter Try.func24, Try.ntmps24
    go_wp2_with (with_reducible refine at_op (.box 23 (.tmp 0)) rfl ?_; refine Stopped.go ?_)
    refine Stopped.mk (wpList_box rfl #[.int .i64 K, .string k, .string v] 23 (by go_simp) ?_)
    intro g w1 hg_ Bg hb_ hz_
    have hb := hb_
    have HGG := hid (show w.heap.size ≤ g by omega)
    clear hg_ hz_ hb_
    go_wp2_with (with_reducible refine at_op (.box 23 (.tmp 1)) rfl ?_; refine Stopped.go ?_)
    refine Stopped.mk (wpList_box rfl #[.int .i64 K', .string k, .string v'] 23 (by go_simp) ?_)
    intro g' w2 hg_ Bg' hb_ hz_
    replace Bg := Bg.belowS hb_
    replace hb := bt hb hb_
    clear hg_ hz_ hb_
    have hA := below_alloc w2 (.cells #[.int .i64 0, .string ⟨#[]⟩, .string ⟨#[]⟩] 23)
    have hN : (w2.alloc (.cells #[.int .i64 0, .string ⟨#[]⟩, .string ⟨#[]⟩] 23)).heap[w2.heap.size]? = some (.cells #[.int .i64 0, .string ⟨#[]⟩, .string ⟨#[]⟩] 23 (0, 0)) := heap_alloc_new w2 _
    obtain ⟨g4, hg4⟩ : ∃ g4, g4 = w2.heap.size := ⟨_, rfl⟩
    have hge : w.heap.size ≤ g4 := by rw [hg4]; exact hb.size
    have HGN := hid (show g4 ≠ g by have := Bg.lt; omega)
    have HGN' := hid (show g4 ≠ g' by have := Bg'.lt; omega)
    replace Bg := Bg.belowS hA; replace Bg' := Bg'.belowS hA; replace hb := bt hb hA
    rw [← hg4] at hN
    have HG4 := hid hg4; have HGE := hid hge; have NG := hid hN; clear hg4 hA hge hN
    have cg_0 : (w2.alloc (.cells #[.int .i64 0, .string ⟨#[]⟩, .string ⟨#[]⟩] 23)).cell? ⟨g, 0, none⟩ = some (.int .i64 K) := Bg.at rfl
    have cg_1 : (w2.alloc (.cells #[.int .i64 0, .string ⟨#[]⟩, .string ⟨#[]⟩] 23)).cell? ⟨g, 1, none⟩ = some (.string k) := Bg.at rfl
    have cg_2 : (w2.alloc (.cells #[.int .i64 0, .string ⟨#[]⟩, .string ⟨#[]⟩] 23)).cell? ⟨g, 2, none⟩ = some (.string v) := Bg.at rfl
    have cg'_0 : (w2.alloc (.cells #[.int .i64 0, .string ⟨#[]⟩, .string ⟨#[]⟩] 23)).cell? ⟨g', 0, none⟩ = some (.int .i64 K') := Bg'.at rfl
    have cg'_1 : (w2.alloc (.cells #[.int .i64 0, .string ⟨#[]⟩, .string ⟨#[]⟩] 23)).cell? ⟨g', 1, none⟩ = some (.string k) := Bg'.at rfl
    have cg'_2 : (w2.alloc (.cells #[.int .i64 0, .string ⟨#[]⟩, .string ⟨#[]⟩] 23)).cell? ⟨g', 2, none⟩ = some (.string v') := Bg'.at rfl
    go_wp2_with fail
    rw [← HG4.out]
    clear HG4
    generalize (w2.alloc (.cells #[.int .i64 0, .string ⟨#[]⟩, .string ⟨#[]⟩] 23)) = w3 at *
    refine (msg_isNot_any K k v _).mono ?_; rintro e w4 ⟨rfl, hb_⟩; rw [← HF.out]
    have hN_ := NG.out; rw [← hb_.block g4 (Array.getElem?_eq_some_iff.1 hN_).1] at hN_; clear NG; have NG := hid hN_; clear hN_
    clear cg_0
    clear cg_1
    clear cg_2
    replace Bg := Bg.belowS hb_
    clear cg'_0
    clear cg'_1
    clear cg'_2
    replace Bg' := Bg'.belowS hb_
    replace hb := bt hb hb_
    clear hb_
    have cg_0 : w4.cell? ⟨g, 0, none⟩ = some (.int .i64 K) := Bg.at rfl
    have cg_1 : w4.cell? ⟨g, 1, none⟩ = some (.string k) := Bg.at rfl
    have cg_2 : w4.cell? ⟨g, 2, none⟩ = some (.string v) := Bg.at rfl
    have cg'_0 : w4.cell? ⟨g', 0, none⟩ = some (.int .i64 K') := Bg'.at rfl
    have cg'_1 : w4.cell? ⟨g', 1, none⟩ = some (.string k) := Bg'.at rfl
    have cg'_2 : w4.cell? ⟨g', 2, none⟩ = some (.string v') := Bg'.at rfl
    go_wp2_with fail
    refine (msg_isNot_any K' k v' _).mono ?_; rintro e w5 ⟨rfl, hb_⟩; rw [← HF'.out]
    have hN_ := NG.out; rw [← hb_.block g4 (Array.getElem?_eq_some_iff.1 hN_).1] at hN_; clear NG; have NG := hid hN_; clear hN_
    clear cg_0
    clear cg_1
    clear cg_2
    replace Bg := Bg.belowS hb_
    clear cg'_0
    clear cg'_1
    clear cg'_2
    replace Bg' := Bg'.belowS hb_
    replace hb := bt hb hb_
    clear hb_
    have cg_0 : w5.cell? ⟨g, 0, none⟩ = some (.int .i64 K) := Bg.at rfl
    have cg_1 : w5.cell? ⟨g, 1, none⟩ = some (.string k) := Bg.at rfl
    have cg_2 : w5.cell? ⟨g, 2, none⟩ = some (.string v) := Bg.at rfl
    have cg'_0 : w5.cell? ⟨g', 0, none⟩ = some (.int .i64 K') := Bg'.at rfl
    have cg'_1 : w5.cell? ⟨g', 1, none⟩ = some (.string k) := Bg'.at rfl
    have cg'_2 : w5.cell? ⟨g', 2, none⟩ = some (.string v') := Bg'.at rfl
    go_wp2_with (with_reducible refine at_op (.store 23 (.tmp 4) (.tmp 25)) rfl ?_; refine Stopped.go ?_)
    refine Stopped.mk (wpList_store_row_k rfl _ _ _ rfl g4 #[.int .i64 K', .string k, .string v'] rfl rfl _ _ NG.out (by kernel_rfl) rfl (by simp [Value.oneCell']) ?_)
    intro w9 h9 hb9 _
    have HB := hid (hb.trans (hb9 _ HGE.out)); have H9 := hid h9
    clear h9 hb9 hb NG
    go_wp2_with fail
    (try simp only [Exit.inBlock, Exit.then])
    exact bodyPost_ret (results_cell_row_tmp rfl _ _ g4 _ _ (0, 0) _ rfl H9.out Try.underlying23 rfl (by kernel_rfl)) rfl ⟨rfl, HB.out⟩

set_option maxHeartbeats 8000000 in
set_option maxRecDepth 100000 in
theorem ref_Then_any (K : Int) (k v : ByteArray) (K' : Int) (k' v' : ByteArray) (w : World) :
    Calls Try.prog 25 #[.agg #[.int .i64 K, .string k, .string v], .agg #[.int .i64 K', .string k', .string v']] w fun e w' => e = .returned (.tuple #[.agg #[.int .i64 (thenM K k v K' k' v').1, .string (thenM K k v K' k' v').2.1, .string (thenM K k v K' k' v').2.2], .bool (thenIs K k v K' k' v')]) ∧ Below w.heap.size w w' := by
  obtain ⟨f, hf⟩ : ∃ f, f = msgIs K k v := ⟨_, rfl⟩
  obtain ⟨f', hf'⟩ : ∃ f, f = msgIs K' k' v' := ⟨_, rfl⟩
  have HF := hid hf; have HF' := hid hf'; clear hf hf'
  cases f with
  | false =>
    have ht : thenM K k v K' k' v' = (0, ⟨#[]⟩, ⟨#[]⟩) := by unfold thenM; rw [← HF.out]; rfl
    have hi : thenIs K k v K' k' v' = false := by unfold thenIs; rw [← HF.out]; rfl
    rw [ht, hi]
    clear ht hi
    go_enter Try.func25, Try.ntmps25
    go_wp2_with (with_reducible refine at_op (.box 23 (.tmp 0)) rfl ?_; refine Stopped.go ?_)
    refine Stopped.mk (wpList_box rfl #[.int .i64 K, .string k, .string v] 23 (by go_simp) ?_)
    intro g w1 hg_ Bg hb_ hz_
    have hb := hb_
    have HGG := hid (show w.heap.size ≤ g by omega)
    clear hg_ hz_ hb_
    go_wp2_with (with_reducible refine at_op (.box 23 (.tmp 1)) rfl ?_; refine Stopped.go ?_)
    refine Stopped.mk (wpList_box rfl #[.int .i64 K', .string k', .string v'] 23 (by go_simp) ?_)
    intro g' w2 hg_ Bg' hb_ hz_
    replace Bg := Bg.belowS hb_
    replace hb := bt hb hb_
    clear hg_ hz_ hb_
    have hA := below_alloc w2 (.cells #[.int .i64 0, .string ⟨#[]⟩, .string ⟨#[]⟩] 23)
    have hN : (w2.alloc (.cells #[.int .i64 0, .string ⟨#[]⟩, .string ⟨#[]⟩] 23)).heap[w2.heap.size]? = some (.cells #[.int .i64 0, .string ⟨#[]⟩, .string ⟨#[]⟩] 23 (0, 0)) := heap_alloc_new w2 _
    obtain ⟨g4, hg4⟩ : ∃ g4, g4 = w2.heap.size := ⟨_, rfl⟩
    have hge : w.heap.size ≤ g4 := by rw [hg4]; exact hb.size
    have HGN := hid (show g4 ≠ g by have := Bg.lt; omega)
    have HGN' := hid (show g4 ≠ g' by have := Bg'.lt; omega)
    replace Bg := Bg.belowS hA; replace Bg' := Bg'.belowS hA; replace hb := bt hb hA
    rw [← hg4] at hN
    have HG4 := hid hg4; have HGE := hid hge; have NG := hid hN; clear hg4 hA hge hN
    have cg_0 : (w2.alloc (.cells #[.int .i64 0, .string ⟨#[]⟩, .string ⟨#[]⟩] 23)).cell? ⟨g, 0, none⟩ = some (.int .i64 K) := Bg.at rfl
    have cg_1 : (w2.alloc (.cells #[.int .i64 0, .string ⟨#[]⟩, .string ⟨#[]⟩] 23)).cell? ⟨g, 1, none⟩ = some (.string k) := Bg.at rfl
    have cg_2 : (w2.alloc (.cells #[.int .i64 0, .string ⟨#[]⟩, .string ⟨#[]⟩] 23)).cell? ⟨g, 2, none⟩ = some (.string v) := Bg.at rfl
    have cg'_0 : (w2.alloc (.cells #[.int .i64 0, .string ⟨#[]⟩, .string ⟨#[]⟩] 23)).cell? ⟨g', 0, none⟩ = some (.int .i64 K') := Bg'.at rfl
    have cg'_1 : (w2.alloc (.cells #[.int .i64 0, .string ⟨#[]⟩, .string ⟨#[]⟩] 23)).cell? ⟨g', 1, none⟩ = some (.string k') := Bg'.at rfl
    have cg'_2 : (w2.alloc (.cells #[.int .i64 0, .string ⟨#[]⟩, .string ⟨#[]⟩] 23)).cell? ⟨g', 2, none⟩ = some (.string v') := Bg'.at rfl
    go_wp2_with fail
    rw [← HG4.out]
    clear HG4
    generalize (w2.alloc (.cells #[.int .i64 0, .string ⟨#[]⟩, .string ⟨#[]⟩] 23)) = w3 at *
    refine (ref_Is_any K k v _).mono ?_; rintro e w4 ⟨rfl, hb_⟩; rw [← HF.out]
    have hN_ := NG.out; rw [← hb_.block g4 (Array.getElem?_eq_some_iff.1 hN_).1] at hN_; clear NG; have NG := hid hN_; clear hN_
    clear cg_0
    clear cg_1
    clear cg_2
    replace Bg := Bg.belowS hb_
    clear cg'_0
    clear cg'_1
    clear cg'_2
    replace Bg' := Bg'.belowS hb_
    replace hb := bt hb hb_
    clear hb_
    have cg_0 : w4.cell? ⟨g, 0, none⟩ = some (.int .i64 K) := Bg.at rfl
    have cg_1 : w4.cell? ⟨g, 1, none⟩ = some (.string k) := Bg.at rfl
    have cg_2 : w4.cell? ⟨g, 2, none⟩ = some (.string v) := Bg.at rfl
    have cg'_0 : w4.cell? ⟨g', 0, none⟩ = some (.int .i64 K') := Bg'.at rfl
    have cg'_1 : w4.cell? ⟨g', 1, none⟩ = some (.string k') := Bg'.at rfl
    have cg'_2 : w4.cell? ⟨g', 2, none⟩ = some (.string v') := Bg'.at rfl
    go_wp2_with (with_reducible refine at_op (.store 23 (.tmp 4) (.tmp 23)) rfl ?_; refine Stopped.go ?_)
    refine Stopped.mk (wpList_store_row_k rfl _ _ _ rfl g4 #[.int .i64 0, .string ⟨#[]⟩, .string ⟨#[]⟩] rfl rfl _ _ NG.out (by kernel_rfl) rfl (by simp [Value.oneCell']) ?_)
    intro w9 h9 hb9 _
    have HB := hid (hb.trans (hb9 _ HGE.out)); have H9 := hid h9
    clear h9 hb9 hb NG
    go_wp2_with fail
    (try simp only [Exit.inBlock, Exit.then])
    exact bodyPost_ret (results_cell_row_tmp rfl _ _ g4 _ _ (0, 0) _ rfl H9.out Try.underlying23 rfl (by kernel_rfl)) rfl ⟨rfl, HB.out⟩
  | true =>
  cases f' with
  | false =>
    have ht : thenM K k v K' k' v' = (0, ⟨#[]⟩, ⟨#[]⟩) := by unfold thenM; rw [← HF.out, ← HF'.out]; rfl
    have hi : thenIs K k v K' k' v' = false := by unfold thenIs; rw [← HF.out, ← HF'.out]; rfl
    rw [ht, hi]
    clear ht hi
    go_enter Try.func25, Try.ntmps25
    go_wp2_with (with_reducible refine at_op (.box 23 (.tmp 0)) rfl ?_; refine Stopped.go ?_)
    refine Stopped.mk (wpList_box rfl #[.int .i64 K, .string k, .string v] 23 (by go_simp) ?_)
    intro g w1 hg_ Bg hb_ hz_
    have hb := hb_
    have HGG := hid (show w.heap.size ≤ g by omega)
    clear hg_ hz_ hb_
    go_wp2_with (with_reducible refine at_op (.box 23 (.tmp 1)) rfl ?_; refine Stopped.go ?_)
    refine Stopped.mk (wpList_box rfl #[.int .i64 K', .string k', .string v'] 23 (by go_simp) ?_)
    intro g' w2 hg_ Bg' hb_ hz_
    replace Bg := Bg.belowS hb_
    replace hb := bt hb hb_
    clear hg_ hz_ hb_
    have hA := below_alloc w2 (.cells #[.int .i64 0, .string ⟨#[]⟩, .string ⟨#[]⟩] 23)
    have hN : (w2.alloc (.cells #[.int .i64 0, .string ⟨#[]⟩, .string ⟨#[]⟩] 23)).heap[w2.heap.size]? = some (.cells #[.int .i64 0, .string ⟨#[]⟩, .string ⟨#[]⟩] 23 (0, 0)) := heap_alloc_new w2 _
    obtain ⟨g4, hg4⟩ : ∃ g4, g4 = w2.heap.size := ⟨_, rfl⟩
    have hge : w.heap.size ≤ g4 := by rw [hg4]; exact hb.size
    have HGN := hid (show g4 ≠ g by have := Bg.lt; omega)
    have HGN' := hid (show g4 ≠ g' by have := Bg'.lt; omega)
    replace Bg := Bg.belowS hA; replace Bg' := Bg'.belowS hA; replace hb := bt hb hA
    rw [← hg4] at hN
    have HG4 := hid hg4; have HGE := hid hge; have NG := hid hN; clear hg4 hA hge hN
    have cg_0 : (w2.alloc (.cells #[.int .i64 0, .string ⟨#[]⟩, .string ⟨#[]⟩] 23)).cell? ⟨g, 0, none⟩ = some (.int .i64 K) := Bg.at rfl
    have cg_1 : (w2.alloc (.cells #[.int .i64 0, .string ⟨#[]⟩, .string ⟨#[]⟩] 23)).cell? ⟨g, 1, none⟩ = some (.string k) := Bg.at rfl
    have cg_2 : (w2.alloc (.cells #[.int .i64 0, .string ⟨#[]⟩, .string ⟨#[]⟩] 23)).cell? ⟨g, 2, none⟩ = some (.string v) := Bg.at rfl
    have cg'_0 : (w2.alloc (.cells #[.int .i64 0, .string ⟨#[]⟩, .string ⟨#[]⟩] 23)).cell? ⟨g', 0, none⟩ = some (.int .i64 K') := Bg'.at rfl
    have cg'_1 : (w2.alloc (.cells #[.int .i64 0, .string ⟨#[]⟩, .string ⟨#[]⟩] 23)).cell? ⟨g', 1, none⟩ = some (.string k') := Bg'.at rfl
    have cg'_2 : (w2.alloc (.cells #[.int .i64 0, .string ⟨#[]⟩, .string ⟨#[]⟩] 23)).cell? ⟨g', 2, none⟩ = some (.string v') := Bg'.at rfl
    go_wp2_with fail
    rw [← HG4.out]
    clear HG4
    generalize (w2.alloc (.cells #[.int .i64 0, .string ⟨#[]⟩, .string ⟨#[]⟩] 23)) = w3 at *
    refine (ref_Is_any K k v _).mono ?_; rintro e w4 ⟨rfl, hb_⟩; rw [← HF.out]
    have hN_ := NG.out; rw [← hb_.block g4 (Array.getElem?_eq_some_iff.1 hN_).1] at hN_; clear NG; have NG := hid hN_; clear hN_
    clear cg_0
    clear cg_1
    clear cg_2
    replace Bg := Bg.belowS hb_
    clear cg'_0
    clear cg'_1
    clear cg'_2
    replace Bg' := Bg'.belowS hb_
    replace hb := bt hb hb_
    clear hb_
    have cg_0 : w4.cell? ⟨g, 0, none⟩ = some (.int .i64 K) := Bg.at rfl
    have cg_1 : w4.cell? ⟨g, 1, none⟩ = some (.string k) := Bg.at rfl
    have cg_2 : w4.cell? ⟨g, 2, none⟩ = some (.string v) := Bg.at rfl
    have cg'_0 : w4.cell? ⟨g', 0, none⟩ = some (.int .i64 K') := Bg'.at rfl
    have cg'_1 : w4.cell? ⟨g', 1, none⟩ = some (.string k') := Bg'.at rfl
    have cg'_2 : w4.cell? ⟨g', 2, none⟩ = some (.string v') := Bg'.at rfl
    go_wp2_with fail
    refine (ref_Is_any K' k' v' _).mono ?_; rintro e w5 ⟨rfl, hb_⟩; rw [← HF'.out]
    have hN_ := NG.out; rw [← hb_.block g4 (Array.getElem?_eq_some_iff.1 hN_).1] at hN_; clear NG; have NG := hid hN_; clear hN_
    clear cg_0
    clear cg_1
    clear cg_2
    replace Bg := Bg.belowS hb_
    clear cg'_0
    clear cg'_1
    clear cg'_2
    replace Bg' := Bg'.belowS hb_
    replace hb := bt hb hb_
    clear hb_
    have cg_0 : w5.cell? ⟨g, 0, none⟩ = some (.int .i64 K) := Bg.at rfl
    have cg_1 : w5.cell? ⟨g, 1, none⟩ = some (.string k) := Bg.at rfl
    have cg_2 : w5.cell? ⟨g, 2, none⟩ = some (.string v) := Bg.at rfl
    have cg'_0 : w5.cell? ⟨g', 0, none⟩ = some (.int .i64 K') := Bg'.at rfl
    have cg'_1 : w5.cell? ⟨g', 1, none⟩ = some (.string k') := Bg'.at rfl
    have cg'_2 : w5.cell? ⟨g', 2, none⟩ = some (.string v') := Bg'.at rfl
    go_wp2_with (with_reducible refine at_op (.store 23 (.tmp 4) (.tmp 23)) rfl ?_; refine Stopped.go ?_)
    refine Stopped.mk (wpList_store_row_k rfl _ _ _ rfl g4 #[.int .i64 0, .string ⟨#[]⟩, .string ⟨#[]⟩] rfl rfl _ _ NG.out (by kernel_rfl) rfl (by simp [Value.oneCell']) ?_)
    intro w9 h9 hb9 _
    have HB := hid (hb.trans (hb9 _ HGE.out)); have H9 := hid h9
    clear h9 hb9 hb NG
    go_wp2_with fail
    (try simp only [Exit.inBlock, Exit.then])
    exact bodyPost_ret (results_cell_row_tmp rfl _ _ g4 _ _ (0, 0) _ rfl H9.out Try.underlying23 rfl (by kernel_rfl)) rfl ⟨rfl, HB.out⟩
  | true =>
  cases hkk : (k.toList == k'.toList) with
  | false =>
    have ht : thenM K k v K' k' v' = (0, ⟨#[]⟩, ⟨#[]⟩) := by unfold thenM; rw [← HF.out, ← HF'.out, hkk]; rfl
    have hi : thenIs K k v K' k' v' = false := by unfold thenIs; rw [← HF.out, ← HF'.out, hkk]; rfl
    rw [ht, hi]
    clear ht hi
    go_enter Try.func25, Try.ntmps25
    go_wp2_with (with_reducible refine at_op (.box 23 (.tmp 0)) rfl ?_; refine Stopped.go ?_)
    refine Stopped.mk (wpList_box rfl #[.int .i64 K, .string k, .string v] 23 (by go_simp) ?_)
    intro g w1 hg_ Bg hb_ hz_
    have hb := hb_
    have HGG := hid (show w.heap.size ≤ g by omega)
    clear hg_ hz_ hb_
    go_wp2_with (with_reducible refine at_op (.box 23 (.tmp 1)) rfl ?_; refine Stopped.go ?_)
    refine Stopped.mk (wpList_box rfl #[.int .i64 K', .string k', .string v'] 23 (by go_simp) ?_)
    intro g' w2 hg_ Bg' hb_ hz_
    replace Bg := Bg.belowS hb_
    replace hb := bt hb hb_
    clear hg_ hz_ hb_
    have hA := below_alloc w2 (.cells #[.int .i64 0, .string ⟨#[]⟩, .string ⟨#[]⟩] 23)
    have hN : (w2.alloc (.cells #[.int .i64 0, .string ⟨#[]⟩, .string ⟨#[]⟩] 23)).heap[w2.heap.size]? = some (.cells #[.int .i64 0, .string ⟨#[]⟩, .string ⟨#[]⟩] 23 (0, 0)) := heap_alloc_new w2 _
    obtain ⟨g4, hg4⟩ : ∃ g4, g4 = w2.heap.size := ⟨_, rfl⟩
    have hge : w.heap.size ≤ g4 := by rw [hg4]; exact hb.size
    have HGN := hid (show g4 ≠ g by have := Bg.lt; omega)
    have HGN' := hid (show g4 ≠ g' by have := Bg'.lt; omega)
    replace Bg := Bg.belowS hA; replace Bg' := Bg'.belowS hA; replace hb := bt hb hA
    rw [← hg4] at hN
    have HG4 := hid hg4; have HGE := hid hge; have NG := hid hN; clear hg4 hA hge hN
    have cg_0 : (w2.alloc (.cells #[.int .i64 0, .string ⟨#[]⟩, .string ⟨#[]⟩] 23)).cell? ⟨g, 0, none⟩ = some (.int .i64 K) := Bg.at rfl
    have cg_1 : (w2.alloc (.cells #[.int .i64 0, .string ⟨#[]⟩, .string ⟨#[]⟩] 23)).cell? ⟨g, 1, none⟩ = some (.string k) := Bg.at rfl
    have cg_2 : (w2.alloc (.cells #[.int .i64 0, .string ⟨#[]⟩, .string ⟨#[]⟩] 23)).cell? ⟨g, 2, none⟩ = some (.string v) := Bg.at rfl
    have cg'_0 : (w2.alloc (.cells #[.int .i64 0, .string ⟨#[]⟩, .string ⟨#[]⟩] 23)).cell? ⟨g', 0, none⟩ = some (.int .i64 K') := Bg'.at rfl
    have cg'_1 : (w2.alloc (.cells #[.int .i64 0, .string ⟨#[]⟩, .string ⟨#[]⟩] 23)).cell? ⟨g', 1, none⟩ = some (.string k') := Bg'.at rfl
    have cg'_2 : (w2.alloc (.cells #[.int .i64 0, .string ⟨#[]⟩, .string ⟨#[]⟩] 23)).cell? ⟨g', 2, none⟩ = some (.string v') := Bg'.at rfl
    go_wp2_with fail
    rw [← HG4.out]
    clear HG4
    generalize (w2.alloc (.cells #[.int .i64 0, .string ⟨#[]⟩, .string ⟨#[]⟩] 23)) = w3 at *
    refine (ref_Is_any K k v _).mono ?_; rintro e w4 ⟨rfl, hb_⟩; rw [← HF.out]
    have hN_ := NG.out; rw [← hb_.block g4 (Array.getElem?_eq_some_iff.1 hN_).1] at hN_; clear NG; have NG := hid hN_; clear hN_
    clear cg_0
    clear cg_1
    clear cg_2
    replace Bg := Bg.belowS hb_
    clear cg'_0
    clear cg'_1
    clear cg'_2
    replace Bg' := Bg'.belowS hb_
    replace hb := bt hb hb_
    clear hb_
    have cg_0 : w4.cell? ⟨g, 0, none⟩ = some (.int .i64 K) := Bg.at rfl
    have cg_1 : w4.cell? ⟨g, 1, none⟩ = some (.string k) := Bg.at rfl
    have cg_2 : w4.cell? ⟨g, 2, none⟩ = some (.string v) := Bg.at rfl
    have cg'_0 : w4.cell? ⟨g', 0, none⟩ = some (.int .i64 K') := Bg'.at rfl
    have cg'_1 : w4.cell? ⟨g', 1, none⟩ = some (.string k') := Bg'.at rfl
    have cg'_2 : w4.cell? ⟨g', 2, none⟩ = some (.string v') := Bg'.at rfl
    go_wp2_with fail
    refine (ref_Is_any K' k' v' _).mono ?_; rintro e w5 ⟨rfl, hb_⟩; rw [← HF'.out]
    have hN_ := NG.out; rw [← hb_.block g4 (Array.getElem?_eq_some_iff.1 hN_).1] at hN_; clear NG; have NG := hid hN_; clear hN_
    clear cg_0
    clear cg_1
    clear cg_2
    replace Bg := Bg.belowS hb_
    clear cg'_0
    clear cg'_1
    clear cg'_2
    replace Bg' := Bg'.belowS hb_
    replace hb := bt hb hb_
    clear hb_
    have cg_0 : w5.cell? ⟨g, 0, none⟩ = some (.int .i64 K) := Bg.at rfl
    have cg_1 : w5.cell? ⟨g, 1, none⟩ = some (.string k) := Bg.at rfl
    have cg_2 : w5.cell? ⟨g, 2, none⟩ = some (.string v) := Bg.at rfl
    have cg'_0 : w5.cell? ⟨g', 0, none⟩ = some (.int .i64 K') := Bg'.at rfl
    have cg'_1 : w5.cell? ⟨g', 1, none⟩ = some (.string k') := Bg'.at rfl
    have cg'_2 : w5.cell? ⟨g', 2, none⟩ = some (.string v') := Bg'.at rfl
    go_wp2_with (with_reducible refine at_op (.store 23 (.tmp 4) (.tmp 23)) rfl ?_; refine Stopped.go ?_)
    refine Stopped.mk (wpList_store_row_k rfl _ _ _ rfl g4 #[.int .i64 0, .string ⟨#[]⟩, .string ⟨#[]⟩] rfl rfl _ _ NG.out (by kernel_rfl) rfl (by simp [Value.oneCell']) ?_)
    intro w9 h9 hb9 _
    have HB := hid (hb.trans (hb9 _ HGE.out)); have H9 := hid h9
    clear h9 hb9 hb NG
    go_wp2_with fail
    (try simp only [Exit.inBlock, Exit.then])
    exact bodyPost_ret (results_cell_row_tmp rfl _ _ g4 _ _ (0, 0) _ rfl H9.out Try.underlying23 rfl (by kernel_rfl)) rfl ⟨rfl, HB.out⟩
  | true =>
  have hki := ba_inj (beq_iff_eq.1 hkk)
  subst hki
  have hi : thenIs K k v K' k v' = true := by unfold thenIs; rw [← HF.out, ← HF'.out, hkk]; rfl
  have ht : thenM K k v K' k v' = (if K' = 3 then (if K = 2 then (1, k, v') else (K, k, sumK v v')) else (K', k, v')) := by unfold thenM; rw [← HF.out, ← HF'.out, hkk]; rfl
  rw [hi]
  obtain ⟨q, hq⟩ : ∃ q, q = thenM K k v K' k v' := ⟨_, rfl⟩
  rw [← hq]
  rw [ht] at hq
  clear ht hi hkk
  by_cases h3 : K' = 3
  · subst h3
    rw [if_pos rfl] at hq
    have hK := msgIs_kind HF.out.symm
    by_cases h33 : K = 3
    · subst h33
      rw [if_neg (by decide)] at hq
      have hs8 : sumK v v' = sum8 v v' := by unfold sumK; rw [msgIs_num HF.out.symm, msgIs_num HF'.out.symm]; rfl
      rw [hs8] at hq
      clear hs8 hK
      go_enter Try.func25, Try.ntmps25
      go_wp2_with (with_reducible refine at_op (.box 23 (.tmp 0)) rfl ?_; refine Stopped.go ?_)
      refine Stopped.mk (wpList_box rfl #[.int .i64 3, .string k, .string v] 23 (by go_simp) ?_)
      intro g w1 hg_ Bg hb_ hz_
      have hb := hb_
      have HGG := hid (show w.heap.size ≤ g by omega)
      clear hg_ hz_ hb_
      go_wp2_with (with_reducible refine at_op (.box 23 (.tmp 1)) rfl ?_; refine Stopped.go ?_)
      refine Stopped.mk (wpList_box rfl #[.int .i64 3, .string k, .string v'] 23 (by go_simp) ?_)
      intro g' w2 hg_ Bg' hb_ hz_
      replace Bg := Bg.belowS hb_
      replace hb := bt hb hb_
      clear hg_ hz_ hb_
      have hA := below_alloc w2 (.cells #[.int .i64 0, .string ⟨#[]⟩, .string ⟨#[]⟩] 23)
      have hN : (w2.alloc (.cells #[.int .i64 0, .string ⟨#[]⟩, .string ⟨#[]⟩] 23)).heap[w2.heap.size]? = some (.cells #[.int .i64 0, .string ⟨#[]⟩, .string ⟨#[]⟩] 23 (0, 0)) := heap_alloc_new w2 _
      obtain ⟨g4, hg4⟩ : ∃ g4, g4 = w2.heap.size := ⟨_, rfl⟩
      have hge : w.heap.size ≤ g4 := by rw [hg4]; exact hb.size
      have HGN := hid (show g4 ≠ g by have := Bg.lt; omega)
      have HGN' := hid (show g4 ≠ g' by have := Bg'.lt; omega)
      replace Bg := Bg.belowS hA; replace Bg' := Bg'.belowS hA; replace hb := bt hb hA
      rw [← hg4] at hN
      have HG4 := hid hg4; have HGE := hid hge; have NG := hid hN; clear hg4 hA hge hN
      have cg_0 : (w2.alloc (.cells #[.int .i64 0, .string ⟨#[]⟩, .string ⟨#[]⟩] 23)).cell? ⟨g, 0, none⟩ = some (.int .i64 3) := Bg.at rfl
      have cg_1 : (w2.alloc (.cells #[.int .i64 0, .string ⟨#[]⟩, .string ⟨#[]⟩] 23)).cell? ⟨g, 1, none⟩ = some (.string k) := Bg.at rfl
      have cg_2 : (w2.alloc (.cells #[.int .i64 0, .string ⟨#[]⟩, .string ⟨#[]⟩] 23)).cell? ⟨g, 2, none⟩ = some (.string v) := Bg.at rfl
      have cg'_0 : (w2.alloc (.cells #[.int .i64 0, .string ⟨#[]⟩, .string ⟨#[]⟩] 23)).cell? ⟨g', 0, none⟩ = some (.int .i64 3) := Bg'.at rfl
      have cg'_1 : (w2.alloc (.cells #[.int .i64 0, .string ⟨#[]⟩, .string ⟨#[]⟩] 23)).cell? ⟨g', 1, none⟩ = some (.string k) := Bg'.at rfl
      have cg'_2 : (w2.alloc (.cells #[.int .i64 0, .string ⟨#[]⟩, .string ⟨#[]⟩] 23)).cell? ⟨g', 2, none⟩ = some (.string v') := Bg'.at rfl
      go_wp2_with fail
      rw [← HG4.out]
      clear HG4
      generalize (w2.alloc (.cells #[.int .i64 0, .string ⟨#[]⟩, .string ⟨#[]⟩] 23)) = w3 at *
      refine (ref_Is_any 3 k v _).mono ?_; rintro e w4 ⟨rfl, hb_⟩; rw [← HF.out]
      have hN_ := NG.out; rw [← hb_.block g4 (Array.getElem?_eq_some_iff.1 hN_).1] at hN_; clear NG; have NG := hid hN_; clear hN_
      clear cg_0
      clear cg_1
      clear cg_2
      replace Bg := Bg.belowS hb_
      clear cg'_0
      clear cg'_1
      clear cg'_2
      replace Bg' := Bg'.belowS hb_
      replace hb := bt hb hb_
      clear hb_
      have cg_0 : w4.cell? ⟨g, 0, none⟩ = some (.int .i64 3) := Bg.at rfl
      have cg_1 : w4.cell? ⟨g, 1, none⟩ = some (.string k) := Bg.at rfl
      have cg_2 : w4.cell? ⟨g, 2, none⟩ = some (.string v) := Bg.at rfl
      have cg'_0 : w4.cell? ⟨g', 0, none⟩ = some (.int .i64 3) := Bg'.at rfl
      have cg'_1 : w4.cell? ⟨g', 1, none⟩ = some (.string k) := Bg'.at rfl
      have cg'_2 : w4.cell? ⟨g', 2, none⟩ = some (.string v') := Bg'.at rfl
      go_wp2_with fail
      refine (ref_Is_any 3 k v' _).mono ?_; rintro e w5 ⟨rfl, hb_⟩; rw [← HF'.out]
      have hN_ := NG.out; rw [← hb_.block g4 (Array.getElem?_eq_some_iff.1 hN_).1] at hN_; clear NG; have NG := hid hN_; clear hN_
      clear cg_0
      clear cg_1
      clear cg_2
      replace Bg := Bg.belowS hb_
      clear cg'_0
      clear cg'_1
      clear cg'_2
      replace Bg' := Bg'.belowS hb_
      replace hb := bt hb hb_
      clear hb_
      have cg_0 : w5.cell? ⟨g, 0, none⟩ = some (.int .i64 3) := Bg.at rfl
      have cg_1 : w5.cell? ⟨g, 1, none⟩ = some (.string k) := Bg.at rfl
      have cg_2 : w5.cell? ⟨g, 2, none⟩ = some (.string v) := Bg.at rfl
      have cg'_0 : w5.cell? ⟨g', 0, none⟩ = some (.int .i64 3) := Bg'.at rfl
      have cg'_1 : w5.cell? ⟨g', 1, none⟩ = some (.string k) := Bg'.at rfl
      have cg'_2 : w5.cell? ⟨g', 2, none⟩ = some (.string v') := Bg'.at rfl
      obtain ⟨s, hs⟩ : ∃ s, s = sum8 v v' := ⟨_, rfl⟩
      have HS := hid hs; clear hs
      have hgg4 : g4 ≠ g := HGN.out
      have hgg4' : g4 ≠ g' := HGN'.out
      have hl : g < w5.heap.size := Bg.lt
      have hl' : g' < w5.heap.size := Bg'.lt
      have hl4 : g4 < w5.heap.size := (Array.getElem?_eq_some_iff.1 NG.out).1
      have KA : Hid (∀ w6, Below w5.drew.heap.size w5.drew w6 → w6.cell? ⟨g, 1, none⟩ = some (.string k) ∧ w6.cell? ⟨g, 2, none⟩ = some (.string v) ∧ w6.cell? ⟨g', 2, none⟩ = some (.string v') ∧
          w6.cell? ⟨g4, 0, none⟩ = some (.int .i64 0) ∧ w6.cell? ⟨g4, 1, none⟩ = some (.string ⟨#[]⟩) ∧ w6.cell? ⟨g4, 2, none⟩ = some (.string ⟨#[]⟩) ∧ w6.frozen? ⟨g4, 0, none⟩ = false ∧ w6.frozen? ⟨g4, 1, none⟩ = false ∧ w6.frozen? ⟨g4, 2, none⟩ = false) := by
        intro w6 hb_
        have NG6 := (hb_.block g4 hl4).trans NG.out
        have BG6 : Blk w6 g4 23 [.int .i64 0, .string ⟨#[]⟩, .string ⟨#[]⟩] := ⟨(0, 0), NG6, Or.inl rfl⟩
        exact ⟨(Below.cell hb_ (p := ⟨g, 1, none⟩) hl).trans cg_1, (Below.cell hb_ (p := ⟨g, 2, none⟩) hl).trans cg_2, (Below.cell hb_ (p := ⟨g', 2, none⟩) hl').trans cg'_2, BG6.at rfl, BG6.at rfl, BG6.at rfl, BG6.free (by simp), BG6.free (by simp), BG6.free (by simp)⟩
      go_wp2_with fail
      go_region_held3 (fun wx => wx.cell? ⟨g, 1, none⟩ = some (.string k) ∧ wx.cell? ⟨g, 2, none⟩ = some (.string v) ∧ wx.cell? ⟨g', 2, none⟩ = some (.string v'))
        ((first | exact ⟨cg_1, cg_2, cg'_2⟩ | exact ⟨k1, k2, k3⟩ | assumption | go_keep))
        (first
          | (go_at_call 48; with_reducible refine (ref_Sum_any _ _ _).mono ?_; rintro e w6 ⟨rfl, hb_⟩; rw [← HS.out]; obtain ⟨k1, k2, k3, z0, z1, z2, z3, z4, z5⟩ := KA.out _ hb_))
      have NG6 := (hb_.block g4 hl4).trans NG.out
      have BG6 : Blk w6 g4 23 [.int .i64 0, .string ⟨#[]⟩, .string ⟨#[]⟩] := ⟨(0, 0), NG6, Or.inl rfl⟩
      obtain ⟨fr, H9, _⟩ := ((BG6.set 0 (.int .i64 3)).set 1 (.string k)).set 2 (.string s)
      have HB := Keeps.below1 (bt hb.drew hb_) ((((Keeps.refl [g4] w6).setCell (p := ⟨g4, 0, none⟩) (by simp) (.int .i64 3)).setCell (p := ⟨g4, 1, none⟩) (by simp) (.string k)).setCell (p := ⟨g4, 2, none⟩) (by simp) (.string s)) HGE.out
      have H99 := hid H9; have HBB := hid HB
      clear NG6 BG6 H9 HB z0 z1 z2 z3 z4 z5 k1 k2 k3 hb_ KA hl hl' hl4
      go_wp2_with fail
      (try simp only [Exit.inBlock, Exit.then])
      exact bodyPost_ret (results_cell_row_tmp rfl _ _ g4 _ _ fr _ rfl H99.out Try.underlying23 rfl (by kernel_rfl)) rfl ⟨by rw [hq, ← HS.out]; rfl, HBB.out⟩
    · have e33 : (K == 3) = false := by simpa using h33
      by_cases h2 : K = 2
      · subst h2
        rw [if_pos rfl] at hq
        subst hq
        clear hK
        go_enter Try.func25, Try.ntmps25
        go_wp2_with (with_reducible refine at_op (.box 23 (.tmp 0)) rfl ?_; refine Stopped.go ?_)
        refine Stopped.mk (wpList_box rfl #[.int .i64 2, .string k, .string v] 23 (by go_simp) ?_)
        intro g w1 hg_ Bg hb_ hz_
        have hb := hb_
        have HGG := hid (show w.heap.size ≤ g by omega)
        clear hg_ hz_ hb_
        go_wp2_with (with_reducible refine at_op (.box 23 (.tmp 1)) rfl ?_; refine Stopped.go ?_)
        refine Stopped.mk (wpList_box rfl #[.int .i64 3, .string k, .string v'] 23 (by go_simp) ?_)
        intro g' w2 hg_ Bg' hb_ hz_
        replace Bg := Bg.belowS hb_
        replace hb := bt hb hb_
        clear hg_ hz_ hb_
        have hA := below_alloc w2 (.cells #[.int .i64 0, .string ⟨#[]⟩, .string ⟨#[]⟩] 23)
        have hN : (w2.alloc (.cells #[.int .i64 0, .string ⟨#[]⟩, .string ⟨#[]⟩] 23)).heap[w2.heap.size]? = some (.cells #[.int .i64 0, .string ⟨#[]⟩, .string ⟨#[]⟩] 23 (0, 0)) := heap_alloc_new w2 _
        obtain ⟨g4, hg4⟩ : ∃ g4, g4 = w2.heap.size := ⟨_, rfl⟩
        have hge : w.heap.size ≤ g4 := by rw [hg4]; exact hb.size
        have HGN := hid (show g4 ≠ g by have := Bg.lt; omega)
        have HGN' := hid (show g4 ≠ g' by have := Bg'.lt; omega)
        replace Bg := Bg.belowS hA; replace Bg' := Bg'.belowS hA; replace hb := bt hb hA
        rw [← hg4] at hN
        have HG4 := hid hg4; have HGE := hid hge; have NG := hid hN; clear hg4 hA hge hN
        have cg_0 : (w2.alloc (.cells #[.int .i64 0, .string ⟨#[]⟩, .string ⟨#[]⟩] 23)).cell? ⟨g, 0, none⟩ = some (.int .i64 2) := Bg.at rfl
        have cg_1 : (w2.alloc (.cells #[.int .i64 0, .string ⟨#[]⟩, .string ⟨#[]⟩] 23)).cell? ⟨g, 1, none⟩ = some (.string k) := Bg.at rfl
        have cg_2 : (w2.alloc (.cells #[.int .i64 0, .string ⟨#[]⟩, .string ⟨#[]⟩] 23)).cell? ⟨g, 2, none⟩ = some (.string v) := Bg.at rfl
        have cg'_0 : (w2.alloc (.cells #[.int .i64 0, .string ⟨#[]⟩, .string ⟨#[]⟩] 23)).cell? ⟨g', 0, none⟩ = some (.int .i64 3) := Bg'.at rfl
        have cg'_1 : (w2.alloc (.cells #[.int .i64 0, .string ⟨#[]⟩, .string ⟨#[]⟩] 23)).cell? ⟨g', 1, none⟩ = some (.string k) := Bg'.at rfl
        have cg'_2 : (w2.alloc (.cells #[.int .i64 0, .string ⟨#[]⟩, .string ⟨#[]⟩] 23)).cell? ⟨g', 2, none⟩ = some (.string v') := Bg'.at rfl
        go_wp2_with fail
        rw [← HG4.out]
        clear HG4
        generalize (w2.alloc (.cells #[.int .i64 0, .string ⟨#[]⟩, .string ⟨#[]⟩] 23)) = w3 at *
        refine (ref_Is_any 2 k v _).mono ?_; rintro e w4 ⟨rfl, hb_⟩; rw [← HF.out]
        have hN_ := NG.out; rw [← hb_.block g4 (Array.getElem?_eq_some_iff.1 hN_).1] at hN_; clear NG; have NG := hid hN_; clear hN_
        clear cg_0
        clear cg_1
        clear cg_2
        replace Bg := Bg.belowS hb_
        clear cg'_0
        clear cg'_1
        clear cg'_2
        replace Bg' := Bg'.belowS hb_
        replace hb := bt hb hb_
        clear hb_
        have cg_0 : w4.cell? ⟨g, 0, none⟩ = some (.int .i64 2) := Bg.at rfl
        have cg_1 : w4.cell? ⟨g, 1, none⟩ = some (.string k) := Bg.at rfl
        have cg_2 : w4.cell? ⟨g, 2, none⟩ = some (.string v) := Bg.at rfl
        have cg'_0 : w4.cell? ⟨g', 0, none⟩ = some (.int .i64 3) := Bg'.at rfl
        have cg'_1 : w4.cell? ⟨g', 1, none⟩ = some (.string k) := Bg'.at rfl
        have cg'_2 : w4.cell? ⟨g', 2, none⟩ = some (.string v') := Bg'.at rfl
        go_wp2_with fail
        refine (ref_Is_any 3 k v' _).mono ?_; rintro e w5 ⟨rfl, hb_⟩; rw [← HF'.out]
        have hN_ := NG.out; rw [← hb_.block g4 (Array.getElem?_eq_some_iff.1 hN_).1] at hN_; clear NG; have NG := hid hN_; clear hN_
        clear cg_0
        clear cg_1
        clear cg_2
        replace Bg := Bg.belowS hb_
        clear cg'_0
        clear cg'_1
        clear cg'_2
        replace Bg' := Bg'.belowS hb_
        replace hb := bt hb hb_
        clear hb_
        have cg_0 : w5.cell? ⟨g, 0, none⟩ = some (.int .i64 2) := Bg.at rfl
        have cg_1 : w5.cell? ⟨g, 1, none⟩ = some (.string k) := Bg.at rfl
        have cg_2 : w5.cell? ⟨g, 2, none⟩ = some (.string v) := Bg.at rfl
        have cg'_0 : w5.cell? ⟨g', 0, none⟩ = some (.int .i64 3) := Bg'.at rfl
        have cg'_1 : w5.cell? ⟨g', 1, none⟩ = some (.string k) := Bg'.at rfl
        have cg'_2 : w5.cell? ⟨g', 2, none⟩ = some (.string v') := Bg'.at rfl
        go_wp2_with (with_reducible refine at_op (.store 23 (.tmp 4) (.tmp 52)) rfl ?_; refine Stopped.go ?_)
        refine Stopped.mk (wpList_store_row_k rfl _ _ _ rfl g4 #[.int .i64 1, .string k, .string v'] rfl rfl _ _ NG.out (by kernel_rfl) rfl (by simp [Value.oneCell']) ?_)
        intro w9 h9 hb9 _
        have HB := hid (hb.trans (hb9 _ HGE.out)); have H9 := hid h9
        clear h9 hb9 hb NG
        go_wp2_with fail
        (try simp only [Exit.inBlock, Exit.then])
        exact bodyPost_ret (results_cell_row_tmp rfl _ _ g4 _ _ (0, 0) _ rfl H9.out Try.underlying23 rfl (by kernel_rfl)) rfl ⟨rfl, HB.out⟩
      · have h1 : K = 1 := by rcases hK with h | h | h; exact h; exact absurd h h2; exact absurd h h33
        subst h1
        rw [if_neg h2] at hq
        have ha : applyV 3 k v' v true = sumK v v' := by unfold applyV; rw [← HF'.out, if_neg (by decide), if_neg (by decide), if_neg (by decide)]
        have hab : applyB 3 k v' true = true := by unfold applyB; rw [← HF'.out]; rfl
        obtain ⟨s, hs⟩ : ∃ s, s = sumK v v' := ⟨_, rfl⟩
        rw [← hs] at hq ha
        have HA := hid ha; have HAB := hid hab
        subst hq
        clear hK ha hab hs
        go_enter Try.func25, Try.ntmps25
        go_wp2_with (with_reducible refine at_op (.box 23 (.tmp 0)) rfl ?_; refine Stopped.go ?_)
        refine Stopped.mk (wpList_box rfl #[.int .i64 1, .string k, .string v] 23 (by go_simp) ?_)
        intro g w1 hg_ Bg hb_ hz_
        have hb := hb_
        have HGG := hid (show w.heap.size ≤ g by omega)
        clear hg_ hz_ hb_
        go_wp2_with (with_reducible refine at_op (.box 23 (.tmp 1)) rfl ?_; refine Stopped.go ?_)
        refine Stopped.mk (wpList_box rfl #[.int .i64 3, .string k, .string v'] 23 (by go_simp) ?_)
        intro g' w2 hg_ Bg' hb_ hz_
        replace Bg := Bg.belowS hb_
        replace hb := bt hb hb_
        clear hg_ hz_ hb_
        have hA := below_alloc w2 (.cells #[.int .i64 0, .string ⟨#[]⟩, .string ⟨#[]⟩] 23)
        have hN : (w2.alloc (.cells #[.int .i64 0, .string ⟨#[]⟩, .string ⟨#[]⟩] 23)).heap[w2.heap.size]? = some (.cells #[.int .i64 0, .string ⟨#[]⟩, .string ⟨#[]⟩] 23 (0, 0)) := heap_alloc_new w2 _
        obtain ⟨g4, hg4⟩ : ∃ g4, g4 = w2.heap.size := ⟨_, rfl⟩
        have hge : w.heap.size ≤ g4 := by rw [hg4]; exact hb.size
        have HGN := hid (show g4 ≠ g by have := Bg.lt; omega)
        have HGN' := hid (show g4 ≠ g' by have := Bg'.lt; omega)
        replace Bg := Bg.belowS hA; replace Bg' := Bg'.belowS hA; replace hb := bt hb hA
        rw [← hg4] at hN
        have HG4 := hid hg4; have HGE := hid hge; have NG := hid hN; clear hg4 hA hge hN
        have cg_0 : (w2.alloc (.cells #[.int .i64 0, .string ⟨#[]⟩, .string ⟨#[]⟩] 23)).cell? ⟨g, 0, none⟩ = some (.int .i64 1) := Bg.at rfl
        have cg_1 : (w2.alloc (.cells #[.int .i64 0, .string ⟨#[]⟩, .string ⟨#[]⟩] 23)).cell? ⟨g, 1, none⟩ = some (.string k) := Bg.at rfl
        have cg_2 : (w2.alloc (.cells #[.int .i64 0, .string ⟨#[]⟩, .string ⟨#[]⟩] 23)).cell? ⟨g, 2, none⟩ = some (.string v) := Bg.at rfl
        have cg'_0 : (w2.alloc (.cells #[.int .i64 0, .string ⟨#[]⟩, .string ⟨#[]⟩] 23)).cell? ⟨g', 0, none⟩ = some (.int .i64 3) := Bg'.at rfl
        have cg'_1 : (w2.alloc (.cells #[.int .i64 0, .string ⟨#[]⟩, .string ⟨#[]⟩] 23)).cell? ⟨g', 1, none⟩ = some (.string k) := Bg'.at rfl
        have cg'_2 : (w2.alloc (.cells #[.int .i64 0, .string ⟨#[]⟩, .string ⟨#[]⟩] 23)).cell? ⟨g', 2, none⟩ = some (.string v') := Bg'.at rfl
        go_wp2_with fail
        rw [← HG4.out]
        clear HG4
        generalize (w2.alloc (.cells #[.int .i64 0, .string ⟨#[]⟩, .string ⟨#[]⟩] 23)) = w3 at *
        refine (ref_Is_any 1 k v _).mono ?_; rintro e w4 ⟨rfl, hb_⟩; rw [← HF.out]
        have hN_ := NG.out; rw [← hb_.block g4 (Array.getElem?_eq_some_iff.1 hN_).1] at hN_; clear NG; have NG := hid hN_; clear hN_
        clear cg_0
        clear cg_1
        clear cg_2
        replace Bg := Bg.belowS hb_
        clear cg'_0
        clear cg'_1
        clear cg'_2
        replace Bg' := Bg'.belowS hb_
        replace hb := bt hb hb_
        clear hb_
        have cg_0 : w4.cell? ⟨g, 0, none⟩ = some (.int .i64 1) := Bg.at rfl
        have cg_1 : w4.cell? ⟨g, 1, none⟩ = some (.string k) := Bg.at rfl
        have cg_2 : w4.cell? ⟨g, 2, none⟩ = some (.string v) := Bg.at rfl
        have cg'_0 : w4.cell? ⟨g', 0, none⟩ = some (.int .i64 3) := Bg'.at rfl
        have cg'_1 : w4.cell? ⟨g', 1, none⟩ = some (.string k) := Bg'.at rfl
        have cg'_2 : w4.cell? ⟨g', 2, none⟩ = some (.string v') := Bg'.at rfl
        go_wp2_with fail
        refine (ref_Is_any 3 k v' _).mono ?_; rintro e w5 ⟨rfl, hb_⟩; rw [← HF'.out]
        have hN_ := NG.out; rw [← hb_.block g4 (Array.getElem?_eq_some_iff.1 hN_).1] at hN_; clear NG; have NG := hid hN_; clear hN_
        clear cg_0
        clear cg_1
        clear cg_2
        replace Bg := Bg.belowS hb_
        clear cg'_0
        clear cg'_1
        clear cg'_2
        replace Bg' := Bg'.belowS hb_
        replace hb := bt hb hb_
        clear hb_
        have cg_0 : w5.cell? ⟨g, 0, none⟩ = some (.int .i64 1) := Bg.at rfl
        have cg_1 : w5.cell? ⟨g, 1, none⟩ = some (.string k) := Bg.at rfl
        have cg_2 : w5.cell? ⟨g, 2, none⟩ = some (.string v) := Bg.at rfl
        have cg'_0 : w5.cell? ⟨g', 0, none⟩ = some (.int .i64 3) := Bg'.at rfl
        have cg'_1 : w5.cell? ⟨g', 1, none⟩ = some (.string k) := Bg'.at rfl
        have cg'_2 : w5.cell? ⟨g', 2, none⟩ = some (.string v') := Bg'.at rfl
        go_wp2_with fail
        refine (ref_Apply_any 3 k v' v true _).mono ?_; rintro e w6 ⟨rfl, hb_⟩; rw [HA.out, HAB.out]
        have hN_ := NG.out; rw [← hb_.block g4 (Array.getElem?_eq_some_iff.1 hN_).1] at hN_; clear NG; have NG := hid hN_; clear hN_
        clear cg_0
        clear cg_1
        clear cg_2
        replace Bg := Bg.belowS hb_
        clear cg'_0
        clear cg'_1
        clear cg'_2
        replace Bg' := Bg'.belowS hb_
        replace hb := bt hb hb_
        clear hb_
        have cg_0 : w6.cell? ⟨g, 0, none⟩ = some (.int .i64 1) := Bg.at rfl
        have cg_1 : w6.cell? ⟨g, 1, none⟩ = some (.string k) := Bg.at rfl
        have cg_2 : w6.cell? ⟨g, 2, none⟩ = some (.string v) := Bg.at rfl
        have cg'_0 : w6.cell? ⟨g', 0, none⟩ = some (.int .i64 3) := Bg'.at rfl
        have cg'_1 : w6.cell? ⟨g', 1, none⟩ = some (.string k) := Bg'.at rfl
        have cg'_2 : w6.cell? ⟨g', 2, none⟩ = some (.string v') := Bg'.at rfl
        go_wp2_with (with_reducible refine at_op (.store 23 (.tmp 4) (.tmp 66)) rfl ?_; refine Stopped.go ?_)
        refine Stopped.mk (wpList_store_row_k rfl _ _ _ rfl g4 #[.int .i64 1, .string k, .string s] rfl rfl _ _ NG.out (by kernel_rfl) rfl (by simp [Value.oneCell']) ?_)
        intro w9 h9 hb9 _
        have HB := hid (hb.trans (hb9 _ HGE.out)); have H9 := hid h9
        clear h9 hb9 hb NG
        go_wp2_with fail
        (try simp only [Exit.inBlock, Exit.then])
        exact bodyPost_ret (results_cell_row_tmp rfl _ _ g4 _ _ (0, 0) _ rfl H9.out Try.underlying23 rfl (by kernel_rfl)) rfl ⟨rfl, HB.out⟩
  · rw [if_neg h3] at hq
    have e3 : (K' == 3) = false := by simpa using h3
    subst hq
    go_enter Try.func25, Try.ntmps25
    go_wp2_with (with_reducible refine at_op (.box 23 (.tmp 0)) rfl ?_; refine Stopped.go ?_)
    refine Stopped.mk (wpList_box rfl #[.int .i64 K, .string k, .string v] 23 (by go_simp) ?_)
    intro g w1 hg_ Bg hb_ hz_
    have hb := hb_
    have HGG := hid (show w.heap.size ≤ g by omega)
    clear hg_ hz_ hb_
    go_wp2_with (with_reducible refine at_op (.box 23 (.tmp 1)) rfl ?_; refine Stopped.go ?_)
    refine Stopped.mk (wpList_box rfl #[.int .i64 K', .string k, .string v'] 23 (by go_simp) ?_)
    intro g' w2 hg_ Bg' hb_ hz_
    replace Bg := Bg.belowS hb_
    replace hb := bt hb hb_
    clear hg_ hz_ hb_
    have hA := below_alloc w2 (.cells #[.int .i64 0, .string ⟨#[]⟩, .string ⟨#[]⟩] 23)
    have hN : (w2.alloc (.cells #[.int .i64 0, .string ⟨#[]⟩, .string ⟨#[]⟩] 23)).heap[w2.heap.size]? = some (.cells #[.int .i64 0, .string ⟨#[]⟩, .string ⟨#[]⟩] 23 (0, 0)) := heap_alloc_new w2 _
    obtain ⟨g4, hg4⟩ : ∃ g4, g4 = w2.heap.size := ⟨_, rfl⟩
    have hge : w.heap.size ≤ g4 := by rw [hg4]; exact hb.size
    have HGN := hid (show g4 ≠ g by have := Bg.lt; omega)
    have HGN' := hid (show g4 ≠ g' by have := Bg'.lt; omega)
    replace Bg := Bg.belowS hA; replace Bg' := Bg'.belowS hA; replace hb := bt hb hA
    rw [← hg4] at hN
    have HG4 := hid hg4; have HGE := hid hge; have NG := hid hN; clear hg4 hA hge hN
    have cg_0 : (w2.alloc (.cells #[.int .i64 0, .string ⟨#[]⟩, .string ⟨#[]⟩] 23)).cell? ⟨g, 0, none⟩ = some (.int .i64 K) := Bg.at rfl
    have cg_1 : (w2.alloc (.cells #[.int .i64 0, .string ⟨#[]⟩, .string ⟨#[]⟩] 23)).cell? ⟨g, 1, none⟩ = some (.string k) := Bg.at rfl
    have cg_2 : (w2.alloc (.cells #[.int .i64 0, .string ⟨#[]⟩, .string ⟨#[]⟩] 23)).cell? ⟨g, 2, none⟩ = some (.string v) := Bg.at rfl
    have cg'_0 : (w2.alloc (.cells #[.int .i64 0, .string ⟨#[]⟩, .string ⟨#[]⟩] 23)).cell? ⟨g', 0, none⟩ = some (.int .i64 K') := Bg'.at rfl
    have cg'_1 : (w2.alloc (.cells #[.int .i64 0, .string ⟨#[]⟩, .string ⟨#[]⟩] 23)).cell? ⟨g', 1, none⟩ = some (.string k) := Bg'.at rfl
    have cg'_2 : (w2.alloc (.cells #[.int .i64 0, .string ⟨#[]⟩, .string ⟨#[]⟩] 23)).cell? ⟨g', 2, none⟩ = some (.string v') := Bg'.at rfl
    go_wp2_with fail
    rw [← HG4.out]
    clear HG4
    generalize (w2.alloc (.cells #[.int .i64 0, .string ⟨#[]⟩, .string ⟨#[]⟩] 23)) = w3 at *
    refine (ref_Is_any K k v _).mono ?_; rintro e w4 ⟨rfl, hb_⟩; rw [← HF.out]
    have hN_ := NG.out; rw [← hb_.block g4 (Array.getElem?_eq_some_iff.1 hN_).1] at hN_; clear NG; have NG := hid hN_; clear hN_
    clear cg_0
    clear cg_1
    clear cg_2
    replace Bg := Bg.belowS hb_
    clear cg'_0
    clear cg'_1
    clear cg'_2
    replace Bg' := Bg'.belowS hb_
    replace hb := bt hb hb_
    clear hb_
    have cg_0 : w4.cell? ⟨g, 0, none⟩ = some (.int .i64 K) := Bg.at rfl
    have cg_1 : w4.cell? ⟨g, 1, none⟩ = some (.string k) := Bg.at rfl
    have cg_2 : w4.cell? ⟨g, 2, none⟩ = some (.string v) := Bg.at rfl
    have cg'_0 : w4.cell? ⟨g', 0, none⟩ = some (.int .i64 K') := Bg'.at rfl
    have cg'_1 : w4.cell? ⟨g', 1, none⟩ = some (.string k) := Bg'.at rfl
    have cg'_2 : w4.cell? ⟨g', 2, none⟩ = some (.string v') := Bg'.at rfl
    go_wp2_with fail
    refine (ref_Is_any K' k v' _).mono ?_; rintro e w5 ⟨rfl, hb_⟩; rw [← HF'.out]
    have hN_ := NG.out; rw [← hb_.block g4 (Array.getElem?_eq_some_iff.1 hN_).1] at hN_; clear NG; have NG := hid hN_; clear hN_
    clear cg_0
    clear cg_1
    clear cg_2
    replace Bg := Bg.belowS hb_
    clear cg'_0
    clear cg'_1
    clear cg'_2
    replace Bg' := Bg'.belowS hb_
    replace hb := bt hb hb_
    clear hb_
    have cg_0 : w5.cell? ⟨g, 0, none⟩ = some (.int .i64 K) := Bg.at rfl
    have cg_1 : w5.cell? ⟨g, 1, none⟩ = some (.string k) := Bg.at rfl
    have cg_2 : w5.cell? ⟨g, 2, none⟩ = some (.string v) := Bg.at rfl
    have cg'_0 : w5.cell? ⟨g', 0, none⟩ = some (.int .i64 K') := Bg'.at rfl
    have cg'_1 : w5.cell? ⟨g', 1, none⟩ = some (.string k) := Bg'.at rfl
    have cg'_2 : w5.cell? ⟨g', 2, none⟩ = some (.string v') := Bg'.at rfl
    go_wp2_with (with_reducible refine at_op (.store 23 (.tmp 4) (.tmp 67)) rfl ?_; refine Stopped.go ?_)
    refine Stopped.mk (wpList_store_row_k rfl _ _ _ rfl g4 #[.int .i64 K', .string k, .string v'] rfl rfl _ _ NG.out (by kernel_rfl) rfl (by simp [Value.oneCell']) ?_)
    intro w9 h9 hb9 _
    have HB := hid (hb.trans (hb9 _ HGE.out)); have H9 := hid h9
    clear h9 hb9 hb NG
    go_wp2_with fail
    (try simp only [Exit.inBlock, Exit.then])
    exact bodyPost_ret (results_cell_row_tmp rfl _ _ g4 _ _ (0, 0) _ rfl H9.out Try.underlying23 rfl (by kernel_rfl)) rfl ⟨rfl, HB.out⟩

end Go.Proofs.Ytbhmkigomlpkcaa
