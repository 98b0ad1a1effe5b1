/-
  The document's reading of a stamped block: walked.
  The document's log of layer 23: what a world holds of it; Fits.
-/
import Derived.Test.YtcklgaenedlbiaaGreatGWalExact34
import Derived.Test.YtcklgaenedlbiaaGreatGWalExact29
import Derived.Test.YtcklgaenedlbiaaGreatGWalExact31
import Derived.Test.YtcklgaenedlbiaaGreatGWalExact32

namespace Go.Proofs.YtcklgaenedlbiaaGreat
open Go.RowKit

set_option maxHeartbeats 8000000 in
set_option maxRecDepth 100000 in
theorem ref04_Read (b : ByteArray) (h256 : b.size = 256) (w : World) :
    Calls Tryz.prog 42 #[.string b] w fun ee w' => ee = .returned (.tuple #[.int .i64 (readV b).1, .int .i64 (readV b).2.1, .string (readV b).2.2.1, .int .i64 (readV b).2.2.2]) ∧ Below w.heap.size w w' := by
  obtain ⟨L, hL⟩ : ∃ L, L = b.data.toList := ⟨_, rfl⟩
  have hLl : L.length = 256 := by rw [hL]; simpa using h256
  have hv : readV b = match readR L with
    | .ok (e, q, s) => (e, q, ⟨s.toArray⟩, 0)
    | .error k => (0, 0, ⟨#[]⟩, k) := by unfold readV; rw [if_pos h256, ← hL]; rcases readR L with k | ⟨e, q, s⟩ <;> rfl
  obtain ⟨V, hV⟩ : ∃ V, V = readV b := ⟨_, rfl⟩
  rw [← hV] at hv ⊢
  have HL := hid hL; have HV := hid hv; have HLL := hid hLl
  clear hL hv hV hLl
  go_enter Tryz.func42, Tryz.ntmps42
  go_wp2_with fail
  go_loopg [6, 7] 4 (fun g y x wx => ∃ (k : Nat) (o : ByteArray), k + g = 4 ∧ x = .int .i64 k ∧ y = .string o ∧ o.size ≤ 56 * k ∧ Hid (Below w.heap.size w wx ∧ o.data.toList = partsN L k ∧ ∀ i, i < k → markOf L i = markOf L 0))
  case atStart => exact ⟨0, ⟨#[]⟩, rfl, rfl, rfl, Nat.le_refl _, Below.refl _ _, rfl, fun i h => absurd h (by omega)⟩
  case round =>
    obtain ⟨k, o, hk, rfl, rfl, hos, HS⟩ := hrel
    by_cases hlt : k < 4
    · have hlt' : (k : Int) < 4 := by omega
      obtain ⟨a, ha⟩ : ∃ a, a = 64 * k := ⟨_, rfl⟩
      obtain ⟨a8, ha8⟩ : ∃ q, q = a + 8 := ⟨_, rfl⟩
      obtain ⟨a64, ha64⟩ : ∃ q, q = a + 64 := ⟨_, rfl⟩
      have e0 : IntKind.i64.wrap (64 * (k : Int)) = (a : Int) := by rw [IntKind.wrap_i64]; omega
      have e1 : IntKind.i64.wrap ((a : Int) + 8) = (a8 : Int) := by rw [IntKind.wrap_i64]; omega
      have e2 : IntKind.i64.wrap ((a : Int) + 64) = (a64 : Int) := by rw [IntKind.wrap_i64]; omega
      have c1 : (a8 : Int) ≤ (b.size : Int) := by omega
      have c2 : (a : Int) ≤ (a8 : Int) := by omega
      have c3 : (a64 : Int) ≤ (b.size : Int) := by omega
      have c4 : (a8 : Int) ≤ (a64 : Int) := by omega
      have hx : (b.extract a8 a64).data.toList = partOf L k := by
        rw [cut_list, ← HL.out, ha8, ha64, ha, List.drop_take]; unfold partOf; congr 1; omega
      obtain ⟨f, hf⟩ : ∃ f, f = decide (markOf L k = markOf L 0) := ⟨_, rfl⟩
      have hbeq : ((b.extract a a8).toList == (b.extract 0 8).toList) = f := by
        rw [beq_bytes, cut_list, cut_list, ← HL.out, hf]
        have h1 : (L.take a8).drop a = markOf L k := by rw [ha8, ha, List.drop_take]; unfold markOf; congr 1; omega
        have h2 : (L.take 8).drop 0 = markOf L 0 := by unfold markOf; simp
        rw [h1, h2]
      have q1 : ¬ 9223372036854775807 < o.size + (a64 - a8) := by omega
      have hxs : (b.extract a8 a64).size ≤ 56 := by simp; omega
      have HX := hid hx; have HA := hid (And.intro ha (And.intro ha8 ha64)); have HF := hid hf; have HXS := hid hxs
      clear hx ha ha8 ha64 hf hxs
      cases f with
      | false =>
        go_wp2_with fail
        go_quiet (fail)
        go_wp2_with fail
        (try simp only [Exit.inBlock, Exit.then])
        refine bodyPost_ret (results_tmp4 rfl _ _ _) rfl ?_
        refine ⟨?_, bdn1 HS.out.1 _⟩
        have hm : marksOk L = false := by
          cases h : marksOk L with
          | false => rfl
          | true =>
            have := marksOk_all h k 0 hlt (by decide)
            exact absurd this (of_decide_eq_false HF.out.symm)
        have hr : readR L = .error 5 := by unfold readR; rw [if_pos hm]
        rw [HV.out, hr]
        rfl
      | true =>
        go_wp2_with fail
        go_quiet (fail)
        go_wp2_with fail
        go_roundg (4 - (k + 1))
        case measure => omega
        case rel =>
          refine ⟨k + 1, o ++ b.extract a8 a64, by omega, by go_num, rfl, ?_, bdn1 HS.out.1 _, ?_, fun i hi => ?_⟩
          · have := HXS.out
            rw [show (o ++ b.extract a8 a64).size = o.size + (b.extract a8 a64).size by simp]; omega
          · rw [app_list, HS.out.2.1, HX.out]; rfl
          · by_cases e : i = k
            · subst e; exact of_decide_eq_true HF.out.symm
            · exact HS.out.2.2 i (by omega)
    · have hk4 : k = 4 := by omega
      subst hk4
      obtain ⟨s1, s2, s3⟩ := HS.out
      rw [partsN_4] at s2
      have hm : marksOk L = true := (marksOk_iff L).2 ⟨s3 1 (by decide), s3 2 (by decide), s3 3 (by decide)⟩
      have hlb : b.data.toList = L := HL.out.symm
      obtain ⟨h8, hh8⟩ : ∃ h8, h8 = b.extract 0 8 := ⟨_, rfl⟩
      have h8l : h8.data.toList = L.take 8 := by rw [hh8, cut_list, hlb, List.drop_zero]
      have h8s : h8.size = 8 := by rw [hh8]; simp; omega
      obtain ⟨e, he, he2, henum⟩ := num_part h8 4 (by decide) (by omega) (by decide)
      obtain ⟨r, hr⟩ : ∃ r, r = h8.extract 4 h8.size := ⟨_, rfl⟩
      have hrl : r.data.toList = (L.drop 4).take 4 := by
        rw [hr, cut_list, h8s, h8l, List.take_take, List.drop_take]
        congr 1
      have hrs : r.size = 4 := by rw [hr]; simp; omega
      obtain ⟨q, hq, hq2, hqnum⟩ := num_part r 4 (by decide) (by omega) (by decide)
      rw [← hr] at henum
      rw [h8l, List.take_take] at he
      rw [hrl, List.take_take] at hq
      have hR : readR L = if e < 1 ∨ 2147483647 < e ∨ 2147483647 < q then .error 5 else match textR (frameOf L) with
          | .error k => .error k
          | .ok s => .ok (e, q, s) := by
        unfold readR
        rw [if_neg (by rw [hm]; simp), show be (L.take 4) = e from he.symm, show be ((L.drop 4).take 4) = q from hq.symm]
        cases textR (frameOf L) <;> rfl
      have HR := hid hR; have HEN := hid henum; have HQN := hid hqnum; have HS1 := hid s1
      have he3 : e < 4294967296 := he2
      have hq3 : q < 4294967296 := hq2
      have hos8 : o.size = 224 := by rw [← list_len, s2, frameOf_length HLL.out]
      have HT := hid (fun w' => ref04_Open o (by omega) (by omega) w')
      rw [s2] at HT
      have h88 : (8 : Int) ≤ (b.size : Int) := by omega
      have hA := below_alloc wr (.cells #[.string h8, .bool false] 120)
      have hI := Blk.new wr #[.string h8, .bool false] 120
      have H1 := hid (show Below w.heap.size w (wr.alloc (.cells #[.string h8, .bool false] 120)) ∧ RefAt (wr.alloc (.cells #[.string h8, .bool false] 120)) wr.heap.size h8 false ∧ w.heap.size ≤ wr.heap.size from ⟨bt s1 hA, hI, s1.size⟩)
      clear s1 s2 s3 hm hlb he he2 henum hr hrl hrs hq hq2 hqnum hR HS h8l h8s hos8 hA hI
      go_wp2_with fail
      rw [← hh8]
      refine (rIn_Num_all _ h8 false 4 _ H1.out.2.1).mono ?_; rintro ee w2 ⟨rfl, hk2, hi2⟩
      rw [show (4 : Int) = ((4 : Nat) : Int) from rfl, HEN.out] at hi2 ⊢
      have H2 := hid (show Below w.heap.size w w2 ∧ RefAt w2 wr.heap.size r false from ⟨Keeps.below H1.out.1 hk2 (fun x hx => by simp at hx; rw [hx]; exact H1.out.2.2), hi2⟩)
      clear hk2 hi2 HEN
      go_wp2_with fail
      refine (rIn_Num_all _ r false 4 _ H2.out.2).mono ?_; rintro ee w3 ⟨rfl, hk3, hi3⟩
      rw [show (4 : Int) = ((4 : Nat) : Int) from rfl, HQN.out]
      have H3 := hid (show Below w.heap.size w w3 from Keeps.below H2.out.1 hk3 (fun x hx => by simp at hx; rw [hx]; exact H1.out.2.2))
      clear hk3 hi3 H2 H1 HQN
      by_cases c1 : e < 1
      · have hr : readR L = .error 5 := by rw [HR.out, if_pos (by omega)]
        have c1' : (e : Int) < 1 := by omega
        go_wp2_with fail
        (try simp only [Exit.inBlock, Exit.then])
        refine bodyPost_ret (results_tmp4 rfl _ _ _) rfl ?_
        refine ⟨?_, H3.out⟩
        rw [HV.out, hr]
        rfl
      have c1' : ¬ (e : Int) < 1 := by omega
      by_cases c2 : 2147483647 < e
      · have hr : readR L = .error 5 := by rw [HR.out, if_pos (by omega)]
        have c2' : (2147483647 : Int) < (e : Int) := by omega
        go_wp2_with fail
        (try simp only [Exit.inBlock, Exit.then])
        refine bodyPost_ret (results_tmp4 rfl _ _ _) rfl ?_
        refine ⟨?_, H3.out⟩
        rw [HV.out, hr]
        rfl
      have c2' : ¬ (2147483647 : Int) < (e : Int) := by omega
      by_cases c3 : 2147483647 < q
      · have hr : readR L = .error 5 := by rw [HR.out, if_pos (by omega)]
        have c3' : (2147483647 : Int) < (q : Int) := by omega
        go_wp2_with fail
        (try simp only [Exit.inBlock, Exit.then])
        refine bodyPost_ret (results_tmp4 rfl _ _ _) rfl ?_
        refine ⟨?_, H3.out⟩
        rw [HV.out, hr]
        rfl
      have c3' : ¬ (2147483647 : Int) < (q : Int) := by omega
      have hr := HR.out
      rw [if_neg (by omega)] at hr
      clear HR
      cases ht : textR (frameOf L) with
      | error k =>
        have hk0 : ((k : Int) != 0) = true := by rcases textR_err ht with rfl | rfl <;> rfl
        have hv : textV (frameOf L) = (⟨#[]⟩, k) := by unfold textV; rw [ht]
        have hR : readR L = .error k := by rw [hr, ht]
        rw [hv] at HT
        have HRR := hid hR
        clear hr ht hv hR
        go_wp2_with fail
        refine (HT.out w3).mono ?_; rintro ee w5 ⟨rfl, hb5⟩
        have H5 := hid (bt H3.out hb5)
        clear hb5 H3 HT
        go_wp2_with fail
        (try simp only [Exit.inBlock, Exit.then])
        refine bodyPost_ret (results_tmp4 rfl _ _ _) rfl ?_
        refine ⟨?_, H5.out⟩
        rw [HV.out, HRR.out]
        rfl
      | ok s =>
        have hv : textV (frameOf L) = (⟨s.toArray⟩, 0) := by unfold textV; rw [ht]
        have hR : readR L = .ok (e, q, s) := by rw [hr, ht]
        rw [hv] at HT
        have HRR := hid hR
        clear hr ht hv hR
        go_wp2_with fail
        refine (HT.out w3).mono ?_; rintro ee w5 ⟨rfl, hb5⟩
        have H5 := hid (bt H3.out hb5)
        clear hb5 H3 HT
        go_wp2_with fail
        (try simp only [Exit.inBlock, Exit.then])
        refine bodyPost_ret (results_tmp4 rfl _ _ _) rfl ?_
        refine ⟨?_, H5.out⟩
        rw [HV.out, HRR.out]
        rfl
end Go.Proofs.YtcklgaenedlbiaaGreat

namespace Go.Proofs.YtcklgaenedlbiaaGreat
open Go.RowKit Go.Sort

structure R23 (w : World) (u g cap : Nat) (rest : List Value) (VP : Value) (B : List ByteArray) (v : Wl) : Prop where
  box : Blk w u 37 [.slice (some ⟨g, 0, none⟩) 8 cap, .int .i64 v.epoch, .int .i64 v.from_, .int .i64 v.used, VP]
  blocks : Blk w g 9 (strs B ++ rest)
  len : B.length = 8
  pend : w.ownsRowF 0 39 3 VP v.pend.length (v.pend.flatMap msgCells)
/-- the document's log at u, of the blocks H alone, all of them new -/
structure R23At (w0 w : World) (u : Nat) (B : List ByteArray) (v : Wl) (H : List Nat) : Prop where
  own : ∀ k, k ∈ H → w0.heap.size ≤ k ∧ k < w.heap.size
  mem : u ∈ H
  inn : ∃ g cap rest VP, R23 w u g cap rest VP B v ∧ g ∈ H ∧ ∀ k, VP.ownBlock = some k → k ∈ H
theorem R23.keeps {w w' : World} {u g cap : Nat} {rest : List Value} {VP : Value} {B : List ByteArray} {v : Wl} {F : List Nat} (h : R23 w u g cap rest VP B v) (hk : Keeps F w w') (hu : u ∉ F) (hg : g ∉ F) (hP : ∀ k, VP.ownBlock = some k → k ∉ F) : R23 w' u g cap rest VP B v :=
  ⟨h.box.keeps hk hu, h.blocks.keeps hk hg, h.len, ownsRowF_keeps h.pend hk hP⟩
theorem R23At.keeps {w0 w w' : World} {u : Nat} {B : List ByteArray} {v : Wl} {H F : List Nat} (h : R23At w0 w u B v H) (hk : Keeps F w w') (hd : ∀ k, k ∈ H → k ∉ F) : R23At w0 w' u B v H := by
  obtain ⟨g, cap, rest, VP, h1, h2, h3⟩ := h.inn
  exact ⟨fun k hk' => ⟨(h.own k hk').1, Nat.lt_of_lt_of_le (h.own k hk').2 hk.size⟩, h.mem, g, cap, rest, VP, h1.keeps hk (hd _ h.mem) (hd _ h2) (fun k hk => hd _ (h3 k hk)), h2, h3⟩
theorem R23At.below {w0 w w' : World} {u : Nat} {B : List ByteArray} {v : Wl} {H : List Nat} (h : R23At w0 w u B v H) (hb : Below w.heap.size w w') : R23At w0 w' u B v H := h.keeps (F := []) (Keeps.of hb) (by simp)

theorem row_keptR {w w3 : World} {cs : Array Value} {e : TypeId} {B : Nat} (h : Below B (w.alloc (.cells cs e)).drew w3) (hB : B = (w.alloc (.cells cs e)).drew.heap.size := by rfl) : Row w3 (some ⟨w.heap.size, 0, none⟩) cs.toList := by
  subst hB
  exact Row.below (show Row (w.alloc (.cells cs e)).drew (some ⟨w.heap.size, 0, none⟩) cs.toList from row_new w cs e) h

theorem flat_cells (l : List Msg3) : (l.flatMap msgCells).length = l.length * 3 := by
  induction l with
  | nil => rfl
  | cons x l ih => rw [List.flatMap_cons, List.length_append, ih]; simp [msgCells]; omega
theorem cells_one (l : List Msg3) : ∀ u ∈ l.flatMap msgCells, u.oneCell' = true := by
  intro u hu
  obtain ⟨x, _, hx⟩ := List.mem_flatMap.1 hu
  simp only [msgCells, List.mem_cons, List.not_mem_nil, or_false] at hx
  rcases hx with rfl | rfl | rfl <;> rfl
set_option maxHeartbeats 16000000 in
set_option maxRecDepth 100000 in
theorem r23_Fits {w0 w : World} {u : Nat} {B : List ByteArray} {v : Wl} {H : List Nat} (h : R23At w0 w u B v H) (hv : WlOk v) (hl : v.pend.length ≤ 150) (m : Msg3) :
    Calls Tryz.prog 10 #[.pointer (some ⟨u, 0, none⟩), .agg #[.int .i64 m.1, .string m.2.1, .string m.2.2]] w fun e w' => e = .returned (.bool (v.fits m)) ∧ Below w.heap.size w w' := by
  obtain ⟨K, kk, vv⟩ := m
  simp only
  obtain ⟨i0, hi0, hz0, hz1, hz2⟩ := info_parts info_msg
  have HI0 := hid hi0; have HZ0 := hid hz0; have HZ1 := hid hz1; have HZ2 := hid hz2
  clear hi0 hz0 hz1 hz2
  obtain ⟨g, bcap, rest, VP, hR, _, _⟩ := h.inn
  obtain ⟨f, hf⟩ : ∃ f, f = msgIs K kk vv := ⟨_, rfl⟩
  have hfi : isB (K, kk, vv) = f := by rw [hf]; rfl
  have hA := below_alloc w (.cells #[.int .i64 K, .string kk, .string vv] 39)
  have hBx := Blk.new w #[.int .i64 K, .string kk, .string vv] 39
  obtain ⟨x, hx⟩ : ∃ x, x = w.heap.size := ⟨_, rfl⟩
  obtain ⟨w1, hw1⟩ : ∃ w1, w1 = w.alloc (.cells #[.int .i64 K, .string kk, .string vv] 39) := ⟨_, rfl⟩
  rw [← hx] at hBx
  rw [← hw1] at hA hBx
  have hR1 := hR.keeps (F := []) (Keeps.of hA) (by simp) (by simp) (by simp)
  obtain ⟨PA, pcap, rfl, hpr⟩ := ownsRowF_row hR1.pend
  obtain ⟨L, hL⟩ : ∃ L, L = v.pend.length := ⟨_, rfl⟩
  have KI : Hid (∀ W, Calls Tryz.prog 34 #[.agg #[.int .i64 K, .string kk, .string vv]] W fun e w' => e = .returned (.bool f) ∧ Below W.heap.size W w') := fun W => by rw [hf]; exact ref_Is_any K kk vv W
  have KB : Hid (∀ wx, Kept w1 wx → wx.cell? ⟨x, 0, none⟩ = some (.int .i64 K) ∧ wx.cell? ⟨x, 1, none⟩ = some (.string kk) ∧ wx.cell? ⟨x, 2, none⟩ = some (.string vv) ∧ wx.cell? ⟨u, 0, none⟩ = some (.slice (some ⟨g, 0, none⟩) 8 bcap) ∧ wx.cell? ⟨u, 3, none⟩ = some (.int .i64 v.used) ∧ wx.cell? ⟨u, 4, none⟩ = some (.slice PA L pcap) ∧ Kept w1 wx) := fun wx hk =>
    ⟨(hBx.belowS hk).at rfl, (hBx.belowS hk).at rfl, (hBx.belowS hk).at rfl, (hR1.box.belowS hk).at rfl, (hR1.box.belowS hk).at rfl, by rw [hL]; exact (hR1.box.belowS hk).at rfl, hk⟩
  have KROW : Hid (∀ wx, Kept w1 wx → Row wx PA (v.pend.flatMap msgCells)) := fun wx hk => hpr.below hk
  have HG := hid (And.intro hx hw1); have HA := hid hA; have HL := hid hL; have HLL := hid hl
  have E1 : Hid ((w1.alloc (.cells #[] 39)).drew.ownsRowF 0 39 3 (.slice (some ⟨w1.heap.size, 0, none⟩) 0 0) 0 []) := ownsRowF_empty w1 _ _
  have E2 : Hid (((w1.alloc (.cells #[] 39)).alloc (.cells #[.int .i64 K, .string kk, .string vv] 39)).drew.ownsRowF 0 39 3 (.slice (some ⟨w1.heap.size, 0, none⟩) 0 0) 0 []) := ownsRowF_below (ownsRowF_empty w1 _ _) (below_alloc _ _).drew
  have E3 : Hid (((w1.alloc (.cells #[.int .i64 K, .string kk, .string vv] 39)).alloc (.cells #[] 39)).drew.ownsRowF 0 39 3 (.slice (some ⟨w1.heap.size + 1, 0, none⟩) 0 0) 0 []) := by
    have := ownsRowF_empty (w1.alloc (.cells #[.int .i64 K, .string kk, .string vv] 39)) 39 3
    rwa [show (w1.alloc (.cells #[.int .i64 K, .string kk, .string vv] 39)).heap.size = w1.heap.size + 1 by simp] at this
  have k1 : Kept w1 (w1.alloc (.cells #[] 39)).drew := Kept.drew (below_alloc _ _)
  have k2 : Kept w1 ((w1.alloc (.cells #[] 39)).alloc (.cells #[.int .i64 K, .string kk, .string vv] 39)).drew := Kept.drew (Kept.alloc (below_alloc _ _) _)
  have k3 : Kept w1 ((w1.alloc (.cells #[.int .i64 K, .string kk, .string vv] 39)).alloc (.cells #[] 39)).drew := Kept.drew (Kept.alloc (below_alloc _ _) _)
  have hk0 : Kept w1 w1.drew := (Below.refl _ _).drew
  have k4 : Kept w1 (w1.alloc (.cells #[.int .i64 K, .string kk, .string vv] 39)).drew := Kept.drew (below_alloc _ _)
  go_enter Tryz.func10, Tryz.ntmps10
  go_wp2_with fail
  rw [← HG.out.1, ← HG.out.2]
  have EB2 : Hid (Blk ((w1.alloc (.cells #[] 39)).alloc (.cells #[.int .i64 K, .string kk, .string vv] 39)).drew (w1.heap.size + 1) 39 (msgCells (K, kk, vv))) := by
    have := Blk.new (w1.alloc (.cells #[] 39)) #[.int .i64 K, .string kk, .string vv] 39
    rwa [show (w1.alloc (.cells #[] 39)).heap.size = w1.heap.size + 1 by simp] at this
  have EB3 : Hid (Blk ((w1.alloc (.cells #[.int .i64 K, .string kk, .string vv] 39)).alloc (.cells #[] 39)).drew w1.heap.size 39 (msgCells (K, kk, vv))) := (Blk.new w1 #[.int .i64 K, .string kk, .string vv] 39).belowS (below_alloc _ _).drew
  have hall : ∀ y ∈ v.pend ++ [(K, kk, vv)], f = true → isB y = true := fun y hy hf => by
    rcases List.mem_append.1 hy with h | h
    · exact hv.all y h
    · rw [List.mem_singleton.1 h, hfi, hf]
  have HALL := hid hall
  have HV := hid hv; have HFI := hid hfi
  have hml : (v.pend.flatMap msgCells).length = L * 3 := by rw [hL]; exact flat_cells v.pend
  have HML := hid hml
  have hL150 : L ≤ 150 := by omega
  clear h hR hf hx hBx hw1 hR1 hL hA hl hpr hall hml hv hfi
  go_upto_region 1 with fail
  go_region_held3 (fun wx => wx.cell? ⟨x, 0, none⟩ = some (.int .i64 K) ∧ wx.cell? ⟨x, 1, none⟩ = some (.string kk) ∧ wx.cell? ⟨x, 2, none⟩ = some (.string vv) ∧ wx.cell? ⟨u, 0, none⟩ = some (.slice (some ⟨g, 0, none⟩) 8 bcap) ∧ wx.cell? ⟨u, 3, none⟩ = some (.int .i64 v.used) ∧ wx.cell? ⟨u, 4, none⟩ = some (.slice PA L pcap) ∧ Kept w1 wx)
    ((first | assumption | (refine KB.out _ ?_; first | assumption | exact Kept.drew (by assumption) | exact Kept.alloc (by assumption) _ | exact Kept.go (by assumption) (by assumption))))
    (first
      | (refine step_append_rowG (by rfl) (.tmp 6) (.tmp 10) 32 39 rfl i0 _ 3 40 Tryz.underlying32 HI0.out HZ0.out HZ1.out HZ2.out rfl (by decide) (.slice (some ⟨_, 0, none⟩) 0 0) 0 [] rfl (by first | exact E1.out | exact E2.out | exact E3.out) PA L pcap (v.pend.flatMap msgCells) rfl HML.out (KROW.out _ (by first | exact k1 | exact k2 | exact k3)) (cells_one v.pend) (by simp only [maxLen]; omega) (by omega) ?_
         intro V5 w5 hown5 hkp5 hvb5
         rw [Nat.zero_add] at hown5
         obtain ⟨A5, cap5, rfl, hr5⟩ := ownsRowF_row hown5
         have hk5 : Kept w1 w5 := Keeps.below (by first | exact k1 | exact k2 | exact k3) hkp5 (fun y hy => by simp [Value.ownBlock] at hy; omega)
         have HB5 : Hid (∀ k, (Value.slice A5 L cap5).ownBlock = some k → w1.heap.size ≤ k) := fun k hk => by
           rcases hvb5 k hk with h | h
           · simp [Value.ownBlock] at h; omega
           · simp at h; omega
         (first
           | (have RB := hid ((EB2.out.keeps hkp5 (by simp [Value.ownBlock])).row))
           | (have RB := hid ((EB3.out.keeps hkp5 (by simp [Value.ownBlock])).row))
           | skip)
         have HO5 := hid hown5
         clear hown5 hkp5 hvb5 hr5)
      | (refine step_append_rowG (by rfl) (.tmp 11) (.tmp 13) 32 39 rfl i0 _ 3 40 Tryz.underlying32 HI0.out HZ0.out HZ1.out HZ2.out rfl (by decide) (.slice A5 L cap5) L ([] ++ v.pend.flatMap msgCells) rfl (by first | exact HO5.out | exact ownsRowF_below HO5.out (below_alloc _ _)) _ 1 1 (msgCells (K, kk, vv)) rfl rfl (by first | exact row_new _ #[.int .i64 K, .string kk, .string vv] _ | exact RB.out) (by intro u hu; simp only [msgCells, List.mem_cons, List.not_mem_nil, or_false] at hu; rcases hu with rfl | rfl | rfl <;> rfl) (by simp only [maxLen]; omega) (by omega) ?_
         intro V8 w8 hown8 hkp8 hvb8
         obtain ⟨A8, cap8, rfl, hr8⟩ := ownsRowF_row hown8
         have hk8 : Kept w1 w8 := Keeps.below (by first | exact hk5 | exact Kept.alloc hk5 _) hkp8 (fun y hy => HB5.out y (Option.mem_toList.1 hy))
         have HR8 := hid (show Row w8 A8 ((v.pend ++ [(K, kk, vv)]).flatMap msgCells) from by rw [List.flatMap_append]; simpa using hr8)
         clear hown8 hkp8 hvb8 hr8))
  all_goals
    have HK8 := hid (bt HA.out hk8)
    have KB8 : Hid (∀ wx, Kept w8 wx → wx.cell? ⟨x, 0, none⟩ = some (.int .i64 K) ∧ wx.cell? ⟨x, 1, none⟩ = some (.string kk) ∧ wx.cell? ⟨x, 2, none⟩ = some (.string vv) ∧ wx.cell? ⟨u, 0, none⟩ = some (.slice (some ⟨g, 0, none⟩) 8 bcap) ∧ wx.cell? ⟨u, 3, none⟩ = some (.int .i64 v.used) ∧ Kept w8 wx) := fun wx hk => by
      obtain ⟨a0, a1, a2, a3, a4, _, _⟩ := KB.out wx (bt hk8 hk)
      exact ⟨a0, a1, a2, a3, a4, hk⟩
    have hk0' : Kept w8 w8.drew := (Below.refl _ _).drew
    obtain ⟨n, hn⟩ : ∃ n, n = needOf (v.pend ++ [(K, kk, vv)]) := ⟨_, rfl⟩
    have hnl : n ≤ 1000 := by
      rw [hn]
      have h1 := g2_len ((v.pend ++ [(K, kk, vv)]).filter isB) []
      have h2 := List.length_filter_le isB (v.pend ++ [(K, kk, vv)])
      rw [List.length_append, List.length_singleton] at h2
      have := HL.out
      unfold needOf; omega
    have hu8 : v.used ≤ 8 := by have := HV.out.fit; omega
    have hdec : decide (IntKind.i64.wrap ((v.used : Int) + (n : Int)) ≤ 8) = decide (v.used + n ≤ 8) := by
      rw [IntKind.wrap_i64]
      by_cases h : v.used + n ≤ 8
      · rw [decide_eq_true h, decide_eq_true (by omega)]
      · rw [decide_eq_false h, decide_eq_false (by omega)]
    have hfit : v.fits (K, kk, vv) = (f && decide (v.used + n ≤ 8)) := by unfold Wl.fits; rw [HFI.out, HV.out.size, hn]
    have KT : Hid (f = true → ∀ W, Kept w8 W → Calls Tryz.prog 35 #[.slice A8 (L + 1) cap8] W fun e w' => ∃ A' cap', e = .returned (.slice A' n cap') ∧ Below W.heap.size W w') := fun hf W hW => by
      have hal : ∀ y ∈ v.pend ++ [(K, kk, vv)], isB y = true := fun y hy => HALL.out y hy hf
      have h1 := ref22_Texts A8 cap8 (v.pend ++ [(K, kk, vv)]) (by rw [List.length_append, List.length_singleton]; have := HL.out; omega) hal W (HR8.out.below hW)
      rw [← need_all hal, ← hn, List.length_append, List.length_singleton, ← HL.out] at h1
      refine h1.mono ?_
      rintro e w' ⟨V, rfl, ho, hb⟩
      obtain ⟨A', cap', rfl, _⟩ := ownsRowF_row ho
      exact ⟨A', cap', rfl, hb⟩
    have n0 : (n : Int) ≤ 1000 := by omega
    have n1 : (0 : Int) ≤ (n : Int) := by omega
    have u0 : (v.used : Int) ≤ 8 := by omega
    have HDEC := hid hdec; have HFIT := hid hfit
    clear hn hnl hdec hfit hk8 E1 E2 E3 EB2 EB3 KROW KB k1 k2 k3 k4 hk0
    cases f with
    | false =>
      go_upto_region 2 with fail
      obtain ⟨a0, a1, a2, _, _, _⟩ := KB8.out w8 (Below.refl _ _)
      have m0 : ∀ d os, (grow (redrawn w8 d) os).cell? ⟨x, 0, none⟩ = some (.int .i64 K) := fun d os => cell_regrown a0 d os
      have m1 : ∀ d os, (grow (redrawn w8 d) os).cell? ⟨x, 1, none⟩ = some (.string kk) := fun d os => cell_regrown a1 d os
      have m2 : ∀ d os, (grow (redrawn w8 d) os).cell? ⟨x, 2, none⟩ = some (.string vv) := fun d os => cell_regrown a2 d os
      refine wp_region_quiet_below (by kernel_rfl) (by kernel_rfl) ?_
      repeat (go_big_quiet_step (first
        | with_reducible exact Calls.regrown_of (KI.out _)))
      refine wpQuiet_nil ?_
      intro _ hw'
      obtain ⟨⟨dq, osq⟩, hw''⟩ := hw'
      subst hw''
      clear m0 m1 m2 a0 a1 a2
      go_wp2_with fail
      go_ret
      exact ⟨ret_bool (show false = v.fits (K, kk, vv) from HFIT.out.symm), bt HK8.out (below_regrown w8 dq osq)⟩
    | true =>
      have KT2 := hid (KT.out rfl)
      clear KT
      go_upto_region 2 with fail
      go_region_held3 (fun wx => wx.cell? ⟨x, 0, none⟩ = some (.int .i64 K) ∧ wx.cell? ⟨x, 1, none⟩ = some (.string kk) ∧ wx.cell? ⟨x, 2, none⟩ = some (.string vv) ∧ wx.cell? ⟨u, 0, none⟩ = some (.slice (some ⟨g, 0, none⟩) 8 bcap) ∧ wx.cell? ⟨u, 3, none⟩ = some (.int .i64 v.used) ∧ Kept w8 wx)
        ((first | assumption | (refine KB8.out _ ?_; first | assumption | exact Kept.drew (by assumption) | exact Kept.alloc (by assumption) _ | exact Kept.go (by assumption) (by assumption))))
        (first
          | (go_at_call 34; with_reducible refine (KI.out _).mono ?_; rintro e w9 ⟨rfl, hb_⟩; have hk9 := Kept.go hk0' hb_; clear hb_)
          | (go_at_call 35; with_reducible refine (KT2.out _ hk9).mono ?_; rintro e w10 ⟨A10, cap10, rfl, hb_⟩; have hk10 := Kept.go hk9 hb_; clear hb_))
      go_wp2_with fail
      go_ret
      exact ⟨ret_bool (HDEC.out.trans ((Bool.true_and _).symm.trans HFIT.out.symm)), bt HK8.out hk10⟩
end Go.Proofs.YtcklgaenedlbiaaGreat
