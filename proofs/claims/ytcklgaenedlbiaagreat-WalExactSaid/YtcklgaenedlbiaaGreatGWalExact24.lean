/-
  slab.Read: walked.
  DevAll, walked: with all kept, or flushed, all is there; with nothing kept just what was flushed.
-/
import Derived.Test.YtcklgaenedlbiaaGreatGWalExact23
import Derived.Test.YtcklgaenedlbiaaGreatGWalExact16

namespace Go.Proofs.YtcklgaenedlbiaaGreat
open Go.RowKit

theorem results_tmp4 {fn : Func} {a b c d : Tmp} (h : fn.results = #[.tmp a, .tmp b, .tmp c, .tmp d]) (tmps : Array Value) (P : Program) (w : World) :
    (results fn tmps).run P w = .ok (.tuple #[tmps.getD a undef, tmps.getD b undef, tmps.getD c undef, tmps.getD d undef]) w := by
  simp [results, h]
/-- a builder that the call made -/
def Bld (w0 w : World) (p : Nat) (l : List UInt8) : Prop := ∃ F, OutAt 111 w p l F ∧ Below w0.heap.size w0 w ∧ ∀ x, x ∈ F → w0.heap.size ≤ x
theorem Bld.new {w0 w : World} (hb : Below w0.heap.size w0 w) : Bld w0 (w.alloc (.cells #[.pointer none, .slice none 0 0] 111)) w.heap.size [] :=
  ⟨[w.heap.size], OutAt.new _ w, bt hb (below_alloc _ _), fun x hx => by simp at hx; rw [hx]; exact hb.size⟩
theorem Bld.bel {w0 w : World} {p : Nat} {l : List UInt8} (h : Bld w0 w p l) : Below w0.heap.size w0 w := h.choose_spec.2.1
theorem Bld.below {w0 w w' : World} {p : Nat} {l : List UInt8} (h : Bld w0 w p l) (hb : Below w.heap.size w w') : Bld w0 w' p l := by
  obtain ⟨F, h1, h2, h3⟩ := h
  exact ⟨F, h1.below hb, bt h2 hb, h3⟩
/-- another block is written, that is newer than it -/
theorem Bld.keeps {w0 w w' : World} {p q : Nat} {l : List UInt8} (h : Bld w0 w p l) (hk : Keeps [q] w w') (hq : w0.heap.size ≤ q) (hn : ∃ W : World, Bld w0 W p l ∧ W.heap.size ≤ q ∧ Below W.heap.size W w) : Bld w0 w' p l := by
  obtain ⟨W, ⟨F, h1, h2, h3⟩, h4, h5⟩ := hn
  exact ⟨F, (h1.below h5).keeps hk (fun k hkF hk2 => by simp at hk2; have := h1.sizes k hkF; omega), Keeps.below1 h.bel hk hq, h3⟩
theorem bld_WriteString {w0 w : World} {p : Nat} {l : List UInt8} (h : Bld w0 w p l) (s : ByteArray) (hlen : l.length + s.size ≤ 140737488355328) :
    Calls Tryz.prog 73 #[.pointer (some ⟨p, 0, none⟩), .string s] w fun e w' => e = .returned (.tuple #[.int .i64 s.size, .nilIface]) ∧ Bld w0 w' p (l ++ s.data.toList) := by
  obtain ⟨F, h1, h2, h3⟩ := h
  refine (WriteString_any _ bt_Builder p l F s w h1 hlen).mono ?_
  rintro e w' ⟨rfl, F', k1, k2, k3⟩
  exact ⟨rfl, F', k1, Keeps.below h2 k2 h3, fun x hx => by rcases k3 x hx with h | h; exact h3 x h; exact Nat.le_trans h2.size h⟩
theorem bld_String {w0 w : World} {p : Nat} {l : List UInt8} (h : Bld w0 w p l) :
    Calls Tryz.prog 75 #[.pointer (some ⟨p, 0, none⟩)] w fun e w' => e = .returned (.string ⟨l.toArray⟩) ∧ Below w0.heap.size w0 w' := by
  obtain ⟨F, h1, h2, h3⟩ := h
  refine (String_any _ p l F w h1).mono ?_
  rintro e w' ⟨rfl, k1, k2⟩
  exact ⟨rfl, Keeps.below h2 k2 h3⟩

theorem bdn1 {B : Nat} {a w : World} (h : Below B a w) (n : Nat) : Below B a (w.drewN n) := ⟨h.os, h.tape, h.output, h.size, h.block⟩
/-- the parts of the first sectors -/
def partsN (L : List UInt8) : Nat → List UInt8
  | 0 => []
  | k + 1 => partsN L k ++ partOf L k
theorem partsN_4 (L : List UInt8) : partsN L 4 = frameOf L := by simp [partsN, frameOf]
theorem partsN_le (L : List UInt8) : ∀ k, (partsN L k).length ≤ 56 * k
  | 0 => Nat.le_refl _
  | k + 1 => by
    have := partsN_le L k
    simp only [partsN, List.length_append, partOf, List.length_take]; omega
theorem frameOf_length {L : List UInt8} (h : L.length = 256) : (frameOf L).length = 224 := by
  simp only [frameOf, partOf, List.length_append, List.length_take, List.length_drop, h]
  rfl
theorem textR_err {f : List UInt8} {k : Int} (h : textR f = .error k) : k = 5 ∨ k = 6 := by
  unfold textR at h
  split at h
  · injection h with h; exact .inl h.symm
  · split at h
    · cases h
    · injection h with h; exact .inr h.symm
/-- a block's numbers, text and error -/
def readV (b : ByteArray) : Int × Int × ByteArray × Int :=
  if b.size = 256 then match readR b.data.toList with
    | .ok (e, q, s) => (e, q, ⟨s.toArray⟩, 0)
    | .error k => (0, 0, ⟨#[]⟩, k)
  else (0, 0, ⟨#[]⟩, 1)

set_option maxHeartbeats 8000000 in
set_option maxRecDepth 100000 in
theorem slab_Read (b : ByteArray) (w : World) :
    Calls Tryz.prog 48 #[.string b] w fun ee w' => ee = .returned (.tuple #[.int .i64 (readV b).1, .int .i64 (readV b).2.1, .string (readV b).2.2.1, .int .i64 (readV b).2.2.2]) ∧ Below w.heap.size w w' := by
  by_cases h256 : b.size = 256
  case neg =>
    have hv : readV b = (0, 0, ⟨#[]⟩, 1) := by unfold readV; rw [if_neg h256]
    have hb : (((b.size : Int)) != 256) = true := by rw [bne_iff_ne]; omega
    have HV := hid hv
    clear hv
    go_enter Tryz.func48, Tryz.ntmps48
    go_wp2_with fail
    (try simp only [Exit.inBlock, Exit.then])
    refine bodyPost_ret (results_tmp4 rfl _ _ _) rfl ?_
    exact ⟨by rw [HV.out]; rfl, Below.refl _ _⟩
  obtain ⟨L, hL⟩ : ∃ L, L = b.data.toList := ⟨_, rfl⟩
  have hLl : L.length = 256 := by rw [hL]; simpa using h256
  have hb : (((b.size : Int)) != 256) = false := by rw [h256]; rfl
  have hv : readV b = match readR L with
    | .ok (e, q, s) => (e, q, ⟨s.toArray⟩, 0)
    | .error k => (0, 0, ⟨#[]⟩, k) := by unfold readV; rw [if_pos h256, ← hL]
  obtain ⟨V, hV⟩ : ∃ V, V = readV b := ⟨_, rfl⟩
  rw [← hV] at hv ⊢
  have HL := hid hL; have HV := hid hv; have HLL := hid hLl
  have B0 := hid (Bld.new (Below.refl w.heap.size w))
  clear hL hv hV hLl
  go_enter Tryz.func48, Tryz.ntmps48
  go_wp2_with fail
  go_loopg [7] 4 (fun g x wx => ∃ k a : Nat, k + g = 4 ∧ x = .int .i64 a ∧ Hid (a = 64 * k ∧ Bld w wx w.heap.size (partsN L k) ∧ ∀ i, i < k → markOf L i = markOf L 0))
  case atStart => exact ⟨0, 0, rfl, rfl, rfl, B0.out, fun i h => absurd h (by omega)⟩
  case round =>
    obtain ⟨k, a, hk, rfl, HS⟩ := hrel
    clear B0
    by_cases hlt : k < 4
    · have ha' : (a : Int) < 256 := by have := HS.out.1; omega
      obtain ⟨a8, ha8⟩ : ∃ q, q = a + 8 := ⟨_, rfl⟩
      obtain ⟨a64, ha64⟩ : ∃ q, q = a + 64 := ⟨_, rfl⟩
      have e1 : IntKind.i64.wrap ((a : Int) + 8) = (a8 : Int) := by rw [IntKind.wrap_i64]; omega
      have e2 : IntKind.i64.wrap ((a : Int) + 64) = (a64 : Int) := by rw [IntKind.wrap_i64]; omega
      have c1 : (a8 : Int) ≤ (b.size : Int) := by have := HS.out.1; omega
      have c2 : (a : Int) ≤ (a8 : Int) := by omega
      have c3 : (a64 : Int) ≤ (b.size : Int) := by have := HS.out.1; omega
      have c4 : (a8 : Int) ≤ (a64 : Int) := by omega
      have hx : (b.extract a8 a64).data.toList = partOf L k := by
        rw [cut_list, ← HL.out, ha8, ha64, HS.out.1, List.drop_take]; unfold partOf; congr 1; omega
      have hxs : (b.extract a8 a64).size ≤ 64 := by simp; omega
      obtain ⟨f, hf⟩ : ∃ f, f = decide (markOf L k = markOf L 0) := ⟨_, rfl⟩
      have hbeq : ((b.extract a a8).toList == (b.extract 0 8).toList) = f := by
        rw [beq_bytes, cut_list, cut_list, ← HL.out, hf]
        have h1 : (L.take a8).drop a = markOf L k := by rw [ha8, HS.out.1, List.drop_take]; unfold markOf; congr 1; omega
        have h2 : (L.take 8).drop 0 = markOf L 0 := by unfold markOf; simp
        rw [h1, h2]
      have HX := hid hx; have HXS := hid hxs; have HA := hid (And.intro ha8 ha64); have HF := hid hf
      clear hx hxs ha8 ha64 hf
      cases f with
      | false =>
        go_wp2_with fail
        go_quiet (fail)
        go_wp2_with fail
        (try simp only [Exit.inBlock, Exit.then])
        refine bodyPost_ret (results_tmp4 rfl _ _ _) rfl ?_
        refine ⟨?_, bdn1 HS.out.2.1.bel _⟩
        have hm : marksOk L = false := by
          cases h : marksOk L with
          | false => rfl
          | true =>
            have := marksOk_all h k 0 hlt (by decide)
            exact absurd this (of_decide_eq_false HF.out.symm)
        have hr : readR L = .error 5 := by unfold readR; rw [if_pos hm]
        rw [HV.out, hr]
        rfl
      | true =>
        go_wp2_with fail
        go_quiet (fail)
        have hle := partsN_le L k
        go_wp2_with fail
        refine (bld_WriteString (HS.out.2.1.below (bdn1 (Below.refl _ _) _)) (b.extract a8 a64) (by have := HXS.out; omega)).mono ?_
        rintro ee w4 ⟨rfl, B4⟩
        rw [HX.out] at B4
        have H4 : Hid (a64 = 64 * (k + 1) ∧ Bld w w4 w.heap.size (partsN L (k + 1)) ∧ ∀ i, i < k + 1 → markOf L i = markOf L 0) := by
          refine ⟨by have := HS.out.1; have := HA.out.2; omega, B4, fun i hi => ?_⟩
          by_cases e : i = k
          · subst e; exact of_decide_eq_true HF.out.symm
          · exact HS.out.2.2 i (by omega)
        clear B4 HS
        go_wp2_with fail
        go_roundg (4 - (k + 1))
        case measure => omega
        case rel => exact ⟨k + 1, a64, by omega, by first | rfl | go_num, H4⟩
    · have hk4 : k = 4 := by omega
      subst hk4
      obtain ⟨s1, s2, s3⟩ := HS.out
      have ha' : ¬ (a : Int) < 256 := by omega
      rw [partsN_4] at s2
      have hm : marksOk L = true := (marksOk_iff L).2 ⟨s3 1 (by decide), s3 2 (by decide), s3 3 (by decide)⟩
      have hlb : b.data.toList = L := HL.out.symm
      obtain ⟨e, he, he2, henum⟩ := num_part b 4 (by decide) (by omega) (by decide)
      obtain ⟨r, hr⟩ : ∃ r, r = b.extract 4 b.size := ⟨_, rfl⟩
      have hrl : r.data.toList = L.drop 4 := by
        rw [hr, cut_list, hlb, List.take_of_length_le (by rw [HLL.out, h256]; exact Nat.le_refl _)]
      have hrs : r.size = 252 := by rw [hr]; simp; omega
      obtain ⟨q, hq, hq2, hqnum⟩ := num_part r 4 (by decide) (by omega) (by decide)
      rw [← hr] at henum
      rw [hlb] at he
      rw [hrl] at hq
      have hR : readR L = if e < 1 ∨ 2147483647 < e ∨ 2147483647 < q then .error 5 else match textR (frameOf L) with
          | .error k => .error k
          | .ok s => .ok (e, q, s) := by
        unfold readR
        rw [if_neg (by rw [hm]; simp), ← he, ← hq]
        cases textR (frameOf L) <;> rfl
      have HR := hid hR; have HEN := hid henum; have HQN := hid hqnum; have HS2 := hid s2
      have he3 : e < 4294967296 := he2
      have hq3 : q < 4294967296 := hq2
      clear s1 s2 s3 hm hlb he he2 henum hr hrl hrs hq hq2 hqnum hR HS
      go_wp2_with fail
      refine (pen_Of_any b _).mono ?_; rintro ee w1 ⟨rfl, hb1, hi1, hsz1⟩
      obtain ⟨p, hp⟩ : ∃ p, p = wr.heap.size := ⟨_, rfl⟩
      rw [← hp] at hi1 ⊢
      have H1 := hid (show Bld w w1 w.heap.size (frameOf L) ∧ InAt w1 p b false ∧ p = wr.heap.size ∧ w.heap.size ≤ p ∧ Below wr.heap.size wr w1 from ⟨HS2.out.below hb1, hi1, hp, by rw [hp]; exact HS2.out.bel.size, hb1⟩)
      clear hb1 hi1 hsz1 hp
      go_wp2_with fail
      refine (In_Num_all p b false 4 _ H1.out.2.1).mono ?_; rintro ee w2 ⟨rfl, hk2, hi2⟩
      rw [show (4 : Int) = ((4 : Nat) : Int) from rfl, HEN.out] at hi2 ⊢
      have H2 := hid (show Bld w w2 w.heap.size (frameOf L) ∧ InAt w2 p r false from ⟨H1.out.1.keeps hk2 H1.out.2.2.2.1 ⟨wr, HS2.out, by rw [H1.out.2.2.1]; exact Nat.le_refl _, H1.out.2.2.2.2⟩, hi2⟩)
      have K2 := hid hk2
      clear hk2 hi2 HEN
      go_wp2_with fail
      refine (In_Num_all p r false 4 _ H2.out.2).mono ?_; rintro ee w3 ⟨rfl, hk3, hi3⟩
      rw [show (4 : Int) = ((4 : Nat) : Int) from rfl, HQN.out]
      have H3 := hid (show Bld w w3 w.heap.size (frameOf L) from H2.out.1.keeps hk3 H1.out.2.2.2.1 ⟨wr, HS2.out, by rw [H1.out.2.2.1]; exact Nat.le_refl _, Keeps.below1 H1.out.2.2.2.2 K2.out (by rw [H1.out.2.2.1]; exact Nat.le_refl _)⟩)
      clear hk3 hi3 H2 K2 H1 HS2 HQN
      by_cases c1 : e < 1
      · have hr : readR L = .error 5 := by rw [HR.out, if_pos (by omega)]
        have c1' : (e : Int) < 1 := by omega
        go_wp2_with fail
        (try simp only [Exit.inBlock, Exit.then])
        refine bodyPost_ret (results_tmp4 rfl _ _ _) rfl ?_
        refine ⟨?_, H3.out.bel⟩
        rw [HV.out, hr]
        rfl
      have c1' : ¬ (e : Int) < 1 := by omega
      by_cases c2 : 2147483647 < e
      · have hr : readR L = .error 5 := by rw [HR.out, if_pos (by omega)]
        have c2' : (2147483647 : Int) < (e : Int) := by omega
        go_wp2_with fail
        (try simp only [Exit.inBlock, Exit.then])
        refine bodyPost_ret (results_tmp4 rfl _ _ _) rfl ?_
        refine ⟨?_, H3.out.bel⟩
        rw [HV.out, hr]
        rfl
      have c2' : ¬ (2147483647 : Int) < (e : Int) := by omega
      by_cases c3 : 2147483647 < q
      · have hr : readR L = .error 5 := by rw [HR.out, if_pos (by omega)]
        have c3' : (2147483647 : Int) < (q : Int) := by omega
        go_wp2_with fail
        (try simp only [Exit.inBlock, Exit.then])
        refine bodyPost_ret (results_tmp4 rfl _ _ _) rfl ?_
        refine ⟨?_, H3.out.bel⟩
        rw [HV.out, hr]
        rfl
      have c3' : ¬ (2147483647 : Int) < (q : Int) := by omega
      have hr := HR.out
      rw [if_neg (by omega)] at hr
      obtain ⟨f, hf⟩ : ∃ f : ByteArray, f = ⟨(frameOf L).toArray⟩ := ⟨_, rfl⟩
      have hfs : f.size = 224 := by rw [hf]; show (frameOf L).toArray.size = _; simp [frameOf_length HLL.out]
      have hfl : f.data.toList = frameOf L := by rw [hf]
      have HT := hid (fun w' => slab_text f (by omega) (by omega) w')
      rw [hfl] at HT
      have HF := hid hf
      clear hf hfs hfl HR
      cases ht : textR (frameOf L) with
      | error k =>
        have hk0 : ((k : Int) != 0) = true := by rcases textR_err ht with rfl | rfl <;> rfl
        have hv : textV (frameOf L) = (⟨#[]⟩, k) := by unfold textV; rw [ht]
        have hR : readR L = .error k := by rw [hr, ht]
        rw [hv] at HT
        have HRR := hid hR
        clear hr ht hv hR
        go_wp2_with fail
        refine (bld_String H3.out).mono ?_; rintro ee w4 ⟨rfl, hb4⟩
        rw [← HF.out]
        have H4 := hid hb4
        clear hb4 H3
        go_wp2_with fail
        refine (HT.out w4).mono ?_; rintro ee w5 ⟨rfl, hb5⟩
        have H5 := hid (bt H4.out hb5)
        clear hb5 H4 HT
        go_wp2_with fail
        (try simp only [Exit.inBlock, Exit.then])
        refine bodyPost_ret (results_tmp4 rfl _ _ _) rfl ?_
        refine ⟨?_, H5.out⟩
        rw [HV.out, HRR.out]
        rfl
      | ok s =>
        have hv : textV (frameOf L) = (⟨s.toArray⟩, 0) := by unfold textV; rw [ht]
        have hR : readR L = .ok (e, q, s) := by rw [hr, ht]
        rw [hv] at HT
        have HRR := hid hR
        clear hr ht hv hR
        go_wp2_with fail
        refine (bld_String H3.out).mono ?_; rintro ee w4 ⟨rfl, hb4⟩
        rw [← HF.out]
        have H4 := hid hb4
        clear hb4 H3
        go_wp2_with fail
        refine (HT.out w4).mono ?_; rintro ee w5 ⟨rfl, hb5⟩
        have H5 := hid (bt H4.out hb5)
        clear hb5 H4 HT
        go_wp2_with fail
        (try simp only [Exit.inBlock, Exit.then])
        refine bodyPost_ret (results_tmp4 rfl _ _ _) rfl ?_
        refine ⟨?_, H5.out⟩
        rw [HV.out, HRR.out]
        rfl
end Go.Proofs.YtcklgaenedlbiaaGreat

namespace Go.Proofs.YtcklgaenedlbiaaGreat
open Go.RowKit

theorem sep_next {F F' G : List Nat} {N : Nat} (hF : ∀ k, k ∈ F' → k ∈ F ∨ N ≤ k) (hd : ∀ k, k ∈ F → k ∉ G) (hG : ∀ k, k ∈ G → k < N) : ∀ k, k ∈ F' → k ∉ G := by
  intro k hk hm
  rcases hF k hk with h | h
  · exact hd k h hm
  · have := hG k hm; omega
theorem sep_comm {F G : List Nat} (h : ∀ k, k ∈ F → k ∉ G) : ∀ k, k ∈ G → k ∉ F := fun k h1 h2 => h k h2 h1
theorem Dev.keeps {w0 w w' : World} {p n : Nat} {d : Dv} {F G : List Nat} (h : Dev w0 w p n d F) (hk : Keeps G w w') (hG : ∀ k, k ∈ G → w0.heap.size ≤ k) (hd : ∀ k, k ∈ F → k ∉ G) : Dev w0 w' p n d F :=
  ⟨h.at_.keeps hk hd, Keeps.below h.bel hk hG, h.own, h.ok, h.kl, h.ll⟩

/-- what the three devices are -/
def allD (L : List (Nat × ByteArray)) : Dv := ⟨List.replicate 1024 0, L, false, -1, [], 0, L.length, 0⟩
theorem allD_write (L : List (Nat × ByteArray)) (x : Nat × ByteArray) : (allD L).write x = allD (L ++ [x]) := by
  rw [Dv.write_none (by show (-1 : Int) < 0; decide) rfl]
  unfold allD
  simp only [List.length_append, List.length_cons, List.length_nil]
theorem ownsRowF_empty (w : World) (e : TypeId) (size : Nat) : (w.alloc (.cells #[] e)).ownsRowF 0 e size (.slice (some ⟨w.heap.size, 0, none⟩) 0 0) 0 [] :=
  ⟨by simp, .inr ⟨w.heap.size, 0, #[], (0, 0), rfl, Nat.zero_le _, heap_alloc_new w _, Nat.zero_le _, Nat.zero_le _, Nat.zero_le _, by simp, by simp⟩⟩
theorem allD_on (L : List (Nat × ByteArray)) : (allD L).burn.off = false := by rw [Dv.burn_none (by show (-1 : Int) < 0; decide)]; rfl

/-- three devices in a world, and a row of m times true -/
def Three (w wx : World) (pa pb pc : Nat) (Da Db Dc : Dv) (V : Value) (m : Nat) : Prop := ∃ Fa Fb Fc, Dev w wx pa 4 Da Fa ∧ Dev w wx pb 4 Db Fb ∧ Dev w wx pc 4 Dc Fc ∧ (∀ k, k ∈ Fa → k ∉ Fb) ∧ (∀ k, k ∈ Fa → k ∉ Fc) ∧ (∀ k, k ∈ Fb → k ∉ Fc) ∧
  wx.ownsRowF 0 4 1 V m (bools (List.replicate m true)) ∧ (∀ k, V.ownBlock = some k → w.heap.size ≤ k ∧ k ∉ Fa ∧ k ∉ Fb ∧ k ∉ Fc)
theorem Three.bel {w wx : World} {pa pb pc : Nat} {Da Db Dc : Dv} {V : Value} {m : Nat} (h : Three w wx pa pb pc Da Db Dc V m) : Below w.heap.size w wx := by
  obtain ⟨_, _, _, h, _⟩ := h; exact h.bel
/-- memory is made -/
theorem Three.below {w wx w' : World} {pa pb pc : Nat} {Da Db Dc : Dv} {V : Value} {m : Nat} (h : Three w wx pa pb pc Da Db Dc V m) (hb : Below wx.heap.size wx w') : Three w w' pa pb pc Da Db Dc V m := by
  obtain ⟨Fa, Fb, Fc, h1, h2, h3, h4, h5, h6, h7, h8⟩ := h
  exact ⟨Fa, Fb, Fc, h1.below hb, h2.below hb, h3.below hb, h4, h5, h6, ownsRowF_below h7 hb, h8⟩
theorem Three.rot {w wx : World} {pa pb pc : Nat} {Da Db Dc : Dv} {V : Value} {m : Nat} (h : Three w wx pa pb pc Da Db Dc V m) : Three w wx pb pc pa Db Dc Da V m := by
  obtain ⟨Fa, Fb, Fc, h1, h2, h3, h4, h5, h6, h7, h8⟩ := h
  exact ⟨Fb, Fc, Fa, h2, h3, h1, h6, sep_comm h4, sep_comm h5, h7, fun k hk => ⟨(h8 k hk).1, (h8 k hk).2.2.1, (h8 k hk).2.2.2, (h8 k hk).2.1⟩⟩
/-- a deed of the first -/
theorem three_call {w wx : World} {pa pb pc : Nat} {Da Db Dc Da' : Dv} {V : Value} {m f : Nat} {args : Array Value} {r : Ending} (h : Three w wx pa pb pc Da Db Dc V m)
    (hc : ∀ Fa, Dev w wx pa 4 Da Fa → Calls Tryz.prog f args wx fun e w' => e = r ∧ ∃ Fa', Dev w w' pa 4 Da' Fa' ∧ Keeps Fa wx w' ∧ ∀ k, k ∈ Fa' → k ∈ Fa ∨ wx.heap.size ≤ k) :
    Calls Tryz.prog f args wx fun e w' => e = r ∧ Three w w' pa pb pc Da' Db Dc V m := by
  obtain ⟨Fa, Fb, Fc, h1, h2, h3, h4, h5, h6, h7, h8⟩ := h
  refine (hc Fa h1).mono ?_
  rintro e w' ⟨rfl, Fa', k1, k2, k3⟩
  refine ⟨rfl, Fa', Fb, Fc, k1, h2.keeps k2 h1.own (sep_comm h4), h3.keeps k2 h1.own (sep_comm h5), sep_next k3 h4 h2.at_.sizes, sep_next k3 h5 h3.at_.sizes, h6, ownsRowF_keeps h7 k2 (fun k hk => (h8 k hk).2.1), fun k hk => ⟨(h8 k hk).1, fun hm => ?_, (h8 k hk).2.2⟩⟩
  rcases k3 k hm with h | h
  · exact (h8 k hk).2.1 h
  · have := (h7.lt k hk).2; omega
theorem three_Write {w wx : World} {pa pb pc : Nat} {L : List (Nat × ByteArray)} {Db Dc : Dv} {V : Value} {m : Nat} (h : Three w wx pa pb pc (allD L) Db Dc V m) (i : Nat) (b : UInt8) (hi : i < 4) (hL : L.length ≤ 20) :
    Calls Tryz.prog 39 #[.pointer (some ⟨pa, 0, none⟩), .int .i64 i, .string (oneB b)] wx fun e w' => e = .returned (.int .i64 0) ∧ Three w w' pa pb pc (allD (L ++ [(i, oneB b)])) Db Dc V m := by
  refine three_call h fun Fa hD => ?_
  refine (dv_Write hD i (oneB b) hi (oneB_size _) (by show L.length + 0 + L.length + 0 ≤ 990; omega)).mono ?_
  rintro e w6 ⟨rfl, Fa', k1, k2, k3⟩
  rw [allD_on]
  rw [allD_write] at k1
  exact ⟨rfl, Fa', k1, k2, k3⟩
theorem three_Cut {w wx : World} {pa pb pc : Nat} {Da Db Dc : Dv} {V : Value} {m : Nat} (h : Three w wx pa pb pc Da Db Dc V m) (A : Option Addr) (cap : Nat) (keep : List Bool) (hr : Row wx A (bools keep)) (hkl : keep.length ≤ 9223372036854775807) (c : Nat) (hc : c = keep.length) :
    Calls Tryz.prog 92 #[.pointer (some ⟨pa, 0, none⟩), .slice A c cap] wx fun e w' => e = .returned (.tuple #[]) ∧ Three w w' pa pb pc (Da.cut keep) Db Dc V m := by
  subst hc
  refine three_call h fun Fa hD => ?_
  refine (dv_Cut hD A cap keep hr hkl).mono ?_
  rintro e w6 ⟨rfl, k1, k2⟩
  exact ⟨rfl, Fa, k1, k2, fun k hk => .inl hk⟩
theorem three_Flush {w wx : World} {pa pb pc : Nat} {Da Db Dc : Dv} {V : Value} {m : Nat} (h : Three w wx pa pb pc Da Db Dc V m) (hroom : Da.loose.length + Da.rd + Da.wr + Da.fl ≤ 990) :
    Calls Tryz.prog 41 #[.pointer (some ⟨pa, 0, none⟩)] wx fun e w' => e = .returned (.int .i64 (if Da.burn.off then 4 else 0)) ∧ Three w w' pa pb pc Da.flush Db Dc V m := by
  refine three_call h fun Fa hD => ?_
  refine (dv_Flush hD hroom).mono ?_
  rintro e w6 ⟨rfl, k1, k2⟩
  exact ⟨rfl, Fa, k1, k2, fun k hk => .inl hk⟩
theorem three_Image {w wx : World} {pa pb pc : Nat} {Da Db Dc : Dv} {V : Value} {m : Nat} (h : Three w wx pa pb pc Da Db Dc V m) :
    Calls Tryz.prog 45 #[.pointer (some ⟨pa, 0, none⟩)] wx fun e w' => e = .returned (.string ⟨Da.safe.toArray⟩) ∧ wx = w' := by
  obtain ⟨Fa, Fb, Fc, h1, _⟩ := h
  exact dev_Image wx pa Da Fa h1.at_
theorem three_Count {w wx : World} {pa pb pc : Nat} {Da Db Dc : Dv} {V : Value} {m : Nat} (h : Three w wx pa pb pc Da Db Dc V m) :
    Calls Tryz.prog 13 #[.pointer (some ⟨pa, 0, none⟩)] wx fun e w' => e = .returned (.agg #[.int .i64 Da.rd, .int .i64 Da.wr, .int .i64 Da.fl]) ∧ Three w w' pa pb pc Da Db Dc V m := by
  refine Calls.mono (dev_Count wx pa Da _ h.choose_spec.choose_spec.choose_spec.1.at_) ?_
  rintro e w' ⟨rfl, hb⟩
  exact ⟨rfl, h.below hb⟩

/-- the row grows -/
theorem Three.grow {w wx w1 w' : World} {pa pb pc : Nat} {Da Db Dc : Dv} {V V' : Value} {m m' : Nat} (h : Three w wx pa pb pc Da Db Dc V m) (hb : Below wx.heap.size wx w1) (hk : Keeps V.ownBlock.toList w1 w') (ho : w'.ownsRowF 0 4 1 V' m' (bools (List.replicate m' true))) (hV : ∀ k, V'.ownBlock = some k → V.ownBlock = some k ∨ w1.heap.size ≤ k) : Three w w' pa pb pc Da Db Dc V' m' := by
  obtain ⟨Fa, Fb, Fc, h1, h2, h3, h4, h5, h6, h7, h8⟩ := h
  have hG : ∀ k, k ∈ V.ownBlock.toList → w.heap.size ≤ k := fun k hk => (h8 k (Option.mem_toList.1 hk)).1
  have z1 := hb.size
  have z0 := h1.bel.size
  refine ⟨Fa, Fb, Fc, (h1.below hb).keeps hk hG (fun k h hm => (h8 k (Option.mem_toList.1 hm)).2.1 h), (h2.below hb).keeps hk hG (fun k h hm => (h8 k (Option.mem_toList.1 hm)).2.2.1 h), (h3.below hb).keeps hk hG (fun k h hm => (h8 k (Option.mem_toList.1 hm)).2.2.2 h), h4, h5, h6, ho, fun k hk => ?_⟩
  rcases hV k hk with h | h
  · exact h8 k h
  · exact ⟨by omega, fun hm => by have := h1.at_.sizes k hm; omega, fun hm => by have := h2.at_.sizes k hm; omega, fun hm => by have := h3.at_.sizes k hm; omega⟩

theorem Three.slice {w wx : World} {pa pb pc : Nat} {Da Db Dc : Dv} {V : Value} {m : Nat} (h : Three w wx pa pb pc Da Db Dc V m) : ∃ A c, V = .slice A m c := by
  obtain ⟨_, _, _, _, _, _, _, _, _, h7, _⟩ := h
  obtain ⟨A, c, hV, _⟩ := ownsRowF_row h7
  exact ⟨A, c, hV⟩
theorem Three.row {w wx : World} {pa pb pc : Nat} {Da Db Dc : Dv} {A : Option Addr} {m c : Nat} (h : Three w wx pa pb pc Da Db Dc (.slice A m c) m) : Row wx A (bools (List.replicate m true)) := by
  obtain ⟨_, _, _, _, _, _, _, _, _, h7, _⟩ := h
  obtain ⟨A', c', hV, hr⟩ := ownsRowF_row h7
  injection hV with e _ _
  rw [e]; exact hr

theorem field_1 (x y z : Value) (w : World) : (Instr.field 46 (.agg #[x, y, z]) 1).run Tryz.prog w = .ok y w := by
  simp [Instr.field, run_underlying Tryz.underlying46, go_sem, sizeOf, typeInfo, asAgg, Result.andThen]
theorem field_2 (x y z : Value) (w : World) : (Instr.field 46 (.agg #[x, y, z]) 2).run Tryz.prog w = .ok z w := by
  simp [Instr.field, run_underlying Tryz.underlying46, go_sem, sizeOf, typeInfo, asAgg, Result.andThen]

theorem allD_cut (L : List (Nat × ByteArray)) : (allD L).cut (List.replicate (4 * L.length) true) = { allD L with safe := flushN (List.replicate 1024 0) L, loose := [], off := true } := by
  unfold Dv.cut
  rw [if_neg (by show ¬ (false = true); simp)]
  show ({ allD L with safe := cutN (List.replicate (4 * L.length) true) L (List.replicate 1024 0) L.length, loose := [], off := true } : Dv) = _
  rw [cutN_all _ _ _ (fun j hj => by rw [List.getD_eq_getElem?_getD, List.getElem?_replicate, if_pos hj]; rfl) _ (Nat.le_refl _), List.take_length]
theorem allD_flush (L : List (Nat × ByteArray)) : (allD L).flush = { allD L with safe := flushN (List.replicate 1024 0) L, loose := [], fl := 1 } := by
  unfold Dv.flush
  rw [Dv.burn_none (by show (-1 : Int) < 0; decide), if_neg (by show ¬ (false = true); simp)]
  rfl
theorem Dv.cut_none (d : Dv) (h : d.off = false) : d.cut [] = { d with loose := [], off := true } := by
  unfold Dv.cut
  rw [if_neg (by rw [h]; simp), cutN_none]

end Go.Proofs.YtcklgaenedlbiaaGreat
