/-
  The document's reading of a stamped block: walked.
-/
import Derived.Test.YtjeoelhenlckaaaSlabRef
namespace Go.Proofs.Ytjeoelhenlckaaa
open Go.RowKit

set_option maxHeartbeats 8000000 in
set_option maxRecDepth 100000 in
theorem ref04_Read (b : ByteArray) (h256 : b.size = 256) (w : World) :
    Calls Try.prog 67 #[.string b] w fun ee w' => ee = .returned (.tuple #[.int .i64 (readV b).1, .int .i64 (readV b).2.1, .string (readV b).2.2.1, .int .i64 (readV b).2.2.2]) ∧ Below w.heap.size w w' := by
  obtain ⟨L, hL⟩ : ∃ L, L = b.data.toList := ⟨_, rfl⟩
  have hLl : L.length = 256 := by rw [hL]; simpa using h256
  have hv : readV b = match readR L with
    | .ok (e, q, s) => (e, q, ⟨s.toArray⟩, 0)
    | .error k => (0, 0, ⟨#[]⟩, k) := by unfold readV; rw [if_pos h256, ← hL]; rcases readR L with k | ⟨e, q, s⟩ <;> rfl
  obtain ⟨V, hV⟩ : ∃ V, V = readV b := ⟨_, rfl⟩
  rw [← hV] at hv ⊢
  have HL := hid hL; have HV := hid hv; have HLL := hid hLl
  clear hL hv hV hLl
  go_enter Try.func67, Try.ntmps67
  go_wp2_with fail
  go_loopg [6, 7] 4 (fun g y x wx => ∃ (k : Nat) (o : ByteArray), k + g = 4 ∧ x = .int .i64 k ∧ y = .string o ∧ o.size ≤ 56 * k ∧ Hid (Below w.heap.size w wx ∧ o.data.toList = partsN L k ∧ ∀ i, i < k → markOf L i = markOf L 0))
  case atStart => exact ⟨0, ⟨#[]⟩, rfl, rfl, rfl, Nat.le_refl _, Below.refl _ _, rfl, fun i h => absurd h (by omega)⟩
  case round =>
    obtain ⟨k, o, hk, rfl, rfl, hos, HS⟩ := hrel
    by_cases hlt : k < 4
    · have hlt' : (k : Int) < 4 := by omega
      obtain ⟨a, ha⟩ : ∃ a, a = 64 * k := ⟨_, rfl⟩
      obtain ⟨a8, ha8⟩ : ∃ q, q = a + 8 := ⟨_, rfl⟩
      obtain ⟨a64, ha64⟩ : ∃ q, q = a + 64 := ⟨_, rfl⟩
      have e0 : IntKind.i64.wrap (64 * (k : Int)) = (a : Int) := by rw [IntKind.wrap_i64]; omega
      have e1 : IntKind.i64.wrap ((a : Int) + 8) = (a8 : Int) := by rw [IntKind.wrap_i64]; omega
      have e2 : IntKind.i64.wrap ((a : Int) + 64) = (a64 : Int) := by rw [IntKind.wrap_i64]; omega
      have c1 : (a8 : Int) ≤ (b.size : Int) := by omega
      have c2 : (a : Int) ≤ (a8 : Int) := by omega
      have c3 : (a64 : Int) ≤ (b.size : Int) := by omega
      have c4 : (a8 : Int) ≤ (a64 : Int) := by omega
      have hx : (b.extract a8 a64).data.toList = partOf L k := by
        rw [cut_list, ← HL.out, ha8, ha64, ha, List.drop_take]; unfold partOf; congr 1; omega
      obtain ⟨f, hf⟩ : ∃ f, f = decide (markOf L k = markOf L 0) := ⟨_, rfl⟩
      have hbeq : ((b.extract a a8).toList == (b.extract 0 8).toList) = f := by
        rw [beq_bytes, cut_list, cut_list, ← HL.out, hf]
        have h1 : (L.take a8).drop a = markOf L k := by rw [ha8, ha, List.drop_take]; unfold markOf; congr 1; omega
        have h2 : (L.take 8).drop 0 = markOf L 0 := by unfold markOf; simp
        rw [h1, h2]
      have q1 : ¬ 9223372036854775807 < o.size + (a64 - a8) := by omega
      have hxs : (b.extract a8 a64).size ≤ 56 := by simp; omega
      have HX := hid hx; have HA := hid (And.intro ha (And.intro ha8 ha64)); have HF := hid hf; have HXS := hid hxs
      clear hx ha ha8 ha64 hf hxs
      cases f with
      | false =>
        go_wp2_with fail
        go_quiet (fail)
        go_wp2_with fail
        (try simp only [Exit.inBlock, Exit.then])
        refine bodyPost_ret (results_tmp4 rfl _ _ _) rfl ?_
        refine ⟨?_, bdn1 HS.out.1 _⟩
        have hm : marksOk L = false := by
          cases h : marksOk L with
          | false => rfl
          | true =>
            have := marksOk_all h k 0 hlt (by decide)
            exact absurd this (of_decide_eq_false HF.out.symm)
        have hr : readR L = .error 5 := by unfold readR; rw [if_pos hm]
        rw [HV.out, hr]
        rfl
      | true =>
        go_wp2_with fail
        go_quiet (fail)
        go_wp2_with fail
        go_roundg (4 - (k + 1))
        case measure => omega
        case rel =>
          refine ⟨k + 1, o ++ b.extract a8 a64, by omega, by go_num, rfl, ?_, bdn1 HS.out.1 _, ?_, fun i hi => ?_⟩
          · have := HXS.out
            rw [show (o ++ b.extract a8 a64).size = o.size + (b.extract a8 a64).size by simp]; omega
          · rw [app_list, HS.out.2.1, HX.out]; rfl
          · by_cases e : i = k
            · subst e; exact of_decide_eq_true HF.out.symm
            · exact HS.out.2.2 i (by omega)
    · have hk4 : k = 4 := by omega
      subst hk4
      obtain ⟨s1, s2, s3⟩ := HS.out
      rw [partsN_4] at s2
      have hm : marksOk L = true := (marksOk_iff L).2 ⟨s3 1 (by decide), s3 2 (by decide), s3 3 (by decide)⟩
      have hlb : b.data.toList = L := HL.out.symm
      obtain ⟨h8, hh8⟩ : ∃ h8, h8 = b.extract 0 8 := ⟨_, rfl⟩
      have h8l : h8.data.toList = L.take 8 := by rw [hh8, cut_list, hlb, List.drop_zero]
      have h8s : h8.size = 8 := by rw [hh8]; simp; omega
      obtain ⟨e, he, he2, henum⟩ := num_part h8 4 (by decide) (by omega) (by decide)
      obtain ⟨r, hr⟩ : ∃ r, r = h8.extract 4 h8.size := ⟨_, rfl⟩
      have hrl : r.data.toList = (L.drop 4).take 4 := by
        rw [hr, cut_list, h8s, h8l, List.take_take, List.drop_take]
        congr 1
      have hrs : r.size = 4 := by rw [hr]; simp; omega
      obtain ⟨q, hq, hq2, hqnum⟩ := num_part r 4 (by decide) (by omega) (by decide)
      rw [← hr] at henum
      rw [h8l, List.take_take] at he
      rw [hrl, List.take_take] at hq
      have hR : readR L = if e < 1 ∨ 2147483647 < e ∨ 2147483647 < q then .error 5 else match textR (frameOf L) with
          | .error k => .error k
          | .ok s => .ok (e, q, s) := by
        unfold readR
        rw [if_neg (by rw [hm]; simp), show be (L.take 4) = e from he.symm, show be ((L.drop 4).take 4) = q from hq.symm]
        cases textR (frameOf L) <;> rfl
      have HR := hid hR; have HEN := hid henum; have HQN := hid hqnum; have HS1 := hid s1
      have he3 : e < 4294967296 := he2
      have hq3 : q < 4294967296 := hq2
      have hos8 : o.size = 224 := by rw [← list_len, s2, frameOf_length HLL.out]
      have HT := hid (fun w' => ref04_Open o (by omega) (by omega) w')
      rw [s2] at HT
      have h88 : (8 : Int) ≤ (b.size : Int) := by omega
      have hA := below_alloc wr (.cells #[.string h8, .bool false] 90)
      have hI := Blk.new wr #[.string h8, .bool false] 90
      have H1 := hid (show Below w.heap.size w (wr.alloc (.cells #[.string h8, .bool false] 90)) ∧ RefAt (wr.alloc (.cells #[.string h8, .bool false] 90)) wr.heap.size h8 false ∧ w.heap.size ≤ wr.heap.size from ⟨bt s1 hA, hI, s1.size⟩)
      clear s1 s2 s3 hm hlb he he2 henum hr hrl hrs hq hq2 hqnum hR HS h8l h8s hos8 hA hI
      go_wp2_with fail
      rw [← hh8]
      refine (rIn_Num_all _ h8 false 4 _ H1.out.2.1).mono ?_; rintro ee w2 ⟨rfl, hk2, hi2⟩
      rw [show (4 : Int) = ((4 : Nat) : Int) from rfl, HEN.out] at hi2 ⊢
      have H2 := hid (show Below w.heap.size w w2 ∧ RefAt w2 wr.heap.size r false from ⟨Keeps.below H1.out.1 hk2 (fun x hx => by simp at hx; rw [hx]; exact H1.out.2.2), hi2⟩)
      clear hk2 hi2 HEN
      go_wp2_with fail
      refine (rIn_Num_all _ r false 4 _ H2.out.2).mono ?_; rintro ee w3 ⟨rfl, hk3, hi3⟩
      rw [show (4 : Int) = ((4 : Nat) : Int) from rfl, HQN.out]
      have H3 := hid (show Below w.heap.size w w3 from Keeps.below H2.out.1 hk3 (fun x hx => by simp at hx; rw [hx]; exact H1.out.2.2))
      clear hk3 hi3 H2 H1 HQN
      by_cases c1 : e < 1
      · have hr : readR L = .error 5 := by rw [HR.out, if_pos (by omega)]
        have c1' : (e : Int) < 1 := by omega
        go_wp2_with fail
        (try simp only [Exit.inBlock, Exit.then])
        refine bodyPost_ret (results_tmp4 rfl _ _ _) rfl ?_
        refine ⟨?_, H3.out⟩
        rw [HV.out, hr]
        rfl
      have c1' : ¬ (e : Int) < 1 := by omega
      by_cases c2 : 2147483647 < e
      · have hr : readR L = .error 5 := by rw [HR.out, if_pos (by omega)]
        have c2' : (2147483647 : Int) < (e : Int) := by omega
        go_wp2_with fail
        (try simp only [Exit.inBlock, Exit.then])
        refine bodyPost_ret (results_tmp4 rfl _ _ _) rfl ?_
        refine ⟨?_, H3.out⟩
        rw [HV.out, hr]
        rfl
      have c2' : ¬ (2147483647 : Int) < (e : Int) := by omega
      by_cases c3 : 2147483647 < q
      · have hr : readR L = .error 5 := by rw [HR.out, if_pos (by omega)]
        have c3' : (2147483647 : Int) < (q : Int) := by omega
        go_wp2_with fail
        (try simp only [Exit.inBlock, Exit.then])
        refine bodyPost_ret (results_tmp4 rfl _ _ _) rfl ?_
        refine ⟨?_, H3.out⟩
        rw [HV.out, hr]
        rfl
      have c3' : ¬ (2147483647 : Int) < (q : Int) := by omega
      have hr := HR.out
      rw [if_neg (by omega)] at hr
      clear HR
      cases ht : textR (frameOf L) with
      | error k =>
        have hk0 : ((k : Int) != 0) = true := by rcases textR_err ht with rfl | rfl <;> rfl
        have hv : textV (frameOf L) = (⟨#[]⟩, k) := by unfold textV; rw [ht]
        have hR : readR L = .error k := by rw [hr, ht]
        rw [hv] at HT
        have HRR := hid hR
        clear hr ht hv hR
        go_wp2_with fail
        refine (HT.out w3).mono ?_; rintro ee w5 ⟨rfl, hb5⟩
        have H5 := hid (bt H3.out hb5)
        clear hb5 H3 HT
        go_wp2_with fail
        (try simp only [Exit.inBlock, Exit.then])
        refine bodyPost_ret (results_tmp4 rfl _ _ _) rfl ?_
        refine ⟨?_, H5.out⟩
        rw [HV.out, HRR.out]
        rfl
      | ok s =>
        have hv : textV (frameOf L) = (⟨s.toArray⟩, 0) := by unfold textV; rw [ht]
        have hR : readR L = .ok (e, q, s) := by rw [hr, ht]
        rw [hv] at HT
        have HRR := hid hR
        clear hr ht hv hR
        go_wp2_with fail
        refine (HT.out w3).mono ?_; rintro ee w5 ⟨rfl, hb5⟩
        have H5 := hid (bt H3.out hb5)
        clear hb5 H3 HT
        go_wp2_with fail
        (try simp only [Exit.inBlock, Exit.then])
        refine bodyPost_ret (results_tmp4 rfl _ _ _) rfl ?_
        refine ⟨?_, H5.out⟩
        rw [HV.out, HRR.out]
        rfl
end Go.Proofs.Ytjeoelhenlckaaa
