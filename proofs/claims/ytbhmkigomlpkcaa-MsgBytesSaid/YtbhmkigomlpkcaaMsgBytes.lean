/-
  MsgBytes, walked.
-/
import Derived.Test.YtbhmkigomlpkcaaMsgWrite
import Derived.Test.YtbhmkigomlpkcaaMsgBack
namespace Go.Proofs.Ytbhmkigomlpkcaa
open Go.RowKit

theorem all_take (xs : List Msg3) (k : Nat) (h : k < xs.length) : (xs.take (k + 1)).all isB = ((xs.take k).all isB && isB xs[k]) := by
  rw [List.take_succ_eq_append_getElem h, List.all_append]; simp
theorem all_not {xs : List Msg3} (h : xs.all isB = false) : (xs.any fun x => !isB x) = true := by
  rw [List.all_eq_false] at h
  obtain ⟨x, hx, hb⟩ := h
  rw [List.any_eq_true]
  exact ⟨x, hx, by simpa using hb⟩

/-- the rest of a region only reads: one walk serves every order -/
theorem wpAny_suffix {P : Program} {md : Region.Mode} {l0 : List Oper} {C : World → Prop} {Q' : Exit → Act → World → Prop} (k : Nat) {n : Nat} {listed : Array Bool} {a : Act} {w : World} (l : List Oper) (hl : l0.drop k = l) (hn : n = l.length) (hs : Region.noSelect l0.toArray = true) (hC : C w)
    (hB : Region.lexFrom md l0.toArray l.length k listed = true) (h : wpQuiet P l0.toArray C (fun a' => ∀ w', C w' → Q' .normal a' w') l a) : wpAny P md l0.toArray Q' n listed a w := by
  subst hn
  refine wpAny_of_quiet (C := C) (Q := fun a' => ∀ w', C w' → Q' .normal a' w') (fun _ w' hw' h => h w' hw') _ _ _ _ hC ?_
  refine wpAnyQ_lex hs l k listed a (fun j => ?_) hB h
  rw [← hl, List.getElem?_drop]
  simp

set_option maxHeartbeats 16000000 in
set_option maxRecDepth 100000 in
theorem msgBytes_walk (A : Option Addr) (cap : Nat) (xs : List Msg3) (s0 : ByteArray) (w : World) (hr : Row w A (xs.flatMap msgCells)) (hm : xs.length ≤ 9223372036854775807) :
    Calls Try.prog 7 #[.slice A xs.length cap, .string s0] w fun e w' => e = .returned (.bool true) ∧ Below w.heap.size w w' := by
  have HR := hid hr; clear hr
  by_cases h20 : (20 : Int) < xs.length
  · go_enter Try.func7, Try.ntmps7
    go_wp2_with fail
    refine (awake08_any _).mono ?_; rintro e w1 ⟨rfl, hb⟩
    go_wp2_with fail
    go_ret
    exact ⟨rfl, hb⟩
  by_cases hs0 : (1024 : Int) < s0.size
  · go_enter Try.func7, Try.ntmps7
    go_wp2_with fail
    refine (awake08_any _).mono ?_; rintro e w1 ⟨rfl, hb⟩
    go_wp2_with fail
    go_ret
    exact ⟨rfl, hb⟩
  go_enter Try.func7, Try.ntmps7
  go_wp2_with fail
  refine (awake08_any _).mono ?_; rintro e w1 ⟨rfl, hb⟩
  have HB := hid hb; clear hb
  go_wp2_with fail
  go_loopg [6, 7] xs.length (fun g v6 v7 wx => ∃ (i : Nat) (al : Bool), i + g = xs.length ∧ v6 = .bool al ∧ v7 = .int .i64 i ∧ Hid (al = (xs.take i).all isB ∧ Below w.heap.size w wx))
  case atStart => exact ⟨0, true, by omega, rfl, rfl, by simp, HB.out⟩
  case round =>
    clear HB
    obtain ⟨i, al, hik, rfl, rfl, HS⟩ := hrel
    by_cases hlt : i < xs.length
    · obtain ⟨b, off, rfl, hbl, hc⟩ := row_cell HR.out (by intro e; have h := msg_at xs i 0 xs[i] (.int .i64 xs[i].1) (by simp [hlt]) rfl; rw [e] at h; cases h)
      obtain ⟨⟨K, k, v⟩, hx⟩ : ∃ x, x = xs[i] := ⟨_, rfl⟩
      have hxi : xs[i]? = some (K, k, v) := by rw [hx]; simp [hlt]
      have hcl : Hid (∀ wx, Below w.heap.size w wx → wx.cell? ⟨b, off + i * 3, none⟩ = some (.int .i64 K) ∧ wx.cell? ⟨b, off + i * 3 + 1, none⟩ = some (.string k) ∧ wx.cell? ⟨b, off + i * 3 + 2, none⟩ = some (.string v)) := by
        intro wx hbx
        have c0 := hc _ _ (msg_at xs i 0 _ (.int .i64 K) hxi rfl)
        rw [← hbx.cell (p := ⟨b, off + (i * 3 + 0), none⟩) hbl, ← Nat.add_assoc, Nat.add_zero] at c0
        have c1 := hc _ _ (msg_at xs i 1 _ (.string k) hxi rfl)
        rw [← hbx.cell (p := ⟨b, off + (i * 3 + 1), none⟩) hbl, ← Nat.add_assoc] at c1
        have c2 := hc _ _ (msg_at xs i 2 _ (.string v) hxi rfl)
        rw [← hbx.cell (p := ⟨b, off + (i * 3 + 2), none⟩) hbl, ← Nat.add_assoc] at c2
        exact ⟨c0, c1, c2⟩
      have hal := all_take xs i hlt
      rw [← HS.out.1, ← hx] at hal
      obtain ⟨f, hf⟩ : ∃ f, f = msgIs K k v := ⟨_, rfl⟩
      obtain ⟨lo, hlo⟩ : ∃ lo, lo = longB k v := ⟨_, rfl⟩
      rw [show isB (K, k, v) = f from hf.symm] at hal
      have HF := hid hf; have HLO := hid hlo; have HAL := hid hal
      clear hc hbl hx hxi hf hlo hal
      obtain ⟨c0, c1, c2⟩ := hcl.out _ HS.out.2
      go_wp2_with fail
      refine (msg_long_any K k v _).mono ?_; rintro e w2 ⟨rfl, hb2⟩; rw [← HLO.out]
      have HB2 := hid (bt HS.out.2 hb2)
      clear hb2 c0 c1 c2
      cases lo with
      | true =>
        go_wp2_with fail
        go_ret
        exact ⟨rfl, HB2.out⟩
      | false =>
        obtain ⟨c0, c1, c2⟩ := hcl.out _ HB2.out
        cases al with
        | false =>
          go_wp2_with fail
          clear c0 c1 c2
          go_roundg (xs.length - (i + 1))
          case measure => omega
          case rel => exact ⟨i + 1, false, by omega, rfl, by go_num, HAL.out.symm, HB2.out⟩
        | true =>
          go_wp2_with fail
          refine (ref_Is_any K k v _).mono ?_; rintro e w3 ⟨rfl, hb3⟩; rw [← HF.out]
          have HB3 := hid (bt HB2.out hb3)
          clear hb3 c0 c1 c2
          go_wp2_with fail
          go_roundg (xs.length - (i + 1))
          case measure => omega
          case rel => exact ⟨i + 1, f, by omega, rfl, by go_num, HAL.out.symm, HB3.out⟩
    · have hin : i = xs.length := by omega
      subst hin
      have hal := HS.out.1
      rw [List.take_length] at hal
      have HAL := hid hal; have HB := hid HS.out.2
      clear hal HS
      -- the writer and what it writes
      have HW : Hid (∀ (W0 : World) (p : Nat) (hP : Pen w W0 p [120]), Calls Try.prog 28 #[.pointer (some ⟨p, 0, none⟩), .slice A xs.length cap] W0 fun e w' => e = .returned (.int .i64 (if al then 0 else 1)) ∧ Pen w w' p ([120] ++ if al then allB xs else [])) := by
        intro W0 p hP
        cases al with
        | true =>
          refine (msg_Write_yes w p [120] A cap xs _ hP HR.out ?_ (by omega) (by decide)).mono ?_
          · have := HAL.out.symm
            rw [List.all_eq_true] at this
            exact this
          · rintro e w' ⟨rfl, h⟩; exact ⟨rfl, h⟩
        | false =>
          refine (msg_Write_no p A cap xs _ (HR.out.below hP.bel) (by omega) (all_not HAL.out.symm)).mono ?_
          rintro e w' ⟨rfl, h⟩
          exact ⟨rfl, hP.below h⟩
      go_wp2_with fail
      go_loopg [5, 8] xs.length (fun g v5 v8 wx => ∃ (i : Nat) (l : List UInt8) (want : ByteArray), i + g = xs.length ∧ v5 = .string want ∧ v8 = .int .i64 i ∧ want.size ≤ 100 * i ∧ (al = false → i = 0) ∧ Hid (want = ⟨l.toArray⟩ ∧ l = allB (xs.take i) ∧ Below w.heap.size w wx))
      case atStart => exact ⟨0, [], ⟨#[]⟩, by omega, rfl, rfl, by decide, fun _ => rfl, rfl, by simp [allB], HB.out⟩
      case round =>
        clear HB
        obtain ⟨i, l, want, hik, rfl, rfl, hws, hal0, HS⟩ := hrel
        by_cases hgo : i < xs.length ∧ al = true
        · obtain ⟨hlt, hal1⟩ := hgo
          subst hal1
          clear hal0
          obtain ⟨b, off, rfl, hbl, hc⟩ := row_cell HR.out (by intro e; have h := msg_at xs i 0 xs[i] (.int .i64 xs[i].1) (by simp [hlt]) rfl; rw [e] at h; cases h)
          have hi1 : isB xs[i] = true := List.all_eq_true.1 HAL.out.symm _ (List.getElem_mem hlt)
          have htk := allB_take xs i hlt
          obtain ⟨⟨K, k, v⟩, hx⟩ : ∃ x, x = xs[i] := ⟨_, rfl⟩
          have hxi : xs[i]? = some (K, k, v) := by rw [hx]; simp [hlt]
          rw [← hx] at hi1 htk
          have hbx := HS.out.2.2
          have c0 := hc _ _ (msg_at xs i 0 _ (.int .i64 K) hxi rfl)
          rw [← hbx.cell (p := ⟨b, off + (i * 3 + 0), none⟩) hbl, ← Nat.add_assoc, Nat.add_zero] at c0
          have c1 := hc _ _ (msg_at xs i 1 _ (.string k) hxi rfl)
          rw [← hbx.cell (p := ⟨b, off + (i * 3 + 1), none⟩) hbl, ← Nat.add_assoc] at c1
          have c2 := hc _ _ (msg_at xs i 2 _ (.string v) hxi rfl)
          rw [← hbx.cell (p := ⟨b, off + (i * 3 + 2), none⟩) hbl, ← Nat.add_assoc] at c2
          have HI1 := hid hi1; have HTK := hid htk
          clear hc hbl hx hxi hi1 htk hbx
          go_wp2_with fail
          refine (ref08_Bytes_yes K k v HI1.out _).mono ?_; rintro e w3 ⟨rfl, hb3⟩
          obtain ⟨q, hq⟩ : ∃ q : ByteArray, q = ⟨(msgB (K, k, v)).toArray⟩ := ⟨_, rfl⟩
          rw [← hq]
          have hqs : q.size ≤ 27 := by
            have h1 := msg_keysz HI1.out; have h2 := msg_valsz HI1.out
            rw [hq, list_size, msgB_len]; simp only at h1 h2 ⊢; omega
          have HB3 := hid (bt HS.out.2.2 hb3)
          have q1 : ¬ 9223372036854775807 < want.size + q.size := by omega
          have hwq : want ++ q = ⟨(allB (xs.take (i + 1))).toArray⟩ := by
            rw [HS.out.1, HS.out.2.1, hq, HTK.out]
            apply ba_ext1
            rw [ByteArray.toList_eq, ByteArray.toList_eq]
            simp
          have hsz : (want ++ q).size ≤ 100 * (i + 1) := by rw [show (want ++ q).size = want.size + q.size by simp]; omega
          have HWQ := hid hwq; have HSZ := hid hsz
          clear c0 c1 c2 hb3 hq hqs hwq hsz
          go_wp2_with fail
          clear q1
          go_roundg (xs.length - (i + 1))
          case measure => omega
          case rel => exact ⟨i + 1, _, want ++ q, by omega, rfl, by go_num, HSZ.out, fun h => by (cases h), HWQ.out, rfl, HB3.out⟩
        · have hwant : want = ⟨(if al then allB xs else []).toArray⟩ := by
            rw [HS.out.1, HS.out.2.1]
            cases al with
            | true => have : i = xs.length := by (have h : ¬ i < xs.length := fun h => hgo ⟨h, rfl⟩); omega
                      rw [this, List.take_length]; rfl
            | false => rw [hal0 rfl]; rfl
          have hout : (i : Int) < xs.length → al = false := fun h => by cases al with | true => exact absurd ⟨by omega, rfl⟩ hgo | false => rfl
          have hws2 : want.size ≤ 2000 := by omega
          have HWANT := hid hwant; have HBX := hid HS.out.2.2
          clear hwant hal0 HS hws hgo
          have P0 := hid (Pen.new HBX.out)
          obtain ⟨p, hp⟩ : ∃ p, p = wr.heap.size := ⟨_, rfl⟩
          have HPP := hid hp
          have hpg : w.heap.size ≤ p := by rw [hp]; exact HBX.out.size
          clear hp
          have hres : (⟨#[120]⟩ : ByteArray) ++ want = ⟨(([120] : List UInt8) ++ if al then allB xs else []).toArray⟩ := by
            rw [HWANT.out]
            apply ba_ext1
            rw [ByteArray.toList_eq, ByteArray.toList_eq]
            simp
          obtain ⟨res, hres2⟩ : ∃ r, r = (⟨#[120]⟩ : ByteArray) ++ want := ⟨_, rfl⟩
          have HRES := hid (hres2.trans hres); have HRES2 := hid hres2
          have hov : ¬ 9223372036854775807 < (⟨#[120]⟩ : ByteArray).size + want.size := by
            rw [show (⟨#[120]⟩ : ByteArray).size = 1 from rfl]; omega
          have hov2 : ¬ 9223372036854775807 < 1 + want.size := by omega
          have HOV := hid (And.intro hov hov2)
          clear hres hres2 hov hov2 hws2
          obtain ⟨lr, hlr⟩ : ∃ x, x = ([120] : List UInt8) ++ if al then allB xs else [] := ⟨_, rfl⟩
          rw [← hlr] at HW HRES
          clear hlr HWANT
          obtain ⟨ec, hec⟩ : ∃ x : Int, x = if al then 0 else 1 := ⟨_, rfl⟩
          rw [← hec] at HW
          have HEC := hid hec; clear hec
          have hcase : (al = true ∧ ¬ (i : Int) < xs.length) ∨ (al = false ∧ (i : Int) < xs.length) ∨ (al = false ∧ ¬ (i : Int) < xs.length) := by
            by_cases hil : (i : Int) < xs.length
            · exact .inr (.inl ⟨hout hil, hil⟩)
            · cases al
              · exact .inr (.inr ⟨rfl, hil⟩)
              · exact .inl ⟨rfl, hil⟩
          clear hout HAL
          rcases hcase with ⟨rfl, hil⟩ | ⟨rfl, hil⟩ | ⟨rfl, hil⟩
          all_goals
            have hec := HEC.out
            simp only [if_true, if_false, Bool.false_eq_true] at hec
            subst hec
            go_wp2_with fail
            clear hil
            rw [← HPP.out] at P0 ⊢
            clear HPP HEC
            generalize wr.alloc (.cells #[.pointer none, .slice none 0 0] 52) = w2 at P0 ⊢
            refine (pen_Raw P0.out ⟨#[120]⟩ (by decide)).mono ?_; rintro e w3 ⟨rfl, P3⟩
            have HP3 := hid (show Pen w w3 p [120] from P3)
            clear P3 P0
            go_wp2_with fail
            refine (HW.out _ p HP3.out).mono ?_; rintro e w4 ⟨rfl, P4⟩
            have HP4 := hid P4
            clear P4 HP3 HW
            go_wp2_with fail
            refine (pen_Bytes HP4.out).mono ?_; rintro e w5 ⟨rfl, P5⟩; rw [← HRES.out]
            have HB5 := hid P5.bel
            clear P5 HP4 HRES
            have hr2 := HRES2.out.symm
            obtain ⟨o1, o2⟩ := HOV.out
            go_wp2_with fail
            refine (msg_Write_nil _ _).mono ?_; rintro e w6 ⟨rfl, rfl⟩
            go_wp2_with fail
            refine (msg_Read_nil _).mono ?_; rintro e w7 ⟨rfl, hb7⟩
            have HB7 := hid (bt HB5.out hb7)
            clear hb7 HB5 hr2 o1 o2 HRES2 HOV
            go_wp2_with fail
            refine (pen_Of_any _ _).mono ?_; rintro e w8 ⟨rfl, hb8, hi8, hz8⟩
            clear hz8
            obtain ⟨p2, hp2⟩ : ∃ p, p = w7.heap.size := ⟨_, rfl⟩
            have hpg2 : w.heap.size ≤ p2 := by rw [hp2]; exact HB7.out.size
            rw [← hp2] at hi8 ⊢
            have hb := bt HB7.out hb8
            clear hb8 hp2 hpg
            have hA := below_alloc w8 (.cells #[.string s0, .bool false] 61)
            have hN := Blk.new w8 #[.string s0, .bool false] 61
            obtain ⟨q, hq⟩ : ∃ q, q = w8.heap.size := ⟨_, rfl⟩
            have hpq : p2 ≠ q := by have := Blk.lt hi8; omega
            have hqg : w.heap.size ≤ q := by rw [hq]; exact hb.size
            rw [← hq] at hN
            have H0 := hid (show InAt (w8.alloc (.cells #[.string s0, .bool false] 61)) p2 s0 false ∧ RefAt (w8.alloc (.cells #[.string s0, .bool false] 61)) q s0 false ∧ Below w.heap.size w (w8.alloc (.cells #[.string s0, .bool false] 61)) from ⟨Blk.belowS hi8 hA, hN, bt hb hA⟩)
            have HPG := hid hpg2; have HPQ := hid hpq; have HQG := hid hqg; have HQ := hid hq
            clear hA hN hi8 hb hpg2 hpq hqg hq HB7
            go_wp2_with fail
            rw [← HQ.out]
            clear HQ
            generalize w8.alloc (.cells #[.string s0, .bool false] 61) = w9 at H0 ⊢
            go_loopg [13] 50 (fun g v13 wx => ∃ (j : Nat) (r : ByteArray) (b : Bool), j + g = 50 ∧ v13 = .int .i64 j ∧ Hid (InAt wx p2 r b ∧ RefAt wx q r b ∧ Below w.heap.size w wx))
            case atStart => exact ⟨0, s0, false, by omega, rfl, H0.out⟩
            case round =>
              clear H0
              obtain ⟨j, r, b, hjk, rfl, HS⟩ := hrel
              by_cases hj : j < 50
              · have hji : (j : Int) < 50 := by omega
                obtain ⟨⟨⟨K, k, v⟩, r', b'⟩, hT⟩ : ∃ x, x = readT r b := ⟨_, rfl⟩
                have HT := hid hT; clear hT
                have CI : Hid (∀ w0, InAt w0 p2 r b → Calls Try.prog 30 #[.pointer (some ⟨p2, 0, none⟩)] w0 fun e w' => e = .returned (.agg #[.int .i64 K, .string k, .string v]) ∧ Keeps [p2] w0 w' ∧ InAt w' p2 r' b') := fun w0 h => by
                  have h1 := msg_Read_any p2 r b w0 h; rw [← HT.out] at h1; exact h1
                have CU : Hid (∀ w0, RefAt w0 q r b → Calls Try.prog 32 #[.pointer (some ⟨q, 0, none⟩)] w0 fun e w' => e = .returned (.agg #[.int .i64 K, .string k, .string v]) ∧ Keeps [q] w0 w' ∧ RefAt w' q r' b') := fun w0 h => by
                  have h1 := ref08_Read_any q r b w0 h; rw [← HT.out] at h1; exact h1
                have KI : Hid (∀ w0 w' ra ba, Keeps [p2] w0 w' → RefAt w0 q ra ba → Below w.heap.size w w0 → RefAt w' q ra ba ∧ Below w.heap.size w w') :=
                  fun w0 w' ra ba hk h3 h4 => ⟨Blk.keeps h3 hk (by simp; exact Ne.symm HPQ.out), Keeps.below1 h4 hk HPG.out⟩
                have KU : Hid (∀ w0 w' ra ba, Keeps [q] w0 w' → InAt w0 p2 ra ba → Below w.heap.size w w0 → InAt w' p2 ra ba ∧ Below w.heap.size w w') :=
                  fun w0 w' ra ba hk h3 h4 => ⟨Blk.keeps h3 hk (by simp; exact HPQ.out), Keeps.below1 h4 hk HQG.out⟩
                have hI : InAt wr.drew p2 r b := HS.out.1
                have hU : RefAt wr.drew q r b := HS.out.2.1
                have hB : Below w.heap.size w wr.drew := HS.out.2.2.drew
                have he : ((errE b' == 0) == b') = false := by cases b' <;> rfl
                clear HS
                go_wp2_with fail
                refine wp_region_any (by kernel_rfl) ?_
                refine wpAny_take (i := 0) (v := _) (fuel := 24) rfl (by kernel_rfl) (by kernel_rfl) (by kernel_rfl) (fun _ _ _ h => h) (Or.inl ⟨by rfl, fun w => rfl⟩) ?_
                refine wpAny_take (i := 2) (v := _) (fuel := 23) rfl (by kernel_rfl) (by kernel_rfl) (by kernel_rfl) (fun _ _ _ h => h) (Or.inl ⟨by rfl, fun w => rfl⟩) ?_
                refine wpAny_all (rs := [1]) (fuel := 22) (by kernel_rfl) (by simp) ?_
                intro ix hix
                obtain rfl : ix = 1 := by simpa using hix
                refine wpOp_step rfl (fun KK hKK => ?_)
                rw [if_pos (by rfl)]
                go_simp
                refine (CI.out _ hI).mono ?_; rintro e w' ⟨rfl, hk, hi⟩
                have hh := KI.out _ _ _ _ hk hU hB; clear hU hB hI hk; obtain ⟨hU, hB⟩ := hh; have hI := hi; clear hi
                refine hKK _ _ ?_
                clear hKK KK
                refine wpAny_all (rs := [3]) (fuel := 21) (by kernel_rfl) (by simp) ?_
                intro ix hix
                obtain rfl : ix = 3 := by simpa using hix
                refine wpOp_step rfl (fun KK hKK => ?_)
                rw [if_pos (by rfl)]
                go_simp
                refine (CU.out _ hU).mono ?_; rintro e wz ⟨rfl, hk, hi⟩
                have hh := KU.out _ _ _ _ hk hI hB; clear hU hB hI hk; obtain ⟨hI, hB⟩ := hh; have hU := hi; clear hi
                refine hKK _ _ ?_
                clear hKK KK
                have u0 := RefAt.c0 hU
                have u1 := RefAt.c1 hU
                have KL : Hid (∀ n, Calls Try.prog 33 #[.pointer (some ⟨p2, 0, none⟩)] (wz.drewN n) fun e wx => e = .returned (.int .i64 r'.size) ∧ ∃ m, wx = wz.drewN m) := fun n => (In_Left_any p2 r' b' (wz.drewN n) hI).mono fun _ _ ⟨h1, h2⟩ => ⟨h1, n, h2.symm⟩
                have KE : Hid (∀ n, Calls Try.prog 34 #[.pointer (some ⟨p2, 0, none⟩)] (wz.drewN n) fun e wx => e = .returned (.int .i64 (errE b')) ∧ ∃ m, wx = wz.drewN m) := fun n => (In_Err_any p2 r' b' (wz.drewN n) hI).mono fun _ _ ⟨h1, h2⟩ => ⟨h1, n, h2.symm⟩
                have HFIN := hid (And.intro hI (And.intro hU hB))
                clear hI hU hB CI CU KI KU
                refine wpAny_suffix (C := fun wx => ∃ n, wx = wz.drewN n) 4 _ (by rfl) (by rfl) (by kernel_rfl) ⟨0, rfl⟩ (by kernel_rfl) ?_
                (try simp only [Act.put, List.setIfInBounds_toArray, List.set_cons_zero, List.set_cons_succ])
                (try simp only [List.drop_succ_cons, List.drop_zero])
                repeat (go_big_quiet_step (first | with_reducible exact KL.out _ | with_reducible exact KE.out _))
                refine wpQuiet_nil ?_
                intro _ hw'
                obtain ⟨nq, hw''⟩ := hw'
                subst hw''
                clear u0 u1 KL KE he
                go_wp2_with fail
                go_roundg (50 - (j + 1))
                case measure => omega
                case rel => exact ⟨j + 1, r', b', by omega, by go_num, HFIN.out.1, HFIN.out.2.1, ⟨HFIN.out.2.2.os, HFIN.out.2.2.tape, HFIN.out.2.2.output, HFIN.out.2.2.size, HFIN.out.2.2.block⟩⟩
              · go_wp2_with fail
                go_ret
                exact ⟨rfl, HS.out.2.2⟩

/-- in the row's words -/
theorem msgBytes_law (A : Option Addr) (cap : Nat) (xs : List Msg3) (s0 : ByteArray) (w : World) (hr : Row w A (xs.flatMap msgCells))
    (_ : ∀ x ∈ xs, (Lit.int .i64 x.1).wf = true ∧ x.2.1.size ≤ 140737488351232 ∧ x.2.2.size ≤ 140737488351232) (hu : xs.length ≤ cap) (hm : cap ≤ maxLen) (_ : s0.size ≤ 140737488351232) :
    Calls Try.prog 7 #[.slice A xs.length cap, .string s0] w fun e w' => e = .returned (.bool true) ∧ Below w.heap.size w w' :=
  msgBytes_walk A cap xs s0 w hr (by simp only [maxLen] at hm; omega)
end Go.Proofs.Ytbhmkigomlpkcaa
