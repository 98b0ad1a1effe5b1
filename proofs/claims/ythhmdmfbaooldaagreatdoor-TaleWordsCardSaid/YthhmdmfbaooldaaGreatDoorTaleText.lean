/-
  tale.Text, walked.
-/
import Derived.Test.YthhmdmfbaooldaaGreatDoorTaleWord
import Derived.Test.YthhmdmfbaooldaaGreatDoorKit2
import Derived.Lib.Bytealg
namespace Go.Proofs.YthhmdmfbaooldaaGreatDoor
open Go.RowKit

theorem bytealg_run (s : ByteArray) (c : Int) (w : World) :
    (callFunc 69 #[.string s, .int .u8 c]).run Tryz.prog w = .ok (.value (.int .i64 (Lib.indexByte s.data.toList c.toNat.toUInt8))) w := by
  rw [run_callFunc_extern (e := Extern.BytealgIndexByte.indexByte) Tryz.func69 (by kernel_rfl) (by kernel_rfl) (by kernel_rfl) (by kernel_rfl), Lib.run_indexByteString]
  rfl

set_option maxHeartbeats 400000 in
theorem stringslite_IndexByte_any (s : ByteArray) (c : Int) (w : World) :
    Calls Tryz.prog 48 #[.string s, .int .u8 c] w fun e w' => e = .returned (.int .i64 (Lib.indexByte s.data.toList c.toNat.toUInt8)) ∧ w' = w := by
  have h := bytealg_run s c
  go_enter Tryz.func48, Tryz.ntmps48
  go_wp2
  go_ret
  exact ⟨rfl, rfl⟩

set_option maxHeartbeats 400000 in
theorem strings_IndexByte_any (s : ByteArray) (c : Int) (w : World) :
    Calls Tryz.prog 28 #[.string s, .int .u8 c] w fun e w' => e = .returned (.int .i64 (Lib.indexByte s.data.toList c.toNat.toUInt8)) ∧ w' = w := by
  go_enter Tryz.func28, Tryz.ntmps28
  go_wp2_with (go_at_call 48; refine (stringslite_IndexByte_any s c _).mono ?_; rintro e w1 ⟨rfl, rfl⟩)
  go_ret
  exact ⟨rfl, rfl⟩

section
variable {P : Program} {ops : Array Oper} {rest : List Oper} {o : Oper} {a : Act} {w : World} {Q : Exit → Act → World → Prop}
/-- 'string(b)' of a row of bytes that may be nil -/
theorem wpList_stringR (hg : o.guard = none) (src dst e : TypeId) (x : Operand) (ho : o.op = .convert src dst x) (A : Option Addr) (n cap : Nat) (l : List UInt8) (hx : a.eval x = .slice A n cap) (hn : n = l.length)
    (hs : P.underlying src = some (.slice e)) (he : P.underlying e = some (.int .u8)) (hd : P.underlying dst = some .string) (hr : Row w A (u8s l))
    (h : wpList P ops Q rest (a.put o.dst (.string ⟨l.toArray⟩)) w) : wpList P ops Q (o :: rest) a w := by
  cases l with
  | nil =>
    subst hn
    refine wpList_plain hg fun K hK => ?_
    have hrun : (convert src dst (.slice A 0 cap)).run P w = .ok (.string ⟨#[]⟩) w := by
      rw [run_convert_bytes_string w src dst e _ 0 cap hs he hd]
      cases A <;> simp [Conv.bytesToString, loadCells]
      all_goals rfl
    unfold Oper.wp
    simp only [execOp, ho, hx, List.length_nil, Sem.run_bind, hrun, Result.andThen, Sem.run_pure]
    exact hK _ _ h
  | cons c l =>
    rcases hr with h0 | ⟨b, off, rfl, _, hc⟩
    · simp [u8s] at h0
    · refine wpList_string hg src dst e x ho ⟨b, off, none⟩ n cap (c :: l) hx hn hs he hd (fun j hj => ?_) h
      have e : (⟨b, off, none⟩ : Addr).add j = ⟨b, off + j, none⟩ := by unfold Addr.add; split <;> simp_all
      rw [e]
      exact hc j _ (u8s_at hj)
end
/-- a digit's number, or -1 -/
def dvN (b : UInt8) : Int := match undigB b with
  | some n => n
  | none => -1
theorem dv_fin : ∀ n : Fin 256, Lib.indexByte digsB.data.toList (UInt8.ofNat n.val) = dvN (UInt8.ofNat n.val) := by decide +kernel
theorem dv_eq (b : UInt8) : Lib.indexByte digsB.data.toList (b.toNat : Int).toNat.toUInt8 = dvN b := by
  have := dv_fin ⟨b.toNat, b.toNat_lt⟩
  simpa using this
theorem IndexByte_dv (c : Int) (a : UInt8) (h : c = (a.toNat : Int)) (w : World) :
    Calls Tryz.prog 28 #[.string digsB, .int .u8 c] w fun e w' => e = .returned (.int .i64 (dvN a)) ∧ w' = w := by
  subst h
  have := strings_IndexByte_any digsB (a.toNat : Int) w
  rwa [dv_eq] at this
theorem undig_lt {b : UInt8} {n : Nat} (h : undigB b = some n) : n < 16 := by
  unfold undigB at h
  have := List.mem_of_find?_eq_some h
  simpa using this
theorem or16 : ∀ x y : Fin 16, IntKind.u8.wrap (bits .or .i64 ((x.val : Int) * 16) (y.val : Int)) = ((16 * x.val + y.val : Nat) : Int) := by decide +kernel
theorem textL_one (c : UInt8) : textL [c] = if c = 37 then some [] else some [c] := rfl
theorem textL_esc3 (a b : UInt8) (r : List UInt8) : textL (37 :: a :: b :: r) = match undigB a, undigB b with
      | some x, some y => (textL r).map (UInt8.ofNat (16 * x + y) :: ·)
      | _, _ => none := by rw [textL, if_pos rfl]; rfl
theorem textL_esc2 (a : UInt8) : textL [37, a] = none := by rw [textL, if_pos rfl]
/-- what stands, and what is left -/
def TextI (l : List UInt8) (o r : List UInt8) : Prop := textL l = (textL r).map (o ++ ·) ∧ o.length + r.length ≤ l.length
theorem TextI.plain {l o r : List UInt8} {c : UInt8} (h : TextI l o (c :: r)) (hc : c ≠ 37) : TextI l (o ++ [c]) r := by
  refine ⟨?_, by have := h.2; simp only [List.length_append, List.length_cons, List.length_nil] at *; omega⟩
  rw [h.1, textL_plain c hc, Option.map_map]
  congr 1
  funext x
  simp
theorem TextI.esc {l o r : List UInt8} {a b : UInt8} {x y : Nat} (h : TextI l o (37 :: a :: b :: r)) (ha : undigB a = some x) (hb : undigB b = some y) : TextI l (o ++ [UInt8.ofNat (16 * x + y)]) r := by
  refine ⟨?_, by have := h.2; simp only [List.length_append, List.length_cons, List.length_nil] at *; omega⟩
  rw [h.1, textL_esc3, ha, hb]
  simp only [Option.map_map]
  congr 1
  funext x
  simp
theorem TextI.none {l o r : List UInt8} (h : TextI l o r) (hr : textL r = .none) : textT l = .none := by
  unfold textT
  rw [h.1, hr]; rfl
theorem TextI.done {l o r : List UInt8} (h : TextI l o r) (hr : textL r = some []) : textL l = some o := by
  rw [h.1, hr]; simp
theorem ba_at {R : ByteArray} {l : List UInt8} (h : R.data.toList = l) (i : Nat) (hi : i < R.size) : (R[i]'hi) = l.getD i 0 := by rw [← h, data_getD R i hi]
theorem ba_from {R : ByteArray} {l : List UInt8} (h : R.data.toList = l) (i : Nat) : (R.extract i R.size).data.toList = l.drop i := by
  rw [← h]
  have : R.data.toList.length = R.size := by simp
  simp only [ByteArray.data_extract, Array.toList_extract, List.extract_eq_take_drop]
  exact List.take_of_length_le (by rw [List.length_drop]; omega)
theorem ba_from_size (R : ByteArray) (i : Nat) : (R.extract i R.size).size = R.size - i := by
  simp
theorem bdnT {B : Nat} {a w : World} (h : Below B a w) (n : Nat) : Below B a (w.drewN n) := ⟨h.os, h.tape, h.output, h.size, h.block⟩
theorem RowI_drewN {w wx : World} {V : Value} {o : List UInt8} {T : TypeId} (h : wx.ownsRowF 0 T 1 V o.length (u8s o) ∧ Below w.heap.size w wx ∧ ∀ k, V.ownBlock = some k → w.heap.size ≤ k) (n : Nat) :
    (wx.drewN n).ownsRowF 0 T 1 V o.length (u8s o) ∧ Below w.heap.size w (wx.drewN n) ∧ ∀ k, V.ownBlock = some k → w.heap.size ≤ k := ⟨h.1, bdnT h.2.1 n, h.2.2⟩
/-- the row so far -/
def RowI (w wx : World) (V : Value) (o : List UInt8) : Prop := wx.ownsRowF 0 5 1 V o.length (u8s o) ∧ Below w.heap.size w wx ∧ ∀ k, V.ownBlock = some k → w.heap.size ≤ k
theorem RowI.next {w wx w' : World} {V V' : Value} {o : List UInt8} {x : Int} {c : UInt8} (h : RowI w wx V o) (hx : x = (c.toNat : Int)) (h1 : w'.ownsRowF 0 5 1 V' (o.length + 1) (u8s o ++ [Value.int .u8 x]))
    (h2 : Keeps V.ownBlock.toList wx w') (h3 : ∀ k, V'.ownBlock = some k → V.ownBlock = some k ∨ wx.heap.size ≤ k) : RowI w w' V' (o ++ [c]) := by
  subst hx
  refine ⟨?_, Keeps.below h.2.1 h2 (fun x hx => h.2.2 x (by simpa using hx)), fun k hk => ?_⟩
  · have e : u8s (o ++ [c]) = u8s o ++ [.int .u8 (c.toNat : Int)] := by simp [u8s]
    rw [e, List.length_append]; exact h1
  · rcases h3 k hk with h' | h'
    · exact h.2.2 k h'
    · exact Nat.le_trans h.2.1.size h'
/-- Text's answer -/
def textA (l : List UInt8) : ByteArray := match textT l with
  | some t => ⟨t.toArray⟩
  | none => ⟨#[]⟩
def textE (l : List UInt8) : Int := if (textT l).isSome = true then 0 else 5
theorem textA_none {l : List UInt8} (h : textT l = none) : textA l = ⟨#[]⟩ ∧ textE l = 5 := by unfold textA textE; rw [h]; exact ⟨rfl, rfl⟩
theorem textA_some {l t : List UInt8} (h : textT l = some t) : textA l = ⟨t.toArray⟩ ∧ textE l = 0 := by unfold textA textE; rw [h]; exact ⟨rfl, rfl⟩
theorem info_byteT : (Tryz.prog.info? 5).map (fun i => (i.zero, i.size, i.bytes)) = some (some (.int .u8 0), 1, 1) := by kernel_rfl

theorem tale_Word_l (l : List UInt8) (hl : l.length ≤ 1000000) (W : ByteArray) (hW : W = ⟨(wordT l).toArray⟩) (w : World) :
    Calls Tryz.prog 15 #[.string ⟨l.toArray⟩] w fun e w' => e = .returned (.string W) ∧ Below w.heap.size w w' := by
  subst hW
  exact tale_Word_any ⟨l.toArray⟩ (by simpa [ByteArray.size] using hl) w
set_option maxHeartbeats 4000000 in
set_option maxRecDepth 100000 in
theorem tale_Text_any (s : ByteArray) (hs : s.size ≤ 100000) (w : World) :
    Calls Tryz.prog 10 #[.string s] w fun e w' => e = .returned (.tuple #[.string (textA s.data.toList), .int .i64 (textE s.data.toList)]) ∧ Below w.heap.size w w' := by
  obtain ⟨i0, hi0, hz0, hz1, hz2⟩ := info_parts info_byteT
  have HI0 := hid hi0; have HZ0 := hid hz0; have HZ1 := hid hz1; have HZ2 := hid hz2
  clear hi0 hz0 hz1 hz2
  go_enter Tryz.func10, Tryz.ntmps10
  go_wp2_with fail
  go_loopg [4, 5] s.size (fun g V r wx => ∃ (o : List UInt8) (R : ByteArray), R.size ≤ g ∧ r = .string R ∧
    Hid (TextI s.data.toList o R.data.toList ∧ RowI w wx V o))
  case atStart => exact ⟨[], s, Nat.le_refl _, rfl, ⟨by simp, by simp⟩, World.ownsRowF_nil _ _ _ _, Below.refl _ _, by simp [Value.ownBlock]⟩
  case round =>
    obtain ⟨o, R, hg, rfl, HI⟩ := hrel
    have hRT : R.toList = R.data.toList := ByteArray.toList_eq R
    have hRS : R.size = R.data.toList.length := by simp
    by_cases hend : R.data.toList = [] ∨ R.data.toList = [37]
    · have hr0 : textL R.data.toList = some [] := by rcases hend with h | h <;> rw [h] <;> rfl
      have hdone : textL s.data.toList = some o := TextI.done HI.out.1 hr0
      have hol : o.length ≤ 100000 := by
        have := HI.out.1.2
        have h2 : s.data.toList.length = s.size := by simp
        omega
      have HD := hid hdone; have HOL := hid hol
      obtain ⟨A, cap, rfl, hrow⟩ := ownsRowF_row HI.out.2.1
      have HROW := hid hrow
      clear hr0 hdone hrow hRS hg hol
      rw [← hRT] at hend
      clear hRT
      rcases hend with hend | hend
      · have h1 : R.toList.isEmpty = true := by rw [hend]; rfl
        go_wp2_with (with_reducible refine at_op (.convert 64 9 (.tmp 50)) rfl ?_; refine Stopped.go ?_)
        refine Stopped.mk (wpList_stringR rfl _ _ 5 _ rfl A o.length cap o rfl rfl Tryz.underlying64 Tryz.underlying5 Tryz.underlying9 HROW.out ?_)
        go_wp2_with fail
        obtain ⟨W, hW⟩ : ∃ W : ByteArray, W = ⟨(wordT o).toArray⟩ := ⟨_, rfl⟩
        refine (tale_Word_l o (by have := HOL.out; omega) W hW _).mono ?_; rintro e w2 ⟨rfl, hb2⟩
        have H2 : Hid (Below w.heap.size w w2 ∧ Row w2 A (u8s o)) := ⟨bt HI.out.2.2.1 hb2, HROW.out.below hb2⟩
        clear hb2
        by_cases hWs : W = s
        · subst hWs
          have hss : (W.toList == W.toList) = true := by simp
          have hA : textT W.data.toList = some o := by
            unfold textT; rw [HD.out]
            simp only
            rw [if_pos (by rw [hW])]
          have HA := hid (textA_some hA)
          clear hA hW
          go_wp2_with (with_reducible refine at_op (.convert 64 9 (.tmp 55)) rfl ?_; refine Stopped.go ?_)
          refine Stopped.mk (wpList_stringR rfl _ _ 5 _ rfl A o.length cap o rfl rfl Tryz.underlying64 Tryz.underlying5 Tryz.underlying9 H2.out.2 ?_)
          go_wp2_with fail
          go_ret2
          rw [HA.out.1, HA.out.2]
          exact ⟨rfl, H2.out.1⟩
        · have hss : (W.toList == s.toList) = false := by
            rw [beq_eq_false_iff_ne]
            intro e
            apply hWs
            rw [ByteArray.toList_eq, ByteArray.toList_eq] at e
            cases W; cases s
            simp only [Array.toList_inj] at e
            rw [e]
          have hA : textT s.data.toList = none := by
            unfold textT; rw [HD.out]
            simp only
            rw [if_neg (fun e => hWs (by rw [hW, e]))]
          have HA := hid (textA_none hA)
          clear hA hW hWs
          go_wp2_with fail
          go_ret2
          rw [HA.out.1, HA.out.2]
          exact ⟨rfl, H2.out.1⟩
      · go_wp2_with (with_reducible refine at_op (.convert 64 9 (.tmp 50)) rfl ?_; refine Stopped.go ?_)
        refine Stopped.mk (wpList_stringR rfl _ _ 5 _ rfl A o.length cap o rfl rfl Tryz.underlying64 Tryz.underlying5 Tryz.underlying9 HROW.out ?_)
        go_wp2_with fail
        obtain ⟨W, hW⟩ : ∃ W : ByteArray, W = ⟨(wordT o).toArray⟩ := ⟨_, rfl⟩
        refine (tale_Word_l o (by have := HOL.out; omega) W hW _).mono ?_; rintro e w2 ⟨rfl, hb2⟩
        have H2 : Hid (Below w.heap.size w w2 ∧ Row w2 A (u8s o)) := ⟨bt HI.out.2.2.1 hb2, HROW.out.below hb2⟩
        clear hb2
        by_cases hWs : W = s
        · subst hWs
          have hss : (W.toList == W.toList) = true := by simp
          have hA : textT W.data.toList = some o := by
            unfold textT; rw [HD.out]
            simp only
            rw [if_pos (by rw [hW])]
          have HA := hid (textA_some hA)
          clear hA hW
          go_wp2_with (with_reducible refine at_op (.convert 64 9 (.tmp 55)) rfl ?_; refine Stopped.go ?_)
          refine Stopped.mk (wpList_stringR rfl _ _ 5 _ rfl A o.length cap o rfl rfl Tryz.underlying64 Tryz.underlying5 Tryz.underlying9 H2.out.2 ?_)
          go_wp2_with fail
          go_ret2
          rw [HA.out.1, HA.out.2]
          exact ⟨rfl, H2.out.1⟩
        · have hss : (W.toList == s.toList) = false := by
            rw [beq_eq_false_iff_ne]
            intro e
            apply hWs
            rw [ByteArray.toList_eq, ByteArray.toList_eq] at e
            cases W; cases s
            simp only [Array.toList_inj] at e
            rw [e]
          have hA : textT s.data.toList = none := by
            unfold textT; rw [HD.out]
            simp only
            rw [if_neg (fun e => hWs (by rw [hW, e]))]
          have HA := hid (textA_none hA)
          clear hA hW hWs
          go_wp2_with fail
          go_ret2
          rw [HA.out.1, HA.out.2]
          exact ⟨rfl, H2.out.1⟩
    · obtain ⟨c, r, hl⟩ : ∃ c r, R.data.toList = c :: r := by
        cases h : R.data.toList with
        | nil => exact absurd (.inl h) hend
        | cons c r => exact ⟨c, r, rfl⟩
      have hsz : R.size = r.length + 1 := by rw [hRS, hl]; rfl
      have h0 : 0 < R.size := by omega
      have he1 : R.toList.isEmpty = false := by rw [hRT, hl]; rfl
      have he2 : (R.toList == [37]) = false := by
        rw [beq_eq_false_iff_ne, hRT]; exact fun e => hend (.inr e)
      have hc0 : (R[0]'h0) = c := by rw [ba_at hl 0 h0]; rfl
      have hfr := ba_from hl 1
      have hfz := ba_from_size R 1
      have HRT := hid hRT; have HL := hid hl; have HR1 := hid (And.intro hfr hfz)
      have HI2 : Hid (TextI s.data.toList o (c :: r)) := by have := HI.out.1; rw [hl] at this; exact this
      have HE := hid hend
      clear hend hl hfr hfz hRS hRT
      by_cases h37 : c = 37
      · have hq : (((R[0]'h0).toNat : Int) != 37) = false := by rw [hc0, h37]; rfl
        subst h37
        clear hc0 HR1
        cases r with
        | nil => exact absurd (.inr HL.out) HE.out
        | cons a r =>
          cases r with
          | nil =>
            have h3 : (R.size : Int) < 3 := by rw [hsz]; simp
            have HA := hid (textA_none (HI2.out.none (textL_esc2 a)))
            clear HL hsz
            go_wp2_with fail
            go_ret2
            rw [HA.out.1, HA.out.2]
            exact ⟨rfl, HI.out.2.2.1⟩
          | cons b r =>
            have h3 : ¬ (R.size : Int) < 3 := by rw [hsz]; simp only [List.length_cons]; omega
            have h1 : 1 < R.size := by rw [hsz]; simp only [List.length_cons]; omega
            have h2 : 2 < R.size := by rw [hsz]; simp only [List.length_cons]; omega
            have ha := ba_at HL.out 1 h1
            have hb := ba_at HL.out 2 h2
            have hfr := ba_from HL.out 3
            have hfz := ba_from_size R 3
            have HR3 := hid (And.intro hfr hfz)
            simp only [List.getD_cons_succ, List.getD_cons_zero] at ha hb
            obtain ⟨d1, hd1⟩ : ∃ d, d = dvN a := ⟨_, rfl⟩
            obtain ⟨d2, hd2⟩ : ∃ d, d = dvN b := ⟨_, rfl⟩
            have e1 := fun w' => IndexByte_dv _ a (congrArg (fun c : UInt8 => (c.toNat : Int)) ha) w'
            have e2 := fun w' => IndexByte_dv _ b (congrArg (fun c : UInt8 => (c.toNat : Int)) hb) w'
            rw [← hd1] at e1
            rw [← hd2] at e2
            have E1 := hid e1; have E2 := hid e2; have HD1 := hid hd1; have HD2 := hid hd2
            clear HL hsz hfr hfz ha hb e1 e2 hd1 hd2
            have h1' : (1 : Int) < (R.size : Int) := by omega
            have h2' : (2 : Int) < (R.size : Int) := by omega
            go_wp2_with fail
            go_quiet ((go_at_call 28; first | exact Calls.quiet_of_same (E1.out _) | exact Calls.quiet_of_same (E2.out _)))
            cases hua : undigB a with
            | none =>
              have hd1 : d1 = -1 := by rw [HD1.out]; unfold dvN; rw [hua]
              subst hd1
              have HA := hid (textA_none (HI2.out.none (by rw [textL_esc3, hua])))
              clear hua HD1
              go_wp2_with fail
              go_ret2
              rw [HA.out.1, HA.out.2]
              exact ⟨rfl, bdnT HI.out.2.2.1 _⟩
            | some x =>
              have hx := undig_lt hua
              have hd1 : d1 = (x : Int) := by rw [HD1.out]; unfold dvN; rw [hua]
              subst hd1
              have hx0 : ¬ (x : Int) < 0 := by omega
              cases hub : undigB b with
              | none =>
                have hd2 : d2 = -1 := by rw [HD2.out]; unfold dvN; rw [hub]
                subst hd2
                have HA := hid (textA_none (HI2.out.none (by rw [textL_esc3, hua, hub])))
                clear hub hua HD1 HD2
                go_wp2_with fail
                go_ret2
                rw [HA.out.1, HA.out.2]
                exact ⟨rfl, bdnT HI.out.2.2.1 _⟩
              | some y =>
                have hy := undig_lt hub
                have hd2 : d2 = (y : Int) := by rw [HD2.out]; unfold dvN; rw [hub]
                subst hd2
                have hy0 : ¬ (y : Int) < 0 := by omega
                have hE : Hid (TextI s.data.toList (o ++ [UInt8.ofNat (16 * x + y)]) r) := HI2.out.esc hua hub
                have hor := or16 ⟨x, hx⟩ ⟨y, hy⟩
                simp only at hor
                clear hub hua HD1 HD2
                have HI3 : Hid (RowI w (wr.drewN nq) u4 o) := RowI_drewN HI.out.2 nq
                go_wp2_with (with_reducible refine at_op (.call { callee := .builtin .append, args := #[.tmp 40, .tmp 46], argTypes := #[64, 64] }) rfl ?_; refine Stopped.go ?_)
                have hol : o.length + 1 ≤ 100000 := by
                  have := HI2.out.2
                  have h2 : s.data.toList.length = s.size := by simp
                  simp only [List.length_cons] at this
                  omega
                refine Stopped.mk (wpList_append_one rfl (.tmp 40) (.tmp 46) 64 5 rfl i0 _ 1 1 Tryz.underlying64 HI0.out HZ0.out HZ1.out HZ2.out rfl (by decide) u4 o.length _ rfl (wr.drewN nq) #[.int .u8 ((16 * x + y : Nat) : Int)] (by simp) HI3.out.1 (wr.drewN nq).heap.size rfl 1 rfl rfl (by simp [Value.oneCell']) (by simp only [maxLen]; omega) (by omega) ?_)
                clear hol
                intro V' w2 hown2 hk2 hv2
                have hxy : ((16 * x + y : Nat) : Int) = ((UInt8.ofNat (16 * x + y)).toNat : Int) := by
                  have hq : (UInt8.ofNat (16 * x + y)).toNat = (16 * x + y) % 256 := by simp
                  rw [hq]; omega
                have HN : Hid (TextI s.data.toList (o ++ [UInt8.ofNat (16 * x + y)]) (R.extract 3 R.size).data.toList ∧ RowI w w2 V' (o ++ [UInt8.ofNat (16 * x + y)])) := by
                  refine ⟨by rw [HR3.out.1]; exact hE.out, RowI.next HI3.out hxy hown2 hk2 hv2⟩
                clear hown2 hk2 hv2 he2 hq HRT HI hor hE HI3 E1 E2 hxy
                go_wp2_with fail
                go_roundg (gk - 1)
                case measure => omega
                case rel => exact ⟨o ++ [UInt8.ofNat (16 * x + y)], _, by rw [HR3.out.2]; omega, rfl, HN.out⟩
      · have hq : (((R[0]'h0).toNat : Int) != 37) = true := by
          rw [hc0, bne_iff_ne]
          intro e
          apply h37
          rw [← UInt8.toNat_inj]
          have : (37 : UInt8).toNat = 37 := rfl
          omega
        have HC0 := hid hc0; clear hc0 hsz
        go_wp2_with (with_reducible refine at_op (.call { callee := .builtin .append, args := #[.tmp 18, .tmp 21], argTypes := #[64, 64] }) rfl ?_; refine Stopped.go ?_)
        have hol : o.length + 1 ≤ 100000 := by
          have := HI2.out.2
          have h2 : s.data.toList.length = s.size := by simp
          simp only [List.length_cons] at this
          omega
        refine Stopped.mk (wpList_append_one rfl (.tmp 18) (.tmp 21) 64 5 rfl i0 _ 1 1 Tryz.underlying64 HI0.out HZ0.out HZ1.out HZ2.out rfl (by decide) u4 o.length _ rfl wr #[.int .u8 _] rfl HI.out.2.1 wr.heap.size rfl 1 rfl rfl (by simp [Value.oneCell']) (by simp only [maxLen]; omega) (by omega) ?_)
        clear hol
        intro V' w2 hown2 hk2 hv2
        have HN : Hid (TextI s.data.toList (o ++ [c]) (R.extract 1 R.size).data.toList ∧ RowI w w2 V' (o ++ [c])) := by
          refine ⟨by rw [HR1.out.1]; exact HI2.out.plain h37, RowI.next (x := _) HI.out.2 (by rw [← HC0.out]) hown2 hk2 hv2⟩
        clear hown2 hk2 hv2 he2 hq HRT HL HI
        go_wp2_with fail
        go_roundg (gk - 1)
        case measure => omega
        case rel => exact ⟨o ++ [c], _, by rw [HR1.out.2]; omega, rfl, HN.out⟩
end Go.Proofs.YthhmdmfbaooldaaGreatDoor
