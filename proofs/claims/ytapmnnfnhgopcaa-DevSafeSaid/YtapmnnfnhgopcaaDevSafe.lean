/-
  DevSafe, walked: what was flushed stays, whatever is kept, till it is written again.
-/
import Derived.Test.YtapmnnfnhgopcaaDevSt
namespace Go.Proofs.Ytapmnnfnhgopcaa
open Go.RowKit

/-- what is known at the loop's head -/
def SafeHead (n i : Nat) (d : Dv) (S : List UInt8) (T : List (List UInt8)) : Prop :=
  (i ≤ n → ∃ L, d = allD L ∧ L.length = i ∧ Ahead L S ∧ T = [[], [], [], []]) ∧ (n < i → Good (okOf S T) d ∧ Dry d) ∧ d.loose.length + d.rd + d.wr + d.fl ≤ 2 * i + 1 ∧ d.keep.length ≤ 100 ∧ ∀ (k : Nat) (t : List UInt8), T[k]? = some t → t.length ≤ i

/-- behind a name of its own -/
def FbIs (fb : Bool) (b : UInt8) (l : List UInt8) : Prop := fb = true ↔ b ∈ l

theorem Dv.come_off (d : Dv) : d.come.off = false := by
  unfold Dv.come
  split
  · rfl
  · rename_i h; simpa using h
theorem Dv.come_same (d : Dv) : d.come.loose = d.loose ∧ d.come.rd = d.rd ∧ d.come.wr = d.wr ∧ d.come.fl = d.fl := by
  unfold Dv.come
  split <;> exact ⟨rfl, rfl, rfl, rfl⟩
/-- a byte of a block that is read -/
theorem rd_byte {ok : Nat → List UInt8} {d : Dv} (hg : Good ok d) (hl : d.loose = []) (i : Nat) (hi : i < 4) : (d.read i).size = 256 ∧ ∀ k, k < 4 → ∃ b ∈ ok i, ∀ j, j < 64 → (d.read i).data.toList.getD (64 * k + j) 0 = b := by
  have he : (d.read i) = ⟨((d.safe.drop (256 * i)).take 256).toArray⟩ := by unfold Dv.read; rw [hl]; rfl
  have hs : (d.read i).data.toList = (d.safe.drop (256 * i)).take 256 := by rw [he]
  refine ⟨?_, fun k hk => ?_⟩
  · have : (d.read i).size = (d.read i).data.toList.length := by simp
    rw [this, hs, List.length_take, List.length_drop, hg.size]; omega
  · obtain ⟨b, hb, e⟩ := hg.sec i k hi hk
    refine ⟨b, hb, fun j hj => ?_⟩
    rw [hs, List.getD_eq_getElem?_getD, List.getElem?_take, if_pos (by omega), List.getElem?_drop]
    have h1 := secAt_get d.safe (4 * i + k) j
    rw [e, if_pos hj, List.getElem?_replicate, if_pos hj] at h1
    rw [show 256 * i + (64 * k + j) = 64 * (4 * i + k) + j by omega, ← h1]
    rfl

set_option maxHeartbeats 16000000 in
set_option maxRecDepth 100000 in
theorem devSafe_walk (A : Option Addr) (cap : Nat) (xs : List Int) (fl fu : Int) (KA : Option Addr) (kcap : Nat) (keep : List Bool) (w : World) (hr : Row w A (i64s xs)) (hm : xs.length ≤ 9223372036854775807) (hkr : Row w KA (bools keep)) (hkm : keep.length ≤ 9223372036854775807) :
    Calls Try.prog 7 #[.slice A xs.length cap, .int .i64 fl, .int .i64 fu, .slice KA keep.length kcap] w fun e w' => e = .returned (.bool true) ∧ Below w.heap.size w w' := by
  obtain ⟨i0, hi0, hz0, hz1, hz2⟩ := info_parts info_byte
  have HI0 := hid hi0; have HZ0 := hid hz0; have HZ1 := hid hz1; have HZ2 := hid hz2
  have HR := hid hr; have HKR := hid hkr; clear hr hkr hi0 hz0 hz1 hz2
  by_cases h20 : (20 : Int) < xs.length
  · go_enter Try.func7, Try.ntmps7
    go_wp2_with fail
    refine (awake03_any _).mono ?_; rintro e w1 ⟨rfl, hb⟩
    go_wp2_with fail
    go_ret
    exact ⟨rfl, hb⟩
  by_cases hk100 : (100 : Int) < keep.length
  · have h20' : decide ((20 : Int) < xs.length) = false := by simpa using h20
    go_enter Try.func7, Try.ntmps7
    go_wp2_with fail
    refine (awake03_any _).mono ?_; rintro e w1 ⟨rfl, hb⟩
    go_wp2_with fail
    go_ret
    exact ⟨rfl, hb⟩
  have h20' : decide ((20 : Int) < xs.length) = false := by simpa using h20
  have hk100' : decide ((100 : Int) < keep.length) = false := by simpa using hk100
  obtain ⟨n, hn, hnl⟩ := umod fl ((xs.length : Int) + 1) (by omega)
  obtain ⟨f, hf, hfl⟩ := umod fu 20 (by decide)
  have hxl : xs.length ≤ 20 := by omega
  have hkl : keep.length ≤ 100 := by omega
  have hnl' : (n : Int) ≤ 20 := by omega
  have HN := hid hnl
  have HF := hid hfl; have HFE := hid hf
  clear h20 hk100 hnl hfl hf
  go_enter Try.func7, Try.ntmps7
  go_wp2_with fail
  refine (awake03_any _).mono ?_; rintro e w1 ⟨rfl, hb⟩
  have HB := hid hb; clear hb
  go_wp2_with fail
  refine (dv_New HB.out 4 (by decide) (by decide)).mono ?_; rintro e w2 ⟨p, F, rfl, hD, hb, hF⟩
  have D := hid hD; clear hD hF hb HB
  go_wp2_with fail
  obtain ⟨gs, hgs⟩ : ∃ g, g = w2.heap.size := ⟨_, rfl⟩
  obtain ⟨gl, hgl⟩ : ∃ g, g = w2.heap.size + 1 := ⟨_, rfl⟩
  obtain ⟨w3, hw3⟩ : ∃ w3, w3 = (w2.alloc (.cells #[.int .u8 0, .int .u8 0, .int .u8 0, .int .u8 0] 41)).alloc (.cells #[.slice none 0 0, .slice none 0 0, .slice none 0 0, .slice none 0 0] 42) := ⟨_, rfl⟩
  have h0 : SafeSt w w3 p gs gl (allD []) F [0, 0, 0, 0] [.slice none 0 0, .slice none 0 0, .slice none 0 0, .slice none 0 0] [[], [], [], []] := by
    have hz : (w2.alloc (.cells #[.int .u8 0, .int .u8 0, .int .u8 0, .int .u8 0] 41)).heap.size = w2.heap.size + 1 := by simp
    have hA := below_alloc w2 (.cells #[.int .u8 0, .int .u8 0, .int .u8 0, .int .u8 0] 41)
    have b1 := Blk.new w2 #[.int .u8 0, .int .u8 0, .int .u8 0, .int .u8 0] 41
    have b2 := Blk.new (w2.alloc (.cells #[.int .u8 0, .int .u8 0, .int .u8 0, .int .u8 0] 41)) #[.slice none 0 0, .slice none 0 0, .slice none 0 0, .slice none 0 0] 42
    have hA2 := below_alloc (w2.alloc (.cells #[.int .u8 0, .int .u8 0, .int .u8 0, .int .u8 0] 41)) (.cells #[.slice none 0 0, .slice none 0 0, .slice none 0 0, .slice none 0 0] 42)
    rw [hz, ← hgl, ← hw3] at b2
    rw [← hgs] at b1
    rw [← hw3] at hA2
    have hb := bt hA hA2
    have hd := D.out.below hb
    have hsz := D.out.bel.size
    have hnil : ∀ (k : Nat) (v : Value), ([.slice none 0 0, .slice none 0 0, .slice none 0 0, .slice none 0 0] : List Value)[k]? = some v → v = .slice none 0 0 := by
      intro k v hk
      have : v ∈ ([.slice none 0 0, .slice none 0 0, .slice none 0 0, .slice none 0 0] : List Value) := List.mem_of_getElem? hk
      simpa using this
    refine ⟨hd, b1.belowS hA2, b2, rfl, rfl, rfl, ?_, ?_, ?_, ?_, ?_, by omega, by omega, by omega⟩
    · intro k v t h1 h2
      have : t ∈ ([[], [], [], []] : List (List UInt8)) := List.mem_of_getElem? h2
      have ht : t = [] := by simpa using this
      rw [hnil k v h1, ht]
      exact World.ownsRowF_nil _ _ _ _
    · intro i j v v' h1 h2 _ k hk
      rw [hnil i v h1] at hk; cases hk
    · intro i v k h1 hk
      rw [hnil i v h1] at hk; cases hk
    · intro hm
      have := D.out.at_.sizes _ hm; omega
    · intro hm
      have := D.out.at_.sizes _ hm; omega
  rw [← hw3, ← hgl, ← hgs]
  have H0 := hid h0
  clear h0 hgs hgl hw3 D
  go_loopg [13] xs.length (fun g j wx => ∃ (i : Nat) (d : Dv) (F : List Nat) (S : List UInt8) (vs : List Value) (T : List (List UInt8)), i + g = xs.length ∧ j = .int .i64 i ∧ Hid (SafeSt w wx p gs gl d F S vs T ∧ SafeHead n i d S T))
  case atStart => exact ⟨0, _, _, _, _, _, by omega, rfl, H0.out, fun _ => ⟨[], rfl, rfl, Ahead.nil, rfl⟩, fun h => by omega, by show 0 + 0 + 0 + 0 ≤ 1; omega, by show 0 ≤ 100; omega, fun k t h => by have : t ∈ ([[], [], [], []] : List (List UInt8)) := List.mem_of_getElem? h; have ht : t = [] := (by simpa using this); rw [ht]; exact Nat.le_refl _⟩
  case round =>
    obtain ⟨i, d, F, S, vs, T, hi, rfl, HI⟩ := hrel
    clear H0
    by_cases hlt : i < xs.length
    · obtain ⟨b, off, rfl, hb, hc⟩ := row_cell HR.out (by intro e; have := congrArg List.length e; simp [i64s] at this; subst this; simp at hlt)
      have hc0 := hc i (.int .i64 xs[i]) (by simp [i64s, hlt])
      obtain ⟨at_, ha, ha4⟩ := umod xs[i] 4 (by decide)
      generalize xs[i] = x at *
      have HC := hid (And.intro hb hc0)
      have e1 : IntKind.u8.wrap ((i : Int) + 1) = (((UInt8.ofNat (i + 1)).toNat : Nat) : Int) := by
        rw [IntKind.wrap_u8]; simp
      obtain ⟨bb, hbb⟩ : ∃ bb, bb = UInt8.ofNat (i + 1) := ⟨_, rfl⟩
      rw [← hbb] at e1
      have hi20 : i ≤ 20 := by omega
      have HE := hid (And.intro ha (And.intro ha4 e1))
      clear hb hc hc0 ha ha4 e1 hbb
      rcases Nat.lt_trichotomy i n with hin | hin | hin
      · obtain ⟨⟨L, rfl, hL, hAh, rfl⟩, -⟩ : (∃ L, d = allD L ∧ L.length = i ∧ Ahead L S ∧ T = [[], [], [], []]) ∧ True := ⟨HI.out.2.1 (by omega), trivial⟩
        have HAh := hid (And.intro hL hAh)
        clear hL hAh
        have hin1 : ((i : Int) == (n : Int)) = false := by simp; omega
        have hin2 : (i : Int) < (n : Int) := by omega
        have c0 := HC.out.2
        rw [← HI.out.1.dev.bel.cell (p := ⟨b, off + i, none⟩) HC.out.1] at c0
        obtain ⟨ha, ha4, e1⟩ := HE.out
        go_wp2_with fail
        refine (law03_block bb wr).mono ?_; rintro e w5 ⟨rfl, hb⟩
        have HI2 := hid (And.intro (HI.out.1.below hb) HI.out.2)
        clear HI hb c0 e1 ha
        go_wp2_with fail
        have hat : at_ < 4 := by omega
        refine (dv_Write HI2.out.1.dev at_ (oneB bb) hat (oneB_size _) (by show L.length + 0 + L.length + 0 ≤ 990; have := HAh.out.1; omega)).mono ?_; rintro e w6 ⟨rfl, F', k1, k2, k3⟩
        rw [allD_on]
        rw [allD_write] at k1
        have HI3 := hid (HI2.out.1.deed k1 k2 k3)
        have c0 : w6.cell? ⟨gs, at_, none⟩ = some (.int .u8 ((S.getD at_ 0).toNat)) := by
          rw [HI3.out.bs.cell, u8s_at (by rw [HI3.out.ls]; exact hat)]
          congr 3
          rw [List.getD_eq_getElem?_getD, List.getElem?_eq_getElem (by rw [HI3.out.ls]; exact hat)]; rfl
        have f0 : w6.frozen? ⟨gs, at_, none⟩ = false := HI3.out.bs.free (by simp [u8s]; rw [HI3.out.ls]; exact hat)
        obtain ⟨_, _, e1⟩ := HE.out
        have HI4 := hid (HI3.out.setS at_ hat bb)
        have HI5 := hid HI2.out.2
        clear k1 k2 k3 HI2 HI3
        go_wp2_with fail
        go_roundg (xs.length - (i + 1))
        case measure => omega
        case rel =>
          refine ⟨i + 1, _, F', _, vs, _, by omega, by go_num, HI4.out, fun _ => ⟨_, rfl, ?_, HAh.out.2.snoc (HI4.out.ls ▸ by rw [List.length_set]) at_ hat bb, rfl⟩, fun h => by omega, ?_, ?_, fun k t h => by have := HI5.out.2.2.2.2 k t h; omega⟩
          · rw [List.length_append, HAh.out.1]; rfl
          · show (L ++ [_]).length + 0 + (L ++ [_]).length + 0 ≤ _
            rw [List.length_append, HAh.out.1]
            simp only [List.length_cons, List.length_nil]
            omega
          · show 0 ≤ 100; omega
      · subst hin
        obtain ⟨⟨L, rfl, hL, hAh, _⟩, -⟩ : (∃ L, d = allD L ∧ L.length = i ∧ Ahead L S ∧ T = [[], [], [], []]) ∧ True := ⟨HI.out.2.1 (by omega), trivial⟩
        have HTL := hid HI.out.2.2.2.2.2
        have HAh := hid (And.intro hL hAh)
        clear hL hAh
        have hin1 : ((i : Int) == (i : Int)) = true := by simp
        go_wp2_with fail
        refine (dv_Flush HI.out.1.dev (by show L.length + 0 + L.length + 0 ≤ 990; have := HAh.out.1; omega)).mono ?_; rintro e w5 ⟨rfl, k1, k2⟩
        rw [allD_on]
        rw [allD_flush] at k1
        have HI2 := hid (HI.out.1.deed k1 k2 (fun k hk => .inl hk))
        clear k1 k2 HI
        have hfe := HFE.out
        have hfb := HF.out
        go_wp2_with fail
        clear hfe hfb
        refine (dv_Fuse HI2.out.dev (f : Int) (by have := HF.out; omega) KA kcap keep (HKR.out.below HI2.out.dev.bel) (by omega)).mono ?_; rintro e w6 ⟨rfl, F', k1, k2, k3⟩
        have HI3 := hid (HI2.out.deed k1 k2 k3)
        obtain ⟨d, hd⟩ : ∃ d : Dv, d = { ({ allD L with safe := flushN (List.replicate 1024 0) L, loose := [], fl := 1 } : Dv) with fuse := max (f : Int) (-1), keep := keep } := ⟨_, rfl⟩
        rw [← hd] at HI3
        have HG := hid (show Good (okOf S T) d ∧ Dry d ∧ d.loose.length + d.rd + d.wr + d.fl ≤ 2 * i + 1 ∧ d.keep.length ≤ 100 ∧ ∀ (k : Nat) (t : List UInt8), T[k]? = some t → t.length ≤ i from by
          refine ⟨HAh.out.2.good _ d (by rw [hd]) (by rw [hd]), fun _ => by rw [hd], ?_, ?_⟩
          · rw [hd]; show 0 + 0 + L.length + 1 ≤ _; have := HAh.out.1; omega
          · refine ⟨by rw [hd]; exact hkl, HTL.out⟩)
        clear k1 k2 k3 HI2 hd
        have c0 := HC.out.2
        rw [← HI3.out.dev.bel.cell (p := ⟨b, off + i, none⟩) HC.out.1] at c0
        have hin2 : ¬ (i : Int) < (i : Int) := by omega
        obtain ⟨ha, ha4, e1⟩ := HE.out
        go_wp2_with fail
        refine (law03_block bb w6).mono ?_; rintro e w5 ⟨rfl, hb⟩
        have HS := hid (HI3.out.below hb)
        clear HI3 hb c0 e1 ha
        go_wp2_with fail
        have hat : at_ < 4 := by have := HE.out.2.1; omega
        have hfit : d.loose.length + d.rd + d.wr + d.fl ≤ 990 := by have := HG.out.2.2.1; omega
        have HW := hid (dv_Write HS.out.dev at_ (oneB bb) hat (oneB_size _) hfit)
        obtain ⟨bo, hbo⟩ : ∃ bo, bo = d.burn.off := ⟨_, rfl⟩
        rw [← hbo] at HW
        have HBO := hid hbo
        clear hfit hbo
        cases bo with
        | true =>
          refine HW.out.mono ?_; rintro e w6 ⟨rfl, F', k1, k2, k3⟩
          have hdw : d.write (at_, oneB bb) = d.burn := by unfold Dv.write; rw [if_pos HBO.out.symm]
          rw [hdw] at k1
          have HI3 := hid (HS.out.deed k1 k2 k3)
          clear k1 k2 k3 hdw HS HW
          go_wp2_with fail
          refine (dev_IsOn w6 p d.burn F' HI3.out.dev.at_).mono ?_; rintro e w7 ⟨rfl, rfl⟩
          rw [← HBO.out]
          go_wp2_with fail
          go_roundg (xs.length - (i + 1))
          case measure => omega
          case rel =>
            have hs := d.burn_same
            refine ⟨i + 1, d.burn, F', S, vs, T, by omega, by go_num, HI3.out, fun h => by omega, fun h => ⟨HG.out.1.burn, HG.out.2.1.burn⟩, ?_, ?_⟩
            · have := HG.out.2.2.1; omega
            · exact ⟨by have := HG.out.2.2.2.1; omega, fun k t h => by have := HG.out.2.2.2.2 k t h; omega⟩
        | false =>
          refine HW.out.mono ?_; rintro e w6 ⟨rfl, F', k1, k2, k3⟩
          have hdw : d.write (at_, oneB bb) = { d.burn with loose := d.burn.loose ++ [(at_, oneB bb)], wr := d.burn.wr + 1 } := by unfold Dv.write; rw [← HBO.out]; rfl
          have h3 := HS.out.deed k1 k2 k3
          clear k1 k2 k3 HS HW
          obtain ⟨V, hV⟩ : ∃ V, vs[at_]? = some V := ⟨_, List.getElem?_eq_getElem (by rw [h3.lv]; exact hat)⟩
          obtain ⟨tt, hT⟩ : ∃ tt, T[at_]? = some tt := ⟨_, List.getElem?_eq_getElem (by rw [h3.lt]; exact hat)⟩
          have hown := h3.own at_ V tt hV hT
          obtain ⟨VA, vcap, hVs, _⟩ := ownsRowF_row hown
          subst hVs
          have c0 : w6.cell? ⟨gl, at_, none⟩ = some (.slice VA tt.length vcap) := h3.bl.at hV
          have htt : tt.length ≤ i := HG.out.2.2.2.2 at_ tt hT
          have HI3 := hid h3; have HV := hid (And.intro hV hT); have HOWN := hid hown; have HTT := hid htt; have HDW := hid hdw
          clear h3 hV hT hown htt hdw
          obtain ⟨_, _, e1⟩ := HE.out
          go_wp2_with (with_reducible refine at_op (.call { callee := .builtin .append, args := #[.tmp 93, .tmp 97], argTypes := #[35, 35] }) rfl ?_; refine Stopped.go ?_)
          refine Stopped.mk (wpList_append_one rfl _ _ 35 5 rfl i0 _ 1 1 Try.underlying35 HI0.out HZ0.out HZ1.out HZ2.out rfl (by decide) (.slice VA tt.length vcap) tt.length (u8s tt) rfl w6 #[.int .u8 bb.toNat] rfl HOWN.out w6.heap.size rfl 1 rfl rfl (by simp [Value.oneCell']) (by have := HTT.out; simp only [maxLen]; omega) (by have := HTT.out; omega) ?_)
          intro V' w7 hown hkp hvb
          have hown' : w7.ownsRowF 0 5 1 V' (tt ++ [bb]).length (u8s (tt ++ [bb])) := by
            have e : u8s (tt ++ [bb]) = u8s tt ++ [.int .u8 (bb.toNat : Int)] := by simp [u8s]
            rw [e, List.length_append]
            exact hown
          obtain ⟨VA', vcap', hVs, _⟩ := ownsRowF_row hown'
          subst hVs
          have hbl := HI3.out.bl.keeps hkp (fun hm => (HI3.out.new at_ _ _ HV.out.1 (Option.mem_toList.1 hm)).2.2.2.2 rfl)
          have c0 : w7.cell? ⟨gl, at_, none⟩ = some (.slice VA tt.length vcap) := hbl.at HV.out.1
          have f0 : w7.frozen? ⟨gl, at_, none⟩ = false := hbl.free (by rw [HI3.out.lv]; exact hat)
          have HI4 := hid (HI3.out.push at_ bb HV.out.1 HV.out.2 hown' hkp hvb)
          rw [show (tt ++ [bb]).length = tt.length + 1 from List.length_append] at HI4
          clear hown hown' hkp hvb hbl
          go_wp2_with fail
          go_roundg (xs.length - (i + 1))
          case measure => omega
          case rel =>
            have hs := d.burn_same
            have hok := okOf_push S T at_ tt bb HV.out.2
            refine ⟨i + 1, d.write (at_, oneB bb), F', S, _, _, by omega, by go_num, HI4.out, fun h => by omega, fun h => ⟨(HG.out.1.mono hok.1).write (at_, oneB bb) ⟨hat, bb, hok.2, rfl⟩, HG.out.2.1.write _⟩, ?_, ?_⟩
            · rw [HDW.out]
              simp only [List.length_append, List.length_cons, List.length_nil]
              have := HG.out.2.2.1; omega
            · rw [HDW.out]
              simp only
              refine ⟨by have := HG.out.2.2.2.1; omega, fun k t h => ?_⟩
              rw [List.getElem?_set] at h
              by_cases e : at_ = k
              · rw [if_pos e] at h
                split at h
                · injection h with h
                  rw [← h, List.length_append]
                  have := HTT.out
                  simp only [List.length_cons, List.length_nil]
                  omega
                · cases h
              · rw [if_neg e] at h
                have := HG.out.2.2.2.2 k t h; omega

      · have HG := hid (And.intro (HI.out.2.2.1 hin).1 (And.intro (HI.out.2.2.1 hin).2 HI.out.2.2.2))
        have hin1 : ((i : Int) == (n : Int)) = false := by simp; omega
        have hin2 : ¬ (i : Int) < (n : Int) := by omega
        have c0 := HC.out.2
        rw [← HI.out.1.dev.bel.cell (p := ⟨b, off + i, none⟩) HC.out.1] at c0
        obtain ⟨ha, ha4, e1⟩ := HE.out
        go_wp2_with fail
        refine (law03_block bb wr).mono ?_; rintro e w5 ⟨rfl, hb⟩
        have HS := hid (HI.out.1.below hb)
        clear HI hb c0 e1 ha
        go_wp2_with fail
        have hat : at_ < 4 := by have := HE.out.2.1; omega
        have hfit : d.loose.length + d.rd + d.wr + d.fl ≤ 990 := by have := HG.out.2.2.1; omega
        have HW := hid (dv_Write HS.out.dev at_ (oneB bb) hat (oneB_size _) hfit)
        obtain ⟨bo, hbo⟩ : ∃ bo, bo = d.burn.off := ⟨_, rfl⟩
        rw [← hbo] at HW
        have HBO := hid hbo
        clear hfit hbo
        cases bo with
        | true =>
          refine HW.out.mono ?_; rintro e w6 ⟨rfl, F', k1, k2, k3⟩
          have hdw : d.write (at_, oneB bb) = d.burn := by unfold Dv.write; rw [if_pos HBO.out.symm]
          rw [hdw] at k1
          have HI3 := hid (HS.out.deed k1 k2 k3)
          clear k1 k2 k3 hdw HS HW
          go_wp2_with fail
          refine (dev_IsOn w6 p d.burn F' HI3.out.dev.at_).mono ?_; rintro e w7 ⟨rfl, rfl⟩
          rw [← HBO.out]
          go_wp2_with fail
          go_roundg (xs.length - (i + 1))
          case measure => omega
          case rel =>
            have hs := d.burn_same
            refine ⟨i + 1, d.burn, F', S, vs, T, by omega, by go_num, HI3.out, fun h => by omega, fun h => ⟨HG.out.1.burn, HG.out.2.1.burn⟩, ?_, ?_⟩
            · have := HG.out.2.2.1; omega
            · exact ⟨by have := HG.out.2.2.2.1; omega, fun k t h => by have := HG.out.2.2.2.2 k t h; omega⟩
        | false =>
          refine HW.out.mono ?_; rintro e w6 ⟨rfl, F', k1, k2, k3⟩
          have hdw : d.write (at_, oneB bb) = { d.burn with loose := d.burn.loose ++ [(at_, oneB bb)], wr := d.burn.wr + 1 } := by unfold Dv.write; rw [← HBO.out]; rfl
          have h3 := HS.out.deed k1 k2 k3
          clear k1 k2 k3 HS HW
          obtain ⟨V, hV⟩ : ∃ V, vs[at_]? = some V := ⟨_, List.getElem?_eq_getElem (by rw [h3.lv]; exact hat)⟩
          obtain ⟨tt, hT⟩ : ∃ tt, T[at_]? = some tt := ⟨_, List.getElem?_eq_getElem (by rw [h3.lt]; exact hat)⟩
          have hown := h3.own at_ V tt hV hT
          obtain ⟨VA, vcap, hVs, _⟩ := ownsRowF_row hown
          subst hVs
          have c0 : w6.cell? ⟨gl, at_, none⟩ = some (.slice VA tt.length vcap) := h3.bl.at hV
          have htt : tt.length ≤ i := HG.out.2.2.2.2 at_ tt hT
          have HI3 := hid h3; have HV := hid (And.intro hV hT); have HOWN := hid hown; have HTT := hid htt; have HDW := hid hdw
          clear h3 hV hT hown htt hdw
          obtain ⟨_, _, e1⟩ := HE.out
          go_wp2_with (with_reducible refine at_op (.call { callee := .builtin .append, args := #[.tmp 93, .tmp 97], argTypes := #[35, 35] }) rfl ?_; refine Stopped.go ?_)
          refine Stopped.mk (wpList_append_one rfl _ _ 35 5 rfl i0 _ 1 1 Try.underlying35 HI0.out HZ0.out HZ1.out HZ2.out rfl (by decide) (.slice VA tt.length vcap) tt.length (u8s tt) rfl w6 #[.int .u8 bb.toNat] rfl HOWN.out w6.heap.size rfl 1 rfl rfl (by simp [Value.oneCell']) (by have := HTT.out; simp only [maxLen]; omega) (by have := HTT.out; omega) ?_)
          intro V' w7 hown hkp hvb
          have hown' : w7.ownsRowF 0 5 1 V' (tt ++ [bb]).length (u8s (tt ++ [bb])) := by
            have e : u8s (tt ++ [bb]) = u8s tt ++ [.int .u8 (bb.toNat : Int)] := by simp [u8s]
            rw [e, List.length_append]
            exact hown
          obtain ⟨VA', vcap', hVs, _⟩ := ownsRowF_row hown'
          subst hVs
          have hbl := HI3.out.bl.keeps hkp (fun hm => (HI3.out.new at_ _ _ HV.out.1 (Option.mem_toList.1 hm)).2.2.2.2 rfl)
          have c0 : w7.cell? ⟨gl, at_, none⟩ = some (.slice VA tt.length vcap) := hbl.at HV.out.1
          have f0 : w7.frozen? ⟨gl, at_, none⟩ = false := hbl.free (by rw [HI3.out.lv]; exact hat)
          have HI4 := hid (HI3.out.push at_ bb HV.out.1 HV.out.2 hown' hkp hvb)
          rw [show (tt ++ [bb]).length = tt.length + 1 from List.length_append] at HI4
          clear hown hown' hkp hvb hbl
          go_wp2_with fail
          go_roundg (xs.length - (i + 1))
          case measure => omega
          case rel =>
            have hs := d.burn_same
            have hok := okOf_push S T at_ tt bb HV.out.2
            refine ⟨i + 1, d.write (at_, oneB bb), F', S, _, _, by omega, by go_num, HI4.out, fun h => by omega, fun h => ⟨(HG.out.1.mono hok.1).write (at_, oneB bb) ⟨hat, bb, hok.2, rfl⟩, HG.out.2.1.write _⟩, ?_, ?_⟩
            · rw [HDW.out]
              simp only [List.length_append, List.length_cons, List.length_nil]
              have := HG.out.2.2.1; omega
            · rw [HDW.out]
              simp only
              refine ⟨by have := HG.out.2.2.2.1; omega, fun k t h => ?_⟩
              rw [List.getElem?_set] at h
              by_cases e : at_ = k
              · rw [if_pos e] at h
                split at h
                · injection h with h
                  rw [← h, List.length_append]
                  have := HTT.out
                  simp only [List.length_cons, List.length_nil]
                  omega
                · cases h
              · rw [if_neg e] at h
                have := HG.out.2.2.2.2 k t h; omega

    · have hin : i = xs.length := by omega
      subst hin
      by_cases hnx : n < xs.length
      · have HG := hid (And.intro (HI.out.2.2.1 hnx).1 (And.intro (HI.out.2.2.1 hnx).2 (by have := HI.out.2.2.2.1; omega : d.rd + d.wr + d.fl ≤ 50)))
        have HTL := hid HI.out.2.2.2.2.2
        have HS := hid HI.out.1
        have hnx1 : ((n : Int) == (xs.length : Int)) = false := by simp; omega
        clear HI
        go_wp2_with fail
        refine (dv_Cut HS.out.dev KA kcap keep (HKR.out.below HS.out.dev.bel) (by omega)).mono ?_; rintro e w5 ⟨rfl, k1, k2⟩
        have HS2 := hid (HS.out.deed k1 k2 (fun k hk => .inl hk))
        clear k1 k2 HS
        go_wp2_with fail
        refine (dv_Come HS2.out.dev).mono ?_; rintro e w6 ⟨rfl, k1, k2⟩
        have h3 := HS2.out.deed k1 k2 (fun k hk => .inl hk)
        obtain ⟨D, hD⟩ : ∃ D, D = (d.cut keep).come := ⟨_, rfl⟩
        rw [← hD] at h3
        have HS3 := hid h3
        have HD := hid (show D.off = false ∧ D.loose = [] ∧ Good (okOf S T) D ∧ D.rd + D.wr + D.fl ≤ 100 from by
          have e := (d.cut keep).come_same
          have e2 := d.cut_same keep
          rw [hD]
          refine ⟨Dv.come_off _, ?_, (HG.out.1.cut keep).come, ?_⟩
          · rw [e.1]; exact HG.out.2.1.cut keep
          · have := HG.out.2.2; omega)
        clear k1 k2 h3 hD HS2
        go_wp2_with fail
        go_loopg [16] 4 (fun g j wx => ∃ (at_ rd : Nat), at_ + g = 4 ∧ j = .int .i64 at_ ∧ Hid (SafeSt w wx p gs gl { D with rd := rd } F S vs T ∧ rd ≤ D.rd + at_))
        case atStart => exact ⟨0, D.rd, by omega, rfl, HS3.out, Nat.le_refl _⟩
        case round =>
          obtain ⟨at_, rd, hat, rfl, HI⟩ := hrel
          clear HS3
          by_cases h4 : at_ < 4
          · have h4' : (at_ : Int) < 4 := by omega
            go_wp2_with fail
            refine (dv_Read HI.out.1.dev at_ h4 HD.out.1 (by have h1 := HD.out; have h2 := HI.out.2; show D.loose.length + rd + D.wr + D.fl ≤ 990; rw [h1.2.1]; simp only [List.length_nil]; omega)).mono ?_; rintro e w7 ⟨rfl, k1, k2⟩
            have h8 := HI.out.1.deed k1 k2 (fun k hk => .inl hk)
            have hrd : ({ D with rd := rd } : Dv).read at_ = D.read at_ := rfl
            rw [hrd]
            obtain ⟨s, hs⟩ : ∃ s, s = D.read at_ := ⟨_, rfl⟩
            have hb := rd_byte HD.out.2.2.1 HD.out.2.1 at_ h4
            rw [← hs] at hb ⊢
            obtain ⟨V, hV⟩ : ∃ V, vs[at_]? = some V := ⟨_, List.getElem?_eq_getElem (by rw [h8.lv]; exact h4)⟩
            obtain ⟨tt, hT⟩ : ∃ tt, T[at_]? = some tt := ⟨_, List.getElem?_eq_getElem (by rw [h8.lt]; exact h4)⟩
            have hown := h8.own at_ V tt hV hT
            obtain ⟨VA, vcap, hVs, hrow⟩ := ownsRowF_row hown
            subst hVs
            obtain ⟨s0, hs0⟩ : ∃ s0, s0 = S.getD at_ 0 := ⟨_, rfl⟩
            have c0 : w7.cell? ⟨gl, at_, none⟩ = some (.slice VA tt.length vcap) := h8.bl.at hV
            have c1 : w7.cell? ⟨gs, at_, none⟩ = some (.int .u8 (s0.toNat : Int)) := by
              rw [h8.bs.cell, u8s_at (by rw [h8.ls]; exact h4)]
              congr 3
              rw [hs0, List.getD_eq_getElem?_getD, List.getElem?_eq_getElem (by rw [h8.ls]; exact h4)]; rfl
            have hok : okOf S T at_ = s0 :: tt := by unfold okOf; rw [← hs0, List.getD_eq_getElem?_getD, hT]; rfl
            rw [hok] at hb
            have H8 := hid (And.intro h8 (show rd + 1 ≤ D.rd + (at_ + 1) by have := HI.out.2; omega))
            have HB := hid hb.2; have hsz := hb.1; have HROW := hid hrow; have HHT := hid (HTL.out at_ tt hT)
            clear k1 k2 h8 hrd hs hb hV hT hown hrow hs0 hok HI
            go_wp2_with fail
            go_loopg [19] 4 (fun g j wx => ∃ k : Nat, k + g = 4 ∧ j = .int .i64 k ∧ Hid (wx = w7))
            case atStart => exact ⟨0, by omega, rfl, rfl⟩
            case round =>
              obtain ⟨k, hk, rfl, HWX⟩ := hrel
              have hwx := HWX.out
              subst hwx
              clear HWX
              by_cases hk4 : k < 4
              · have hk4' : (k : Int) < 4 := by omega
                obtain ⟨bk, hbm, hbk⟩ := HB.out k hk4
                have HBK := hid (And.intro hbm hbk)
                have hq0 := hbk 0 (by decide)
                rw [Nat.add_zero] at hq0
                obtain ⟨q, hq⟩ : ∃ q, q = 64 * k := ⟨_, rfl⟩
                rw [← hq] at hq0
                have hkq : (k : Int) * 64 = (q : Int) := by omega
                have hqs : q < s.size := by omega
                rw [data_getD s q hqs] at hq0
                have HQ := hid (And.intro hq hq0)
                clear hbm hbk hq
                go_wp2_with fail
                clear c1
                obtain ⟨f0, hf0⟩ : ∃ f0 : Bool, f0 = ((bk.toNat : Int) == (s0.toNat : Int)) := ⟨_, rfl⟩
                rw [← hf0]
                have hF0 : f0 = true ↔ bk ∈ s0 :: tt.take 0 := by
                  rw [hf0]; simp [← UInt8.toNat_inj]; omega
                have HF0 := hid (show FbIs f0 bk (s0 :: tt.take 0) from hF0)
                clear hf0 hF0
                obtain ⟨W, hW⟩ : ∃ W, W = wr := ⟨_, rfl⟩
                have HWW := hid hW
                clear hW
                go_loopg [21, 22] tt.length (fun g fv j wx => ∃ (m : Nat) (fb : Bool), m + g = tt.length ∧ fv = .bool fb ∧ j = .int .i64 m ∧ Hid (FbIs fb bk (s0 :: tt.take m)) ∧ Hid (wx = W))
                case atStart => exact ⟨0, f0, by omega, rfl, rfl, HF0.out, HWW.out.symm⟩
                case round =>
                  obtain ⟨m, fb, hm', rfl, rfl, HFB, HWX⟩ := hrel
                  have hwx := HWX.out.trans HWW.out
                  subst hwx
                  by_cases hmt : m < tt.length
                  · obtain ⟨b', off', rfl, hb', hc'⟩ := row_cell HROW.out (by intro e; have := congrArg List.length e; simp [u8s] at this; subst this; simp at hmt)
                    obtain ⟨y, hy⟩ : ∃ y, y = tt[m] := ⟨_, rfl⟩
                    have c2 := hc' m (.int .u8 (y.toNat : Int)) (by rw [hy]; exact u8s_at hmt)
                    have HY := hid hy
                    clear hb' hc' hy
                    have hmx : (m : Int) < (tt.length : Int) := by omega
                    have hmb : (m : Int) ≤ 20 := by have := HHT.out; omega
                    cases fb with
                    | true =>
                      go_wp2_with fail
                      go_roundg (tt.length - (m + 1))
                      case measure => omega
                      case rel =>
                        refine ⟨m + 1, true, by omega, rfl, by go_num, ⟨fun _ => ?_, fun _ => rfl⟩, HWW.out.symm⟩
                        have h1 := HFB.out.1 rfl
                        rw [List.take_succ_eq_append_getElem hmt]
                        rcases List.mem_cons.1 h1 with h | h
                        · rw [h]; exact List.mem_cons_self ..
                        · exact List.mem_cons_of_mem _ (List.mem_append_left _ h)
                    | false =>
                      go_wp2_with fail
                      go_roundg (tt.length - (m + 1))
                      case measure => omega
                      case rel =>
                        refine ⟨m + 1, _, by omega, rfl, by go_num, ?_, HWW.out.symm⟩
                        have h1 : ¬ bk ∈ s0 :: tt.take m := fun h => by have := HFB.out.2 h; cases this
                        rw [List.take_succ_eq_append_getElem hmt, ← HY.out]
                        constructor
                        · intro h
                          have h2 : bk = y := by rw [← UInt8.toNat_inj]; have h9 : (bk.toNat : Int) = (y.toNat : Int) := (by simpa using h); omega
                          rw [h2]
                          exact List.mem_cons_of_mem _ (List.mem_append_right _ (List.mem_singleton.2 rfl))
                        · intro h
                          rw [← List.cons_append] at h
                          rcases List.mem_append.1 h with h | h
                          · exact absurd h h1
                          · have h2 : bk = y := List.mem_singleton.1 h
                            rw [h2]; simp
                  · have hmt' : m = tt.length := by omega
                    subst hmt'
                    have hfb : fb = true := HFB.out.2 (by rw [List.take_length]; exact HBK.out.1)
                    subst hfb
                    have HTTL := hid hmt
                    clear HFB hmt
                    go_wp2_with fail
                    go_loopg [23] 64 (fun g j wx => ∃ j' : Nat, j' + g = 64 ∧ j = .int .i64 j' ∧ Hid (wx = W))
                    case atStart => exact ⟨0, by omega, rfl, HWW.out.symm⟩
                    case round =>
                      obtain ⟨j, hj, rfl, HWX2⟩ := hrel
                      have hwx2 := HWX2.out.trans HWW.out
                      subst hwx2
                      by_cases hj64 : j < 64
                      · have hj64' : (j : Int) < 64 := by omega
                        obtain ⟨r, hr⟩ : ∃ r, r = 64 * k + j := ⟨_, rfl⟩
                        have hrs : r < s.size := by omega
                        have hqj : (q : Int) + (j : Int) = (r : Int) := by have := HQ.out.1; omega
                        have hsr : s[r] = bk := by rw [← data_getD s r hrs, hr]; exact HBK.out.2 j hj64
                        clear hr
                        go_wp2_with fail
                        go_roundg (64 - (j + 1))
                        case measure => omega
                        case rel => exact ⟨j + 1, by omega, by go_num, HWW.out.symm⟩
                      · have hj64' : j = 64 := by omega
                        subst hj64'
                        go_wp2_with fail
                        go_roundg (4 - (k + 1))
                        case measure => omega
                        case rel => exact ⟨k + 1, by omega, by go_num, rfl⟩
              · have hk4' : k = 4 := by omega
                subst hk4'
                have HC01 := hid (And.intro c0 c1)
                clear c0 c1
                go_wp2_with fail
                go_roundg (4 - (at_ + 1))
                case measure => omega
                case rel => exact ⟨at_ + 1, rd + 1, by omega, by go_num, H8.out⟩
          · have h4' : at_ = 4 := by omega
            subst h4'
            go_wp2_with fail
            go_ret
            exact ⟨rfl, HI.out.1.dev.bel⟩
      · have hnx2 : n = xs.length := by have := HN.out; omega
        subst hnx2
        obtain ⟨L, rfl, hL, hAh, _⟩ := HI.out.2.1 (by omega)
        have HAh := hid (And.intro hL hAh)
        have HTL := hid HI.out.2.2.2.2.2
        have hnx1 : ((xs.length : Int) == (xs.length : Int)) = true := by simp
        clear hL hAh
        go_wp2_with fail
        refine (dv_Flush HI.out.1.dev (by show L.length + 0 + L.length + 0 ≤ 990; have := HAh.out.1; omega)).mono ?_; rintro e w4 ⟨rfl, k1, k2⟩
        rw [allD_on]
        rw [allD_flush] at k1
        have HS1 := HI.out.1.deed k1 k2 (fun k hk => .inl hk)
        obtain ⟨d, hd⟩ : ∃ d : Dv, d = { allD L with safe := flushN (List.replicate 1024 0) L, loose := [], fl := 1 } := ⟨_, rfl⟩
        rw [← hd] at HS1
        have HS := hid HS1
        have HG := hid (show Good (okOf S T) d ∧ Dry d ∧ d.rd + d.wr + d.fl ≤ 50 from by
          refine ⟨HAh.out.2.good _ d (by rw [hd]) (by rw [hd]), fun _ => by rw [hd], ?_⟩
          rw [hd]; show 0 + L.length + 1 ≤ _; have := HAh.out.1; omega)
        clear k1 k2 HS1 HI hd
        go_wp2_with fail
        refine (dv_Cut HS.out.dev KA kcap keep (HKR.out.below HS.out.dev.bel) (by omega)).mono ?_; rintro e w5 ⟨rfl, k1, k2⟩
        have HS2 := hid (HS.out.deed k1 k2 (fun k hk => .inl hk))
        clear k1 k2 HS
        go_wp2_with fail
        refine (dv_Come HS2.out.dev).mono ?_; rintro e w6 ⟨rfl, k1, k2⟩
        have h3 := HS2.out.deed k1 k2 (fun k hk => .inl hk)
        obtain ⟨D, hD⟩ : ∃ D, D = (d.cut keep).come := ⟨_, rfl⟩
        rw [← hD] at h3
        have HS3 := hid h3
        have HD := hid (show D.off = false ∧ D.loose = [] ∧ Good (okOf S T) D ∧ D.rd + D.wr + D.fl ≤ 100 from by
          have e := (d.cut keep).come_same
          have e2 := d.cut_same keep
          rw [hD]
          refine ⟨Dv.come_off _, ?_, (HG.out.1.cut keep).come, ?_⟩
          · rw [e.1]; exact HG.out.2.1.cut keep
          · have := HG.out.2.2; omega)
        clear k1 k2 h3 hD HS2
        go_wp2_with fail
        go_loopg [16] 4 (fun g j wx => ∃ (at_ rd : Nat), at_ + g = 4 ∧ j = .int .i64 at_ ∧ Hid (SafeSt w wx p gs gl { D with rd := rd } F S vs T ∧ rd ≤ D.rd + at_))
        case atStart => exact ⟨0, D.rd, by omega, rfl, HS3.out, Nat.le_refl _⟩
        case round =>
          obtain ⟨at_, rd, hat, rfl, HI⟩ := hrel
          clear HS3
          by_cases h4 : at_ < 4
          · have h4' : (at_ : Int) < 4 := by omega
            go_wp2_with fail
            refine (dv_Read HI.out.1.dev at_ h4 HD.out.1 (by have h1 := HD.out; have h2 := HI.out.2; show D.loose.length + rd + D.wr + D.fl ≤ 990; rw [h1.2.1]; simp only [List.length_nil]; omega)).mono ?_; rintro e w7 ⟨rfl, k1, k2⟩
            have h8 := HI.out.1.deed k1 k2 (fun k hk => .inl hk)
            have hrd : ({ D with rd := rd } : Dv).read at_ = D.read at_ := rfl
            rw [hrd]
            obtain ⟨s, hs⟩ : ∃ s, s = D.read at_ := ⟨_, rfl⟩
            have hb := rd_byte HD.out.2.2.1 HD.out.2.1 at_ h4
            rw [← hs] at hb ⊢
            obtain ⟨V, hV⟩ : ∃ V, vs[at_]? = some V := ⟨_, List.getElem?_eq_getElem (by rw [h8.lv]; exact h4)⟩
            obtain ⟨tt, hT⟩ : ∃ tt, T[at_]? = some tt := ⟨_, List.getElem?_eq_getElem (by rw [h8.lt]; exact h4)⟩
            have hown := h8.own at_ V tt hV hT
            obtain ⟨VA, vcap, hVs, hrow⟩ := ownsRowF_row hown
            subst hVs
            obtain ⟨s0, hs0⟩ : ∃ s0, s0 = S.getD at_ 0 := ⟨_, rfl⟩
            have c0 : w7.cell? ⟨gl, at_, none⟩ = some (.slice VA tt.length vcap) := h8.bl.at hV
            have c1 : w7.cell? ⟨gs, at_, none⟩ = some (.int .u8 (s0.toNat : Int)) := by
              rw [h8.bs.cell, u8s_at (by rw [h8.ls]; exact h4)]
              congr 3
              rw [hs0, List.getD_eq_getElem?_getD, List.getElem?_eq_getElem (by rw [h8.ls]; exact h4)]; rfl
            have hok : okOf S T at_ = s0 :: tt := by unfold okOf; rw [← hs0, List.getD_eq_getElem?_getD, hT]; rfl
            rw [hok] at hb
            have H8 := hid (And.intro h8 (show rd + 1 ≤ D.rd + (at_ + 1) by have := HI.out.2; omega))
            have HB := hid hb.2; have hsz := hb.1; have HROW := hid hrow; have HHT := hid (HTL.out at_ tt hT)
            clear k1 k2 h8 hrd hs hb hV hT hown hrow hs0 hok HI
            go_wp2_with fail
            go_loopg [19] 4 (fun g j wx => ∃ k : Nat, k + g = 4 ∧ j = .int .i64 k ∧ Hid (wx = w7))
            case atStart => exact ⟨0, by omega, rfl, rfl⟩
            case round =>
              obtain ⟨k, hk, rfl, HWX⟩ := hrel
              have hwx := HWX.out
              subst hwx
              clear HWX
              by_cases hk4 : k < 4
              · have hk4' : (k : Int) < 4 := by omega
                obtain ⟨bk, hbm, hbk⟩ := HB.out k hk4
                have HBK := hid (And.intro hbm hbk)
                have hq0 := hbk 0 (by decide)
                rw [Nat.add_zero] at hq0
                obtain ⟨q, hq⟩ : ∃ q, q = 64 * k := ⟨_, rfl⟩
                rw [← hq] at hq0
                have hkq : (k : Int) * 64 = (q : Int) := by omega
                have hqs : q < s.size := by omega
                rw [data_getD s q hqs] at hq0
                have HQ := hid (And.intro hq hq0)
                clear hbm hbk hq
                go_wp2_with fail
                clear c1
                obtain ⟨f0, hf0⟩ : ∃ f0 : Bool, f0 = ((bk.toNat : Int) == (s0.toNat : Int)) := ⟨_, rfl⟩
                rw [← hf0]
                have hF0 : f0 = true ↔ bk ∈ s0 :: tt.take 0 := by
                  rw [hf0]; simp [← UInt8.toNat_inj]; omega
                have HF0 := hid (show FbIs f0 bk (s0 :: tt.take 0) from hF0)
                clear hf0 hF0
                obtain ⟨W, hW⟩ : ∃ W, W = wr := ⟨_, rfl⟩
                have HWW := hid hW
                clear hW
                go_loopg [21, 22] tt.length (fun g fv j wx => ∃ (m : Nat) (fb : Bool), m + g = tt.length ∧ fv = .bool fb ∧ j = .int .i64 m ∧ Hid (FbIs fb bk (s0 :: tt.take m)) ∧ Hid (wx = W))
                case atStart => exact ⟨0, f0, by omega, rfl, rfl, HF0.out, HWW.out.symm⟩
                case round =>
                  obtain ⟨m, fb, hm', rfl, rfl, HFB, HWX⟩ := hrel
                  have hwx := HWX.out.trans HWW.out
                  subst hwx
                  by_cases hmt : m < tt.length
                  · obtain ⟨b', off', rfl, hb', hc'⟩ := row_cell HROW.out (by intro e; have := congrArg List.length e; simp [u8s] at this; subst this; simp at hmt)
                    obtain ⟨y, hy⟩ : ∃ y, y = tt[m] := ⟨_, rfl⟩
                    have c2 := hc' m (.int .u8 (y.toNat : Int)) (by rw [hy]; exact u8s_at hmt)
                    have HY := hid hy
                    clear hb' hc' hy
                    have hmx : (m : Int) < (tt.length : Int) := by omega
                    have hmb : (m : Int) ≤ 20 := by have := HHT.out; omega
                    cases fb with
                    | true =>
                      go_wp2_with fail
                      go_roundg (tt.length - (m + 1))
                      case measure => omega
                      case rel =>
                        refine ⟨m + 1, true, by omega, rfl, by go_num, ⟨fun _ => ?_, fun _ => rfl⟩, HWW.out.symm⟩
                        have h1 := HFB.out.1 rfl
                        rw [List.take_succ_eq_append_getElem hmt]
                        rcases List.mem_cons.1 h1 with h | h
                        · rw [h]; exact List.mem_cons_self ..
                        · exact List.mem_cons_of_mem _ (List.mem_append_left _ h)
                    | false =>
                      go_wp2_with fail
                      go_roundg (tt.length - (m + 1))
                      case measure => omega
                      case rel =>
                        refine ⟨m + 1, _, by omega, rfl, by go_num, ?_, HWW.out.symm⟩
                        have h1 : ¬ bk ∈ s0 :: tt.take m := fun h => by have := HFB.out.2 h; cases this
                        rw [List.take_succ_eq_append_getElem hmt, ← HY.out]
                        constructor
                        · intro h
                          have h2 : bk = y := by rw [← UInt8.toNat_inj]; have h9 : (bk.toNat : Int) = (y.toNat : Int) := (by simpa using h); omega
                          rw [h2]
                          exact List.mem_cons_of_mem _ (List.mem_append_right _ (List.mem_singleton.2 rfl))
                        · intro h
                          rw [← List.cons_append] at h
                          rcases List.mem_append.1 h with h | h
                          · exact absurd h h1
                          · have h2 : bk = y := List.mem_singleton.1 h
                            rw [h2]; simp
                  · have hmt' : m = tt.length := by omega
                    subst hmt'
                    have hfb : fb = true := HFB.out.2 (by rw [List.take_length]; exact HBK.out.1)
                    subst hfb
                    have HTTL := hid hmt
                    clear HFB hmt
                    go_wp2_with fail
                    go_loopg [23] 64 (fun g j wx => ∃ j' : Nat, j' + g = 64 ∧ j = .int .i64 j' ∧ Hid (wx = W))
                    case atStart => exact ⟨0, by omega, rfl, HWW.out.symm⟩
                    case round =>
                      obtain ⟨j, hj, rfl, HWX2⟩ := hrel
                      have hwx2 := HWX2.out.trans HWW.out
                      subst hwx2
                      by_cases hj64 : j < 64
                      · have hj64' : (j : Int) < 64 := by omega
                        obtain ⟨r, hr⟩ : ∃ r, r = 64 * k + j := ⟨_, rfl⟩
                        have hrs : r < s.size := by omega
                        have hqj : (q : Int) + (j : Int) = (r : Int) := by have := HQ.out.1; omega
                        have hsr : s[r] = bk := by rw [← data_getD s r hrs, hr]; exact HBK.out.2 j hj64
                        clear hr
                        go_wp2_with fail
                        go_roundg (64 - (j + 1))
                        case measure => omega
                        case rel => exact ⟨j + 1, by omega, by go_num, HWW.out.symm⟩
                      · have hj64' : j = 64 := by omega
                        subst hj64'
                        go_wp2_with fail
                        go_roundg (4 - (k + 1))
                        case measure => omega
                        case rel => exact ⟨k + 1, by omega, by go_num, rfl⟩
              · have hk4' : k = 4 := by omega
                subst hk4'
                have HC01 := hid (And.intro c0 c1)
                clear c0 c1
                go_wp2_with fail
                go_roundg (4 - (at_ + 1))
                case measure => omega
                case rel => exact ⟨at_ + 1, rd + 1, by omega, by go_num, H8.out⟩
          · have h4' : at_ = 4 := by omega
            subst h4'
            go_wp2_with fail
            go_ret
            exact ⟨rfl, HI.out.1.dev.bel⟩

/-- in the row's words -/
theorem devSafe_law (A : Option Addr) (cap : Nat) (xs : List Int) (fl fu : Int) (KA : Option Addr) (kcap : Nat) (keep : List Bool) (w : World) (hr : Row w A (i64s xs)) (_ : ∀ n ∈ xs, (Lit.int .i64 n).wf = true) (hu : xs.length ≤ cap) (hm : cap ≤ maxLen)
    (_ : (Lit.int .i64 fl).wf = true) (_ : (Lit.int .i64 fu).wf = true) (hkr : Row w KA (bools keep)) (hku : keep.length ≤ kcap) (hkm : kcap ≤ maxLen) :
    Calls Try.prog 7 #[.slice A xs.length cap, .int .i64 fl, .int .i64 fu, .slice KA keep.length kcap] w fun e w' => e = .returned (.bool true) ∧ Below w.heap.size w w' :=
  devSafe_walk A cap xs fl fu KA kcap keep w hr (by simp only [maxLen] at hm; omega) hkr (by simp only [maxLen] at hkm; omega)
end Go.Proofs.Ytapmnnfnhgopcaa
