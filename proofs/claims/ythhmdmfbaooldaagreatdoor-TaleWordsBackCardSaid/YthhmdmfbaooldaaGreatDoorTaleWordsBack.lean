/-
  TaleWordsBack: walked.
-/
import Derived.Test.YthhmdmfbaooldaaGreatDoorTaleAwake
namespace Go.Proofs.YthhmdmfbaooldaaGreatDoor
open Go.RowKit

theorem Text_word (s : ByteArray) (hs : s.size ≤ 1000) (w : World) :
    Calls Tryz.prog 10 #[.string (wB s.data.toList)] w fun e w' => e = .returned (.tuple #[.string s, .int .i64 0]) ∧ Below w.heap.size w w' := by
  have h := wB_len s hs
  have hsz : (wB s.data.toList).size ≤ 100000 := by
    have : (wB s.data.toList).data.toList.length = (wB s.data.toList).size := by simp
    omega
  refine (tale_Text_any (wB s.data.toList) hsz w).mono ?_
  rintro e w' ⟨rfl, hb⟩
  have ht : textT (wB s.data.toList).data.toList = some s.data.toList := text_word s.data.toList
  rw [(textA_some ht).1, (textA_some ht).2]
  exact ⟨rfl, hb⟩
theorem wB_inj {a b : ByteArray} (h : wB a.data.toList = wB b.data.toList) : a = b := by
  unfold wB at h
  have h1 : wordT a.data.toList = wordT b.data.toList := by simpa using h
  have h2 := word_inj h1
  cases a; cases b
  simp only [Array.toList_inj] at h2
  rw [h2]
theorem wB_print (a : ByteArray) (k : Nat) (h : k < (wB a.data.toList).size) : ¬ (((wB a.data.toList)[k]'h).toNat : Int) ≤ 32 ∧ ¬ (126 : Int) < (((wB a.data.toList)[k]'h).toNat : Int) := by
  have hm : ((wB a.data.toList)[k]'h) ∈ wordT a.data.toList := by
    have h2 := data_getD (wB a.data.toList) k h
    rw [← h2]
    have hl : k < (wB a.data.toList).data.toList.length := by simpa using h
    rw [List.getD_eq_getElem?_getD, List.getElem?_eq_getElem hl]
    exact List.getElem_mem hl
  obtain ⟨h1, h2⟩ := (word_print a.data.toList).2 _ hm
  rw [UInt8.lt_iff_toNat_lt] at h1
  rw [UInt8.le_iff_toNat_le] at h2
  have e1 : (32 : UInt8).toNat = 32 := rfl
  have e2 : (126 : UInt8).toNat = 126 := rfl
  omega
theorem wB_ne (a : ByteArray) : (wB a.data.toList).toList ≠ [] := by
  rw [ByteArray.toList_eq]
  exact (word_print a.data.toList).1
theorem text_same {v u t : ByteArray} (h1 : textE v.data.toList = 0) (h2 : textE u.data.toList = 0) (h3 : textA v.data.toList = t) (h4 : textA u.data.toList = t) : v = u := by
  have key : ∀ {x : ByteArray}, textE x.data.toList = 0 → textA x.data.toList = t → textT x.data.toList = some t.data.toList := by
    intro x hx ha
    cases h : textT x.data.toList with
    | none => rw [(textA_none h).2] at hx; cases hx
    | some l =>
      rw [(textA_some h).1] at ha
      rw [← ha]
  have := text_inj (key h1 h3) (key h2 h4)
  cases v; cases u
  simp only [Array.toList_inj] at this
  rw [this]
theorem textE_or (l : List UInt8) : textE l = 0 ∨ textE l = 5 := by unfold textE; split <;> simp

set_option maxHeartbeats 16000000 in
set_option maxRecDepth 100000 in
theorem taleWordsBack_walk (a b v u : ByteArray) (w : World) (hL : Lib28 w) :
    Calls Tryz.prog 7 #[.string a, .string b, .string v, .string u] w fun e w' => e = .returned (.bool true) ∧ Below w.heap.size w w' := by
  have HL := hid hL; clear hL
  have HA := hid (awake28_any w HL.out)
  rcases (show (512 : Int) < a.size ∨ (¬ (512 : Int) < a.size ∧ (512 : Int) < b.size) ∨ (¬ (512 : Int) < a.size ∧ ¬ (512 : Int) < b.size ∧ (512 : Int) < v.size) ∨ (¬ (512 : Int) < a.size ∧ ¬ (512 : Int) < b.size ∧ ¬ (512 : Int) < v.size ∧ (512 : Int) < u.size) ∨ (¬ (512 : Int) < a.size ∧ ¬ (512 : Int) < b.size ∧ ¬ (512 : Int) < v.size ∧ ¬ (512 : Int) < u.size) by omega) with h | ⟨h, h2⟩ | ⟨h, h2, h3⟩ | ⟨h, h2, h3, h4⟩ | ⟨h, h2, h3, h4⟩
  iterate 4
    · go_enter Tryz.func7, Tryz.ntmps7
      go_wp2_with fail
      refine HA.out.mono ?_; rintro e w1 ⟨rfl, hb1⟩
      have H1 := hid hb1; clear hb1
      go_wp2_with fail
      go_ret
      exact ⟨rfl, H1.out⟩
  have CX := fun w' => tale_Word_any a (by omega) w'
  have CY := fun w' => tale_Word_any b (by omega) w'
  have CT := fun w' => Text_word a (by omega) w'
  have CV := fun w' => tale_Text_any v (by omega) w'
  have CU := fun w' => tale_Text_any u (by omega) w'
  change ∀ w', Calls _ _ _ w' fun e w'' => e = .returned (.string (wB a.data.toList)) ∧ _ at CX
  change ∀ w', Calls _ _ _ w' fun e w'' => e = .returned (.string (wB b.data.toList)) ∧ _ at CY
  have hne := wB_ne a
  have hinj := fun h => wB_inj (a := a) (b := b) h
  obtain ⟨X, hX⟩ : ∃ X, X = wB a.data.toList := ⟨_, rfl⟩
  obtain ⟨Y, hY⟩ : ∃ Y, Y = wB b.data.toList := ⟨_, rfl⟩
  have hxs : X.size ≤ 5000 := by
    have h1 := wB_len a (by omega)
    have h2 : (wB a.data.toList).data.toList.length = (wB a.data.toList).size := by simp
    rw [hX]; omega
  have hsame : a = b → X = Y := fun e => by rw [hX, hY, e]
  have hp : ∀ (k : Nat) (h : k < X.size), ¬ ((X[k]'h).toNat : Int) ≤ 32 ∧ ¬ (126 : Int) < ((X[k]'h).toNat : Int) := by
    subst hX; exact wB_print a
  simp only [← hX] at CX CT hne hinj
  rw [← hY] at CY hinj
  have hts := fun t h1 h2 h3 h4 => text_same (v := v) (u := u) (t := t) h1 h2 h3 h4
  have hvo := textE_or v.data.toList
  have huo := textE_or u.data.toList
  obtain ⟨t1, ht1⟩ : ∃ t, t = textA v.data.toList := ⟨_, rfl⟩
  obtain ⟨t2, ht2⟩ : ∃ t, t = textA u.data.toList := ⟨_, rfl⟩
  obtain ⟨f1, hf1⟩ : ∃ t, t = textE v.data.toList := ⟨_, rfl⟩
  obtain ⟨f2, hf2⟩ : ∃ t, t = textE u.data.toList := ⟨_, rfl⟩
  have hvu : v = u → t1 = t2 := fun e => by rw [ht1, ht2, e]
  rw [← ht1, ← hf1] at CV
  rw [← ht2, ← hf2] at CU
  simp only [← hf1, ← hf2, ← ht1, ← ht2] at hts hvo huo
  have HX := hid CX; have HY := hid CY; have HT := hid CT; have HV := hid CV; have HU := hid CU
  have HP := hid hp; have HTS := hid hts; have HVU := hid hvu; have HVO := hid hvo; have HUO := hid huo
  have hx1 : (X.toList == []) = false := by rw [beq_eq_false_iff_ne]; exact hne
  have hx2 : (!X.toList.isEmpty) = true := by
    cases h : X.toList with
    | nil => exact absurd h hne
    | cons _ _ => rfl
  have hx3 : X.toList.isEmpty = false := by simpa using hx2
  clear CX CY CT CV CU hp hX hY ht1 ht2 hf1 hf2 hts hvu hvo huo
  by_cases hab : a = b
  · have hXY := hsame hab
    subst hab hXY
    have haa : (a.toList == a.toList) = true := by simp
    have hXX : (X.toList == X.toList) = true := by simp
    clear hsame hinj
    go_enter Tryz.func7, Tryz.ntmps7
    go_wp2_with fail
    refine HA.out.mono ?_; rintro e w1 ⟨rfl, hb1⟩
    have H1 := hid hb1; clear hb1
    go_wp2_with fail
    refine (HX.out _).mono ?_; rintro e w2 ⟨rfl, hb1⟩
    have H2 := hid (bt H1.out hb1); clear hb1 H1
    go_wp2_with fail
    refine (HX.out _).mono ?_; rintro e w3 ⟨rfl, hb1⟩
    have H3 := hid (bt H2.out hb1); clear hb1 H2
    go_wp2_with fail
    refine (HT.out _).mono ?_; rintro e w4 ⟨rfl, hb1⟩
    have H4 := hid (bt H3.out hb1); clear hb1 H3
    go_wp2_with fail
    clear hx1 hx2 hx3
    go_loopg [13] X.size (fun gg j wx => ∃ k : Nat, k + gg = X.size ∧ j = .int .i64 k ∧ w4 = wx)
    case atStart => exact ⟨0, by omega, rfl, rfl⟩
    case round =>
      obtain ⟨k, hk, rfl, rfl⟩ := hrel
      by_cases hlt : k < X.size
      · obtain ⟨hp1, hp2⟩ := HP.out k hlt
        go_wp2_with fail
        go_roundg (X.size - (k + 1))
        case measure => omega
        case rel => exact ⟨k + 1, by omega, by go_num, rfl⟩
      · go_wp2_with fail
        refine (HV.out _).mono ?_; rintro e w5 ⟨rfl, hb1⟩
        have H5 := hid (bt H4.out hb1); clear hb1 H4
        go_wp2_with fail
        refine (HU.out _).mono ?_; rintro e w6 ⟨rfl, hb1⟩
        have H6 := hid (bt H5.out hb1); clear hb1 H5
        rcases HVO.out with rfl | rfl
        · rcases HUO.out with rfl | rfl
          · by_cases hvu : v = u
            · have ht := HVU.out hvu
              have hq1 : (v.toList == u.toList) = true := by rw [hvu]; simp
              have hq2 : (t1.toList == t2.toList) = true := by rw [ht]; simp
              clear hvu ht
              go_wp2_with fail
              go_ret
              exact ⟨rfl, H6.out⟩
            · have ht : t1 ≠ t2 := fun e => hvu (HTS.out t2 rfl rfl e rfl)
              have hq1 := ba_ne hvu
              have hq2 := ba_ne ht
              clear hvu ht
              go_wp2_with fail
              go_ret
              exact ⟨rfl, H6.out⟩
          · go_wp2_with fail
            go_ret
            exact ⟨rfl, H6.out⟩
        · go_wp2_with fail
          go_ret
          exact ⟨rfl, H6.out⟩
  · have hXY : X ≠ Y := fun e => hab (hinj e)
    have haa := ba_ne hab
    have hXX := ba_ne hXY
    clear hsame hinj hab hXY
    go_enter Tryz.func7, Tryz.ntmps7
    go_wp2_with fail
    refine HA.out.mono ?_; rintro e w1 ⟨rfl, hb1⟩
    have H1 := hid hb1; clear hb1
    go_wp2_with fail
    refine (HX.out _).mono ?_; rintro e w2 ⟨rfl, hb1⟩
    have H2 := hid (bt H1.out hb1); clear hb1 H1
    go_wp2_with fail
    refine (HY.out _).mono ?_; rintro e w3 ⟨rfl, hb1⟩
    have H3 := hid (bt H2.out hb1); clear hb1 H2
    go_wp2_with fail
    refine (HT.out _).mono ?_; rintro e w4 ⟨rfl, hb1⟩
    have H4 := hid (bt H3.out hb1); clear hb1 H3
    go_wp2_with fail
    clear hx1 hx2 hx3
    go_loopg [13] X.size (fun gg j wx => ∃ k : Nat, k + gg = X.size ∧ j = .int .i64 k ∧ w4 = wx)
    case atStart => exact ⟨0, by omega, rfl, rfl⟩
    case round =>
      obtain ⟨k, hk, rfl, rfl⟩ := hrel
      by_cases hlt : k < X.size
      · obtain ⟨hp1, hp2⟩ := HP.out k hlt
        go_wp2_with fail
        go_roundg (X.size - (k + 1))
        case measure => omega
        case rel => exact ⟨k + 1, by omega, by go_num, rfl⟩
      · go_wp2_with fail
        refine (HV.out _).mono ?_; rintro e w5 ⟨rfl, hb1⟩
        have H5 := hid (bt H4.out hb1); clear hb1 H4
        go_wp2_with fail
        refine (HU.out _).mono ?_; rintro e w6 ⟨rfl, hb1⟩
        have H6 := hid (bt H5.out hb1); clear hb1 H5
        rcases HVO.out with rfl | rfl
        · rcases HUO.out with rfl | rfl
          · by_cases hvu : v = u
            · have ht := HVU.out hvu
              have hq1 : (v.toList == u.toList) = true := by rw [hvu]; simp
              have hq2 : (t1.toList == t2.toList) = true := by rw [ht]; simp
              clear hvu ht
              go_wp2_with fail
              go_ret
              exact ⟨rfl, H6.out⟩
            · have ht : t1 ≠ t2 := fun e => hvu (HTS.out t2 rfl rfl e rfl)
              have hq1 := ba_ne hvu
              have hq2 := ba_ne ht
              clear hvu ht
              go_wp2_with fail
              go_ret
              exact ⟨rfl, H6.out⟩
          · go_wp2_with fail
            go_ret
            exact ⟨rfl, H6.out⟩
        · go_wp2_with fail
          go_ret
          exact ⟨rfl, H6.out⟩
theorem taleWordsBack_row (a b v u : ByteArray) (w : World) (hL : Lib28 w) (_ : a.size ≤ 140737488351232) (_ : b.size ≤ 140737488351232) (_ : v.size ≤ 140737488351232) (_ : u.size ≤ 140737488351232) :
    Calls Tryz.prog 7 #[.string a, .string b, .string v, .string u] w fun e w' => e = .returned (.bool true) ∧ Below w.heap.size w w' := taleWordsBack_walk a b v u w hL
end Go.Proofs.YthhmdmfbaooldaaGreatDoor
