/-
  grangerlaw28.TaleWords, walked.
-/
import Derived.Test.YthhmdmfbaooldaaGreatDoorTaleRefX
import Derived.Test.YthhmdmfbaooldaaGreatDoorTaleRefN
import Derived.Test.YthhmdmfbaooldaaGreatDoorTaleAwake
namespace Go.Proofs.YthhmdmfbaooldaaGreatDoor
open Go.RowKit

/-- both texts, both numbers, out of the word -/
theorem word_cases (l : List UInt8) : (∃ A : ByteArray, textA l = A ∧ textE l = 0 ∧ textOkB l = true) ∨ (textA l = ⟨#[]⟩ ∧ textE l = 5 ∧ textOkB l = false) := by
  cases h : textT l with
  | none => exact .inr ⟨(textA_none h).1, (textA_none h).2, textB_none h⟩
  | some t => exact .inl ⟨_, rfl, (textA_some h).2, (textB_some h).2⟩
theorem num_cases (l : List UInt8) : (∃ u : Nat, numA l = u ∧ numE l = 0 ∧ numB l = true) ∨ (numA l = 0 ∧ numE l = 5 ∧ numB l = false) := by
  cases h : numT l with
  | none => exact .inr ⟨(numA_none h).1, (numA_none h).2, (numB_none h).2⟩
  | some u => exact .inl ⟨_, rfl, (numA_some h).2, (numB_some h).2⟩

set_option maxHeartbeats 8000000 in
set_option maxRecDepth 100000 in
theorem taleWords_any (s v : ByteArray) (n : Nat) (w : World) (hL : Lib28 w) (hn : n < 18446744073709551616) :
    Calls Tryz.prog 3 #[.string s, .string v, .int .u64 n] w fun e w' => e = .returned (.bool true) ∧ Below w.heap.size w w' := by
  have HL := hid hL
  have HA := hid (awake28_any w hL)
  clear hL
  by_cases z1 : s.size ≤ 512
  · by_cases z2 : v.size ≤ 512
    · have f1 : ¬ (512 : Int) < (s.size : Int) := by omega
      have f2 : ¬ (512 : Int) < (v.size : Int) := by omega
      have CT := fun wx => tale_Text_any v (by omega) wx
      have CR := fun wx => refText_any v (by omega) wx
      have CN := fun wx hx => tale_Number_any v (by omega) wx hx
      have CM := fun wx => refNumber_any v (by omega) wx
      have CW := fun wx => tale_Word_any s (by omega) wx
      have CV := fun wx => refWord_any s (by omega) wx
      have CD := hid (fun wx => refDigits_any n hn wx)
      have CB := fun wx hx => tale_Number_any (dB n) (by
        have h1 := dec_len n hn
        have e : (dB n).data.toList.length = (dB n).size := by simp
        have e2 : (dB n).data.toList = Lib.decDigits n := rfl
        rw [e2] at e; omega) wx hx
      have e2 : (dB n).data.toList = Lib.decDigits n := rfl
      rw [e2, numA_dec n hn, (numA_some (numT_dec n hn)).2] at CB
      obtain ⟨X, hX⟩ : ∃ X, X = wB s.data.toList := ⟨_, rfl⟩
      have CW' : ∀ wx, Calls Tryz.prog 15 #[.string s] wx fun e w' => e = .returned (.string X) ∧ Below wx.heap.size wx w' := by rw [hX]; exact CW
      rw [← hX] at CV
      have HXX := hid (show (X.toList == X.toList) = true by simp)
      have KB := hid CB; have KW := hid CW'; have KV := hid CV
      clear CB CW CW' CV e2 hX z1 z2
      rcases word_cases v.data.toList with ⟨A, hA, hE, hO⟩ | ⟨hA, hE, hO⟩
      all_goals
        rw [hE] at CT
        rw [hO] at CR
        rw [hA] at CT CR
        clear hA hE hO
        have KT := hid CT; have KR := hid CR
        clear CT CR
        rcases num_cases v.data.toList with ⟨u, hu, hE, hO⟩ | ⟨hu, hE, hO⟩
        all_goals
          rw [hu, hE] at CN
          rw [hu, hO] at CM
          clear hu hE hO
          have KN := hid CN; have KM := hid CM
          clear CN CM
          go_enter Tryz.func3, Tryz.ntmps3
          go_wp2_with fail
          refine HA.out.mono ?_; rintro e w1 ⟨rfl, hb⟩
          have H1 := hid hb; clear hb
          go_wp2_with fail
          refine (KT.out _).mono ?_; rintro e w2 ⟨rfl, hb⟩
          have H2 := hid (bt H1.out hb); clear hb H1
          go_wp2_with fail
          refine (KR.out _).mono ?_; rintro e w3 ⟨⟨t, rfl, ht⟩, hb⟩
          have H3 := hid (bt H2.out hb); clear hb H2
          first
            | (have ht' := ht trivial
               rw [ht']
               clear ht ht')
            | clear ht
          have hq : ∀ x : ByteArray, (x.toList != x.toList) = false := fun x => by simp
          go_wp2_with fail
          refine (KN.out _ (HL.out.below H3.out)).mono ?_; rintro e w4 ⟨rfl, hb⟩
          have H4 := hid (bt H3.out hb); clear hb H3
          go_wp2_with fail
          refine (KM.out _).mono ?_; rintro e w5 ⟨rfl, rfl⟩
          go_wp2_with fail
          refine (CD.out _).mono ?_; rintro e w5 ⟨rfl, hb⟩
          have H5 := hid (bt H4.out hb); clear hb H4
          go_wp2_with fail
          refine (KB.out _ (HL.out.below H5.out)).mono ?_; rintro e w6 ⟨rfl, hb⟩
          have H6 := hid (bt H5.out hb); clear hb H5
          go_wp2_with fail
          refine (KW.out _).mono ?_; rintro e w7 ⟨rfl, hb⟩
          have H7 := hid (bt H6.out hb); clear hb H6
          go_wp2_with fail
          refine (KV.out _).mono ?_; rintro e w8 ⟨rfl, hb⟩
          have H8 := hid (bt H7.out hb); clear hb H7
          have hx := HXX.out
          go_wp2_with fail
          go_ret
          exact ⟨rfl, H8.out⟩
    · have f1 : ¬ (512 : Int) < (s.size : Int) := by omega
      have f2 : (512 : Int) < (v.size : Int) := by omega
      go_enter Tryz.func3, Tryz.ntmps3
      go_wp2_with fail
      refine HA.out.mono ?_; rintro e w1 ⟨rfl, hb⟩
      have H1 := hid hb; clear hb
      go_wp2_with fail
      go_ret
      exact ⟨rfl, H1.out⟩
  · have f1 : (512 : Int) < (s.size : Int) := by omega
    go_enter Tryz.func3, Tryz.ntmps3
    go_wp2_with fail
    refine HA.out.mono ?_; rintro e w1 ⟨rfl, hb⟩
    have H1 := hid hb; clear hb
    go_wp2_with fail
    go_ret
    exact ⟨rfl, H1.out⟩
theorem taleWords_row (s v : ByteArray) (N : Int) (w : World) (hL : Lib28 w) (_ : s.size ≤ 140737488351232) (_ : v.size ≤ 140737488351232) (hN : (Lit.int .u64 N).wf = true) :
    Calls Tryz.prog 3 #[.string s, .string v, .int .u64 N] w fun e w' => e = .returned (.bool true) ∧ Below w.heap.size w w' := by
  obtain ⟨h1, h2⟩ := wf_u64 hN
  obtain ⟨n, rfl⟩ : ∃ n : Nat, N = n := ⟨N.toNat, by omega⟩
  exact taleWords_any s v n w hL (by omega)
end Go.Proofs.YthhmdmfbaooldaaGreatDoor
