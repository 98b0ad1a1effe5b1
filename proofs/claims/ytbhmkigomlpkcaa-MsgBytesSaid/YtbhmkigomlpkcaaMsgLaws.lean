/-
  Plain laws of messages.
-/
import Derived.Test.YtbhmkigomlpkcaaMsgAwake
namespace Go.Proofs.Ytbhmkigomlpkcaa
open Go.RowKit

theorem numR_val8 (n : Nat) (h : n < 18446744073709551616) : numR (val8 n) = n := num8_val8 n h
theorem numB_val8 (n : Nat) : numB (val8 n) = true := decide_eq_true (val8_size n)
theorem numB_sum8 (a b : ByteArray) : numB (sum8 a b) = true := numB_val8 _
theorem numR_sum8 (a b : ByteArray) : numR (sum8 a b) = (numR a + numR b) % 18446744073709551616 := numR_val8 _ (Nat.mod_lt _ (by decide))
theorem sumK_yes {a b : ByteArray} (ha : numB a = true) (hb : numB b = true) : sumK a b = sum8 a b := by unfold sumK; rw [ha, hb]; rfl
theorem sumK_no {a b : ByteArray} (ha : numB a = false) : sumK a b = a := by unfold sumK; rw [ha]; rfl
theorem sum8_assoc (a b c : ByteArray) : sum8 (sum8 a b) c = sum8 a (sum8 b c) := by
  unfold sum8
  congr 1
  rw [numR_val8 _ (Nat.mod_lt _ (by decide)), numR_val8 _ (Nat.mod_lt _ (by decide))]
  omega
theorem sumK_assoc {a b c : ByteArray} (hb : numB b = true) (hc : numB c = true) : sumK (sumK a b) c = sumK a (sumK b c) := by
  rw [sumK_yes hb hc]
  cases ha : numB a with
  | true => rw [sumK_yes ha hb, sumK_yes (numB_sum8 _ _) hc, sumK_yes ha (numB_sum8 _ _), sum8_assoc]
  | false => rw [sumK_no (a := a) ha, sumK_no ha, sumK_no ha]
theorem numB_sumK {a b : ByteArray} (ha : numB a = true) (hb : numB b = true) : numB (sumK a b) = true := by rw [sumK_yes ha hb]; exact numB_sum8 _ _

theorem msgIs_key {K : Int} {k v : ByteArray} (h : msgIs K k v = true) : keyIs k = true := (Bool.and_eq_true _ _ ▸ h).1
theorem msgIs_put {k v : ByteArray} (hk : keyIs k = true) (hv : v.size ≤ 16) : msgIs 1 k v = true := by
  unfold msgIs; rw [hk, if_pos rfl, decide_eq_true (by omega)]; rfl
theorem msgIs_add {k v : ByteArray} (hk : keyIs k = true) (hv : numB v = true) : msgIs 3 k v = true := by
  unfold msgIs
  rw [hk, if_neg (by decide), if_neg (by decide), if_pos rfl, Bool.true_and, beq_iff_eq]
  have := of_decide_eq_true hv; omega
theorem msgIs_put_size {k v : ByteArray} (h : msgIs 1 k v = true) : v.size ≤ 16 := by
  unfold msgIs at h
  rw [if_pos rfl] at h
  have := of_decide_eq_true (Bool.and_eq_true _ _ ▸ h).2
  omega
theorem numB_size {v : ByteArray} (h : numB v = true) : v.size = 8 := of_decide_eq_true h
theorem sumK_size {a b : ByteArray} (ha : a.size ≤ 16) (hb : numB b = true) : (sumK a b).size ≤ 16 := by
  cases h : numB a with
  | true => have := numB_size (numB_sumK h hb); omega
  | false => rw [sumK_no h]; exact ha

theorem then_eq {K K' : Int} {k v v' : ByteArray} (h : msgIs K k v = true) (h' : msgIs K' k v' = true) :
    thenM K k v K' k v' = (if K' = 3 then (if K = 2 then (1, k, v') else (K, k, sumK v v')) else (K', k, v')) ∧ thenIs K k v K' k v' = true := by
  unfold thenM thenIs
  rw [h, h']
  simp
/-- what Then makes is a message of that key -/
theorem then_is {K K' : Int} {k v v' : ByteArray} (h : msgIs K k v = true) (h' : msgIs K' k v' = true) :
    (thenM K k v K' k v').2.1 = k ∧ msgIs (thenM K k v K' k v').1 k (thenM K k v K' k v').2.2 = true := by
  rw [(then_eq h h').1]
  by_cases h3 : K' = 3
  · subst h3
    have hn := msgIs_num h'
    rw [if_pos rfl]
    by_cases h2 : K = 2
    · rw [if_pos h2]
      exact ⟨rfl, msgIs_put (msgIs_key h) (by rw [numB_size hn]; decide)⟩
    · rw [if_neg h2]
      refine ⟨rfl, ?_⟩
      rcases msgIs_kind h with rfl | rfl | rfl
      · exact msgIs_put (msgIs_key h) (sumK_size (msgIs_put_size h) hn)
      · exact absurd rfl h2
      · exact msgIs_add (msgIs_key h) (numB_sumK (msgIs_num h) hn)
  · rw [if_neg h3]; exact ⟨rfl, h'⟩

theorem applyV_eq {K : Int} {k v val : ByteArray} {has : Bool} (h : msgIs K k v = true) : applyV K k v val has = if K = 2 then ⟨#[]⟩ else if K = 1 ∨ has = false then v else sumK val v := by
  unfold applyV; rw [h, if_neg (by decide)]
theorem applyB_eq {K : Int} {k v : ByteArray} {has : Bool} (h : msgIs K k v = true) : applyB K k v has = if K = 2 then false else true := by
  unfold applyB; rw [h, if_neg (by decide)]
/-- .. does what both do -/
theorem then_does {K K' : Int} {k v v' : ByteArray} (h : msgIs K k v = true) (h' : msgIs K' k v' = true) (val : ByteArray) (has : Bool) :
    applyV K' k v' (applyV K k v val has) (applyB K k v has) = applyV (thenM K k v K' k v').1 k (thenM K k v K' k v').2.2 val has ∧
    applyB K' k v' (applyB K k v has) = applyB (thenM K k v K' k v').1 k (thenM K k v K' k v').2.2 has := by
  have hi := (then_is h h').2
  rw [applyV_eq h', applyV_eq hi, applyB_eq h', applyB_eq hi, applyV_eq h, applyB_eq h, (then_eq h h').1]
  by_cases h3 : K' = 3
  · subst h3
    have hn := msgIs_num h'
    simp only [if_true, if_neg (show ¬ (3 : Int) = 2 by decide), show ((3 : Int) = 1) = False from eq_false (by decide), false_or]
    rcases msgIs_kind h with rfl | rfl | rfl
    · simp
    · simp
    · have hm := msgIs_num h
      cases has with
      | false => simp
      | true => simpa using sumK_assoc hm hn
  · rw [if_neg h3]
    rcases msgIs_kind h' with rfl | rfl | rfl
    · simp
    · simp
    · exact absurd rfl h3
/-- .. whichever two are put together first -/
theorem then_then {K K' K2 : Int} {k v v' v2 : ByteArray} (h : msgIs K k v = true) (h' : msgIs K' k v' = true) (h2 : msgIs K2 k v2 = true) :
    thenM (thenM K k v K' k v').1 k (thenM K k v K' k v').2.2 K2 k v2 = thenM K k v (thenM K' k v' K2 k v2).1 k (thenM K' k v' K2 k v2).2.2 := by
  rw [(then_eq (then_is h h').2 h2).1, (then_eq h (then_is h' h2).2).1, (then_eq h h').1, (then_eq h' h2).1]
  by_cases e2 : K2 = 3
  · subst e2
    have n2 := msgIs_num h2
    rcases msgIs_kind h' with rfl | rfl | rfl
    · simp
    · simp
    · have n' := msgIs_num h'
      rcases msgIs_kind h with rfl | rfl | rfl
      · simpa using sumK_assoc n' n2
      · simp
      · simpa using sumK_assoc n' n2
  · simp only [if_neg e2]
end Go.Proofs.Ytbhmkigomlpkcaa
