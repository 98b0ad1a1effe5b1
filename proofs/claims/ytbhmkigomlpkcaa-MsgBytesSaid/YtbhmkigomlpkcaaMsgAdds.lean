/-
  MsgAdds, walked.
-/
import Derived.Test.YtbhmkigomlpkcaaMsgLaws
namespace Go.Proofs.Ytbhmkigomlpkcaa
open Go.RowKit Go.Sort

/-- a message in a block of its own -/
def MsgAt (w : World) (g : Nat) (K : Int) (k v : ByteArray) : Prop := w.heap[g]? = some (.cells #[.int .i64 K, .string k, .string v] 23 (0, 0))
theorem MsgAt.lt {w : World} {g : Nat} {K : Int} {k v : ByteArray} (h : MsgAt w g K k v) : g < w.heap.size := (Array.getElem?_eq_some_iff.1 h).1
theorem MsgAt.keeps {w w' : World} {g : Nat} {K : Int} {k v : ByteArray} {F : List Nat} (h : MsgAt w g K k v) (hk : Keeps F w w') (hf : g ∉ F) : MsgAt w' g K k v := (hk.block g h.lt hf).trans h
theorem MsgAt.below {w w' : World} {g : Nat} {K : Int} {k v : ByteArray} (h : MsgAt w g K k v) (hb : Below w.heap.size w w') : MsgAt w' g K k v := h.keeps (Keeps.of (F := []) hb) (by simp)
theorem MsgAt.at0 {w : World} {g : Nat} {K : Int} {k v : ByteArray} (h : MsgAt w g K k v) : w.cell? ⟨g, 0, none⟩ = some (.int .i64 K) := by rw [cell_of_row w g 0 _ _ _ h]; rfl
theorem MsgAt.at1 {w : World} {g : Nat} {K : Int} {k v : ByteArray} (h : MsgAt w g K k v) : w.cell? ⟨g, 1, none⟩ = some (.string k) := by rw [cell_of_row w g 1 _ _ _ h]; rfl
theorem MsgAt.at2 {w : World} {g : Nat} {K : Int} {k v : ByteArray} (h : MsgAt w g K k v) : w.cell? ⟨g, 2, none⟩ = some (.string v) := by rw [cell_of_row w g 2 _ _ _ h]; rfl
theorem MsgAt.new (w : World) (K : Int) (k v : ByteArray) : MsgAt (w.alloc (.cells #[.int .i64 K, .string k, .string v] 23)) w.heap.size K k v := heap_alloc_new w _

section
variable {P : Program} {ops : Array Oper} {rest : List Oper} {o : Oper} {a : Act} {w : World} {Q : Exit → Act → World → Prop}
theorem wpList_store_row_keeps (hgd : o.guard = none) (ty : TypeId) (x y : Operand) (ho : o.op = .store ty x y)
    (g : Nat) (cells : Array Value) (hx : a.eval x = .pointer (some ⟨g, 0, none⟩)) (hy : a.eval y = .agg cells)
    (t : TypeId) (old : Array Value) (hg : w.heap[g]? = some (.cells old t (0, 0))) (hi : (P.info? ty).map (·.size) = some cells.size)
    (hold : old.size = cells.size) (h1 : cells.all (·.oneCell') = true)
    (h : ∀ w', w'.heap[g]? = some (.cells cells t (0, 0)) → Keeps [g] w w' → wpList P ops Q rest (a.put o.dst undef) w') : wpList P ops Q (o :: rest) a w := by
  refine wpList_store_row hgd ty x y ho g cells hx hy t old hg hi hold h1 (h _ (setRow_heap w g old cells t _ hg) ?_)
  exact ⟨rfl, rfl, rfl, by simp, fun k hk hf => setRow_other w g k _ (by simpa using hf)⟩
end

theorem run_field_val (K : Int) (k v : ByteArray) (w : World) : (Instr.field 23 (.agg #[.int .i64 K, .string k, .string v]) 2).run Try.prog w = .ok (.string v) w := by
  have hu := Try.underlying23
  simp [Instr.field, part, asAgg, run_underlying hu]

theorem sum8_vals (a b : Nat) (ha : a < 18446744073709551616) (hb : b < 18446744073709551616) : sum8 (val8 a) (val8 b) = val8 ((a + b) % 18446744073709551616) := by
  unfold sum8; rw [numR_val8 a ha, numR_val8 b hb]
theorem adds_is (n : Nat) : msgIs 3 ⟨#[107]⟩ (val8 n) = true := msgIs_add (by decide) (numB_val8 n)
theorem adds_then (a b : Nat) (ha : a < 18446744073709551616) (hb : b < 18446744073709551616) : thenM 3 ⟨#[107]⟩ (val8 a) 3 ⟨#[107]⟩ (val8 b) = (3, ⟨#[107]⟩, val8 ((a + b) % 18446744073709551616)) ∧ thenIs 3 ⟨#[107]⟩ (val8 a) 3 ⟨#[107]⟩ (val8 b) = true := by
  refine ⟨?_, (then_eq (adds_is a) (adds_is b)).2⟩
  rw [(then_eq (adds_is a) (adds_is b)).1, if_pos rfl, if_neg (by decide), sumK_yes (numB_val8 a) (numB_val8 b), sum8_vals a b ha hb]
theorem adds_apply (a b : Nat) (ha : a < 18446744073709551616) (hb : b < 18446744073709551616) : applyV 3 ⟨#[107]⟩ (val8 b) (val8 a) true = val8 ((a + b) % 18446744073709551616) ∧ ∀ has, applyB 3 ⟨#[107]⟩ (val8 b) has = true := by
  refine ⟨?_, fun has => ?_⟩
  · rw [applyV_eq (adds_is b), if_neg (by decide), if_neg (by decide), sumK_yes (numB_val8 a) (numB_val8 b), sum8_vals a b ha hb]
  · rw [applyB_eq (adds_is b), if_neg (by decide)]
theorem adds_first (b : Nat) (val : ByteArray) : applyV 3 ⟨#[107]⟩ (val8 b) val false = val8 b := by
  rw [applyV_eq (adds_is b), if_neg (by decide), if_pos (Or.inr rfl)]

set_option maxHeartbeats 16000000 in
set_option maxRecDepth 100000 in
theorem msgAdds_walk (w : World) (first : Nat) (hfirst : first < 18446744073709551616) (A : Option Addr) (cap : Nat) (ns : List Int) (hr : Row w A (ns.map (Value.int .u64))) (hn : ∀ n ∈ ns, (Lit.int .u64 n).wf = true) (hm : ns.length ≤ 9223372036854775807) (has : Bool) :
    Calls Try.prog 6 #[.int .u64 (first : Int), .slice A ns.length cap, .bool has] w fun e w' => e = .returned (.bool true) ∧ Below w.heap.size w w' := by
  have hfield := run_field_val
  have hrow := hid hr; have hns := hid hn; clear hr hn
  have v0 := hid (show val8 0 = val8 0 from rfl)
  obtain ⟨z, hz⟩ : ∃ z, z = val8 0 := ⟨_, rfl⟩
  have HZ := hid hz; clear hz v0
  by_cases h50 : (50 : Int) < ns.length
  · go_enter Try.func6, Try.ntmps6
    go_wp2_with fail
    refine (awake08_any _).mono ?_; rintro e w1 ⟨rfl, hb⟩
    go_wp2_with fail
    go_ret
    exact ⟨rfl, hb⟩
  -- the value at the beginning, and what is added to it
  obtain ⟨val, hval⟩ : ∃ val, val = if has then val8 first else ⟨#[]⟩ := ⟨_, rfl⟩
  obtain ⟨F, hF⟩ : ∃ F : Nat, F = if has then first else 0 := ⟨_, rfl⟩
  have hFl : F < 18446744073709551616 := by rw [hF]; split; exact hfirst; decide
  have hap : ∀ S, S < 18446744073709551616 → applyV 3 ⟨#[107]⟩ (val8 S) val has = val8 ((F + S) % 18446744073709551616) ∧ applyB 3 ⟨#[107]⟩ (val8 S) has = true := by
    intro S hS
    cases has with
    | true =>
      simp only [if_true] at hval hF
      rw [hval, hF]
      exact ⟨(adds_apply first S hfirst hS).1, (adds_apply first S hfirst hS).2 true⟩
    | false =>
      simp only [if_false, Bool.false_eq_true] at hval hF
      rw [hF, adds_first, Nat.zero_add, Nat.mod_eq_of_lt hS]
      exact ⟨rfl, (adds_apply S S hS hS).2 false⟩
  have HAP := hid hap; have HFL := hid hFl
  clear hap hFl hF
  have hfi := hid hfirst
  cases has
  all_goals
    simp only [if_true, if_false, Bool.false_eq_true] at hval
    have HV := hid hval; clear hval
    go_enter Try.func6, Try.ntmps6
    go_wp2_with fail
    refine (awake08_any _).mono ?_; rintro e w1 ⟨rfl, hb⟩
    go_wp2_with fail
    first
    | (with_reducible refine (msg_OfAdd_any ⟨#[107]⟩ first hfi.out _).mono ?_; rintro e w2 ⟨rfl, hb_⟩; rw [← HV.out]; replace hb := bt hb hb_; clear hb_; go_wp2_with fail)
    | (rw [← HV.out])
    refine (msg_OfAdd_any ⟨#[107]⟩ 0 (by decide) _).mono ?_; rintro e w3 ⟨rfl, hb_⟩; rw [← HZ.out]
    replace hb := bt hb hb_; clear hb_
    have hb0_ := hid hb.size
    have hA := below_alloc w3 (.cells #[.int .i64 3, .string ⟨#[107]⟩, .string z] 23)
    have Fga := MsgAt.new w3 3 ⟨#[107]⟩ z
    replace hb := bt hb hA; clear hA
    obtain ⟨ga, hga⟩ : ∃ m, m = w3.heap.size := ⟨_, rfl⟩
    have Zga := hid (show w3.heap.size ≤ ga by omega)
    rw [← hga] at Fga
    have Hga := hid hga; clear hga
    have cga_0 : (w3.alloc (.cells #[.int .i64 3, .string ⟨#[107]⟩, .string z] 23)).cell? ⟨ga, 0, none⟩ = some (.int .i64 3) := Fga.at0
    have cga_1 : (w3.alloc (.cells #[.int .i64 3, .string ⟨#[107]⟩, .string z] 23)).cell? ⟨ga, 1, none⟩ = some (.string ⟨#[107]⟩) := Fga.at1
    have cga_2 : (w3.alloc (.cells #[.int .i64 3, .string ⟨#[107]⟩, .string z] 23)).cell? ⟨ga, 2, none⟩ = some (.string z) := Fga.at2
    have HFga := hid Fga; clear Fga
    have NgaB := hid hb
    go_wp2_with fail
    clear cga_0 cga_1 cga_2
    rw [← Hga.out]
    clear Hga
    have Fga := HFga.out; clear HFga
    generalize (w3.alloc (.cells #[.int .i64 3, .string ⟨#[107]⟩, .string z] 23)) = w4 at *
    have Nga := hid (show w.heap.size ≤ ga by have h1 := Zga.out; have h2 := hb0_.out; exact Nat.le_trans h2 h1)
    refine (msg_OfAdd_any ⟨#[107]⟩ 0 (by decide) _).mono ?_; rintro e w5 ⟨rfl, hb_⟩; rw [← HZ.out]
    have hgl_ := hid (show ga < w5.heap.size from Nat.lt_of_lt_of_le Fga.lt hb_.size)
    replace Fga := Fga.below hb_
    replace hb := bt hb hb_; clear hb_
    have hA := below_alloc w5 (.cells #[.int .i64 3, .string ⟨#[107]⟩, .string z] 23)
    have Fgb := MsgAt.new w5 3 ⟨#[107]⟩ z
    replace Fga := Fga.below hA
    replace hb := bt hb hA; clear hA
    obtain ⟨gb, hgb⟩ : ∃ m, m = w5.heap.size := ⟨_, rfl⟩
    have Zgb := hid (show w5.heap.size ≤ gb by omega)
    rw [← hgb] at Fgb
    have Hgb := hid hgb; clear hgb
    have cga_0 : (w5.alloc (.cells #[.int .i64 3, .string ⟨#[107]⟩, .string z] 23)).cell? ⟨ga, 0, none⟩ = some (.int .i64 3) := Fga.at0
    have cga_1 : (w5.alloc (.cells #[.int .i64 3, .string ⟨#[107]⟩, .string z] 23)).cell? ⟨ga, 1, none⟩ = some (.string ⟨#[107]⟩) := Fga.at1
    have cga_2 : (w5.alloc (.cells #[.int .i64 3, .string ⟨#[107]⟩, .string z] 23)).cell? ⟨ga, 2, none⟩ = some (.string z) := Fga.at2
    have cgb_0 : (w5.alloc (.cells #[.int .i64 3, .string ⟨#[107]⟩, .string z] 23)).cell? ⟨gb, 0, none⟩ = some (.int .i64 3) := Fgb.at0
    have cgb_1 : (w5.alloc (.cells #[.int .i64 3, .string ⟨#[107]⟩, .string z] 23)).cell? ⟨gb, 1, none⟩ = some (.string ⟨#[107]⟩) := Fgb.at1
    have cgb_2 : (w5.alloc (.cells #[.int .i64 3, .string ⟨#[107]⟩, .string z] 23)).cell? ⟨gb, 2, none⟩ = some (.string z) := Fgb.at2
    have HFga := hid Fga; clear Fga
    have HFgb := hid Fgb; clear Fgb
    have Nab := hid (show ga ≠ gb by have h1 := Zgb.out; have h2 := hgl_.out; omega)
    have Ngb := hid (show w.heap.size ≤ gb by have h1 := Zgb.out; have h2 := hgl_.out; have h3 := Nga.out; omega)
    go_wp2_with fail
    clear cga_0 cga_1 cga_2 cgb_0 cgb_1 cgb_2
    rw [← Hgb.out]
    clear Hgb
    have Fga := HFga.out; clear HFga
    have Fgb := HFgb.out; clear HFgb
    generalize (w5.alloc (.cells #[.int .i64 3, .string ⟨#[107]⟩, .string z] 23)) = w6 at *
    refine (msg_Apply_any 3 ⟨#[107]⟩ z val _ _).mono ?_; rintro e w7 ⟨rfl, hb_⟩; rw [HZ.out, (HAP.out 0 (by decide)).1, (HAP.out 0 (by decide)).2]
    replace Fga := Fga.below hb_
    replace Fgb := Fgb.below hb_
    replace hb := bt hb hb_; clear hb_
    have HFga := hid Fga; clear Fga
    have HFgb := hid Fgb; clear Fgb
    have HB7 := hid hb; clear hb
    clear Zga Zgb hgl_ NgaB hb0_
    go_wp2_with fail
    go_loopg [10, 11, 12] ns.length (fun g v10 v11 v12 wx => ∃ (i : Nat) (vv sv : ByteArray), i + g = ns.length ∧ v10 = .string vv ∧ v11 = .bool true ∧ v12 = .int .i64 i ∧
      Hid (∃ S, S < 18446744073709551616 ∧ sv = val8 S ∧ vv = val8 ((F + S) % 18446744073709551616) ∧ MsgAt wx ga 3 ⟨#[107]⟩ sv ∧ MsgAt wx gb 3 ⟨#[107]⟩ sv ∧ Below w.heap.size w wx))
    case atStart => exact ⟨0, _, z, by omega, rfl, rfl, rfl, 0, by decide, HZ.out, rfl, HFga.out, HFgb.out, HB7.out⟩
    case round =>
      clear HFga HFgb HB7
      obtain ⟨i, vv, sv, hik, rfl, rfl, rfl, HI⟩ := hrel
      obtain ⟨S, hS, hsv, hvv, Fga, Fgb, hb⟩ := HI.out
      clear HI
      by_cases hlt : i < ns.length
      · obtain ⟨b, off, rfl, hbl, hc⟩ := row_cell hrow.out (by intro e; have := congrArg List.length e; simp at this; subst this; exact absurd hlt (by simp))
        have hcell := hc i (.int .u64 ns[i]) (by simp [hlt])
        rw [← hb.cell (p := ⟨b, off + i, none⟩) hbl] at hcell
        obtain ⟨h0, h1⟩ := wf_u64 (hns.out ns[i] (List.getElem_mem _))
        obtain ⟨m, hm2⟩ : ∃ m : Nat, ns[i] = (m : Int) := ⟨ns[i].toNat, by omega⟩
        have hml : m < 18446744073709551616 := by omega
        rw [hm2] at hcell
        have HML := hid hml; have HS := hid hS; have HSV := hid hsv; have HVV := hid hvv
        clear hc hbl h0 h1 hm2 hml hS hsv hvv
        have HFga := hid Fga; have HFgb := hid Fgb; clear Fga Fgb
        go_wp2_with fail
        clear hcell
        refine (msg_OfAdd_any ⟨#[107]⟩ m HML.out _).mono ?_; rintro e w1x ⟨rfl, hb_⟩
        obtain ⟨q, hq⟩ : ∃ q, q = val8 m := ⟨_, rfl⟩
        rw [← hq]
        have HQ := hid hq; clear hq
        have Fga := HFga.out; clear HFga
        have Fgb := HFgb.out; clear HFgb
        replace Fga := Fga.below hb_
        replace Fgb := Fgb.below hb_
        replace hb := bt hb hb_; clear hb_
        have hA := below_alloc w1x (.cells #[.int .i64 3, .string ⟨#[107]⟩, .string q] 23)
        have Fgm := MsgAt.new w1x 3 ⟨#[107]⟩ q
        replace Fga := Fga.below hA
        replace Fgb := Fgb.below hA
        replace hb := bt hb hA; clear hA
        obtain ⟨gm, hgm⟩ : ∃ m, m = w1x.heap.size := ⟨_, rfl⟩
        have Zgm := hid (show w1x.heap.size ≤ gm by omega)
        rw [← hgm] at Fgm
        have Hgm := hid hgm; clear hgm
        have cga_0 : (w1x.alloc (.cells #[.int .i64 3, .string ⟨#[107]⟩, .string q] 23)).cell? ⟨ga, 0, none⟩ = some (.int .i64 3) := Fga.at0
        have cga_1 : (w1x.alloc (.cells #[.int .i64 3, .string ⟨#[107]⟩, .string q] 23)).cell? ⟨ga, 1, none⟩ = some (.string ⟨#[107]⟩) := Fga.at1
        have cga_2 : (w1x.alloc (.cells #[.int .i64 3, .string ⟨#[107]⟩, .string q] 23)).cell? ⟨ga, 2, none⟩ = some (.string sv) := Fga.at2
        have cgb_0 : (w1x.alloc (.cells #[.int .i64 3, .string ⟨#[107]⟩, .string q] 23)).cell? ⟨gb, 0, none⟩ = some (.int .i64 3) := Fgb.at0
        have cgb_1 : (w1x.alloc (.cells #[.int .i64 3, .string ⟨#[107]⟩, .string q] 23)).cell? ⟨gb, 1, none⟩ = some (.string ⟨#[107]⟩) := Fgb.at1
        have cgb_2 : (w1x.alloc (.cells #[.int .i64 3, .string ⟨#[107]⟩, .string q] 23)).cell? ⟨gb, 2, none⟩ = some (.string sv) := Fgb.at2
        have cgm_0 : (w1x.alloc (.cells #[.int .i64 3, .string ⟨#[107]⟩, .string q] 23)).cell? ⟨gm, 0, none⟩ = some (.int .i64 3) := Fgm.at0
        have cgm_1 : (w1x.alloc (.cells #[.int .i64 3, .string ⟨#[107]⟩, .string q] 23)).cell? ⟨gm, 1, none⟩ = some (.string ⟨#[107]⟩) := Fgm.at1
        have cgm_2 : (w1x.alloc (.cells #[.int .i64 3, .string ⟨#[107]⟩, .string q] 23)).cell? ⟨gm, 2, none⟩ = some (.string q) := Fgm.at2
        have HFga := hid Fga; clear Fga
        have HFgb := hid Fgb; clear Fgb
        have HFgm := hid Fgm; clear Fgm
        go_wp2_with fail
        clear cga_0 cga_1 cga_2 cgb_0 cgb_1 cgb_2 cgm_0 cgm_1 cgm_2
        rw [← Hgm.out]
        clear Hgm
        have Fga := HFga.out; clear HFga
        have Fgb := HFgb.out; clear HFgb
        have Fgm := HFgm.out; clear HFgm
        generalize (w1x.alloc (.cells #[.int .i64 3, .string ⟨#[107]⟩, .string q] 23)) = w2x at *
        obtain ⟨V, hV⟩ : ∃ V, V = (F + S) % 18446744073709551616 := ⟨_, rfl⟩
        have hVl : V < 18446744073709551616 := by rw [hV]; exact Nat.mod_lt _ (by decide)
        obtain ⟨vn, hvn⟩ : ∃ v, v = val8 ((V + m) % 18446744073709551616) := ⟨_, rfl⟩
        have hva : applyV 3 ⟨#[107]⟩ q vv true = vn := by rw [HQ.out, HVV.out, ← hV, hvn]; exact (adds_apply V m hVl HML.out).1
        have hvb : applyB 3 ⟨#[107]⟩ q true = true := by rw [HQ.out]; exact (adds_apply V m hVl HML.out).2 true
        obtain ⟨sn, hsn⟩ : ∃ s, s = val8 ((S + m) % 18446744073709551616) := ⟨_, rfl⟩
        have ht1 : thenM 3 ⟨#[107]⟩ sv 3 ⟨#[107]⟩ q = (3, ⟨#[107]⟩, sn) := by rw [HQ.out, HSV.out, hsn]; exact (adds_then S m HS.out HML.out).1
        have ht2 : thenIs 3 ⟨#[107]⟩ sv 3 ⟨#[107]⟩ q = true := by rw [HQ.out, HSV.out]; exact (adds_then S m HS.out HML.out).2
        have ht3 : thenM 3 ⟨#[107]⟩ q 3 ⟨#[107]⟩ sv = (3, ⟨#[107]⟩, sn) := by rw [HQ.out, HSV.out, hsn, Nat.add_comm S m]; exact (adds_then m S HML.out HS.out).1
        have ht4 : thenIs 3 ⟨#[107]⟩ q 3 ⟨#[107]⟩ sv = true := by rw [HQ.out, HSV.out]; exact (adds_then m S HML.out HS.out).2
        have hvn2 : vn = val8 ((F + (S + m) % 18446744073709551616) % 18446744073709551616) := by rw [hvn, hV]; congr 1; omega
        have K1 := hid hva; have K2 := hid hvb; have K3 := hid ht1; have K4 := hid ht2; have K5 := hid ht3; have K6 := hid ht4; have K7 := hid hvn2; have K8 := hid hsn
        clear hva hvb ht1 ht2 ht3 ht4 hvn2 hvn hsn hV hVl
        refine (msg_Apply_any 3 ⟨#[107]⟩ q vv true _).mono ?_; rintro e w3x ⟨rfl, hb_⟩; rw [K1.out, K2.out]
        replace Fga := Fga.below hb_
        replace Fgb := Fgb.below hb_
        replace Fgm := Fgm.below hb_
        replace hb := bt hb hb_; clear hb_
        have cga_0 : w3x.cell? ⟨ga, 0, none⟩ = some (.int .i64 3) := Fga.at0
        have cga_1 : w3x.cell? ⟨ga, 1, none⟩ = some (.string ⟨#[107]⟩) := Fga.at1
        have cga_2 : w3x.cell? ⟨ga, 2, none⟩ = some (.string sv) := Fga.at2
        have cgb_0 : w3x.cell? ⟨gb, 0, none⟩ = some (.int .i64 3) := Fgb.at0
        have cgb_1 : w3x.cell? ⟨gb, 1, none⟩ = some (.string ⟨#[107]⟩) := Fgb.at1
        have cgb_2 : w3x.cell? ⟨gb, 2, none⟩ = some (.string sv) := Fgb.at2
        have cgm_0 : w3x.cell? ⟨gm, 0, none⟩ = some (.int .i64 3) := Fgm.at0
        have cgm_1 : w3x.cell? ⟨gm, 1, none⟩ = some (.string ⟨#[107]⟩) := Fgm.at1
        have cgm_2 : w3x.cell? ⟨gm, 2, none⟩ = some (.string q) := Fgm.at2
        have HFga := hid Fga; clear Fga
        have HFgb := hid Fgb; clear Fgb
        have HFgm := hid Fgm; clear Fgm
        go_wp2_with fail
        clear cga_0 cga_1 cga_2 cgb_0 cgb_1 cgb_2 cgm_0 cgm_1 cgm_2
        have Fga := HFga.out; clear HFga
        have Fgb := HFgb.out; clear HFgb
        have Fgm := HFgm.out; clear HFgm
        refine (msg_Then_any 3 ⟨#[107]⟩ sv 3 ⟨#[107]⟩ q _).mono ?_; rintro e w4x ⟨rfl, hb_⟩; rw [K3.out, K4.out]
        replace Fga := Fga.below hb_
        replace Fgb := Fgb.below hb_
        replace Fgm := Fgm.below hb_
        replace hb := bt hb hb_; clear hb_
        have hA := below_alloc w4x (.cells #[.int .i64 3, .string ⟨#[107]⟩, .string sn] 23)
        have Fgx := MsgAt.new w4x 3 ⟨#[107]⟩ sn
        replace Fga := Fga.below hA
        replace Fgb := Fgb.below hA
        replace Fgm := Fgm.below hA
        replace hb := bt hb hA; clear hA
        obtain ⟨gx, hgx⟩ : ∃ m, m = w4x.heap.size := ⟨_, rfl⟩
        have Zgx := hid (show w4x.heap.size ≤ gx by omega)
        rw [← hgx] at Fgx
        have Hgx := hid hgx; clear hgx
        have cga_0 : (w4x.alloc (.cells #[.int .i64 3, .string ⟨#[107]⟩, .string sn] 23)).cell? ⟨ga, 0, none⟩ = some (.int .i64 3) := Fga.at0
        have cga_1 : (w4x.alloc (.cells #[.int .i64 3, .string ⟨#[107]⟩, .string sn] 23)).cell? ⟨ga, 1, none⟩ = some (.string ⟨#[107]⟩) := Fga.at1
        have cga_2 : (w4x.alloc (.cells #[.int .i64 3, .string ⟨#[107]⟩, .string sn] 23)).cell? ⟨ga, 2, none⟩ = some (.string sv) := Fga.at2
        have cgb_0 : (w4x.alloc (.cells #[.int .i64 3, .string ⟨#[107]⟩, .string sn] 23)).cell? ⟨gb, 0, none⟩ = some (.int .i64 3) := Fgb.at0
        have cgb_1 : (w4x.alloc (.cells #[.int .i64 3, .string ⟨#[107]⟩, .string sn] 23)).cell? ⟨gb, 1, none⟩ = some (.string ⟨#[107]⟩) := Fgb.at1
        have cgb_2 : (w4x.alloc (.cells #[.int .i64 3, .string ⟨#[107]⟩, .string sn] 23)).cell? ⟨gb, 2, none⟩ = some (.string sv) := Fgb.at2
        have cgm_0 : (w4x.alloc (.cells #[.int .i64 3, .string ⟨#[107]⟩, .string sn] 23)).cell? ⟨gm, 0, none⟩ = some (.int .i64 3) := Fgm.at0
        have cgm_1 : (w4x.alloc (.cells #[.int .i64 3, .string ⟨#[107]⟩, .string sn] 23)).cell? ⟨gm, 1, none⟩ = some (.string ⟨#[107]⟩) := Fgm.at1
        have cgm_2 : (w4x.alloc (.cells #[.int .i64 3, .string ⟨#[107]⟩, .string sn] 23)).cell? ⟨gm, 2, none⟩ = some (.string q) := Fgm.at2
        have cgx_0 : (w4x.alloc (.cells #[.int .i64 3, .string ⟨#[107]⟩, .string sn] 23)).cell? ⟨gx, 0, none⟩ = some (.int .i64 3) := Fgx.at0
        have cgx_1 : (w4x.alloc (.cells #[.int .i64 3, .string ⟨#[107]⟩, .string sn] 23)).cell? ⟨gx, 1, none⟩ = some (.string ⟨#[107]⟩) := Fgx.at1
        have cgx_2 : (w4x.alloc (.cells #[.int .i64 3, .string ⟨#[107]⟩, .string sn] 23)).cell? ⟨gx, 2, none⟩ = some (.string sn) := Fgx.at2
        have HFga := hid Fga; clear Fga
        have HFgb := hid Fgb; clear Fgb
        have HFgm := hid Fgm; clear Fgm
        have HFgx := hid Fgx; clear Fgx
        go_wp2_with fail
        clear cga_0 cga_1 cga_2 cgb_0 cgb_1 cgb_2 cgm_0 cgm_1 cgm_2 cgx_0 cgx_1 cgx_2
        rw [← Hgx.out]
        clear Hgx
        have Fga := HFga.out; clear HFga
        have Fgb := HFgb.out; clear HFgb
        have Fgm := HFgm.out; clear HFgm
        have Fgx := HFgx.out; clear HFgx
        generalize (w4x.alloc (.cells #[.int .i64 3, .string ⟨#[107]⟩, .string sn] 23)) = w5x at *
        refine (msg_Then_any 3 ⟨#[107]⟩ q 3 ⟨#[107]⟩ sv _).mono ?_; rintro e w6x ⟨rfl, hb_⟩; rw [K5.out, K6.out]
        replace Fga := Fga.below hb_
        replace Fgb := Fgb.below hb_
        replace Fgm := Fgm.below hb_
        replace Fgx := Fgx.below hb_
        replace hb := bt hb hb_; clear hb_
        have Lga_ := hid (show ga < w6x.heap.size from Fga.lt)
        have hA := below_alloc w6x (.cells #[.int .i64 3, .string ⟨#[107]⟩, .string sn] 23)
        have Fgy := MsgAt.new w6x 3 ⟨#[107]⟩ sn
        replace Fga := Fga.below hA
        replace Fgb := Fgb.below hA
        replace Fgx := Fgx.below hA
        replace hb := bt hb hA; clear hA
        obtain ⟨gy, hgy⟩ : ∃ m, m = w6x.heap.size := ⟨_, rfl⟩
        have Zgy := hid (show w6x.heap.size ≤ gy by omega)
        rw [← hgy] at Fgy
        have Hgy := hid hgy; clear hgy
        have cga_0 : (w6x.alloc (.cells #[.int .i64 3, .string ⟨#[107]⟩, .string sn] 23)).cell? ⟨ga, 0, none⟩ = some (.int .i64 3) := Fga.at0
        have cga_1 : (w6x.alloc (.cells #[.int .i64 3, .string ⟨#[107]⟩, .string sn] 23)).cell? ⟨ga, 1, none⟩ = some (.string ⟨#[107]⟩) := Fga.at1
        have cga_2 : (w6x.alloc (.cells #[.int .i64 3, .string ⟨#[107]⟩, .string sn] 23)).cell? ⟨ga, 2, none⟩ = some (.string sv) := Fga.at2
        have cgb_0 : (w6x.alloc (.cells #[.int .i64 3, .string ⟨#[107]⟩, .string sn] 23)).cell? ⟨gb, 0, none⟩ = some (.int .i64 3) := Fgb.at0
        have cgb_1 : (w6x.alloc (.cells #[.int .i64 3, .string ⟨#[107]⟩, .string sn] 23)).cell? ⟨gb, 1, none⟩ = some (.string ⟨#[107]⟩) := Fgb.at1
        have cgb_2 : (w6x.alloc (.cells #[.int .i64 3, .string ⟨#[107]⟩, .string sn] 23)).cell? ⟨gb, 2, none⟩ = some (.string sv) := Fgb.at2
        have cgx_0 : (w6x.alloc (.cells #[.int .i64 3, .string ⟨#[107]⟩, .string sn] 23)).cell? ⟨gx, 0, none⟩ = some (.int .i64 3) := Fgx.at0
        have cgx_1 : (w6x.alloc (.cells #[.int .i64 3, .string ⟨#[107]⟩, .string sn] 23)).cell? ⟨gx, 1, none⟩ = some (.string ⟨#[107]⟩) := Fgx.at1
        have cgx_2 : (w6x.alloc (.cells #[.int .i64 3, .string ⟨#[107]⟩, .string sn] 23)).cell? ⟨gx, 2, none⟩ = some (.string sn) := Fgx.at2
        have cgy_0 : (w6x.alloc (.cells #[.int .i64 3, .string ⟨#[107]⟩, .string sn] 23)).cell? ⟨gy, 0, none⟩ = some (.int .i64 3) := Fgy.at0
        have cgy_1 : (w6x.alloc (.cells #[.int .i64 3, .string ⟨#[107]⟩, .string sn] 23)).cell? ⟨gy, 1, none⟩ = some (.string ⟨#[107]⟩) := Fgy.at1
        have cgy_2 : (w6x.alloc (.cells #[.int .i64 3, .string ⟨#[107]⟩, .string sn] 23)).cell? ⟨gy, 2, none⟩ = some (.string sn) := Fgy.at2
        have HFga := hid Fga; clear Fga
        have HFgb := hid Fgb; clear Fgb
        have HFgx := hid Fgx; clear Fgx
        have HFgy := hid Fgy; clear Fgy
        go_wp2_with (with_reducible refine at_op (.store 23 (.tmp 8) (.tmp 74)) rfl ?_; refine Stopped.go ?_)
        clear cga_0 cga_1 cga_2 cgb_0 cgb_1 cgb_2 cgx_0 cgx_1 cgx_2 cgy_0 cgy_1 cgy_2
        rw [← Hgy.out]
        clear Hgy
        have Fga := HFga.out; clear HFga
        have Fgb := HFgb.out; clear HFgb
        have Fgx := HFgx.out; clear HFgx
        have Fgy := HFgy.out; clear HFgy
        generalize (w6x.alloc (.cells #[.int .i64 3, .string ⟨#[107]⟩, .string sn] 23)) = w7x at *
        have hya : gy ≠ ga := by have h1 := Zgy.out; have h2 := Lga_.out; omega
        refine Stopped.mk (wpList_store_row_keeps rfl _ _ _ rfl ga #[.int .i64 3, .string ⟨#[107]⟩, .string sn] rfl rfl _ _ Fga (by kernel_rfl) rfl (by simp [Value.oneCell']) ?_)
        intro w8x Fga2 hk8
        replace Fgb := Fgb.keeps hk8 (by simp; exact (Ne.symm Nab.out))
        replace Fgy := Fgy.keeps hk8 (by simp; exact hya)
        replace hb := Keeps.below1 hb hk8 Nga.out
        have HFga := hid (show MsgAt w8x ga 3 ⟨#[107]⟩ sn from Fga2); clear Fga Fga2 hk8 Fgx
        have cgy_0 : w8x.cell? ⟨gy, 0, none⟩ = some (.int .i64 3) := Fgy.at0
        have cgy_1 : w8x.cell? ⟨gy, 1, none⟩ = some (.string ⟨#[107]⟩) := Fgy.at1
        have cgy_2 : w8x.cell? ⟨gy, 2, none⟩ = some (.string sn) := Fgy.at2
        have HFgb := hid Fgb; clear Fgb
        have HFgy := hid Fgy; clear Fgy
        go_wp2_with (with_reducible refine at_op (.store 23 (.tmp 9) (.tmp 75)) rfl ?_; refine Stopped.go ?_)
        clear cgy_0 cgy_1 cgy_2
        refine Stopped.mk (wpList_store_row_keeps rfl _ _ _ rfl gb #[.int .i64 3, .string ⟨#[107]⟩, .string sn] rfl rfl _ _ HFgb.out (by kernel_rfl) rfl (by simp [Value.oneCell']) ?_)
        intro w9x Fgb2 hk9
        have Fga := HFga.out.keeps hk9 (by simp; exact Nab.out)
        replace hb := Keeps.below1 hb hk9 Ngb.out
        have HEND := hid (show MsgAt w9x ga 3 ⟨#[107]⟩ sn ∧ MsgAt w9x gb 3 ⟨#[107]⟩ sn ∧ Below w.heap.size w w9x from ⟨Fga, Fgb2, hb⟩)
        clear Fga Fgb2 hk9 hb HFga HFgb HFgy
        go_wp2_with fail
        go_roundg (ns.length - (i + 1))
        case measure => omega
        case rel => exact ⟨i + 1, vn, sn, by omega, rfl, rfl, by go_num, _, Nat.mod_lt _ (by decide), K8.out, K7.out, HEND.out.1, HEND.out.2.1, HEND.out.2.2⟩
      · have hsz : (vv.size : Int) = 8 := by rw [hvv]; have := val8_size ((F + S) % 18446744073709551616); omega
        have ha := HAP.out S hS
        rw [← hsv, ← hvv] at ha
        have K1 := hid ha.1; have K2 := hid ha.2
        clear hsv hvv hS ha
        have cga_0 : wr.cell? ⟨ga, 0, none⟩ = some (.int .i64 3) := Fga.at0
        have cga_1 : wr.cell? ⟨ga, 1, none⟩ = some (.string ⟨#[107]⟩) := Fga.at1
        have cga_2 : wr.cell? ⟨ga, 2, none⟩ = some (.string sv) := Fga.at2
        have cgb_0 : wr.cell? ⟨gb, 0, none⟩ = some (.int .i64 3) := Fgb.at0
        have cgb_1 : wr.cell? ⟨gb, 1, none⟩ = some (.string ⟨#[107]⟩) := Fgb.at1
        have cgb_2 : wr.cell? ⟨gb, 2, none⟩ = some (.string sv) := Fgb.at2
        go_wp2_with fail
        refine (msg_Apply_any 3 ⟨#[107]⟩ sv val _ _).mono ?_; rintro e w1x ⟨rfl, hb_⟩; rw [K1.out, K2.out]
        clear cga_0 cga_1 cga_2 cgb_0 cgb_1 cgb_2
        replace Fga := Fga.below hb_
        replace Fgb := Fgb.below hb_
        replace hb := bt hb hb_; clear hb_
        have cga_0 : w1x.cell? ⟨ga, 0, none⟩ = some (.int .i64 3) := Fga.at0
        have cga_1 : w1x.cell? ⟨ga, 1, none⟩ = some (.string ⟨#[107]⟩) := Fga.at1
        have cga_2 : w1x.cell? ⟨ga, 2, none⟩ = some (.string sv) := Fga.at2
        have cgb_0 : w1x.cell? ⟨gb, 0, none⟩ = some (.int .i64 3) := Fgb.at0
        have cgb_1 : w1x.cell? ⟨gb, 1, none⟩ = some (.string ⟨#[107]⟩) := Fgb.at1
        have cgb_2 : w1x.cell? ⟨gb, 2, none⟩ = some (.string sv) := Fgb.at2
        clear Fga Fgb
        go_wp2_with fail
        go_ret
        exact ⟨rfl, hb⟩

/-- in the row's words -/
theorem msgAdds_law (first : Int) (A : Option Addr) (cap : Nat) (ns : List Int) (has : Bool) (w : World) (hf : (Lit.int .u64 first).wf = true) (hr : Row w A (ns.map (Value.int .u64))) (hn : ∀ n ∈ ns, (Lit.int .u64 n).wf = true) (hu : ns.length ≤ cap) (hm : cap ≤ maxLen) :
    Calls Try.prog 6 #[.int .u64 first, .slice A ns.length cap, .bool has] w fun e w' => e = .returned (.bool true) ∧ Below w.heap.size w w' := by
  obtain ⟨h0, h1⟩ := wf_u64 hf
  obtain ⟨m, rfl⟩ : ∃ m : Nat, first = (m : Int) := ⟨first.toNat, by omega⟩
  exact msgAdds_walk w m (by omega) A cap ns hr hn (by simp only [maxLen] at hm; omega) has
end Go.Proofs.Ytbhmkigomlpkcaa
