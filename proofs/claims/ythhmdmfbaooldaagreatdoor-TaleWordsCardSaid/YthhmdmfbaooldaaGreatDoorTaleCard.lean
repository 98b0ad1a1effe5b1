/-
  What a row's own first world has of the library's variables.
-/
import Derived.Test.YthhmdmfbaooldaaGreatDoorRows
import Derived.Test.YthhmdmfbaooldaaGreatDoorTaleNum
import Derived.Handed
import Derived.LaidMore
import Derived.MakeChecks
import Derived.Shelf.Vars
namespace Go.Proofs.YthhmdmfbaooldaaGreatDoor
open Go.RowKit

section
variable {H : Type} {enc : TypeId × Value → H}
theorem returnsInHanded_of_change_and_shaped {a : Assume} {C : Checked} {os : Os} {f : FuncId} {fn : Func} {s : ChangeSpec} {conds : List PathCond} {apart fresh handsOn again : Bool} {X : World → Array Value → Prop}
    (hX : ∀ (w w' : World) (args : Array Value), w.heap = w'.heap → X w args → X w' args)
    (own : ownKnob C.prog.godebug = none) (started : os.Started) (noInit : C.prog.inits.idxOf? f = none) (hfn : C.prog.funcs[f]? = some fn)
    (witness : ∃ (w : World) (tape : Tape) (i : Input), w.os = os ∧ (w.forCall tape i).Shaped C.prog ∧ i.vars = [] ∧ Input.okWide C.prog (w.forCall tape i) .any w.heap.size f i ∧
      ((s.pre enc C.prog fn conds apart (w.forCall tape i).memory i.args ∧ X (w.forCall tape i).memory i.args) ∧ sizedMet enc C.prog fn (OpenSpec.ofChange s) apart (w.forCall tape i).memory i.args) ∧ a.holds C.prog (lone (Frame.enter C.prog f i.args .normal) [] (w.forCall tape i)))
    (contract : ∀ (W : World) (base : Nat) (args : Array Value) (ds gs : List (DataW H)) (before : List MemPlace),
      (∀ (j : Nat) t v, fn.params[j]? = some t → args[j]? = some v → Value.okWide C.prog W .any base t v) →
      DataW.Whole enc C.prog fn.params.toList s.vars apart W args.toList ds gs before →
      conds.all (PathCond.test C.prog ⟨fn.params.toList, ds, s.plain.varTypes C.prog, gs⟩) = true →
      (DataW.weightsEach C.prog (fn.params.toList ++ s.plain.varTypes C.prog) (ds ++ gs)).all (· ≤ reachBytes) = true → X W args → W.ShapedOpen C.prog →
      Calls C.prog f args W fun e W' => ∃ v, e = .returned v ∧ s.post enc C.prog fn apart fresh handsOn again W args v W') :
    ReturnsInHanded a C os f .any (fun w args => (s.pre enc C.prog fn conds apart w args ∧ X w args) ∧ sizedMet enc C.prog fn (OpenSpec.ofChange s) apart w args) (s.post enc C.prog fn apart fresh handsOn again) := by
  refine returnsInHanded_of_calls own started noInit witness ?_
  intro w tape i _ hsh _ hok hpre _
  obtain ⟨_, _, _, fn', hfn', _, _, _, _, hval⟩ := hok
  have e : fn' = fn := Option.some.inj (hfn'.symm.trans hfn)
  subst e
  obtain ⟨⟨⟨ds, gs, before, hw, hc⟩, hx⟩, hz⟩ := hpre
  have hw' := DataW.Whole.of_heap (w' := w.forCall tape i) (by rfl) hw
  refine (contract (w.forCall tape i) w.heap.size i.args ds gs before hval hw' hc (hz.weights hw) (hX _ _ _ (by rfl) hx) hsh).mono fun e W' ⟨v, he, hp⟩ => ?_
  subst he
  exact ChangeSpec.post_blind hp
end
theorem iface_of_trod {H : Type} {enc : TypeId × Value → H} {P : Program} {w : World} {base : Nat} {sp : Nat → Bool} {held : Bool} {fuel : Nat} {t : TypeId} {cs : List Value} {x : DataW H × List MemPlace}
    (ht : (match P.underlying t with | some (.interface _) => true | _ => false) = true) (h : DataW.trod enc P w base sp held fuel t cs = some x) : cs = [.nilIface] ∨ ∃ u v, cs = [.iface u v] := by
  cases hu : P.underlying t with
  | none => rw [hu] at ht; cases ht
  | some d =>
    rw [hu] at ht
    cases d with
    | interface m =>
      cases fuel with
      | zero => simp [DataW.trod] at h
      | succ fuel =>
        cases cs with
        | nil => simp [DataW.trod, hu] at h
        | cons c cs =>
          cases cs with
          | nil =>
            cases c with
            | nilIface => exact .inl rfl
            | iface u v => exact .inr ⟨u, v, rfl⟩
            | _ => simp [DataW.trod, hu] at h
          | cons _ _ => cases c <;> simp [DataW.trod, hu] at h
    | _ => cases ht
theorem cell_of_var {P : Program} {w : World} {n : String} {g : Nat} {cs : Array Value} {v : Value} (hg : P.globalNamed n = some g) (h : w.var? P n = some cs) (hc : cs.toList = [v]) : w.cell? ⟨g, 0, none⟩ = some v := by
  have := World.var?_cell hg h 0
  rw [this]
  obtain ⟨l⟩ := cs
  simp only at hc
  subst hc
  rfl
set_option maxRecDepth 100000 in
/-- THE ROW's CONDITION GIVES IT -/
theorem lib28_of {W : World} (hX : laidMetH Tryz.prog Rows.taleWordsRow.laid W) (hs : W.ShapedOpen Tryz.prog) : Lib28 W := by
  rw [MakeChecks.laidMetH_plain _ _ _ (by kernel_rfl)] at hX
  obtain ⟨ps, hL, _⟩ := hX
  obtain ⟨_, _, _, _, _, _, _, _, _, _, hL, _⟩ := hL
  obtain ⟨_, _, _, _, _, _, _, _, _, _, hL, _⟩ := hL
  obtain ⟨g3, t3, c3, f3, p3, q3, hg3, ht3, hv3, hd3, hL, _⟩ := hL
  obtain ⟨_, _, _, _, _, _, _, _, _, _, hL, _⟩ := hL
  obtain ⟨g5, t5, c5, f5, p5, q5, hg5, ht5, hv5, hd5, hL, _⟩ := hL
  obtain ⟨g6, t6, c6, f6, p6, q6, hg6, ht6, hv6, hd6, hL, _⟩ := hL
  have e3 : Tryz.prog.globalNamed "internal/strconv.uint64pow10" = some 3 := by kernel_rfl
  have e5 : Tryz.prog.globalNamed "strconv.ErrRange" = some 2 := by kernel_rfl
  have e6 : Tryz.prog.globalNamed "strconv.ErrSyntax" = some 1 := by kernel_rfl
  obtain rfl := Option.some.inj (e3.symm.trans hg3)
  obtain rfl := Option.some.inj (e5.symm.trans hg5)
  obtain rfl := Option.some.inj (e6.symm.trans hg6)
  have h5 : (match Tryz.prog.underlying t5 with | some (.interface _) => true | _ => false) = true := by
    obtain rfl : 67 = t5 := Option.some.inj ((show (Tryz.prog.globals[2]?).map (·.type) = some 67 by kernel_rfl).symm.trans ht5)
    kernel_rfl
  have h6 : (match Tryz.prog.underlying t6 with | some (.interface _) => true | _ => false) = true := by
    obtain rfl : 67 = t6 := Option.some.inj ((show (Tryz.prog.globals[1]?).map (·.type) = some 67 by kernel_rfl).symm.trans ht6)
    kernel_rfl
  refine ⟨?_, ?_, ?_, ?_⟩
  · exact Go.Proofs.cell_of_shapedOpen_int (P := Tryz.prog) (t := 3) (zero := #[.int .i64 0]) hs (by decide +kernel) (by kernel_rfl) rfl (by kernel_rfl) (by kernel_rfl) Tryz.underlying3
  · obtain rfl : 133 = t3 := Option.some.inj ((show (Tryz.prog.globals[3]?).map (·.type) = some 133 by kernel_rfl).symm.trans ht3)
    have hd : DataW.trod (fun _ => ()) Tryz.prog W 0 (fun _ => true) false f3 133 c3.toList = some (Lib.tabData .u64 Lib.pow10Tab, p3) := hd3
    have := Lib.cells_of_tab Tryz.underlying133 Tryz.underlying22 (by kernel_rfl) (by kernel_rfl) hd
    unfold Lib.TabIs
    rw [hv3, ← this]
  · rcases iface_of_trod h6 hd6 with h | ⟨u, v, h⟩
    · exact ⟨_, cell_of_var e6 hv6 h, .inl rfl⟩
    · exact ⟨_, cell_of_var e6 hv6 h, .inr ⟨u, v, rfl⟩⟩
  · rcases iface_of_trod h5 hd5 with h | ⟨u, v, h⟩
    · exact ⟨_, cell_of_var e5 hv5 h, .inl rfl⟩
    · exact ⟨_, cell_of_var e5 hv5 h, .inr ⟨u, v, rfl⟩⟩
end Go.Proofs.YthhmdmfbaooldaaGreatDoor
