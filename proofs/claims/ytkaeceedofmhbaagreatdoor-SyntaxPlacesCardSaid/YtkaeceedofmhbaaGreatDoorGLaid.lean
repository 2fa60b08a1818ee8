/-
  From what a row's cell 'laid' gives to the package-level variables that the walks read; the lifting with the world's shape in hand.
-/
import Derived.Test.YtkaeceedofmhbaaGreatDoorRows
import Derived.Test.YtkaeceedofmhbaaGreatDoorGGrow
import Derived.Lib.LaidTab
import Derived.Stop.LaidErr
import Derived.LaidSub
import Derived.Lay
import Derived.ProofKit
import Derived.Handed
import Derived.Stop.Joined
namespace Go.Proofs.YtkaeceedofmhbaaGreatDoor
open Go.RowKit Bk

theorem own_knob : ownKnob Tryz.prog.godebug = none := by kernel_rfl
theorem star_row (u : TypeId) (h : Tryz.prog.typeName? 3 u = some "*errors.errorString") : u = 216 :=
  typeName_ptr_named (nm := "errors.errorString") (by rw [show "*" ++ "errors.errorString" = "*errors.errorString" by decide]; kernel_rfl) (by kernel_rfl) (by decide) u (by rw [show "*" ++ "errors.errorString" = "*errors.errorString" by decide]; exact h)

theorem glob_of {l : List (String × DataW Unit)} {w : World} (h : laidMet Tryz.prog l w)
    (e1 : l.filter (fun x => x.1 == "bulkhead/scan.classes") = [("bulkhead/scan.classes", Lib.tabData .u8 (classTab.map fun n : Nat => (n : Int)))])
    (e2 : l.filter (fun x => x.1 == "strings.asciiSpace") = [("strings.asciiSpace", Lib.tabData .u8 Lib.asciiSpaceTab)])
    (e3 : l.filter (fun x => x.1 == "strconv.ErrSyntax") = [("strconv.ErrSyntax", .iface "*errors.errorString" (.ptr (.agg [.lit (.string [105, 110, 118, 97, 108, 105, 100, 32, 115, 121, 110, 116, 97, 120])])))])
    (e4 : l.filter (fun x => x.1 == "strconv.ErrRange") = [("strconv.ErrRange", .iface "*errors.errorString" (.ptr (.agg [.lit (.string [118, 97, 108, 117, 101, 32, 111, 117, 116, 32, 111, 102, 32, 114, 97, 110, 103, 101])])))]) : Glob w := by
  have g1 : Tryz.prog.globalNamed "bulkhead/scan.classes" = some 1 := by kernel_rfl
  have g3 : Tryz.prog.globalNamed "strconv.ErrSyntax" = some 5 := by kernel_rfl
  have g4 : Tryz.prog.globalNamed "strconv.ErrRange" = some 6 := by kernel_rfl
  have h1 := h.filter (fun x => x.1 == "bulkhead/scan.classes")
  have h2 := h.filter (fun x => x.1 == "strings.asciiSpace")
  have h3 := h.filter (fun x => x.1 == "strconv.ErrSyntax")
  have h4 := h.filter (fun x => x.1 == "strconv.ErrRange")
  rw [e1] at h1
  rw [e2] at h2
  rw [e3] at h3
  rw [e4] at h4
  refine ⟨fun i hi => ?_, ?_, ?_, ?_⟩
  · have t := Lib.tabIs_of_head g1 (t := 120) (by kernel_rfl) Tryz.underlying120 Tryz.underlying5 (by kernel_rfl) (by kernel_rfl) h1
    have := t.cell g1 i (by rw [List.length_map]; exact hi)
    rw [this, List.getD_eq_getElem?_getD, List.getElem?_map, List.getD_eq_getElem?_getD]
    cases classTab[i]? <;> rfl
  · exact Lib.tabIs_of_head (g := 3) (by kernel_rfl) (t := 166) (by kernel_rfl) Tryz.underlying166 Tryz.underlying5 (by kernel_rfl) (by kernel_rfl) h2
  · obtain ⟨a, s, hv, _⟩ := laid_sentinel h3 g3 (ti := 132) (by kernel_rfl) Tryz.underlying132 star_row Tryz.underlying216 Tryz.underlying218 rfl rfl Tryz.underlying9 (by kernel_rfl) (by kernel_rfl)
    exact ⟨a, by have := World.var?_cell g3 hv 0; simpa using this⟩
  · obtain ⟨a, s, hv, _⟩ := laid_sentinel h4 g4 (ti := 132) (by kernel_rfl) Tryz.underlying132 star_row Tryz.underlying216 Tryz.underlying218 rfl rfl Tryz.underlying9 (by kernel_rfl) (by kernel_rfl)
    exact ⟨a, by have := World.var?_cell g4 hv 0; simpa using this⟩

/-- As returnsInHanded_of_change_and, with the world's shape. -/
theorem handed_open {H : Type} {enc : TypeId × Value → H} {a : Assume} {C : Checked} {os : Os} {f : FuncId} {fn : Func} {s : ChangeSpec} {conds : List PathCond} {apart fresh handsOn again : Bool} {X : World → Array Value → Prop}
    (hX : ∀ (w w' : World) (args : Array Value), w.heap = w'.heap → X w args → X w' args)
    (own : ownKnob C.prog.godebug = none) (started : os.Started) (noInit : C.prog.inits.idxOf? f = none) (hfn : C.prog.funcs[f]? = some fn)
    (witness : ∃ (w : World) (tape : Tape) (i : Input), w.os = os ∧ (w.forCall tape i).Shaped C.prog ∧ i.vars = [] ∧ Input.okWide C.prog (w.forCall tape i) .any w.heap.size f i ∧
      ((s.pre enc C.prog fn conds apart (w.forCall tape i).memory i.args ∧ X (w.forCall tape i).memory i.args) ∧ sizedMet enc C.prog fn (OpenSpec.ofChange s) apart (w.forCall tape i).memory i.args) ∧ a.holds C.prog (lone (Frame.enter C.prog f i.args .normal) [] (w.forCall tape i)))
    (contract : ∀ (W : World) (base : Nat) (args : Array Value) (ds gs : List (DataW H)) (before : List MemPlace), W.ShapedOpen C.prog →
      (∀ (j : Nat) t v, fn.params[j]? = some t → args[j]? = some v → Value.okWide C.prog W .any base t v) →
      DataW.Whole enc C.prog fn.params.toList s.vars apart W args.toList ds gs before →
      conds.all (PathCond.test C.prog ⟨fn.params.toList, ds, s.plain.varTypes C.prog, gs⟩) = true →
      (DataW.weightsEach C.prog (fn.params.toList ++ s.plain.varTypes C.prog) (ds ++ gs)).all (· ≤ reachBytes) = true → X W args →
      a.holds C.prog (lone (Frame.enter C.prog f args .normal) [] W) →
      Calls C.prog f args W fun e W' => ∃ v, e = .returned v ∧ s.post enc C.prog fn apart fresh handsOn again W args v W') :
    ReturnsInHanded a C os f .any (fun w args => (s.pre enc C.prog fn conds apart w args ∧ X w args) ∧ sizedMet enc C.prog fn (OpenSpec.ofChange s) apart w args) (s.post enc C.prog fn apart fresh handsOn again) := by
  refine returnsInHanded_of_calls own started noInit witness ?_
  intro w tape i _ hsh _ hok hpre hholds
  obtain ⟨_, _, _, fn', hfn', _, _, _, _, hval⟩ := hok
  have e : fn' = fn := Option.some.inj (hfn'.symm.trans hfn)
  subst e
  obtain ⟨⟨⟨ds, gs, before, hw, hc⟩, hx⟩, hz⟩ := hpre
  have hw' := DataW.Whole.of_heap (w' := w.forCall tape i) (by rfl) hw
  refine (contract (w.forCall tape i) w.heap.size i.args ds gs before hsh hval hw' hc (hz.weights hw) (hX _ _ _ (by rfl) hx) hholds).mono fun e W' ⟨v, he, hp⟩ => ?_
  subst he
  exact ChangeSpec.post_blind hp

theorem low_of_shape {w : World} (h : w.ShapedOpen Tryz.prog) : low ≤ w.heap.size := by
  have e : ((((begin Tryz.prog (fun _ _ => 0) default).world.heap[10]?).bind Obj.row?).map fun _ => ()) = some () := by kernel_rfl
  cases hr : ((begin Tryz.prog (fun _ _ => 0) default).world.heap[10]?).bind Obj.row? with
  | none => rw [hr] at e; cases e
  | some p =>
    obtain ⟨zero, t⟩ := p
    obtain ⟨cs, hcs, _⟩ := h.1 10 zero t (by show 10 < Tryz.prog.globals.size; exact of_decide_eq_true (by kernel_rfl)) hr
    have := lt_of_block hcs
    show 11 ≤ _; omega
end Go.Proofs.YtkaeceedofmhbaaGreatDoor
