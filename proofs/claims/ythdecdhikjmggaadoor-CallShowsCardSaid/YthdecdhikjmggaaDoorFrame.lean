/- What every row of this seat begins with: a start that fits, and what the listed variables hold, from the row's own condition. -/
import Derived.Test.YthdecdhikjmggaaDoorRows
import Derived.Test.YthdecdhikjmggaaDoorBase
import Derived.ProofKit
import Derived.LaidMore
import Derived.LaidSub
import Derived.Lay
import Derived.OpenShut
import Derived.Stop.Joined
import Derived.Stop.LaidErr
import Derived.HandedShaped
import Derived.Shelf.Vars
namespace Go.Proofs.YthdecdhikjmggaaDoor
open Go.ChangeShapes Go.WideShapes Go.ChangeAt Go.WideElems Go.RowKit Go.Stop

theorem own : ownKnob Tryd.prog.godebug = none := by kernel_rfl
theorem laidOut : laidOutB Tryd.prog = true := by kernel_rfl

/-- A row whose condition lists variables, with the world's shape at hand. -/
theorem handed_both {H : Type} {enc : TypeId × Value → H} {a : Assume} {C : Checked} {os : Os} {f : FuncId} {fn : Func} {s : ChangeSpec} {conds : List PathCond} {apart fresh handsOn again : Bool} {X : World → Array Value → Prop}
    (hX : ∀ (w w' : World) (args : Array Value), w.heap = w'.heap → X w args → X w' args)
    (own : ownKnob C.prog.godebug = none) (started : os.Started) (noInit : C.prog.inits.idxOf? f = none) (hfn : C.prog.funcs[f]? = some fn)
    (witness : ∃ (w : World) (tape : Tape) (i : Input), w.os = os ∧ (w.forCall tape i).Shaped C.prog ∧ i.vars = [] ∧ Input.okWide C.prog (w.forCall tape i) .any w.heap.size f i ∧
      ((s.pre enc C.prog fn conds apart (w.forCall tape i).memory i.args ∧ X (w.forCall tape i).memory i.args) ∧ sizedMet enc C.prog fn (OpenSpec.ofChange s) apart (w.forCall tape i).memory i.args) ∧ a.holds C.prog (lone (Frame.enter C.prog f i.args .normal) [] (w.forCall tape i)))
    (contract : ∀ (W : World) (base : Nat) (args : Array Value) (ds gs : List (DataW H)) (before : List MemPlace),
      (∀ (j : Nat) t v, fn.params[j]? = some t → args[j]? = some v → Value.okWide C.prog W .any base t v) →
      DataW.Whole enc C.prog fn.params.toList s.vars apart W args.toList ds gs before →
      (DataW.weightsEach C.prog (fn.params.toList ++ s.plain.varTypes C.prog) (ds ++ gs)).all (· ≤ reachBytes) = true → X W args →
      W.ShapedOpen C.prog →
      Calls C.prog f args W fun e W' => ∃ v, e = .returned v ∧ s.post enc C.prog fn apart fresh handsOn again W args v W') :
    ReturnsInHanded a C os f .any (fun w args => (s.pre enc C.prog fn conds apart w args ∧ X w args) ∧ sizedMet enc C.prog fn (OpenSpec.ofChange s) apart w args) (s.post enc C.prog fn apart fresh handsOn again) := by
  refine returnsInHanded_of_calls own started noInit witness ?_
  intro w tape i _ hsh _ hok hpre _
  obtain ⟨_, _, _, fn', hfn', _, _, _, _, hval⟩ := hok
  obtain rfl : fn' = fn := Option.some.inj (hfn'.symm.trans hfn)
  obtain ⟨⟨⟨ds, gs, before, hw, _⟩, hx⟩, hz⟩ := hpre
  refine (contract (w.forCall tape i) w.heap.size i.args ds gs before hval (DataW.Whole.of_heap (w' := w.forCall tape i) (by rfl) hw) (hz.weights hw) (hX _ _ _ (by rfl) hx) hsh).mono fun e W' ⟨v, he, hp⟩ => ?_
  subst he
  exact ChangeSpec.post_blind hp

/-- What each row lists. -/
noncomputable def listed : List (String × DataW Unit) := Rows.callParsesRow.laid

theorem gMax : Tryd.prog.globalNamed "internal/bytealg.MaxLen" = some 0 := by kernel_rfl
theorem gSyn : Tryd.prog.globalNamed "strconv.ErrSyntax" = some 1 := by kernel_rfl
theorem gRan : Tryd.prog.globalNamed "strconv.ErrRange" = some 2 := by kernel_rfl
theorem tSyn : (Tryd.prog.globals[1]?).map (·.type) = some 75 := by kernel_rfl
theorem tRan : (Tryd.prog.globals[2]?).map (·.type) = some 75 := by kernel_rfl
theorem nGlob : Tryd.prog.globals.size = 8 := by kernel_rfl

theorem plainList : (listed.all fun x => x.2.handleName?.isNone) = true := by kernel_rfl
theorem door_met (os : Os) (args : Array Value) : laidMetH Tryd.prog listed ((World.laidAll Tryd.prog os listed).forCall (fun _ _ => 0) ⟨#[], args, []⟩).memory := by
  rw [MakeChecks.laidMetH_plain _ _ _ plainList]
  exact laidMet_laidAll _ (by kernel_rfl) (by kernel_rfl)
theorem door_shaped (os : Os) (args : Array Value) : ((World.laidAll Tryd.prog os listed).forCall (fun _ _ => 0) ⟨#[], args, []⟩).Shaped Tryd.prog := World.shaped_of_ZipB (by kernel_rfl) (by kernel_rfl)

theorem row125 (u : TypeId) (h : Tryd.prog.typeName? 3 u = some "*errors.errorString") : u = 125 :=
  typeName_ptr_named (nm := "errors.errorString") (by rw [show "*" ++ "errors.errorString" = "*errors.errorString" by decide]; kernel_rfl) (by kernel_rfl) (by decide) u (by rw [show "*" ++ "errors.errorString" = "*errors.errorString" by decide]; exact h)

/-- What a row's condition gives the walks. -/
theorem glob_of {W : World} (hL : laidMetH Tryd.prog listed W) (hsh : W.ShapedOpen Tryd.prog) : Glob W := by
  rw [MakeChecks.laidMetH_plain _ _ _ plainList] at hL
  refine ⟨?_, ?_, ?_, ?_, ?_⟩
  · obtain ⟨cs, h, _⟩ := hsh.1 7 (Array.replicate 64 (.int .u8 0)) 139 (by rw [nGlob]; decide) (by kernel_rfl)
    exact (Array.getElem?_eq_some_iff.1 h).1
  · exact cell_of_shapedOpen_int (zero := #[.int .i64 0]) hsh (by rw [nGlob]; decide) (by kernel_rfl) (by kernel_rfl) (by kernel_rfl) (by kernel_rfl) Tryd.underlying3
  · have h := hL.filter (fun x => x.1 == "internal/strconv.uint64pow10")
    exact Lib.tabIs_of_head gTab (by kernel_rfl) Tryd.underlying129 (by kernel_rfl) (by kernel_rfl) (by kernel_rfl) h
  · have h := hL.filter (fun x => x.1 == "strconv.ErrSyntax")
    obtain ⟨a, s, hv, _⟩ := laid_sentinel h gSyn tSyn Tryd.underlying75 row125 Tryd.underlying125 Tryd.underlying127 rfl rfl Tryd.underlying9 (by kernel_rfl) (by kernel_rfl)
    exact ⟨_, _, by simpa using World.var?_cell gSyn hv 0⟩
  · have h := hL.filter (fun x => x.1 == "strconv.ErrRange")
    obtain ⟨a, s, hv, _⟩ := laid_sentinel h gRan tRan Tryd.underlying75 row125 Tryd.underlying125 Tryd.underlying127 rfl rfl Tryd.underlying9 (by kernel_rfl) (by kernel_rfl)
    exact ⟨_, _, by simpa using World.var?_cell gRan hv 0⟩
end Go.Proofs.YthdecdhikjmggaaDoor
