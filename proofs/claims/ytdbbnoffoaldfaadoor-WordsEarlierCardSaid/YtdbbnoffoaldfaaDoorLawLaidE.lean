/- From a walk to a given statement whose row lists the table math/bits.deBruijn64tab, and on to the tied card. No condition beside the table. -/
import Derived.Test.YtdbbnoffoaldfaaDoorLaw
import Derived.Test.YtdbbnoffoaldfaaDoorWordsRestE
import Derived.Test.YtdbbnoffoaldfaaDoorTie
import Derived.Test.YtdbbnoffoaldfaaDoorCards
import Derived.SevenTiedAt
import Derived.LaidMore
import Derived.Lib.LaidTab
import Derived.Stop.Joined
namespace Go.Proofs.YtdbbnoffoaldfaaDoor
open Go.ChangeShapes Go.WideShapes Go.ChangeAt Go.RowKit
set_option linter.unusedVariables false

def laid1 : List (String × DataW Unit) := [("math/bits.deBruijn64tab", Rows.laid_math_bits_deBruijn64tab)]

theorem tab_of_laid {W : World} (h : laidMetH Tryd.prog laid1 W) : TabAt W := by
  have h' : laidMet Tryd.prog (("math/bits.deBruijn64tab", Lib.tabData .u8 (Lib.deBruijn64tab.map Int.ofNat)) :: []) W := h
  have ht := Lib.tabIs_of_head (g := 0) (t := 33) (e := 5) (n := 64) (by kernel_rfl) (by kernel_rfl) Tryd.underlying33 Tryd.underlying5 (by kernel_rfl) (by kernel_rfl) h'
  intro j hj
  have := ht.cell (g := 0) (by kernel_rfl) j (by simpa using hj)
  rw [this]
  simp [List.getD, List.getElem?_eq_getElem hj]

/-- The door's own heap meets the condition. -/
theorem door_met (os : Os) (args : Array Value) : laidMetH Tryd.prog laid1 ((World.doorLaid Tryd.prog 600 os).forCall (fun _ _ => 0) ⟨#[], args, []⟩).memory :=
  laidMetH_of_parts3 (fuel := 8) (laidMet_of_run' 8 (by kernel_rfl) (by kernel_rfl)) (by kernel_rfl) (by kernel_rfl)

theorem standIns_none {P : Program} {ts : Array TypeId} (h : ts.toList.all (fun t => !P.wantsStandIn t) = true) : ∀ (j : Nat) (t : TypeId), ts[j]? = some t → P.wantsStandIn t = false := by
  intro j t ht
  have := List.all_eq_true.1 h t (by rw [← Array.getElem?_toList] at ht; exact List.mem_of_getElem? ht)
  simpa using this

section
variable {H : Type} {enc : TypeId × Value → H}

/-- What a law's walk owes: for whatever arguments can be read, where the table lies in its variable. -/
def LawWalkT (F : FuncId) (f : Func) : Prop :=
  ∀ (H : Type) (enc : TypeId × Value → H) (W : World) (base : Nat) (args : Array Value) (ds : List (DataW H)) (ps : List MemPlace),
    (∀ (j : Nat) t v, f.params[j]? = some t → args[j]? = some v → Value.okWide Tryd.prog W .any base t v) →
    DataW.TrodAll enc Tryd.prog W 0 (fun _ => true) true f.params.toList args.toList ds ps →
    TabAt W →
    Calls Tryd.prog F args W fun e W' => e = .returned (.bool true) ∧ Only [] W W'

theorem law_lifted_laid {F : FuncId} {f : Func} {s : ChangeSpec} {os : Os} (started : os.Started) (noInit : Tryd.prog.inits.idxOf? F = none) (hf : Tryd.prog.funcs[F]? = some f) (hv : s.vars = [])
    (witness : ∃ (w : World) (tape : Tape) (i : Input), w.os = os ∧ (w.forCall tape i).Shaped Tryd.prog ∧ i.vars = [] ∧ Input.okWide Tryd.prog (w.forCall tape i) .any w.heap.size F i ∧
      ((s.pre enc Tryd.prog f [] false (w.forCall tape i).memory i.args ∧ laidMetH Tryd.prog laid1 (w.forCall tape i).memory) ∧ sizedMet enc Tryd.prog f (OpenSpec.ofChange s) false (w.forCall tape i).memory i.args) ∧ ({} : Assume).holds Tryd.prog (lone (Frame.enter Tryd.prog F i.args .normal) [] (w.forCall tape i)))
    (hres : f.resultTypes = #[4]) (hread : ∀ t ∈ f.params.toList, Tryd.prog.readableRec t = true ∧ t < Tryd.prog.types.size)
    (hspec : ∀ ds : List (DataW H), ds.length = f.params.toList.length → (s.fn H ds).results = [.lit (.bool true)] ∧ (s.fn H ds).args = ds ∧ (s.fn H ds).vars = [])
    (walk : LawWalkT F f) :
    ReturnsInHanded {} Tryd.checked os F .any (fun w args => (s.pre enc Tryd.prog f [] false w args ∧ laidMetH Tryd.prog laid1 w) ∧ sizedMet enc Tryd.prog f (OpenSpec.ofChange s) false w args) (s.post enc Tryd.prog f false true false false) := by
  refine returnsInHanded_of_change_and (C := Tryd.checked) (X := fun w _ => laidMetH Tryd.prog laid1 w) (fun _ _ _ hh h => h.of_heap hh) own started noInit hf witness ?_
  intro W base args ds gs before hval0 hW _ _ hL _
  have hW' := hW
  obtain ⟨p, q, hA, hV, rfl, _, _⟩ := hW
  rw [hv] at hV
  obtain ⟨rfl, rfl⟩ := trodVars_none hV
  simp only [List.append_nil] at hW'
  have hlt : ∀ x ∈ p, x.block < W.heap.size := fun x hx => by simpa using hW'.lt x hx
  refine (walk H enc W base args ds p hval0 hA (tab_of_laid hL)).mono fun e W' ⟨he, ho⟩ => ?_
  subst he
  have hb := ho.below (by simp)
  obtain ⟨h1, h2, h3⟩ := hspec ds (trodAll_length hA)
  refine ⟨_, rfl, ds, [], p, [], p, [], hW', ?_, ?_, ?_, hb.frame _, fun h => by cases h⟩
  · rw [List.append_nil, h1, hres]
    exact trodAll_cons_mk (shut_bool Tryd.underlying4 _) trodAll_mk0
  · rw [List.append_nil, h2]
    exact trodAll_below laidOut hb hA hread hlt
  · rw [List.append_nil, h3, hv]
    exact rfl
end
end Go.Proofs.YtdbbnoffoaldfaaDoor
