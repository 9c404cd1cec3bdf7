/- From a walk to a given statement: if a law's call returns true and changes no block that was there, for all arguments that can be read, its row holds. Any number of parameters of any readable types; no condition. -/
import Derived.Test.YtncnepmgmphanaaDoorRows
import Derived.Test.YtncnepmgmphanaaDoorKit
import Derived.OpenShut
import Derived.SizedLaws
import Derived.Deep.Slices
import Derived.Deep.Fields
import Derived.ChangeSame
namespace Go.Proofs.YtncnepmgmphanaaDoor
open Go.ChangeShapes Go.WideShapes Go.ChangeAt Go.RowKit
set_option linter.unusedVariables false

theorem own : ownKnob Tryd.prog.godebug = none := by kernel_rfl
theorem laidOut : laidOutB Tryd.prog = true := by kernel_rfl

section
variable {H : Type} {enc : TypeId × Value → H}

theorem trodAll_below {P : Program} (hl : laidOutB P = true) {W W' : World} (hb : Below W.heap.size W W') : ∀ {ts : List TypeId} {vs : List Value} {ds : List (DataW H)} {ps : List MemPlace},
    DataW.TrodAll enc P W 0 (fun _ => true) true ts vs ds ps → (∀ t ∈ ts, P.readableRec t = true ∧ t < P.types.size) → (∀ x ∈ ps, x.block < W.heap.size) →
    DataW.TrodAll enc P W' 0 (fun b => decide (b < W.heap.size)) true ts vs ds ps := by
  intro ts
  induction ts with
  | nil =>
    intro vs ds ps h _ _
    cases vs <;> cases ds <;> simp [DataW.TrodAll] at h ⊢
    exact h
  | cons t ts ih =>
    intro vs ds ps h hr hlt
    obtain ⟨v, vs', d, ds', p, q, rfl, rfl, rfl, h1, h2⟩ := trodAll_cons h
    exact trodAll_cons_mk (Below.trod hl (hr t (by simp)).1 (hr t (by simp)).2 h1 hb (fun x hx => hlt x (by simp [hx])))
      (ih h2 (fun t ht => hr t (by simp [ht])) (fun x hx => hlt x (by simp [hx])))

/-- What a law's walk owes: for whatever arguments can be read. -/
def LawWalk (F : FuncId) (f : Func) : Prop :=
  ∀ (H : Type) (enc : TypeId × Value → H) (W : World) (base : Nat) (args : Array Value) (ds : List (DataW H)) (ps : List MemPlace),
    (∀ (j : Nat) t v, f.params[j]? = some t → args[j]? = some v → Value.okWide Tryd.prog W .any base t v) →
    DataW.TrodAll enc Tryd.prog W 0 (fun _ => true) true f.params.toList args.toList ds ps →
    (∀ x ∈ ps, x.block < W.heap.size) →
    (DataW.weightsEach Tryd.prog f.params.toList ds).all (· ≤ reachBytes) = true →
    Calls Tryd.prog F args W fun e W' => e = .returned (.bool true) ∧ Only [] W W'

theorem trodAll_length {P : Program} {W : World} {base : Nat} {spare : Nat → Bool} {held : Bool} : ∀ {ts : List TypeId} {vs : List Value} {ds : List (DataW H)} {ps : List MemPlace},
    DataW.TrodAll enc P W base spare held ts vs ds ps → ds.length = ts.length := by
  intro ts
  induction ts with
  | nil => intro vs ds ps h; cases vs <;> cases ds <;> simp [DataW.TrodAll] at h ⊢
  | cons t ts ih =>
    intro vs ds ps h
    obtain ⟨v, vs', d, ds', p, q, rfl, rfl, rfl, h1, h2⟩ := trodAll_cons h
    simp [ih h2]

/-- A slice of integers among the arguments. -/
theorem open_islice {P : Program} {W : World} {base b0 : Nat} {t e : TypeId} {k : IntKind} {v : Value} {d : DataW H} {ps : List MemPlace} (ht : P.underlying t = some (.slice e)) (he : P.underlying e = some (.int k)) (hc : P.cellsOf e = 1)
    (hok : Value.okWide P W .any b0 t v) (h : DataW.Trod enc P W base (fun _ => true) true t v d ps) :
    ∃ (ao : Option Addr) (cap : Nat) (zs : List Int), v = .slice ao zs.length cap ∧ CellsAt W ao (zs.map (.int k)) ∧ (∀ z ∈ zs, (Lit.int k z).wf = true) ∧ zs.length ≤ cap ∧ cap ≤ maxLen := by
  obtain ⟨a0, len, cap, rfl⟩ := okWide_slice ht hok
  obtain ⟨fuel, hf⟩ := h
  rcases open_ints ht he hc hf with ⟨hcs, _⟩ | ⟨a, len', cap', zs, hcs, _, hl, hm, hz, _, hcell, hwz⟩
  · simp [Value.cells] at hcs
    obtain ⟨rfl, rfl, rfl⟩ := hcs
    exact ⟨none, 0, [], rfl, CellsAt.nil _ _, by simp, by simp, by simp⟩
  · simp [Value.cells] at hcs
    obtain ⟨rfl, rfl, rfl⟩ := hcs
    simp only [if_true] at hz
    have e1 : (zs.take len).length = len := by simp; omega
    refine ⟨some a, cap, zs.take len, by rw [e1], ?_, fun z hzm => hwz z (List.mem_of_mem_take hzm), by omega, hm⟩
    intro hp
    rw [List.length_map, e1] at hp
    obtain ⟨b, off, rfl, hcl⟩ := ints_at hcell (by omega)
    refine ⟨b, off, rfl, fun j hj => ?_⟩
    rw [List.length_map, e1] at hj
    rw [hcl j (by omega)]
    simp [List.getD, List.getElem?_eq_getElem (show j < zs.length by omega)]

/-- The same, with what a nil slice is. -/
theorem open_islice2 {P : Program} {W : World} {base b0 : Nat} {t e : TypeId} {k : IntKind} {v : Value} {d : DataW H} {ps : List MemPlace} (ht : P.underlying t = some (.slice e)) (he : P.underlying e = some (.int k)) (hc : P.cellsOf e = 1)
    (hok : Value.okWide P W .any b0 t v) (h : DataW.Trod enc P W base (fun _ => true) true t v d ps) :
    ∃ (ao : Option Addr) (cap : Nat) (zs : List Int), v = .slice ao zs.length cap ∧ CellsAt W ao (zs.map (.int k)) ∧ (∀ z ∈ zs, (Lit.int k z).wf = true) ∧ zs.length ≤ cap ∧ cap ≤ maxLen ∧ (ao = none → zs = [] ∧ cap = 0) := by
  obtain ⟨ao, cap, zs, rfl, h1, h2, h3, h4⟩ := open_islice ht he hc hok h
  refine ⟨ao, cap, zs, rfl, h1, h2, h3, h4, ?_⟩
  rintro rfl
  obtain ⟨fuel, hf⟩ := h
  rcases open_ints ht he hc hf with ⟨hcs, _⟩ | ⟨a, len', cap', zs', hcs, _⟩
  · simp [Value.cells] at hcs
    exact ⟨hcs.1, hcs.2⟩
  · simp [Value.cells] at hcs

/-- Are the fields of a struct integers of these kinds? -/
def intFieldsB (P : Program) (fs : Array Field) (ks : List IntKind) : Bool :=
  fs.size == ks.length && (List.range ks.length).all fun j => match fs[j]?, ks[j]? with
    | some f, some k => (match P.underlying f.type with | some (.int k') => k' == k | _ => false)
    | _, _ => false

theorem intFields_at {P : Program} {fs : Array Field} {ks : List IntKind} (h : intFieldsB P fs ks = true) : fs.size = ks.length ∧ ∀ (j : Nat) (k : IntKind), ks[j]? = some k → ∃ f : Field, fs[j]? = some f ∧ P.underlying f.type = some (.int k) := by
  simp only [intFieldsB, Bool.and_eq_true, beq_iff_eq, List.all_eq_true, List.mem_range] at h
  refine ⟨h.1, fun j k hj => ?_⟩
  have hlt : j < ks.length := (List.getElem?_eq_some_iff.1 hj).1
  have h2 := h.2 j hlt
  rw [hj] at h2
  cases hf : fs[j]? with
  | none => rw [hf] at h2; simp at h2
  | some f =>
    rw [hf] at h2
    refine ⟨f, rfl, ?_⟩
    revert h2
    dsimp only
    split
    · rename_i k' hu
      intro h2
      have : k' = k := by simpa using h2
      rw [hu, this]
    · intro h2; simp at h2

def intCell : Option Value → Int
  | some (.int _ n) => n
  | _ => 0

/-- A slice of structs of integers among the arguments. -/
theorem open_sslice {P : Program} {W : World} {base b0 : Nat} {t e : TypeId} {fs : Array Field} {ks : List IntKind} {v : Value} {d : DataW H} {ps : List MemPlace} (ht : P.underlying t = some (.slice e)) (he : P.underlying e = some (.struct fs))
    (hone : Go.Deep.oneCellFields P fs = true) (hC : P.cellsOf e = fs.size) (hks : intFieldsB P fs ks = true) (hk0 : 0 < ks.length)
    (hok : Value.okWide P W .any b0 t v) (h : DataW.Trod enc P W base (fun _ => true) true t v d ps) :
    ∃ (ao : Option Addr) (cap : Nat) (rows : List (List Int)), v = .slice ao rows.length cap ∧ RowsAt W ao ks rows ∧ (∀ r ∈ rows, r.length = ks.length ∧ ∀ (j : Nat) (k : IntKind), ks[j]? = some k → (Lit.int k (r.getD j 0)).wf = true) ∧ rows.length ≤ cap ∧ cap ≤ maxLen := by
  obtain ⟨a0, len, cap, rfl⟩ := okWide_slice ht hok
  obtain ⟨fuel, hf⟩ := h
  obtain ⟨hsz, hat⟩ := intFields_at hks
  rcases Go.Deep.open_slice ht hf with ⟨hcs, _⟩ | ⟨a, len', cap', m, n, D, Pl, hcs, hb, hl, hm, hmm, hx, hi⟩
  · simp [Value.cells] at hcs
    obtain ⟨rfl, rfl, rfl⟩ := hcs
    exact ⟨none, 0, [], rfl, fun hp => by simp at hp, by simp, by simp, by simp⟩
  · simp [Value.cells] at hcs
    obtain ⟨rfl, rfl, rfl⟩ := hcs
    simp only [if_true] at hmm
    subst hmm
    have cell : ∀ i, i < len → ∀ j k, ks[j]? = some k → ∃ z, W.cell? (a.add (i * ks.length + j)) = some (.int k z) ∧ (Lit.int k z).wf = true := by
      intro i hil j k hj
      obtain ⟨cs', hc, ht'⟩ := hi i (by omega)
      rw [hC, hsz] at hc
      obtain ⟨ys, n', hn', hy, hlen, hyl, hfs⟩ := DataW.trod_struct he ht'
      obtain ⟨_, hcl, hcat⟩ := World.cells?_some hc
      have hjl : j < ks.length := (List.getElem?_eq_some_iff.1 hj).1
      obtain ⟨f, hfj, hfu⟩ := hat j k hj
      obtain ⟨ho, hk⟩ := Go.Deep.hone_of hone j f hfj
      have hcell := hcat j hjl
      have h1 := hfs j f hfj
      rw [ho, hk] at h1
      have hone' : (cs'.drop j).take 1 = [cs'[j]'(by omega)] := by
        rw [List.drop_eq_getElem_cons (by omega)]
        rfl
      rw [hone'] at h1
      have hys : ys[j]? = some (ys[j]'(by omega)) := List.getElem?_eq_getElem (by omega)
      obtain ⟨z, hz, _, hw⟩ := DataW.trod_int hfu (h1.trans hys)
      simp only [List.cons.injEq, and_true] at hz
      refine ⟨z, ?_, hw⟩
      rw [← Go.Deep.add_add, hcell, List.getElem?_eq_getElem (by omega), hz]
    refine ⟨some a, m, (List.range len).map fun i => (List.range ks.length).map fun j => intCell (W.cell? (a.add (i * ks.length + j))), by simp, ?_, ?_, by simp; omega, hm⟩
    · intro hp
      simp only [List.length_map, List.length_range] at hp
      have k0 : ks[0]? = some ks[0] := List.getElem?_eq_getElem hk0
      obtain ⟨z, hz, _⟩ := cell 0 hp 0 _ k0
      obtain ⟨b, off, spot⟩ := a
      have hspot : spot = none := by simpa [Addr.add] using World.cell?_spot hz
      subst hspot
      refine ⟨b, off, rfl, fun i hil j k hj => ?_⟩
      simp only [List.length_map, List.length_range] at hil
      have hjl : j < ks.length := (List.getElem?_eq_some_iff.1 hj).1
      obtain ⟨z, hz, _⟩ := cell i hil j k hj
      rw [Nat.add_assoc, ← add_plain, hz]
      simp [List.getD, hil, hjl, hz, intCell]
    · intro r hr
      simp only [List.mem_map, List.mem_range] at hr
      obtain ⟨i, hil, rfl⟩ := hr
      refine ⟨by simp, fun j k hj => ?_⟩
      have hjl : j < ks.length := (List.getElem?_eq_some_iff.1 hj).1
      obtain ⟨z, hz, hw⟩ := cell i hil j k hj
      simpa [List.getD, hjl, hz, intCell] using hw

/-- The same, with what a nil slice is. -/
theorem open_sslice2 {P : Program} {W : World} {base b0 : Nat} {t e : TypeId} {fs : Array Field} {ks : List IntKind} {v : Value} {d : DataW H} {ps : List MemPlace} (ht : P.underlying t = some (.slice e)) (he : P.underlying e = some (.struct fs))
    (hone : Go.Deep.oneCellFields P fs = true) (hC : P.cellsOf e = fs.size) (hks : intFieldsB P fs ks = true) (hk0 : 0 < ks.length)
    (hok : Value.okWide P W .any b0 t v) (h : DataW.Trod enc P W base (fun _ => true) true t v d ps) :
    ∃ (ao : Option Addr) (cap : Nat) (rows : List (List Int)), v = .slice ao rows.length cap ∧ RowsAt W ao ks rows ∧ (∀ r ∈ rows, r.length = ks.length ∧ ∀ (j : Nat) (k : IntKind), ks[j]? = some k → (Lit.int k (r.getD j 0)).wf = true) ∧ rows.length ≤ cap ∧ cap ≤ maxLen ∧ (ao = none → rows = [] ∧ cap = 0) := by
  obtain ⟨ao, cap, rows, rfl, h1, h2, h3, h4⟩ := open_sslice ht he hone hC hks hk0 hok h
  refine ⟨ao, cap, rows, rfl, h1, h2, h3, h4, ?_⟩
  rintro rfl
  obtain ⟨fuel, hf⟩ := h
  rcases Go.Deep.open_slice ht hf with ⟨hcs, _⟩ | ⟨a, len', cap', m, n, D, Pl, hcs, _⟩
  · simp [Value.cells] at hcs
    exact ⟨hcs.1, hcs.2⟩
  · simp [Value.cells] at hcs

theorem readable_all {P : Program} {ts : List TypeId} (h : ts.all (fun t => P.readableRec t && decide (t < P.types.size)) = true) : ∀ t ∈ ts, P.readableRec t = true ∧ t < P.types.size := by
  intro t ht
  have := List.all_eq_true.1 h t ht
  simpa using this

set_option maxRecDepth 100000 in
theorem law_lifted {F : FuncId} {f : Func} {s : ChangeSpec} {os : Os} (started : os.Started) (noInit : Tryd.prog.inits.idxOf? F = none) (hf : Tryd.prog.funcs[F]? = some f) (hv : s.vars = [])
    (witness : ∃ (w : World) (tape : Tape) (i : Input), w.os = os ∧ (w.forCall tape i).Shaped Tryd.prog ∧ i.vars = [] ∧ Input.okWide Tryd.prog (w.forCall tape i) .any w.heap.size F i ∧
      s.pre6 enc Tryd.prog f [] false (w.forCall tape i).memory i.args ∧ ({} : Assume).holds Tryd.prog (lone (Frame.enter Tryd.prog F i.args .normal) [] (w.forCall tape i)))
    (hres : f.resultTypes = #[4]) (hread : ∀ t ∈ f.params.toList, Tryd.prog.readableRec t = true ∧ t < Tryd.prog.types.size)
    (hspec : ∀ ds : List (DataW H), ds.length = f.params.toList.length → (s.fn H ds).results = [.lit (.bool true)] ∧ (s.fn H ds).args = ds ∧ (s.fn H ds).vars = [])
    (walk : LawWalk F f) :
    ReturnsInHanded {} Tryd.checked os F .any (s.pre6 enc Tryd.prog f [] false) (s.post enc Tryd.prog f false true false false) := by
  refine returnsInHanded_of_change_sized (C := Tryd.checked) own started noInit hf witness ?_
  intro W base args ds gs before hval0 hW _ hsz0 _
  have hW' := hW
  obtain ⟨p, q, hA, hV, rfl, _, _⟩ := hW
  have hvt : s.plain.varTypes Tryd.checked.prog = [] := by simp [ChangeSpec.plain, DataSpec.varTypes, hv]
  rw [hvt, List.append_nil] at hsz0
  rw [hv] at hV
  obtain ⟨rfl, rfl⟩ := trodVars_none hV
  simp only [List.append_nil] at hW' hsz0
  have hlt : ∀ x ∈ p, x.block < W.heap.size := fun x hx => by simpa using hW'.lt x hx
  refine (walk H enc W base args ds p hval0 hA hlt hsz0).mono fun e W' ⟨he, ho⟩ => ?_
  subst he
  have hb := ho.below (by simp)
  obtain ⟨h1, h2, h3⟩ := hspec ds (trodAll_length hA)
  refine ⟨_, rfl, ds, [], p, [], p, [], hW', ?_, ?_, ?_, hb.frame _, fun h => by cases h⟩
  · rw [List.append_nil, h1, hres]
    exact trodAll_cons_mk (shut_bool Tryd.underlying4 _) trodAll_mk0
  · rw [List.append_nil, h2]
    exact trodAll_below laidOut hb hA hread hlt
  · rw [List.append_nil, h3, hv]
    exact rfl
end
end Go.Proofs.YtncnepmgmphanaaDoor
