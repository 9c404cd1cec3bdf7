/- A plan among the arguments: a slice of slices of acts. -/
import Derived.Test.YtfhkhknnoepfeaaGreatLaw
import Derived.Test.YtfhkhknnoepfeaaGreatHistPlay3
namespace Go.Proofs.YtfhkhknnoepfeaaGreat
open Go.ChangeShapes Go.WideShapes Go.ChangeAt Go.RowKit Go.Lib
set_option linter.unusedVariables false

section
variable {H : Type} {enc : TypeId × Value → H}

/-- A slice of structs of integers, read as data. -/
theorem open_rows_trod {P : Program} {W : World} {base : Nat} {t e : TypeId} {fs : Array Field} {ks : List IntKind} {fuel : Nat} {cs : List Value} {x : DataW H × List MemPlace} (ht : P.underlying t = some (.slice e)) (he : P.underlying e = some (.struct fs))
    (hone : Go.Deep.oneCellFields P fs = true) (hC : P.cellsOf e = fs.size) (hks : intFieldsB P fs ks = true) (hk0 : 0 < ks.length) (hf : DataW.trod enc P W base (fun _ => true) true fuel t cs = some x) :
    ∃ (ao : Option Addr) (cap : Nat) (rows : List (List Int)), cs = [.slice ao rows.length cap] ∧ RowsAt W ao ks rows ∧ (∀ r ∈ rows, r.length = ks.length ∧ ∀ (j : Nat) (k : IntKind), ks[j]? = some k → (Lit.int k (r.getD j 0)).wf = true) ∧ rows.length ≤ cap ∧ (ao = none → cap = 0) := by
  obtain ⟨hsz, hat⟩ := intFields_at hks
  rcases Go.Deep.open_slice ht hf with ⟨hcs, _⟩ | ⟨a, len, cap, m, n, D, Pl, hcs, hb, hl, hm, hmm, hx, hi⟩
  · exact ⟨none, 0, [], hcs, fun hp => by simp at hp, by simp, by simp, fun _ => rfl⟩
  · simp only [if_true] at hmm
    subst hmm
    have cell : ∀ i, i < len → ∀ j k, ks[j]? = some k → ∃ z, W.cell? (a.add (i * ks.length + j)) = some (.int k z) ∧ (Lit.int k z).wf = true := by
      intro i hil j k hj
      obtain ⟨cs', hc, ht'⟩ := hi i (by omega)
      rw [hC, hsz] at hc
      obtain ⟨ys, n', hn', hy, hlen, hyl, hfs⟩ := DataW.trod_struct he ht'
      obtain ⟨_, hcl, hcat⟩ := World.cells?_some hc
      have hjl : j < ks.length := (List.getElem?_eq_some_iff.1 hj).1
      obtain ⟨f, hfj, hfu⟩ := hat j k hj
      obtain ⟨ho, hk⟩ := Go.Deep.hone_of hone j f hfj
      have hcell := hcat j hjl
      have h1 := hfs j f hfj
      rw [ho, hk] at h1
      have hone' : (cs'.drop j).take 1 = [cs'[j]'(by omega)] := by
        rw [List.drop_eq_getElem_cons (by omega)]
        rfl
      rw [hone'] at h1
      have hys : ys[j]? = some (ys[j]'(by omega)) := List.getElem?_eq_getElem (by omega)
      obtain ⟨z, hz, _, hw⟩ := DataW.trod_int hfu (h1.trans hys)
      simp only [List.cons.injEq, and_true] at hz
      refine ⟨z, ?_, hw⟩
      rw [← Go.Deep.add_add, hcell, List.getElem?_eq_getElem (by omega), hz]
    refine ⟨some a, m, (List.range len).map fun i => (List.range ks.length).map fun j => intCell (W.cell? (a.add (i * ks.length + j))), by simpa using hcs, ?_, ?_, by simp; omega, (fun e => by cases e)⟩
    · intro hp
      simp only [List.length_map, List.length_range] at hp
      have k0 : ks[0]? = some ks[0] := List.getElem?_eq_getElem hk0
      obtain ⟨z, hz, _⟩ := cell 0 hp 0 _ k0
      obtain ⟨b, off, spot⟩ := a
      have hspot : spot = none := by simpa [Addr.add] using World.cell?_spot hz
      subst hspot
      refine ⟨b, off, rfl, fun i hil j k hj => ?_⟩
      simp only [List.length_map, List.length_range] at hil
      have hjl : j < ks.length := (List.getElem?_eq_some_iff.1 hj).1
      obtain ⟨z, hz, _⟩ := cell i hil j k hj
      rw [Nat.add_assoc, ← add_plain, hz]
      simp [List.getD, hil, hjl, hz, intCell]
    · intro r hr
      simp only [List.mem_map, List.mem_range] at hr
      obtain ⟨i, hil, rfl⟩ := hr
      refine ⟨by simp, fun j k hj => ?_⟩
      have hjl : j < ks.length := (List.getElem?_eq_some_iff.1 hj).1
      obtain ⟨z, hz, hw⟩ := cell i hil j k hj
      simpa [List.getD, hjl, hz, intCell] using hw

def actsOf (rows : List (List Int)) : List (Int × Int) := rows.map fun r => (r.getD 0 0, r.getD 1 0)
theorem actsOf_at {w : World} {ao : Option Addr} {cap : Nat} {rows : List (List Int)} (h : RowsAt w ao [.i64, .i64] rows) (hc : rows.length ≤ cap) (hn : ao = none → cap = 0) : ActsAt w (.slice ao rows.length cap) (actsOf rows) := by
  refine ⟨ao, cap, by simp [actsOf], fun hp => ?_, hn, by simpa [actsOf] using hc⟩
  rw [flatA_len] at hp
  have hl : (actsOf rows).length = rows.length := by simp [actsOf]
  obtain ⟨b, off, e, hh⟩ := h (by omega)
  refine ⟨b, off, e, fun j hj => ?_⟩
  rw [flatA_len, hl] at hj
  obtain ⟨i, r, hjr, hr⟩ : ∃ i r, j = i * 2 + r ∧ r < 2 := ⟨j / 2, j % 2, by omega, by omega⟩
  subst hjr
  have hi : i < rows.length := by omega
  obtain ⟨e1, e2⟩ := flatA_at (actsOf rows) i (by omega)
  have eg : (actsOf rows).getD i (0, 0) = ((rows.getD i []).getD 0 0, (rows.getD i []).getD 1 0) := by
    unfold actsOf
    rw [List.getD_eq_getElem?_getD, List.getElem?_map, List.getElem?_eq_getElem hi, List.getD_eq_getElem?_getD (l := rows), List.getElem?_eq_getElem hi]
    rfl
  rw [eg] at e1 e2
  obtain ⟨q1, hq1⟩ := List.getElem?_eq_some_iff.1 e1
  obtain ⟨q2, hq2⟩ := List.getElem?_eq_some_iff.1 e2
  have h0 := hh i hi 0 .i64 rfl
  have h1 := hh i hi 1 .i64 rfl
  simp only [List.length_cons, List.length_nil, Nat.zero_add, Nat.reduceAdd, Nat.add_zero] at h0 h1
  rcases (show r = 0 ∨ r = 1 by omega) with rfl | rfl
  · have : (flatA (actsOf rows))[i * 2 + 0] = (flatA (actsOf rows))[i * 2] := rfl
    rw [show off + (i * 2 + 0) = off + i * 2 by omega, h0, this, hq1]
  · rw [show off + (i * 2 + 1) = off + i * 2 + 1 by omega, h1, hq2]

/-- A slice of slices of acts among the arguments. -/
theorem open_plan {P : Program} {W : World} {base b0 : Nat} {t e q : TypeId} {fs : Array Field} {v : Value} {d : DataW H} {ps : List MemPlace} (ht : P.underlying t = some (.slice e)) (he : P.underlying e = some (.slice q)) (hq : P.underlying q = some (.struct fs))
    (ce : P.cellsOf e = 1) (hone : Go.Deep.oneCellFields P fs = true) (hC : P.cellsOf q = fs.size) (hks : intFieldsB P fs [.i64, .i64] = true)
    (hok : Value.okWide P W .any b0 t v) (h : DataW.Trod enc P W base (fun _ => true) true t v d ps) :
    ∃ (ao : Option Addr) (cap : Nat) (pl : List (List (Int × Int))), v = .slice ao pl.length cap ∧ pl.length ≤ maxLen ∧ PlanAt W v pl ∧ ∀ a, ∀ x ∈ pl.getD a [], inI x.1 ∧ inI x.2 := by
  obtain ⟨a0, len, cap, rfl⟩ := okWide_slice ht hok
  obtain ⟨fuel, hf⟩ := h
  rcases Go.Deep.open_slice1 ht ce hf with ⟨hcs, _⟩ | ⟨a, len', cap', m, n, V, D, Pl, hcs, hb, hl, hm, hmm, _, hx⟩
  · simp [Value.cells] at hcs
    obtain ⟨rfl, rfl, rfl⟩ := hcs
    exact ⟨none, 0, [], rfl, by simp, ⟨none, 0, rfl, by simp, fun hp => by simp at hp⟩, by simp⟩
  · simp [Value.cells] at hcs
    obtain ⟨rfl, rfl, rfl⟩ := hcs
    simp only [if_true] at hmm
    subst hmm
    have each : ∀ r, r < len → ∃ rows : List (List Int), ∃ vr, W.cell? (a.add r) = some vr ∧ ActsAt W vr (actsOf rows) ∧ ∀ x ∈ actsOf rows, inI x.1 ∧ inI x.2 := fun r hr => by
      obtain ⟨h1, h2⟩ := hx r (by omega)
      obtain ⟨ao, cp, rows, e1, e2, e3, e4, e5⟩ := open_rows_trod he hq hone hC hks (by decide) h2
      have e1 : V r = .slice ao rows.length cp := by simpa using e1
      refine ⟨rows, V r, h1, by rw [e1]; exact actsOf_at e2 e4 e5, fun x hx2 => ?_⟩
      obtain ⟨row, hrow, rfl⟩ := List.mem_map.1 hx2
      obtain ⟨_, hw⟩ := e3 row hrow
      have w0 := wf_i64 (hw 0 .i64 rfl)
      have w1 := wf_i64 (hw 1 .i64 rfl)
      exact ⟨by unfold inI; exact w0, by unfold inI; exact w1⟩
    have ch : ∃ R : Nat → List (List Int), ∀ r, r < len → ∃ vr, W.cell? (a.add r) = some vr ∧ ActsAt W vr (actsOf (R r)) ∧ ∀ x ∈ actsOf (R r), inI x.1 ∧ inI x.2 :=
      ⟨fun r => if h : r < len then Classical.choose (each r h) else [], fun r hr => by simp only [hr, dif_pos]; exact Classical.choose_spec (each r hr)⟩
    obtain ⟨R, hR⟩ := ch
    have hlen : ((List.range len).map fun r => actsOf (R r)).length = len := by simp
    have hg : ∀ i, i < len → ((List.range len).map fun r => actsOf (R r)).getD i [] = actsOf (R i) := fun i hi => by simp [List.getD_eq_getElem?_getD, hi]
    refine ⟨some a, m, (List.range len).map fun r => actsOf (R r), by rw [hlen], by rw [hlen]; omega, ⟨some a, m, by rw [hlen], by rw [hlen]; exact hl, fun hp => ?_⟩, fun i x hx2 => ?_⟩
    · rw [hlen] at hp ⊢
      obtain ⟨vr, h1, _⟩ := hR 0 hp
      obtain ⟨b, off, spot⟩ := a
      have hspot : spot = none := by simpa [Addr.add] using World.cell?_spot h1
      subst hspot
      refine ⟨b, off, rfl, fun i hi => ?_⟩
      obtain ⟨vi, h2, h3, _⟩ := hR i hi
      rw [add_plain] at h2
      exact ⟨vi, h2, by rw [hg i hi]; exact h3⟩
    · by_cases hi : i < len
      · rw [hg i hi] at hx2
        obtain ⟨vi, h2, h3, h4⟩ := hR i hi
        exact h4 x hx2
      · rw [List.getD_eq_getElem?_getD, List.getElem?_eq_none (by rw [hlen]; omega)] at hx2
        cases hx2
end
end Go.Proofs.YtfhkhknnoepfeaaGreat
