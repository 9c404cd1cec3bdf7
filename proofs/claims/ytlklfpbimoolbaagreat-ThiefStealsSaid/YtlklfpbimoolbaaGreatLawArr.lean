/- An array of integers among the arguments of a law. No condition. -/
import Derived.Test.YtlklfpbimoolbaaGreatLaw
namespace Go.Proofs.YtlklfpbimoolbaaGreat
open Go.ChangeShapes Go.WideShapes Go.ChangeAt Go.RowKit
set_option linter.unusedVariables false

theorem mapM_get {α β : Type} {f : α → Option β} : ∀ {L : List α} {xs : List β}, L.mapM f = some xs → ∀ (i : Nat) (a : α), L[i]? = some a → ∃ b, f a = some b
  | [], _, _, i, a, h => by simp at h
  | x :: L, xs, hm, i, a, h => by
    rw [List.mapM_cons] at hm
    simp only [bind, Option.bind_eq_some_iff, pure, Option.some.injEq] at hm
    obtain ⟨y, hy, ys, hys, rfl⟩ := hm
    cases i with
    | zero => simp at h; subst h; exact ⟨y, hy⟩
    | succ i => exact mapM_get hys i a (by simpa using h)

section
variable {H : Type} {enc : TypeId × Value → H}
theorem open_iarr {P : Program} {W : World} {base b0 n : Nat} {t e : TypeId} {k : IntKind} {v : Value} {d : DataW H} {ps : List MemPlace} (ht : P.underlying t = some (.array n e)) (he : P.underlying e = some (.int k)) (hce : P.cellsOf e = 1) (hct : P.cellsOf t = n)
    (hok : Value.okWide P W .any b0 t v) (h : DataW.Trod enc P W base (fun _ => true) true t v d ps) :
    ∃ zs : List Int, zs.length = n ∧ v = .agg (zs.map (.int k)).toArray ∧ ∀ z ∈ zs, (Lit.int k z).wf = true := by
  simp only [Value.okWide, ht] at hok
  obtain ⟨cs, rfl, hsz, _⟩ := hok
  rw [hct] at hsz
  obtain ⟨fuel, hf⟩ := h
  cases fuel with
  | zero => simp [DataW.trod] at hf
  | succ m =>
    simp only [DataW.trod, ht, hce, hct, Nat.mul_one, Value.cells] at hf
    split at hf
    · obtain ⟨xs, hm, hx⟩ := Option.map_eq_some_iff.1 hf
      have cell : ∀ i, i < n → ∃ z, cs[i]? = some (.int k z) ∧ (Lit.int k z).wf = true := by
        intro i hi
        obtain ⟨⟨d', q⟩, hb⟩ := mapM_get hm i i (by simp [hi])
        obtain ⟨z, hz, _, hw⟩ := DataW.trod_int he hb
        refine ⟨z, ?_, hw⟩
        have := congrArg (·[0]?) hz
        simp only [List.getElem?_take, List.getElem?_drop] at this
        simpa using this
      refine ⟨(List.range n).map fun i => intCell cs[i]?, by simp, ?_, ?_⟩
      · congr 1
        apply Array.ext_getElem?
        intro i
        rcases Nat.lt_or_ge i n with hi | hi
        · obtain ⟨z, hz, _⟩ := cell i hi
          simp [hi, hz, intCell]
        · rw [Array.getElem?_eq_none (by omega)]
          simp [hi]
      · intro z hz
        simp only [List.mem_map, List.mem_range] at hz
        obtain ⟨i, hi, rfl⟩ := hz
        obtain ⟨z, hz, hw⟩ := cell i hi
        simpa [hz, intCell] using hw
    · cases hf
end
end Go.Proofs.YtlklfpbimoolbaaGreat
