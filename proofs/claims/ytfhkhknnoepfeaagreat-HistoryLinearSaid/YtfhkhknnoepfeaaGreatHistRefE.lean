/- The actors of the reference's game, made. -/
import Derived.Test.YtfhkhknnoepfeaaGreatMgE
import Derived.Test.YtfhkhknnoepfeaaGreatHistPlan
namespace Go.Proofs.YtfhkhknnoepfeaaGreat
open Go.RowKit
set_option linter.unusedVariables false

theorem infoAcR : (Tryz.prog.info? 66).map (fun i => (i.zero, i.size, i.bytes)) = some (some (.agg #[.slice none 0 0, .pointer none, .int .i64 0, .int .i64 0, .int .i64 0]), 5, 56) := by kernel_rfl

/-- The cells of new actors. -/
def acC (avs : Nat → Value) : Nat → List Value
  | 0 => []
  | i + 1 => acC avs i ++ [avs i, .pointer none, .int .i64 0, .int .i64 0, .int .i64 (-1)]
theorem acC_len (avs : Nat → Value) : ∀ i, (acC avs i).length = i * 5
  | 0 => rfl
  | i + 1 => by simp [acC, acC_len avs i]; omega
theorem acC_congr {f g : Nat → Value} : ∀ {i : Nat}, (∀ a, a < i → f a = g a) → acC f i = acC g i
  | 0, _ => rfl
  | i + 1, h => by rw [acC, acC, acC_congr (fun a ha => h a (by omega)), h i (by omega)]
theorem acC_at (avs : Nat → Value) : ∀ (n a : Nat), a < n → (acC avs n)[a * 5]? = some (avs a) ∧ (acC avs n)[a * 5 + 1]? = some (.pointer none) ∧ (acC avs n)[a * 5 + 2]? = some (.int .i64 0) ∧ (acC avs n)[a * 5 + 3]? = some (.int .i64 0) ∧ (acC avs n)[a * 5 + 4]? = some (.int .i64 (-1))
  | 0, a, h => by omega
  | n + 1, a, h => by
    rw [acC]
    by_cases e : a = n
    · subst e
      have hl := acC_len avs a
      refine ⟨?_, ?_, ?_, ?_, ?_⟩ <;> (rw [List.getElem?_append_right (by omega), hl]; simp)
    · obtain ⟨h0, h1, h2, h3, h4⟩ := acC_at avs n a (by omega)
      have hl := acC_len avs n
      refine ⟨?_, ?_, ?_, ?_, ?_⟩ <;> (rw [List.getElem?_append_left (by omega)]; assumption)

/-- The first i actors are made. -/
structure BA (w0 w : World) (B0 i : Nat) (avs : Nat → Value) (xv : Value) (acts : Nat → List (Int × Int)) : Prop where
  X : w.ownsRow B0 66 5 xv i (acC avs i)
  V : ∀ a, a < i → ActsAt w (avs a) (acts a)
  VB : ∀ a, a < i → ∀ ad m cp, avs a = .slice (some ad) m cp → B0 ≤ ad.block ∧ ad.block < w.heap.size ∧ ∃ arr, w.heap[ad.block]? = some (.cells arr 44 (0, 0))
  F : Only [] w0 w
  hB : w0.heap.size ≤ B0 ∧ B0 ≤ w.heap.size
theorem BA.keep0 {w0 w w' : World} {B0 i : Nat} {avs : Nat → Value} {xv : Value} {acts : Nat → List (Int × Int)} (h : BA w0 w B0 i avs xv acts) (o : Only [] w w') : BA w0 w' B0 i avs xv acts := by
  have hs := o.size
  refine ⟨owns_keep h.X o, fun a ha => (h.V a ha).keep0 o, fun a ha ad m cp e => ?_, h.F.then0 o, h.hB.1, by have := h.hB.2; omega⟩
  obtain ⟨h1, h2, arr, h3⟩ := h.VB a ha ad m cp e
  exact ⟨h1, by omega, arr, o.keep h3 (by simp)⟩

theorem BA.next {w0 w w1 w2 : World} {B0 i : Nat} {avs : Nat → Value} {xv xv' av : Value} {acts : Nat → List (Int × Int)} (h : BA w0 w B0 i avs xv acts) (o : Only [] w w1) (hav : w1.ownsRow w.heap.size 44 2 av (acts i).length (flatA (acts i)))
    (hg : w1.grownBy w2 xv.ownBlock) (hX : w2.ownsRow B0 66 5 xv' (i + 1) (acC avs i ++ [av, .pointer none, .int .i64 0, .int .i64 0, .int .i64 (-1)])) : BA w0 w2 B0 (i + 1) (upd avs i av) xv' acts := by
  have h1 := h.keep0 o
  have hs := hg.size
  have hrow := fun q hq => row_blk h1.X q hq
  have o2 : Only xv.ownBlock.toList w1 w2 := (Only.refl _ _).grown hg (fun q hq => .inl (by rw [hq]; simp))
  have tyX : ∀ {b : Nat} {arr : Array Value}, w1.heap[b]? = some (.cells arr 44 (0, 0)) → b ∉ xv.ownBlock.toList := fun hb hm => by
    cases e : xv.ownBlock with
    | none => rw [e] at hm; cases hm
    | some q =>
      rw [e] at hm
      obtain ⟨_, arr2, h2⟩ := hrow q e
      have := typ_ne hb h2 (by decide)
      simp at hm
      exact this hm
  have hv2 := row_blk hav
  refine ⟨?_, fun a ha => ?_, fun a ha ad m cp e => ?_, ?_, h.hB.1, by have := h1.hB.2; omega⟩
  · rw [acC, upd_same, acC_congr (f := upd avs i av) (g := avs) (fun a ha => upd_ne (by omega))]; exact hX
  · by_cases e : a = i
    · subst e; rw [upd_same]
      refine acts_owns (n := (acts a).length) (base := w.heap.size) (T := 44) (hav.kept hg ?_) rfl
      cases e2 : av.ownBlock with
      | none => exact .inl rfl
      | some q =>
        obtain ⟨_, arr, h3⟩ := hv2 q e2
        refine .inr (fun e3 => tyX h3 (by rw [← e3]; simp))
    · rw [upd_ne e]
      refine (h1.V a (by omega)).keep o2 (fun b off m cp e2 hp => ?_)
      obtain ⟨_, _, arr, h3⟩ := h1.VB a (by omega) _ _ _ e2
      exact tyX h3
  · by_cases e2 : a = i
    · subst e2; rw [upd_same] at e
      obtain ⟨q1, arr, q2⟩ := hv2 ad.block (by rw [e]; rfl)
      exact ⟨by have := h.hB.2; omega, by have := lt_of_blk q2; omega, arr, o2.keep q2 (tyX q2)⟩
    · rw [upd_ne e2] at e
      obtain ⟨q1, q2, arr, q3⟩ := h1.VB a (by omega) ad m cp e
      exact ⟨q1, by omega, arr, o2.keep q3 (tyX q3)⟩
  · exact h1.F.grown hg (fun q hq => .inr (by have := (hrow q hq).1; have := h.hB.1; omega))

theorem BA.start {w0 w : World} {B0 n : Nat} {avs : Nat → Value} {xv : Value} {acts : Nat → List (Int × Int)} (h : BA w0 w B0 n avs xv acts) (hn : 1 ≤ n) {c r rc : Nat} (hE : REnvAt w r rc (gstart c acts).mem 0) (hr : r < B0 ∧ rc < B0 ∧ r ≠ rc ∧ w0.heap.size ≤ r ∧ w0.heap.size ≤ rc) :
    ∃ rb cap, xv = .slice (some ⟨rb, 0, none⟩) n cap ∧ n ≤ cap ∧ RG w0 w w.heap.size n c rb r rc (fun _ => 0) (fun _ => 0) avs (fun _ => .pointer none) (fun _ => 0) (fun _ => 0) (gstart c acts) := by
  obtain ⟨hl, ⟨rfl, hn0⟩ | ⟨g, cap, cur, rfl, hb, hh, hnc, hc, hs, ht⟩⟩ := h.X
  · omega
  · refine ⟨g, cap, rfl, hnc, hE, fun a ha => ?_, ⟨cur, hh⟩, h.V, fun a ha ad m cp e => ?_, (fun a k o _ e => by cases e), (fun a k o _ e => by cases e), fun a b _ _ _ e => absurd rfl e, h.F, ?_⟩
    · have key : ∀ j v, j < n * 5 → (acC avs n)[j]? = some v → w.cell? ⟨g, j, none⟩ = some v := fun j v hj e => by
        rw [cell_blk hh]
        rw [← ht, List.getElem?_take, if_pos hj] at e
        simpa using e
      obtain ⟨h0, h1, h2, h3, h4⟩ := acC_at avs n a ha
      exact ⟨key _ _ (by omega) h0, key _ _ (by omega) h1, key _ _ (by omega) h2, key _ _ (by omega) h3, key _ _ (by omega) h4⟩
    · obtain ⟨q1, q2, arr, q3⟩ := h.VB a ha ad m cp e
      exact ⟨q2, by omega, by omega, typ_ne q3 hh (by decide)⟩
    · have := lt_of_blk hh
      have := h.hB
      omega
end Go.Proofs.YtfhkhknnoepfeaaGreat
