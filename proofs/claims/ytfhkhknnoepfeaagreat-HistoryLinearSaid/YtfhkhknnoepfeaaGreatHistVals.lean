/- The game, plain: the values of its operations are ints. -/
import Derived.Test.YtfhkhknnoepfeaaGreatMgB
namespace Go.Proofs.YtfhkhknnoepfeaaGreat
open Go.RowKit

/-- Values that were not taken are ints. -/
structure GV (g : Gm) : Prop where
  now : ∀ a k o, (g.acs a).now = some (k, o) → inI o.value
  acts : ∀ a, ∀ x ∈ (g.acs a).acts, x.1 = 0 → inI x.2
  ops : ∀ o ∈ g.ops, o.code ≠ 1 → inI o.value

theorem inI0 : inI 0 := by unfold inI; omega
theorem GV.stepped {g : Gm} (h : GV g) {a : Nat} {k : K} {o : HOp} (ho : inI o.value) : GV (g.stepped a k o) := by
  refine ⟨fun b k2 o2 e => ?_, fun b x hx => ?_, fun o2 ho2 hc => ?_⟩
  · by_cases hb : b = a
    · subst hb
      obtain ⟨_, _, rfl⟩ := stepped_now e
      exact ho
    · rw [stepped_ne hb] at e; exact h.now b k2 o2 e
  · rw [stepped_acts] at hx; exact h.acts b x hx
  · cases hov : (stepK k g.mem).1.over with
    | false => rw [(stepped_more hov).1] at ho2; exact h.ops o2 ho2 hc
    | true =>
      rw [(stepped_done hov).1, List.mem_append, List.mem_singleton] at ho2
      rcases ho2 with h2 | rfl
      · exact h.ops o2 h2 hc
      · unfold finO at hc ⊢
        simp only at hc ⊢
        rw [if_neg hc]; exact ho
theorem GV.gstep {q : Q4} {g : Gm} (h : GV g) (a : Nat) : GV (gstep q g a) := by
  have hs := gstep_is q g a
  generalize Go.Proofs.YtfhkhknnoepfeaaGreat.gstep q g a = g' at hs
  cases hs with
  | idle h1 h2 => exact ⟨h.now, h.acts, h.ops⟩
  | more k o h1 => exact h.stepped (h.now a k o h1)
  | begin x r h1 h2 =>
    have hv : inI (op0 a g.pick x).value := by
      unfold op0
      simp only
      split
      · next e => exact h.acts a x (by rw [h2]; simp) e
      · exact inI0
    refine GV.stepped (g := g.set a ⟨r, some (newK q x, op0 a g.pick x)⟩) ⟨fun b k2 o2 e => ?_, fun b y hy => ?_, h.ops⟩ hv
    · by_cases hb : b = a
      · subst hb; rw [set_same] at e; cases e; exact hv
      · rw [set_ne hb] at e; exact h.now b k2 o2 e
    · by_cases hb : b = a
      · subst hb; rw [set_same] at hy; exact h.acts b y (by rw [h2]; simp [show y ∈ r from hy])
      · rw [set_ne hb] at hy; exact h.acts b y hy
theorem GV.gdrain {q : Q4} {a : Nat} : ∀ {n : Nat} {g : Gm}, GV g → GV (gdrain q a n g)
  | 0, g, h => h
  | n + 1, g, h => by
    rw [Go.Proofs.YtfhkhknnoepfeaaGreat.gdrain]
    split
    · exact h
    · exact (h.gstep a).gdrain
theorem GV.gall {q : Q4} {g : Gm} (h : GV g) : ∀ k, GV (gall q g k)
  | 0 => h
  | k + 1 => (h.gall k).gdrain
theorem GV.gpicks {q : Q4} : ∀ {l : List Nat} {g : Gm}, GV g → GV (gpicks q g l)
  | [], _, h => h
  | a :: r, _, h => (h.gstep a).gpicks

/-- What is taken was pushed. -/
theorem run_vals {cap : Int} : ∀ {σ : List HOp} {l l' : List Int}, (∀ o ∈ σ, o.formed = true) → (∀ o ∈ σ, o.code ≠ 1 → inI o.value) → (∀ x ∈ l, inI x) → runH cap σ l = some l' → ∀ o ∈ σ, inI o.value
  | [], _, _, _, _, _, _, o, ho => by cases ho
  | o :: r, l, l', hf, hv, hl, h, p, hp => by
    simp only [runH] at h
    cases ha : o.act l cap with
    | none => rw [ha] at h; cases h
    | some l2 =>
      rw [ha] at h
      have key : inI o.value ∧ ∀ x ∈ l2, inI x := by
        by_cases hc : o.code = 1
        · unfold HOp.act at ha
          rw [if_neg (by omega), if_neg (by omega), if_neg (by omega), if_neg (by omega)] at ha
          by_cases hn : l = []
          · rw [if_pos hn] at ha; cases ha
          · rw [if_neg hn] at ha
            split at ha
            · split at ha
              · next e =>
                cases ha
                refine ⟨?_, fun x hx => hl x ((List.dropLast_sublist _).mem hx)⟩
                rw [← e]
                obtain ⟨y, s, rfl⟩ : ∃ y s, l = s ++ [y] := ⟨l.getLast hn, l.dropLast, (List.dropLast_concat_getLast hn).symm⟩
                simpa using hl y (by simp)
              · cases ha
            · split at ha
              · next e =>
                cases ha
                refine ⟨?_, fun x hx => hl x (List.mem_of_mem_tail hx)⟩
                rw [← e]
                cases l with
                | nil => exact absurd rfl hn
                | cons y s => exact hl y (by simp)
              · cases ha
        · have hov := hv o (by simp) hc
          refine ⟨hov, ?_⟩
          unfold HOp.act at ha
          split at ha
          · split at ha
            · cases ha
              intro x hx
              rw [List.mem_append, List.mem_singleton] at hx
              rcases hx with hx | rfl
              · exact hl x hx
              · exact hov
            · cases ha
          · split at ha
            · split at ha
              · cases ha; exact hl
              · cases ha
            · split at ha
              · split at ha
                · cases ha; exact hl
                · cases ha
              · split at ha
                · cases ha; exact hl
                · have hf2 := hf o (by simp)
                  simp only [HOp.formed, Bool.and_eq_true, Bool.or_eq_true, decide_eq_true_eq] at hf2
                  omega
      rw [List.mem_cons] at hp
      rcases hp with rfl | hp
      · exact key.1
      · exact run_vals (fun o ho => hf o (by simp [ho])) (fun o ho => hv o (by simp [ho])) key.2 h p hp

theorem gplay_vals {c n : Nat} {acts : Nat → List (Int × Int)} {picks : List Nat} {total : Nat} (h : Played c (gplay c n acts picks) total) (ha : ∀ a, ∀ x ∈ acts a, x.1 = 0 → inI x.2) : ∀ o ∈ gplay c n acts picks, inI o.value := by
  have h0 : GV (gstart c acts) := ⟨fun a k o e => (by cases e), ha, fun o ho => (by cases ho)⟩
  have hg : GV (gall (q0 c) (gpicks (q0 c) (gstart c acts) picks) n) := h0.gpicks.gall n
  obtain ⟨σ, l, hp, hr, _⟩ := h.orders
  intro o ho
  exact run_vals (fun o ho => h.formed o (hp.mem_iff.1 ho)) (fun o ho => hg.ops o (hp.mem_iff.1 ho)) (by simp) hr o (hp.mem_iff.2 ho)
end Go.Proofs.YtfhkhknnoepfeaaGreat
