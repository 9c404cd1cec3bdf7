/- The plans of the chapter's laws: what is played on them. -/
import Derived.Test.YtfhkhknnoepfeaaHistPlan2
namespace Go.Proofs.Ytfhkhknnoepfeaa
open Go.RowKit
set_option linter.unusedVariables false

theorem PR.planAt {w0 w : World} {ob B m : Nat} {pl : Nat → List (Int × Int)} {vs : Nat → Value} (h : PR w0 w ob B m pl vs) : PlanAt w (.slice (some ⟨ob, 0, none⟩) m m) ((List.range m).map pl) := by
  refine ⟨_, m, by simp, by simp, fun _ => ⟨ob, 0, rfl, fun i hi => ?_⟩⟩
  have hi : i < m := by simpa using hi
  refine ⟨vs i, by rw [Nat.zero_add]; exact h.cell hi, ?_⟩
  have : ((List.range m).map pl).getD i [] = pl i := by simp [List.getD_eq_getElem?_getD, hi]
  rw [this]
  exact acts_owns (h.V i hi) rfl

/-- The acts of a plan. -/
structure PlanOk (pl : Nat → List (Int × Int)) : Prop where
  own : ∀ x ∈ pl 0, (x.1 = 0 ∨ x.1 = 1) ∧ -3 ≤ x.2 ∧ x.2 ≤ 3
  thf : ∀ a, 0 < a → ∀ x ∈ pl a, x.1 = 2
theorem PlanOk.add {pl : Nat → List (Int × Int)} (h : PlanOk pl) {c : Nat} {y : Int × Int} (h0 : c = 0 → (y.1 = 0 ∨ y.1 = 1) ∧ -3 ≤ y.2 ∧ y.2 ≤ 3) (h1 : 0 < c → y.1 = 2) : PlanOk (upd pl c (pl c ++ [y])) := by
  refine ⟨fun x hx => ?_, fun a ha x hx => ?_⟩
  · by_cases e : (0 : Nat) = c
    · rw [e, upd_same] at hx
      rw [List.mem_append, List.mem_singleton] at hx
      rcases hx with hx | rfl
      · rw [← e] at hx; exact h.own x hx
      · exact h0 e.symm
    · rw [upd_ne e] at hx; exact h.own x hx
  · by_cases e : a = c
    · rw [e, upd_same] at hx
      rw [List.mem_append, List.mem_singleton] at hx
      rcases hx with hx | rfl
      · rw [← e] at hx; exact h.thf a ha x hx
      · exact h1 (by omega)
    · rw [upd_ne e] at hx; exact h.thf a ha x hx
theorem planF_ok (m : Nat) (raw : List Int) : ∀ k, PlanOk (planF m raw k)
  | 0 => ⟨fun x hx => by simp [planF] at hx, fun a ha x hx => by simp [planF] at hx⟩
  | k + 1 => by
    have h := planF_ok m raw k
    rw [planF]
    unfold planSt
    split
    · next hc => exact h.add (fun e => by omega) (fun _ => rfl)
    · split
      · exact h.add (fun _ => ⟨.inr rfl, by simp, by simp⟩) (fun h => by omega)
      · refine h.add (fun _ => ⟨.inl rfl, ?_⟩) (fun h => by omega)
        have h1 := tmod_lo (raw.getD (k + 1) 0) (n := 4) (by omega)
        have h2 := Int.tmod_lt_of_pos (raw.getD (k + 1) 0) (show (0 : Int) < 4 by omega)
        show -3 ≤ _ ∧ _ ≤ (3 : Int)
        simp only
        omega

theorem sumL_upd {f : Nat → List (Int × Int)} {c : Nat} {y : Int × Int} : ∀ {n : Nat}, c < n → sumL (fun a => (upd f c (f c ++ [y]) a).length) n = sumL (fun a => (f a).length) n + 1 := by
  intro n hn
  have h := sumL_one (f := fun a => (upd f c (f c ++ [y]) a).length) (f' := fun a => (f a).length) (a := c) (n := n) hn (fun b hb => by rw [upd_ne hb])
  simp only [upd_same, List.length_append, List.length_singleton] at h
  omega
theorem planF_sum (m : Nat) (raw : List Int) (hm : 1 ≤ m) : ∀ k, sumL (fun a => (planF m raw k a).length) m = k
  | 0 => by
    have : ∀ n, sumL (fun a => (planF m raw 0 a).length) n = 0 := by
      intro n
      induction n with
      | zero => rfl
      | succ n ih => rw [sumL, ih]; rfl
    exact this m
  | k + 1 => by
    have h := planF_sum m raw hm k
    rw [planF]
    unfold planSt
    split
    · rw [sumL_upd (by omega), h]
    · split
      · rw [sumL_upd (by omega), h]
      · rw [sumL_upd (by omega), h]
theorem plan_able {pl : Nat → List (Int × Int)} (h : PlanOk pl) {m : Nat} (a : Nat) (ha : a < m) : planActs ((List.range m).map pl) a = pl a := by
  unfold planActs
  have : ((List.range m).map pl).getD a [] = pl a := by simp [List.getD_eq_getElem?_getD, ha]
  rw [this, List.filter_eq_self]
  intro x hx
  by_cases e : a = 0
  · subst e
    have := (h.own x hx).1
    rcases this with g | g <;> simp [ableB, g]
  · have := h.thf a (by omega) x hx
    simp [ableB, this]; omega

/-- Two games of the same acts. -/
theorem gplay_congr {c n : Nat} {f g : Nat → List (Int × Int)} {picks : List Nat} (h : f = g) : gplay c n f picks = gplay c n g picks := by rw [h]
theorem plan_acts {pl : Nat → List (Int × Int)} (h : PlanOk pl) {m : Nat} (hz : ∀ a, m ≤ a → pl a = []) : planActs ((List.range m).map pl) = pl := by
  funext a
  by_cases ha : a < m
  · exact plan_able h a ha
  · unfold planActs
    have : ((List.range m).map pl).getD a [] = [] := by
      rw [List.getD_eq_getElem?_getD, List.getElem?_eq_none (by simp; omega)]; rfl
    rw [this, hz a (by omega)]; rfl
theorem planF_far (m : Nat) (raw : List Int) (hm : 1 ≤ m) : ∀ k a, m ≤ a → planF m raw k a = []
  | 0, a, _ => rfl
  | k + 1, a, ha => by
    have h := planF_far m raw hm k a ha
    rw [planF]
    unfold planSt
    split
    · rw [upd_ne (by omega), h]
    · split
      · rw [upd_ne (by omega), h]
      · rw [upd_ne (by omega), h]

/-- The operations that are played on a plan. -/
def planOps (cap : Int) (m : Nat) (raw : List Int) (k : Nat) (picks : List Int) : List HOp := gplay (capN cap) m (planF m raw k) (picks.map (modN m))

theorem planPlay_any {w0 w : World} {ob B m k : Nat} {raw : List Int} {vs : Nat → Value} (h : PR w0 w ob B m (planF m raw k) vs) (cap : Int) (ao : Option Addr) (pcap : Nat) (picks : List Int) (hpk : CellsAt w ao (picks.map (.int .i64))) (hm : 1 ≤ m) (hm2 : m ≤ 100) (hk : k ≤ 1000) (hnp : picks.length ≤ 100000) :
    Calls Try.prog 12 #[.int .i64 cap, .slice (some ⟨ob, 0, none⟩) m m, .slice ao picks.length pcap] w (PlayPost w (planOps cap m raw k picks)) := by
  have ha := plan_acts (planF_ok m raw k) (planF_far m raw hm k)
  have hg : ∀ a, a < m → ((List.range m).map (planF m raw k)).getD a [] = planF m raw k a := fun a h => by simp [List.getD_eq_getElem?_getD, h]
  have hp := play_any w cap _ _ h.planAt ao pcap picks hpk (by simpa using hm) (by simp; omega) (fun a ha => by
    have ha : a < m := by simpa using ha
    rw [hg a ha]
    have := plan_len m raw hm k a
    omega) hnp (fun x hx => by
      rw [ha] at hx
      have := ((planF_ok m raw k).own x hx).2
      unfold inI; omega) (by
      rw [ha, List.length_map, List.length_range, planF_sum m raw hm k]
      omega)
  rw [ha, List.length_map, List.length_range] at hp
  exact hp

theorem planOps_spec (cap : Int) (m : Nat) (raw : List Int) (k : Nat) (picks : List Int) (hm : 1 ≤ m) (hk : k ≤ 1000) (hnp : picks.length ≤ 100000) : Played (capN cap) (planOps cap m raw k picks) k := by
  have hc1 : 1 ≤ capN cap ∧ capN cap ≤ 64 := by unfold capN; omega
  have h := gplay_spec (c := capN cap) (n := m) (acts := planF m raw k) (picks := picks.map (modN m)) hc1.1 (by omega) hm (fun x hx => by
    have := (planF_ok m raw k).own x hx
    exact ⟨this.1, by unfold inI; omega⟩) (planF_ok m raw k).thf (fun a ha => by
      obtain ⟨y, _, rfl⟩ := List.mem_map.1 ha
      exact modN_lt hm y) (by rw [planF_sum m raw hm k, List.length_map]; omega)
  rw [planF_sum m raw hm k] at h
  exact h
end Go.Proofs.Ytfhkhknnoepfeaa
