/- The reference's search for an order, walked. -/
import Derived.Test.YtfhkhknnoepfeaaHistRef2
import Derived.Test.YtfhkhknnoepfeaaHistPlan
import Derived.Test.YtfhkhknnoepfeaaHistLinP2
import Derived.StillTailTactics
namespace Go.Proofs.Ytfhkhknnoepfeaa
open Go.RowKit
set_option linter.unusedVariables false

def usedRow (n : Nat) (used : Nat → Bool) : Array Value := ((List.range n).map fun i => Value.bool (used i)).toArray
theorem usedRow_at {n : Nat} {used : Nat → Bool} {i : Nat} (hi : i < n) : (usedRow n used)[i]? = some (.bool (used i)) := by unfold usedRow; simp [hi]
theorem usedRow_set {n : Nat} {used : Nat → Bool} {i : Nat} (hi : i < n) : (usedRow n used).setIfInBounds i (.bool true) = usedRow n (setU used i) := by
  unfold usedRow
  rw [rows_set hi]
  congr 2
  funext j
  unfold upd setU
  by_cases e : j = i
  · subst e; simp
  · simp [e]
theorem usedRow_unset {n : Nat} {used : Nat → Bool} {i : Nat} (hi : i < n) (h : used i = false) : (usedRow n (setU used i)).setIfInBounds i (.bool false) = usedRow n used := by
  unfold usedRow
  rw [rows_set hi]
  congr 2
  funext j
  unfold upd setU
  by_cases e : j = i
  · subst e; simp [h]
  · simp [e]

/-- The block of the marks. -/
def UR (w : World) (ub n : Nat) (used : Nat → Bool) : Prop := w.heap[ub]? = some (.cells (usedRow n used) 4 (0, 0))
theorem UR.cell {w : World} {ub n : Nat} {used : Nat → Bool} (h : UR w ub n used) {i : Nat} (hi : i < n) : w.cell? ⟨ub, i, none⟩ = some (.bool (used i)) := by rw [cell_blk h]; exact usedRow_at hi
theorem UR.ne {w : World} {ub n : Nat} {used : Nat → Bool} (h : UR w ub n used) {b j : Nat} {z : Int} (hc : w.cell? ⟨b, j, none⟩ = some (.int .i64 z)) : b ≠ ub := by
  intro e
  subst e
  rw [cell_blk h] at hc
  unfold usedRow at hc
  rw [List.getElem?_toArray, List.getElem?_map] at hc
  cases h2 : (List.range n)[j]? with
  | none => rw [h2] at hc; cases hc
  | some q => rw [h2] at hc; cases hc
theorem OL.keepU {w w' : World} {v : Value} {l : List HOp} {ub n : Nat} {used : Nat → Bool} (h : OL w v l) (u : UR w ub n used) (o : Only [ub] w w') : OL w' v l := by
  obtain ⟨ao, cap, rfl, hc, h⟩ := h
  refine ⟨ao, cap, rfl, hc, fun hp => ?_⟩
  obtain ⟨b, off, e, hh⟩ := h hp
  have hb := u.ne (hh 0 hp).1
  exact ⟨b, off, e, fun i hi => (hh i hi).keep o (by simp; exact hb)⟩
theorem Ns.keepU {w w' : World} {v : Value} {l : List Int} {ub n : Nat} {used : Nat → Bool} (h : Ns w v l) (u : UR w ub n used) (o : Only [ub] w w') : Ns w' v l := by
  obtain ⟨ao, cap, rfl, h1, h2, h3⟩ := h
  refine ⟨ao, cap, rfl, fun hp => ?_, h2, h3⟩
  obtain ⟨b, off, e, hc⟩ := h1 hp
  have hp2 : 0 < l.length := by simpa using hp
  have hb := u.ne (b := b) (j := off + 0) (z := l[0]) (by rw [hc 0 hp]; simp)
  exact ⟨b, off, e, fun j hj => o.keepCell (hc j hj) (by simp; exact hb)⟩

theorem act_len {o : HOp} {l l' : List Int} {cap : Int} (h : o.act l cap = some l') : l'.length ≤ l.length + 1 := by
  unfold HOp.act at h
  split at h
  · split at h
    · cases h; simp
    · cases h
  · split at h
    · split at h
      · cases h; omega
      · cases h
    · split at h
      · split at h
        · cases h; omega
        · cases h
      · split at h
        · cases h; omega
        · split at h
          · cases h
          · split at h
            · split at h
              · cases h; simp; omega
              · cases h
            · split at h
              · cases h; simp; omega
              · cases h

def allU (used : Nat → Bool) : Nat → Bool
  | 0 => true
  | k + 1 => allU used k && used k
theorem allU_left {used : Nat → Bool} : ∀ {n : Nat}, allU used n = true → leftU n used = 0
  | 0, _ => rfl
  | n + 1, h => by
    rw [allU, Bool.and_eq_true] at h
    unfold leftU
    rw [List.range_succ, List.countP_append, List.countP_singleton]
    have := allU_left h.1
    unfold leftU at this
    rw [this, h.2]; rfl
theorem left_allU {used : Nat → Bool} : ∀ {n : Nat}, leftU n used = 0 → ∀ i, i < n → used i = true
  | 0, _, i, hi => by omega
  | n + 1, h, i, hi => by
    unfold leftU at h
    rw [List.range_succ, List.countP_append, List.countP_singleton] at h
    by_cases e : i = n
    · subst e
      cases hu : used i with
      | true => rfl
      | false => rw [hu] at h; simp at h
    · exact left_allU (n := n) (by unfold leftU; omega) i (by omega)
/-- May operation i come next, the first k looked at? -/
def firstK (f : Nat → HOp) (used : Nat → Bool) (i : Nat) : Nat → Bool
  | 0 => true
  | k + 1 => firstK f used i k && (used k || decide ((f i).frm ≤ (f k).to))
theorem firstK_eq {f : Nat → HOp} {used : Nat → Bool} {i : Nat} : ∀ n, firstK f used i n = firstU f n used i
  | 0 => rfl
  | n + 1 => by rw [firstK, firstK_eq n]; unfold firstU; rw [List.range_succ, List.all_append]; simp

/-- What the search comes to. -/
def SPost (w : World) (ub : Nat) (r : Bool) (e : Ending) (w' : World) : Prop := e = .returned (.bool r) ∧ Only [ub] w w' ∧ (r = false → w'.heap[ub]? = w.heap[ub]?)

set_option maxRecDepth 100000 in
set_option maxHeartbeats 4000000 in
theorem refSearch_zero (l : List HOp) (cap : Int) (hn : l.length ≤ 12) (w : World) (ov : Value) (ub : Nat) (used : Nat → Bool) (lv : Value) (hO : OL w ov l) (hU : UR w ub l.length used) (h0 : leftU l.length used = 0) :
    Calls Try.prog 21 #[ov, .slice (some ⟨ub, 0, none⟩) l.length l.length, lv, .int .i64 cap] w (SPost w ub true) := by
  obtain ⟨n, hnn⟩ : ∃ n, n = l.length := ⟨_, rfl⟩
  rw [← hnn] at hn hU h0 ⊢
  obtain ⟨ao, c, rfl, -, -⟩ := hO
  rw [← hnn]
  have U := Lib.hid hU
  have ALL := Lib.hid (left_allU h0)
  clear hU h0 hnn
  go_enter Try.func21, Try.ntmps21
  go_wp2_with fail
  go_loopw [9, 10] (fun av iv wr => ∃ i : Nat, i ≤ n ∧ iv = .int .i64 i ∧ av = .bool true ∧ Only [] w wr) (fun _ iv _ => n - (intOf iv).toNat)
  case atStart => exact ⟨0, Nat.zero_le _, rfl, rfl, Only.refl _ _⟩
  case round =>
    obtain ⟨i, hi, rfl, rfl, hP⟩ := hrel
    have P := Lib.hid hP
    clear hP
    by_cases hlt : i < n
    · have cu := P.out.keepCell (U.out.cell hlt) (by simp)
      rw [ALL.out i hlt] at cu
      go_wp2_with fail
      go_roundw
      case rel => exact ⟨i + 1, by omega, by go_num, rfl, P.out⟩
      case measure => simp [intOf]; omega
    · obtain rfl : i = n := by omega
      go_wp2_with fail
      go_ret
      exact ⟨rfl, P.out.mono (by simp), fun e => by cases e⟩
end Go.Proofs.Ytfhkhknnoepfeaa
