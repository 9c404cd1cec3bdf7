/- Valid of the program and of the reference, walked. -/
import Derived.Test.YtenamlckhcfflaaEdfSorted
namespace Go.Proofs.Ytenamlckhcfflaa
open Go.RowKit Go.Sort
set_option linter.unusedVariables false

/-- Is no element less than its parent? Whatever list. -/
def ValidEnd (w : World) (xs : List Int) (e : Ending) (w' : World) : Prop := ∃ r : Bool, e = .returned (.bool r) ∧ (r = true ↔ Heap xs) ∧ Only [] w w'

theorem heap_fail {xs : List Int} {k : Nat} (h1 : 1 ≤ k) (h2 : k < xs.length) (h : xs.getD k 0 < xs.getD ((k - 1) / 2) 0) : ¬ Heap xs := fun hh => by
  have := hh k h1 h2
  omega

theorem cells_from {w : World} {b off : Nat} {xs : List Int} (h : CellsAt w (some ⟨b, off, none⟩) (xs.map (.int .u64))) (k : Nat) : ∀ j u, ((xs.drop k).map (Value.int .u64))[j]? = some u → w.cell? ((⟨b, off + k, none⟩ : Addr).add j) = some u := by
  intro j u hu
  have h2 : (xs.map (Value.int .u64))[k + j]? = some u := by
    rw [List.map_drop, List.getElem?_drop] at hu
    exact hu
  have := h.news (k + j) u h2
  rw [Go.WideShapes.add_plain] at this ⊢
  rw [show off + k + j = off + (k + j) from by omega]
  exact this

set_option maxRecDepth 100000 in
theorem valid_any (w : World) (v : Value) (xs : List Int) (h : Sl w v xs) (hn : xs.length ≤ 1000000) :
    Calls Try.prog 16 #[v] w (ValidEnd w xs) := by
  obtain ⟨ao, cap, rfl, h1, h2, h3⟩ := h
  obtain ⟨n, hnn⟩ : ∃ n, n = xs.length := ⟨_, rfl⟩
  rw [← hnn] at hn ⊢
  have HN := Lib.hid hnn
  have H1 := Lib.hid h1
  clear h1 h2 h3 hnn
  go_enter Try.func16, Try.ntmps16
  go_wp2_with fail
  go_loopw [3] (fun i wr => ∃ k : Nat, 1 ≤ k ∧ (k ≤ n ∨ k = 1) ∧ i = .int .i64 k ∧ Only [] w wr ∧ ∀ i, 1 ≤ i → i < k → i < xs.length → xs.getD ((i - 1) / 2) 0 ≤ xs.getD i 0) (fun i _ => n - (intOf i).toNat)
  case atStart => exact ⟨1, by omega, .inr rfl, rfl, Only.refl _ _, fun i h1 h2 => by omega⟩
  case round =>
    obtain ⟨k, hk1, hk, rfl, hP, hall⟩ := hrel
    have P := Lib.hid hP
    have HA := Lib.hid hall
    clear hall
    by_cases hlt : k < n
    · obtain ⟨b, off, rfl, hc⟩ := H1.out.ints (by have := HN.out; omega)
      have c0 := fun (q : Nat) => (hP.drewN q).keepCell (hc k (by have := HN.out; omega)) (by simp)
      have c1 := fun (q : Nat) => (hP.drewN q).keepCell (hc ((k - 1) / 2) (by have := HN.out; omega)) (by simp)
      have d0 := hP.keepCell (hc k (by have := HN.out; omega)) (by simp)
      have d1 := hP.keepCell (hc ((k - 1) / 2) (by have := HN.out; omega)) (by simp)
      obtain ⟨x, hx⟩ : ∃ x, x = xs.getD k 0 := ⟨_, rfl⟩
      obtain ⟨y, hy⟩ : ∃ y, y = xs.getD ((k - 1) / 2) 0 := ⟨_, rfl⟩
      rw [← hx] at c0 d0
      rw [← hy] at c1 d1
      have HX := Lib.hid hx
      have HY := Lib.hid hy
      have e1 : ((k : Int) - 1) / 2 = (((k - 1) / 2 : Nat) : Int) := by omega
      obtain ⟨p, hp⟩ : ∃ p, p = (k - 1) / 2 := ⟨_, rfl⟩
      rw [← hp] at c1 d1 e1
      have hpn : p < n := by omega
      have hk1' : (1 : Int) ≤ k := by omega
      clear hc hx hy hp hP
      by_cases hle : y ≤ x
      · go_wp2_with fail
        go_quiet (fail)
        go_wp2_with fail
        go_roundw
        case rel =>
          refine ⟨k + 1, by omega, by omega, by go_num, P.out.drewN _, fun i g1 g2 g3 => ?_⟩
          rcases Nat.lt_or_ge i k with g | g
          · exact HA.out i g1 g g3
          · obtain rfl : i = k := by omega
            rw [← HX.out, ← HY.out]
            exact hle
        case measure => simp [intOf] <;> omega
      · have hlt2 : x < y := by omega
        go_wp2_with fail
        go_quiet (fail)
        go_wp2_with fail
        go_ret
        refine ⟨false, rfl, ⟨fun e => (by cases e), fun hh => ?_⟩, P.out.drewN _⟩
        exact absurd hh (heap_fail hk1 (by rw [← HN.out]; exact hlt) (by rw [← HX.out, ← HY.out]; exact hlt2))
    · have hlt' : (n : Int) ≤ (k : Int) := by omega
      clear hP
      go_wp2_with fail
      go_ret
      exact ⟨true, rfl, ⟨fun _ i g1 g2 => HA.out i g1 (by have := HN.out; omega) g2, fun _ => rfl⟩, P.out⟩

set_option maxRecDepth 100000 in
theorem refValid_any (w : World) (v : Value) (xs : List Int) (h : Sl w v xs) (hn : xs.length ≤ 1000000) :
    Calls Try.prog 19 #[v] w (ValidEnd w xs) := by
  obtain ⟨ao, cap, rfl, h1, h2, h3⟩ := h
  obtain ⟨n, hnn⟩ : ∃ n, n = xs.length := ⟨_, rfl⟩
  rw [← hnn] at hn ⊢
  have HN := Lib.hid hnn
  have H1 := Lib.hid h1
  clear h1 h2 h3 hnn
  go_enter Try.func19, Try.ntmps19
  go_wp2_with fail
  go_loopw [3] (fun i wr => ∃ k : Nat, 1 ≤ k ∧ (k ≤ n ∨ k = 1) ∧ i = .int .i64 k ∧ Only [] w wr ∧ ∀ i, 1 ≤ i → i < k → i < xs.length → xs.getD ((i - 1) / 2) 0 ≤ xs.getD i 0) (fun i _ => n - (intOf i).toNat)
  case atStart => exact ⟨1, by omega, .inr rfl, rfl, Only.refl _ _, fun i h1 h2 => by omega⟩
  case round =>
    obtain ⟨k, hk1, hk, rfl, hP, hall⟩ := hrel
    have P := Lib.hid hP
    have HA := Lib.hid hall
    clear hall
    by_cases hlt : k < n
    · obtain ⟨b, off, rfl, hc⟩ := H1.out.ints (by have := HN.out; omega)
      have c0 := fun (q : Nat) => (hP.drewN q).keepCell (hc k (by have := HN.out; omega)) (by simp)
      have c1 := fun (q : Nat) => (hP.drewN q).keepCell (hc ((k - 1) / 2) (by have := HN.out; omega)) (by simp)
      have d0 := hP.keepCell (hc k (by have := HN.out; omega)) (by simp)
      have d1 := hP.keepCell (hc ((k - 1) / 2) (by have := HN.out; omega)) (by simp)
      obtain ⟨x, hx⟩ : ∃ x, x = xs.getD k 0 := ⟨_, rfl⟩
      obtain ⟨y, hy⟩ : ∃ y, y = xs.getD ((k - 1) / 2) 0 := ⟨_, rfl⟩
      rw [← hx] at c0 d0
      rw [← hy] at c1 d1
      have HX := Lib.hid hx
      have HY := Lib.hid hy
      have e1 : ((k : Int) - 1) / 2 = (((k - 1) / 2 : Nat) : Int) := by omega
      obtain ⟨p, hp⟩ : ∃ p, p = (k - 1) / 2 := ⟨_, rfl⟩
      rw [← hp] at c1 d1 e1
      have hpn : p < n := by omega
      have hk1' : (1 : Int) ≤ k := by omega
      clear hc hx hy hp hP
      by_cases hle : y ≤ x
      · go_wp2_with fail
        go_quiet (fail)
        go_wp2_with fail
        go_roundw
        case rel =>
          refine ⟨k + 1, by omega, by omega, by go_num, P.out.drewN _, fun i g1 g2 g3 => ?_⟩
          rcases Nat.lt_or_ge i k with g | g
          · exact HA.out i g1 g g3
          · obtain rfl : i = k := by omega
            rw [← HX.out, ← HY.out]
            exact hle
        case measure => simp [intOf] <;> omega
      · have hlt2 : x < y := by omega
        go_wp2_with fail
        go_quiet (fail)
        go_wp2_with fail
        go_ret
        refine ⟨false, rfl, ⟨fun e => (by cases e), fun hh => ?_⟩, P.out.drewN _⟩
        exact absurd hh (heap_fail hk1 (by rw [← HN.out]; exact hlt) (by rw [← HX.out, ← HY.out]; exact hlt2))
    · have hlt' : (n : Int) ≤ (k : Int) := by omega
      clear hP
      go_wp2_with fail
      go_ret
      exact ⟨true, rfl, ⟨fun _ i g1 g2 => HA.out i g1 (by have := HN.out; omega) g2, fun _ => rfl⟩, P.out⟩
end Go.Proofs.Ytenamlckhcfflaa
