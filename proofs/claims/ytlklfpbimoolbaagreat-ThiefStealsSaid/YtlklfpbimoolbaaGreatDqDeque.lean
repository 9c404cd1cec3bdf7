/- The cells of a deque, made. -/
import Derived.Test.YtlklfpbimoolbaaGreatDqKeep
import Derived.Test.YtlklfpbimoolbaaGreatDequeSeq
namespace Go.Proofs.YtlklfpbimoolbaaGreat
open Go.RowKit
set_option linter.unusedVariables false

/-- The place of index i in a ring of c cells behind the first two. -/
def plc (c : Nat) (i : Int) : Nat := 2 + (IntKind.u64.wrap i % c).toNat
/-- The cells of a deque: its indices begin with first, it has size entries; k of them have been laid. -/
def deqTo (c : Nat) (first : Int) (size : Nat) (f : Nat → Int) : Nat → List Int
  | 0 => ((zeros (c + 3)).set 0 first).set 1 (IntKind.u64.wrap (first + size))
  | k + 1 => (deqTo c first size f k).set (plc c (first + k)) (f k)
theorem deqTo_len (c : Nat) (first : Int) (size : Nat) (f : Nat → Int) : ∀ k, (deqTo c first size f k).length = c + 3
  | 0 => by simp [deqTo, zeros]
  | k + 1 => by simp [deqTo, deqTo_len c first size f k]
theorem plc_lt {c : Nat} (h : 1 ≤ c) (i : Int) : plc c i < c + 2 := by
  unfold plc
  have h1 := Int.emod_lt_of_pos (IntKind.u64.wrap i) (show (0 : Int) < c by omega)
  have h2 := Int.emod_nonneg (IntKind.u64.wrap i) (show (c : Int) ≠ 0 by omega)
  omega
theorem plc_ring {c : Nat} (h : 1 ≤ c) (i : Int) : ringI ⟨0, 1, 2, c⟩ (IntKind.u64.wrap i) = ((plc c i : Nat) : Int) := by
  unfold ringI plc
  simp only
  rw [if_neg (by omega)]
  have h2 := Int.emod_nonneg (IntKind.u64.wrap i) (show (c : Int) ≠ 0 by omega)
  omega
theorem deqTo_bd {c : Nat} {first : Int} {size : Nat} {f : Nat → Int} (h0 : 0 ≤ first ∧ first ≤ 18446744073709551615) (hf : ∀ k, 0 ≤ f k ∧ f k ≤ 18446744073709551615) : ∀ k, ∀ x ∈ deqTo c first size f k, 0 ≤ x ∧ x ≤ 18446744073709551615
  | 0, x, hx => by
    simp only [deqTo] at hx
    rcases List.mem_or_eq_of_mem_set hx with h | h
    · rcases List.mem_or_eq_of_mem_set h with h | h
      · rw [zeros_mem h]; omega
      · rw [h]; exact h0
    · rw [h]; exact wrap_u_bd _
  | k + 1, x, hx => by
    simp only [deqTo] at hx
    rcases List.mem_or_eq_of_mem_set hx with h | h
    · exact deqTo_bd h0 hf k x h
    · rw [h]; exact hf k

theorem RowAt.store {w : World} {v : Value} {b : Nat} {T : TypeId} {xs : List Value} (h : RowAt w v b T xs) {j : Nat} (hj : j < xs.length) (x : Value) : RowAt (w.setCell ⟨b, j, none⟩ x) v b T (xs.set j x) := by
  obtain ⟨cap, e, h1, h2, h3, h4, h5⟩ := h.at (by omega)
  exact h5 j x _ hj rfl
theorem RowAt.spot {w : World} {v : Value} {b : Nat} {T : TypeId} {xs : List Value} (h : RowAt w v b T xs) {j : Nat} (hj : j < xs.length) : w.cell? ⟨b, j, none⟩ = some xs[j] ∧ w.frozen? ⟨b, j, none⟩ = false := by
  obtain ⟨cap, e, h1, h2, h3, h4, h5⟩ := h.at (by omega)
  exact ⟨h3 j hj, h4 j⟩

/-- The entries' numbers. -/
def entZ (vs : List Int) (k : Nat) : Int := numZ vs k 1000
theorem entZ_bd (vs : List Int) (k : Nat) : 0 ≤ entZ vs k ∧ entZ vs k < 1000 := numZ_bd vs k (by omega)

set_option maxRecDepth 100000 in
set_option maxHeartbeats 1000000 in
theorem deque_any (w : World) (c size : Nat) (first : Int) (v : Value) (vs : List Int) (hc1 : 1 ≤ c) (hc2 : c ≤ 100) (hsz : size ≤ c) (hf : 0 ≤ first ∧ first ≤ 18446744073709551615) (hv : Ns w v vs) (hvl : vs.length ≤ 1000) :
    Calls Tryz.prog 21 #[.int .i64 c, .int .u64 first, .int .i64 size, v] w fun e w' => ∃ ao cap, e = .returned (.slice ao (c + 3) cap) ∧ Only [] w w' ∧ CellsAt w' ao ((deqTo c first size (entZ vs) size).map (.int .u64)) := by
  obtain ⟨i0, hi, hz0, hz1, hz2⟩ := info_parts info64
  obtain ⟨hf0, hf1⟩ := hf
  have HV := Lib.hid hv
  have HVL := Lib.hid hvl
  have HC3 := Lib.hid (show (c : Int) + 3 = ((c + 3 : Nat) : Int) from by omega)
  clear hv hvl
  go_enter Tryz.func21, Tryz.ntmps21
  go_wp2_with (at_make; refine wpList_make_full _ rfl _ _ 22 rfl w.heap.size 40 i0 (.int .u64 0) 1 Tryz.underlying22 hi hz0 hz1 .i64 .i64 _ _ (c + 3) rfl rfl HC3.out HC3.out (by rw [hz2]; omega) (by unfold maxLen; omega) (by simp) ?_)
  intro w1 hown hgrow
  obtain ⟨hr, hb, hb2⟩ := rowAt_of_owns2 hown
  rw [toList_madeCells_one] at hr
  have o1 : Only [] w w1 := (Only.refl [] _).grown hgrow (by simp)
  have R1 := Lib.hid hr
  have s0 := (hr.spot (j := 0) (by simp)).1
  have s1 := (hr.spot (j := 1) (by simp)).1
  have f0 := (hr.spot (j := 0) (by simp)).2
  have f1 := (hr.spot (j := 1) (by simp)).2
  simp at s0 s1
  obtain ⟨B, hB⟩ : ∃ B, B = w.heap.size := ⟨_, rfl⟩
  rw [← hB] at s0 s1 f0 f1 R1 hb2 ⊢
  have HB := Lib.hid hB
  have O1 := Lib.hid o1
  have hw1 : IntKind.u64.wrap (size : Int) = size := by rw [IntKind.wrap_u64]; omega
  clear hown hgrow hr o1 hB hb
  go_wp2_with fail
  obtain ⟨w2, hw2⟩ : ∃ w2, w2 = (w1.setCell ⟨B, 0, none⟩ (.int .u64 first)).setCell ⟨B, 1, none⟩ (.int .u64 (IntKind.u64.wrap (first + size))) := ⟨_, rfl⟩
  have R2 : Hid (RowAt w2 (.slice (some ⟨B, 0, none⟩) (c + 3) (c + 3)) B 40 ((deqTo c first size (entZ vs) 0).map (.int .u64))) := Lib.hid (by
    rw [hw2]
    have h2 := (R1.out.store (j := 0) (by simp) (.int .u64 first)).store (j := 1) (by simp) (.int .u64 (IntKind.u64.wrap (first + size)))
    have e : (deqTo c first size (entZ vs) 0).map (Value.int .u64) = ((List.replicate (c + 3) (Value.int .u64 0)).set 0 (.int .u64 first)).set 1 (.int .u64 (IntKind.u64.wrap (first + size))) := by
      simp only [deqTo, zeros, List.map_set, List.map_replicate]
    rw [e]
    exact h2)
  have O2 : Hid (Only [] w w2) := Lib.hid (by
    rw [hw2]
    exact O1.out.trans (((Only.refl [B] w1).setCell (by simp) _).setCell (by simp) _) (by simp; rw [HB.out]; exact Nat.le_refl _))
  have hs2 : B < w2.heap.size := by rw [hw2]; simp [World.setCell]; exact hb2
  rw [← hw2]
  clear hw2 s0 s1 f0 f1 R1 O1 hb2
  go_wp2_with fail
  go_loopw [10] (fun i wr => ∃ k : Nat, k ≤ size ∧ i = .int .i64 k ∧ RowAt wr (.slice (some ⟨B, 0, none⟩) (c + 3) (c + 3)) B 40 ((deqTo c first size (entZ vs) k).map (.int .u64)) ∧ Only [] w wr) (fun i _ => size - (intOf i).toNat)
  case atStart => exact ⟨0, Nat.zero_le _, rfl, R2.out, O2.out⟩
  case round =>
    obtain ⟨k, hk, rfl, hR, hO⟩ := hrel
    have R := Lib.hid hR
    have O := Lib.hid hO
    clear hR hO
    by_cases hlt : k < size
    · have RG := fun w => Lib.hid (ring_any w ⟨0, 1, 2, c⟩ (IntKind.u64.wrap (first + k)) (wrap_u_bd _).1 (wrap_u_bd _).2 (by simp) (by simp only; omega))
      have hpl := plc_lt hc1 (first + k)
      rw [plc_ring hc1] at RG
      obtain ⟨j, hj⟩ : ∃ j, j = plc c (first + k) := ⟨_, rfl⟩
      rw [← hj] at RG hpl
      have HJ := Lib.hid hj
      have NB := fun w h => Lib.hid (number_any w v vs k 1000 h (by omega) (by have := HVL.out; omega) (by omega))
      have hz := entZ_bd vs k
      rw [show numZ vs k 1000 = entZ vs k from rfl] at NB
      obtain ⟨z, hz2⟩ : ∃ z, z = entZ vs k := ⟨_, rfl⟩
      rw [← hz2] at NB hz
      have HZ := Lib.hid hz2
      obtain ⟨hz3, hz4⟩ := hz
      clear hj hz2
      have hwk : IntKind.u64.wrap (k : Int) = k := by rw [IntKind.wrap_u64]; omega
      go_wp2_with fail
      refine (queue_any _ c).mono ?_; rintro e w3 ⟨rfl, o3⟩
      have O3 := Lib.hid (O.out.then0 o3)
      have R3 := Lib.hid (R.out.keep o3 (by simp))
      clear o3
      simp only [Q4.v]
      go_wp2_with fail
      refine (RG _).out.mono ?_; rintro e w4 ⟨rfl, o4⟩
      have O4 := Lib.hid (O3.out.then0 o4)
      have R4 := Lib.hid (R3.out.keep o4 (by simp))
      clear o4
      go_wp2_with fail
      refine (NB _ (HV.out.keep O4.out)).out.mono ?_; rintro e w5 ⟨rfl, o5⟩
      have O5 := Lib.hid (O4.out.then0 o5)
      have R5 := Lib.hid (R4.out.keep o5 (by simp))
      clear o5
      have hlen : j < ((deqTo c first size (entZ vs) k).map (Value.int .u64)).length := by rw [List.length_map, deqTo_len]; omega
      have s0 := (R5.out.spot hlen).1
      have f0 := (R5.out.spot hlen).2
      have hj3 : j < c + 3 := by omega
      obtain ⟨old, hold⟩ : ∃ old, old = ((deqTo c first size (entZ vs) k).map (Value.int .u64))[j] := ⟨_, rfl⟩
      rw [← hold] at s0
      have HL := Lib.hid hlen
      clear hold hlen
      go_wp2_with fail
      go_roundw
      case rel =>
        refine ⟨k + 1, by omega, by go_num, ?_, O5.out.trans ((Only.refl [B] w5).setCell (by simp) _) (by simp; rw [HB.out]; exact Nat.le_refl _)⟩
        have := R5.out.store HL.out (.int .u64 z)
        simp only [deqTo]
        rw [List.map_set, ← HJ.out, ← HZ.out]
        exact this
      case measure => simp [intOf]; omega
    · obtain rfl : k = size := by omega
      go_wp2_with fail
      go_ret
      obtain ⟨a, cap, e, hc, _⟩ := R.out.cells
      simp at e
      refine ⟨_, _, rfl, O.out, ?_⟩
      rw [e.1]
      exact hc
end Go.Proofs.YtlklfpbimoolbaaGreat
