/- Two equal bare environments with given cells. -/
import Derived.Test.YtlklfpbimoolbaaGreatBareSame
namespace Go.Proofs.YtlklfpbimoolbaaGreat
open Go.RowKit
set_option linter.unusedVariables false

/-- The memory after k cells have been filled. -/
def bareTo (xs : List Int) : Nat → MS
  | 0 => ⟨zeros xs.length, 0, 0, 0, 0, 0⟩
  | k + 1 => (bareTo xs k).acc 2 k (xs.getD k 0)
def bareMS (xs : List Int) : MS := bareTo xs xs.length

theorem bareTo_len (xs : List Int) : ∀ k, (bareTo xs k).cells.length = xs.length
  | 0 => zeros_len _
  | k + 1 => by simp [bareTo, MS.acc, bareTo_len xs k]
theorem bareTo_count (xs : List Int) : ∀ k, (bareTo xs k).count = k
  | 0 => rfl
  | k + 1 => by simp [bareTo, MS.acc, bareTo_count xs k]
theorem bareTo_get (xs : List Int) : ∀ k, k ≤ xs.length → ∀ j, j < k → (bareTo xs k).cells[j]? = xs[j]?
  | 0, _, j, hj => by omega
  | k + 1, h, j, hj => by
    simp only [bareTo, MS.acc]
    by_cases e : j = k
    · subst e
      rw [List.getElem?_set_self (by rw [bareTo_len]; omega), List.getD_eq_getElem?_getD, List.getElem?_eq_getElem (by omega)]
      rfl
    · rw [List.getElem?_set_ne (by omega)]
      exact bareTo_get xs k (by omega) j (by omega)
theorem bareMS_cells (xs : List Int) : (bareMS xs).cells = xs := by
  apply List.ext_getElem?
  intro j
  rcases Nat.lt_or_ge j xs.length with h | h
  · exact bareTo_get xs _ (Nat.le_refl _) j h
  · rw [List.getElem?_eq_none (by unfold bareMS; rw [bareTo_len]; exact h), List.getElem?_eq_none h]
theorem bareMS_count (xs : List Int) : (bareMS xs).count = xs.length := bareTo_count xs _

/-- Both environments, and that they lie apart. -/
structure Both (w : World) (en m bc ck r rc : Nat) (s : MS) (now : Int) : Prop where
  ee : EnvAt w en m bc ck s now
  rr : REnvAt w r rc s now
  d1 : en ≠ r ∧ en ≠ rc
  d2 : m ≠ r ∧ m ≠ rc
  d3 : bc ≠ r ∧ bc ≠ rc
  d4 : ck ≠ r ∧ ck ≠ rc

theorem Both.keep0 {w w' : World} {en m bc ck r rc : Nat} {s : MS} {now : Int} (h : Both w en m bc ck r rc s now) (o : Only [] w w') : Both w' en m bc ck r rc s now :=
  ⟨h.ee.keep0 o, RMemAt.keep h.rr o (by simp) (by simp), h.d1, h.d2, h.d3, h.d4⟩

theorem REnvAt.slice {w : World} {r rc : Nat} {s : MS} {now : Int} (h : REnvAt w r rc s now) : ∃ a cap, w.cell? ⟨r, 11, none⟩ = some (.slice (some a) s.cells.length cap) ∧ s.cells.length ≤ cap ∧ cap ≤ 9223372036854775807 := by
  obtain ⟨v, h1, h2, h6, h7⟩ := h
  obtain ⟨a, cap, rfl, hc, hcap, hcap2⟩ := h2.cells
  refine ⟨a, cap, ?_, by simpa using hcap, hcap2⟩
  have c11 := cell_blk h1 11
  simp [cfg0, renvPost] at c11
  exact c11

set_option maxRecDepth 100000 in
set_option maxHeartbeats 1000000 in
theorem bare_any (w : World) (ao : Option Addr) (cap n : Nat) (xs : List Int) (hx : CellsAt w ao (xs.map (.int .u64))) (hxn : n = xs.length) (hn : n ≤ 1000) :
    Calls Tryz.prog 14 #[.slice ao n cap] w fun e w' => ∃ en m bc ck r rc, e = .returned (.tuple #[.pointer (some ⟨en, 0, none⟩), .pointer (some ⟨r, 0, none⟩), .bool true]) ∧ Only [] w w' ∧ Both w' en m bc ck r rc (bareMS xs) 0 ∧
      (w.heap.size ≤ en ∧ w.heap.size ≤ m ∧ w.heap.size ≤ bc ∧ w.heap.size ≤ ck ∧ w.heap.size ≤ r ∧ w.heap.size ≤ rc) ∧ (en < w'.heap.size ∧ m < w'.heap.size ∧ bc < w'.heap.size ∧ ck < w'.heap.size ∧ r < w'.heap.size ∧ rc < w'.heap.size) := by
  have HX := Lib.hid hx
  have HXN := Lib.hid hxn
  have RB := fun w => Lib.hid (refBare_any w n n rfl (by omega))
  have MB := fun w => Lib.hid (machBare_any w n n rfl (by omega))
  clear hx hxn
  go_enter Tryz.func14, Tryz.ntmps14
  go_wp2_with fail
  refine (RB _).out.mono ?_; rintro e w1 ⟨r, rc, rfl, o1, h1, l1, l2, l3, l4⟩
  have O1 := Lib.hid o1
  have R1 := Lib.hid h1
  clear o1 h1 RB
  go_wp2_with fail
  refine (MB _).out.mono ?_; rintro e w2 ⟨en, m, bc, ck, rfl, o2, h2, l5, l6, l7, l8, l9, l10, l11, l12⟩
  have O2 := Lib.hid o2
  have E2 := Lib.hid h2
  have R2 := Lib.hid (RMemAt.keep R1.out o2 (by simp) (by simp))
  have s1 := O1.out.size
  have s2 := O2.out.size
  have e22 := h2.mem
  have e23 := h2.clk
  obtain ⟨ra, rcap, c11, hrc1, hrc2⟩ := REnvAt.slice R2.out
  simp only [zeros_len] at c11 hrc1
  have SZ := fun w h => Lib.hid (show Calls Tryz.prog 38 #[.pointer (some ⟨m, 0, none⟩)] w fun e w' => e = .returned (.int .i64 n) ∧ w' = w from (memSize_any w m bc ⟨zeros n, 0, 0, 0, 0, 0⟩ h).mono fun _ _ h => ⟨by rw [h.1]; simp [zeros_len], h.2.symm⟩)
  have SZ2 := fun q => SZ (w2.drewN q) h2.mm
  clear o2 h2 MB SZ
  go_wp2_with fail
  go_quiet ((go_at_call 38; exact Calls.quiet_of_same (SZ2 _).out))
  generalize hw3 : w2.drewN nq = w3
  have O3 : Hid (Only [] w w3) := Lib.hid ((O1.out.then0 O2.out).then0 (hw3 ▸ (Only.refl _ _).drewN _))
  have o23 : Only [] w2 w3 := hw3 ▸ (Only.refl _ _).drewN _
  have B3 : Hid (Both w3 en m bc ck r rc (bareTo xs 0) 0) := Lib.hid (by
    have hz : bareTo xs 0 = ⟨zeros n, 0, 0, 0, 0, 0⟩ := by rw [HXN.out]; rfl
    rw [hz]
    exact ⟨E2.out.keep0 o23, RMemAt.keep R2.out o23 (by simp) (by simp), by omega, by omega, by omega, by omega⟩)
  have d3 : w2.heap.size ≤ w3.heap.size := o23.size
  clear hw3 o23 e22 e23 c11 SZ2 E2 R2 R1
  go_wp2_with fail
  go_loopw [7] (fun i wr => ∃ k : Nat, k ≤ n ∧ i = .int .i64 k ∧ Both wr en m bc ck r rc (bareTo xs k) 0 ∧ Only [] w wr ∧ w3.heap.size ≤ wr.heap.size) (fun i _ => n - (intOf i).toNat)
  case atStart => exact ⟨0, Nat.zero_le _, rfl, B3.out, O3.out, Nat.le_refl _⟩
  case round =>
    obtain ⟨k, hk, rfl, hB, hP, hsz⟩ := hrel
    have B := Lib.hid hB
    have P := Lib.hid hP
    obtain ⟨ra2, rcap2, c11, hrc3, hrc4⟩ := REnvAt.slice hB.rr
    have hlen := bareTo_len xs k
    rw [← HXN.out] at hlen
    rw [hlen] at c11 hrc3
    have HLEN := Lib.hid hlen
    have e22 := hB.ee.mem
    clear hB hP hlen
    by_cases hlt : k < n
    · obtain ⟨b, off, rfl, hcl⟩ := HX.out.ints (by have := HXN.out; omega)
      have hcell : wr.cell? ⟨b, off + k, none⟩ = some (.int .u64 (xs.getD k 0)) := P.out.keepCell (hcl k (by have := HXN.out; omega)) (by simp)
      have HCL := Lib.hid hcl
      obtain ⟨z, hz⟩ : ∃ z, z = xs.getD k 0 := ⟨_, rfl⟩
      rw [← hz] at hcell
      have HZ := Lib.hid hz
      have e0 : (bareTo xs k).cells[k]'(by rw [HLEN.out]; exact hlt) = (bareTo xs k).cells[k]'(by rw [HLEN.out]; exact hlt) := rfl
      have hcnt := bareTo_count xs k
      have HCNT := Lib.hid hcnt
      clear hcl hz e0 hcnt
      go_wp2_with fail
      go_still_tail 8, (by kernel_rfl)
      change wpList _ _ _ _ _ wr.drew
      go_wp2_with fail
      refine (refAcc2_in wr.drew 91 r 11 rc cfg0 (renvPost 0) (bareTo xs k) k k rfl _ z 0 (RMemAt.keep B.out.rr (Only.refl [] wr).drew (by simp) (by simp)) rfl (by rw [HLEN.out]; exact hlt) rfl (by rw [HCNT.out]; omega)).mono ?_; rintro e w5 ⟨rfl, o5, h5⟩
      have O5 : Hid (Only [r, rc] wr w5) := Lib.hid o5.undrew
      have R5 := Lib.hid h5
      have E5 := Lib.hid (B.out.ee.keep O5.out (by have := B.out.d1; simp; omega) (by have := B.out.d2; simp; omega) (by have := B.out.d3; simp; omega) (by have := B.out.d4; simp; omega))
      have P5 : Hid (Only [] w w5) := Lib.hid (P.out.trans O5.out (by simp; omega))
      have hcell5 : w5.cell? ⟨b, off + k, none⟩ = some (.int .u64 z) := by rw [HZ.out]; exact P5.out.keepCell (HCL.out k (by have := HXN.out; omega)) (by simp)
      have e22 := E5.out.mem
      have ls5 := O5.out.size
      clear o5 h5 hcell c11
      go_wp2_with fail
      go_still_tail 9, (by kernel_rfl)
      change wpList _ _ _ _ _ w5.drew
      go_wp2_with fail
      refine (memStore_in w5.drew m bc (bareTo xs k) k k rfl _ z E5.out.drew.mm (by rw [HLEN.out]; exact hlt) rfl (by rw [HCNT.out]; omega)).mono ?_; rintro e w6 ⟨rfl, o6, h6⟩
      have O6 : Hid (Only [m, bc] w5 w6) := Lib.hid o6.undrew
      have ls6 := O6.out.size
      have B6 : Hid (Both w6 en m bc ck r rc (bareTo xs (k + 1)) 0) := Lib.hid (by
        have hz : bareTo xs (k + 1) = (bareTo xs k).acc 2 k z := by rw [HZ.out]; rfl
        rw [hz]
        have hd1 := B.out.d1
        have hd2 := B.out.d2
        have hd3 := B.out.d3
        have hd4 := B.out.d4
        have E := E5.out
        refine ⟨⟨O6.out.keep E.e (by have := E.em; have := E.ec; simp; omega), O6.out.keep E.c (by have := E.km; have := E.kc; simp; omega), h6, E.em, E.ec, E.ek, E.km, E.kc⟩, RMemAt.keep R5.out O6.out (by simp; omega) (by simp; omega), hd1, hd2, hd3, hd4⟩)
      have P6 : Hid (Only [] w w6) := Lib.hid (P5.out.trans O6.out (by simp; omega))
      clear o6 h6 hcell5 e22
      go_wp2_with fail
      go_roundw
      case rel => exact ⟨k + 1, by omega, by go_num, B6.out, P6.out, by omega⟩
      case measure => simp [intOf]; omega
    · obtain rfl : k = n := by omega
      have BS : Hid (Both wr en m bc ck r rc (bareMS xs) 0) := Lib.hid (by have := B.out; rwa [HXN.out] at this)
      have SM := Lib.hid (same_env wr en m bc ck r rc (bareMS xs) 0 BS.out.ee BS.out.rr (by rw [bareMS_cells, ← HXN.out]; omega))
      go_wp2_with fail
      refine SM.out.mono ?_; rintro e w5 ⟨rfl, o5⟩
      have ls5 := o5.size
      have B5 := Lib.hid (BS.out.keep0 o5)
      have P5 := Lib.hid (P.out.then0 o5)
      clear o5
      go_wp2_with fail
      go_ret3
      exact ⟨en, m, bc, ck, r, rc, rfl, P5.out, B5.out, by omega, by omega⟩
end Go.Proofs.YtlklfpbimoolbaaGreat
