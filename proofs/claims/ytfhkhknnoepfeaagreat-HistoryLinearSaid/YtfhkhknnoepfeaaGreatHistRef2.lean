/- The reference's 'apply', walked: an entry that is taken. -/
import Derived.Test.YtfhkhknnoepfeaaGreatHistRef1
import Derived.Deep.QuietTactic
import Derived.BigQuiet
namespace Go.Proofs.YtfhkhknnoepfeaaGreat
open Go.RowKit
set_option linter.unusedVariables false

set_option maxRecDepth 100000 in
set_option maxHeartbeats 4000000 in
theorem refApply_take (w : World) (o : HOp) (v : Value) (l : List Int) (cap : Int) (hv : Ns w v l) (hl : l.length ≤ 1000) (hf : o.formed = true) (h0 : ¬ o.code = 0) (h3 : ¬ o.code = 3) (h2 : ¬ o.code = 2) (h4 : ¬ o.code = 4) (hne : ¬ l = []) :
    Calls Tryz.prog 37 #[o.v, v, .int .i64 cap] w (RApp w o l cap) := by
  have HV := Lib.hid hv
  obtain ⟨ao, c, rfl, hc, hno, hcap⟩ := hv
  obtain ⟨m, hm⟩ : ∃ m, l.length = m + 1 := ⟨l.length - 1, by have := List.length_pos_iff.2 hne; omega⟩
  have ACT : Hid (o.act l cap = if o.kind = 1 then if l.getLastD 0 = o.value then some l.dropLast else none else if l.headD 0 = o.value then some l.tail else none) := Lib.hid (by unfold HOp.act; rw [if_neg h0, if_neg h3, if_neg h2, if_neg h4, if_neg hne])
  obtain ⟨b, off, rfl, hcs⟩ := hc.ints (by omega)
  have hlast := hcs m (by omega)
  have hfirst := hcs 0 (by omega)
  have eL : l.getLastD 0 = l.getD m 0 := by
    rw [List.getLastD_eq_getLast?, List.getLast?_eq_getElem?, hm, List.getD_eq_getElem?_getD]
    simp
  have eF : l.headD 0 = l.getD 0 0 := by cases l with
    | nil => exact absurd rfl hne
    | cons x r => rfl
  obtain ⟨x, hx⟩ : ∃ x, x = l.getD m 0 := ⟨_, rfl⟩
  obtain ⟨y, hy⟩ : ∃ y, y = l.getD 0 0 := ⟨_, rfl⟩
  rw [eL, eF] at ACT
  rw [← hx] at hlast ACT
  rw [← hy] at hfirst ACT
  obtain ⟨k0, m0, f0, t0, d0, v0⟩ := o
  simp only at h0 h3 h2 h4 ACT
  have g0 : (d0 == 0) = false := by simp [h0]
  have g3 : (d0 == 3) = false := by simp [h3]
  have g2 : (d0 == 2) = false := by simp [h2]
  have g4 : (d0 == 4) = false := by simp [h4]
  rw [hm] at HV hl hcap ⊢
  simp only [HOp.v]
  have hmz : (((m + 1 : Nat) : Int) == 0) = false := by simp; omega
  clear hf h0 h3 h2 h4 hne hc hno hcs eL eF hx hy
  by_cases hk : k0 = 1
  · subst hk
    obtain ⟨fits, hfits⟩ : ∃ fits, fits = (x == v0) := ⟨_, rfl⟩
    have HF := Lib.hid hfits
    have hF := hfits.symm
    have ACT2 : Hid ((⟨1, m0, f0, t0, d0, v0⟩ : HOp).act l cap = if x = v0 then some l.dropLast else none) := Lib.hid (by rw [ACT.out, if_pos rfl])
    clear hfits ACT hm
    go_enter Tryz.func37, Tryz.ntmps37
    go_wp2_with fail
    obtain ⟨w1, hw1⟩ : ∃ w1, w1 = w.alloc (.cells #[.int .i64 1, .int .i64 m0, .int .i64 f0, .int .i64 t0, .int .i64 d0, .int .i64 v0] 36) := ⟨_, rfl⟩
    obtain ⟨ob, hob⟩ : ∃ ob, ob = w.heap.size := ⟨_, rfl⟩
    have o1 : Only [] w w1 := by rw [hw1]; exact (Only.refl _ _).alloc _
    have B1 : w1.heap[ob]? = some (.cells #[.int .i64 1, .int .i64 m0, .int .i64 f0, .int .i64 t0, .int .i64 d0, .int .i64 v0] 36 (0, 0)) := by rw [hw1, hob]; exact blk_alloc_new w _
    rw [← hw1, ← hob]
    have c5 : ∀ q, (w1.drewN q).cell? ⟨ob, 5, none⟩ = some (.int .i64 v0) := fun q => by
      have h := cell_blk B1 5
      simpa using h
    have cl : ∀ q, (w1.drewN q).cell? ⟨b, off + m, none⟩ = some (.int .i64 x) := fun q => (o1.drewN q).keepCell hlast (by simp)
    have hm0 : (0 : Int) ≤ m := by omega
    have O1 := Lib.hid o1
    clear hw1 hob o1 B1 hlast hfirst
    go_quiet (fail)
    go_wp2_with fail
    go_ret2
    refine ⟨_, m, c, fits, rfl, O1.out.drewN _, ?_⟩
    rw [ACT2.out]
    cases fits with
    | true => exact .inl ⟨rfl, _, if_pos (by have := HF.out.symm; simpa using this), by have h := (HV.out.keep (O1.out.drewN nq)).init; simpa using h⟩
    | false => exact .inr ⟨rfl, if_neg (by have := HF.out.symm; simpa using this)⟩
  · have hk' : (k0 == 1) = false := by simp [hk]
    obtain ⟨fits, hfits⟩ : ∃ fits, fits = (y == v0) := ⟨_, rfl⟩
    have HF := Lib.hid hfits
    have hF := hfits.symm
    have ACT2 : Hid ((⟨k0, m0, f0, t0, d0, v0⟩ : HOp).act l cap = if y = v0 then some l.tail else none) := Lib.hid (by rw [ACT.out, if_neg hk])
    rw [Nat.add_zero] at hfirst
    clear hfits ACT hm hk
    go_enter Tryz.func37, Tryz.ntmps37
    go_wp2_with fail
    obtain ⟨w1, hw1⟩ : ∃ w1, w1 = w.alloc (.cells #[.int .i64 k0, .int .i64 m0, .int .i64 f0, .int .i64 t0, .int .i64 d0, .int .i64 v0] 36) := ⟨_, rfl⟩
    obtain ⟨ob, hob⟩ : ∃ ob, ob = w.heap.size := ⟨_, rfl⟩
    have o1 : Only [] w w1 := by rw [hw1]; exact (Only.refl _ _).alloc _
    have B1 : w1.heap[ob]? = some (.cells #[.int .i64 k0, .int .i64 m0, .int .i64 f0, .int .i64 t0, .int .i64 d0, .int .i64 v0] 36 (0, 0)) := by rw [hw1, hob]; exact blk_alloc_new w _
    rw [← hw1, ← hob]
    have c5 : ∀ q, (w1.drewN q).cell? ⟨ob, 5, none⟩ = some (.int .i64 v0) := fun q => by
      have h := cell_blk B1 5
      simpa using h
    have cl : ∀ q, (w1.drewN q).cell? ⟨b, off, none⟩ = some (.int .i64 y) := fun q => (o1.drewN q).keepCell hfirst (by simp)
    have hm0 : (0 : Int) ≤ m := by omega
    have O1 := Lib.hid o1
    clear hw1 hob o1 B1 hlast hfirst
    by_cases hc1 : c = 1
    · subst hc1
      obtain rfl : m = 0 := by omega
      go_quiet (fail)
      go_wp2_with fail
      go_ret2
      refine ⟨_, _, _, fits, rfl, O1.out.drewN _, ?_⟩
      rw [ACT2.out]
      cases fits with
      | true => exact .inl ⟨rfl, _, if_pos (by have := HF.out.symm; simpa using this), (HV.out.keep (O1.out.drewN nq)).tail _ (.inl rfl)⟩
      | false => exact .inr ⟨rfl, if_neg (by have := HF.out.symm; simpa using this)⟩
    · obtain ⟨c', rfl⟩ : ∃ c', c = c' + 2 := ⟨c - 2, by omega⟩
      go_quiet (fail)
      go_wp2_with fail
      go_ret2
      refine ⟨_, _, _, fits, rfl, O1.out.drewN _, ?_⟩
      rw [ACT2.out]
      cases fits with
      | true => exact .inl ⟨rfl, _, if_pos (by have := HF.out.symm; simpa using this), by have h := (HV.out.keep (O1.out.drewN nq)).tail _ (.inr rfl); simpa using h⟩
      | false => exact .inr ⟨rfl, if_neg (by have := HF.out.symm; simpa using this)⟩

theorem refApply_any (w : World) (o : HOp) (v : Value) (l : List Int) (cap : Int) (hv : Ns w v l) (hl : l.length ≤ 1000) (hf : o.formed = true) :
    Calls Tryz.prog 37 #[o.v, v, .int .i64 cap] w (RApp w o l cap) := by
  by_cases h0 : o.code = 0
  · exact refApply_fine w o v l cap hv hl h0
  · by_cases hs : o.code = 3 ∨ o.code = 2 ∨ o.code = 4 ∨ l = []
    · exact refApply_rest w o v l cap hv hl h0 hf hs
    · exact refApply_take w o v l cap hv hl hf h0 (fun e => hs (.inl e)) (fun e => hs (.inr (.inl e))) (fun e => hs (.inr (.inr (.inl e)))) (fun e => hs (.inr (.inr (.inr e))))
end Go.Proofs.YtfhkhknnoepfeaaGreat
