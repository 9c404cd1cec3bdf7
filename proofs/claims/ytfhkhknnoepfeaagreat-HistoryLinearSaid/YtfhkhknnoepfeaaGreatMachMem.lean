/- The accesses of a memory, wherever the cell lies; the small functions of package core. -/
import Derived.Test.YtfhkhknnoepfeaaGreatDqMeth
import Derived.Test.YtfhkhknnoepfeaaGreatMachPlain
namespace Go.Proofs.YtfhkhknnoepfeaaGreat
open Go.RowKit

theorem MemAt.count0 {w : World} {m bc : Nat} {s : MS} (h : MemAt w m bc s) : 0 ≤ s.count := by
  obtain ⟨_, _, _, _, h⟩ := h
  exact h

theorem put_out {s : MS} {kind c x : Int} (h : ¬ (0 ≤ c ∧ c < s.cells.length)) : s.put kind c x = s := by unfold MS.put; rw [if_neg h]
theorem at_out {s : MS} {c : Int} (h : ¬ (0 ≤ c ∧ c < s.cells.length)) : s.at c = 0 := by unfold MS.at; rw [if_neg h]
theorem put_in {s : MS} {kind c x : Int} (h : 0 ≤ c ∧ c < s.cells.length) : s.put kind c x = s.acc kind c.toNat x := by unfold MS.put; rw [if_pos h]
theorem at_in {s : MS} {c : Int} (h : 0 ≤ c ∧ c < s.cells.length) : s.at c = s.cells[c.toNat]'(by omega) := by
  unfold MS.at; rw [if_pos h, List.getD_eq_getElem?_getD, List.getElem?_eq_getElem (by omega)]; rfl

theorem ld_any (w : World) (m bc : Nat) (s : MS) (c : Int) (h : MemAt w m bc s) (hn : s.count ≤ 4000000000000000000) :
    Calls Tryz.prog 140 #[.pointer (some ⟨m, 0, none⟩), .int .i64 c] w fun e w' => e = .returned (.int .u64 (s.at c)) ∧ Only [m, bc] w w' ∧ MemAt w' m bc (s.put 1 c (s.at c)) := by
  by_cases hc : 0 ≤ c ∧ c < s.cells.length
  · rw [put_in hc, at_in hc]
    exact memLoad_in w m bc s c c.toNat (by omega) _ h (by omega) rfl hn
  · rw [put_out hc, at_out hc]
    exact (memLoad_out w m bc s c h (by omega)).mono fun e w' ⟨a, b⟩ => ⟨a, by rw [← b]; exact Only.refl _ _, by rw [← b]; exact h⟩

theorem st_any (w : World) (m bc : Nat) (s : MS) (c v : Int) (h : MemAt w m bc s) (hn : s.count ≤ 4000000000000000000) :
    Calls Tryz.prog 143 #[.pointer (some ⟨m, 0, none⟩), .int .i64 c, .int .u64 v] w fun e w' => e = .returned (.tuple #[]) ∧ Only [m, bc] w w' ∧ MemAt w' m bc (s.put 2 c v) := by
  by_cases hc : 0 ≤ c ∧ c < s.cells.length
  · rw [put_in hc]
    exact (memStore_in w m bc s c c.toNat (by omega) _ v h (by omega) rfl hn)
  · rw [put_out hc]
    exact (memStore_out w m bc s c v h (by omega)).mono fun e w' ⟨a, b⟩ => ⟨a, b.mono (by simp), h.keep b (by simp) (by simp)⟩

theorem cas_any (w : World) (m bc : Nat) (s : MS) (c o v : Int) (h : MemAt w m bc s) (hn : s.count ≤ 4000000000000000000) :
    Calls Tryz.prog 151 #[.pointer (some ⟨m, 0, none⟩), .int .i64 c, .int .u64 o, .int .u64 v] w fun e w' => e = .returned (.bool (s.has c && s.at c == o)) ∧ Only [m, bc] w w' ∧ MemAt w' m bc (s.put 3 c (casB (s.at c) o v)) := by
  by_cases hc : 0 ≤ c ∧ c < s.cells.length
  · rw [put_in hc, at_in hc]
    have e : s.has c = true := decide_eq_true hc
    rw [e, Bool.true_and]
    exact (memCAS_in w m bc s c c.toNat (by omega) _ o v h (by omega) rfl hn)
  · rw [put_out hc, at_out hc]
    have e : s.has c = false := decide_eq_false hc
    rw [e, Bool.false_and]
    exact (memCAS_out w m bc s c o v h (by omega)).mono fun e w' ⟨a, b⟩ => ⟨a, b.mono (by simp), h.keep b (by simp) (by simp)⟩

theorem size_any (w : World) (b t : Int) :
    Calls Tryz.prog 141 #[.int .u64 b, .int .u64 t] w fun e w' => e = .returned (.int .i64 (sz b t)) ∧ w = w' := by
  go_enter Tryz.func141, Tryz.ntmps141
  go_wp2
  go_ret
  exact ⟨rfl, rfl⟩

theorem rsize_any (w : World) (b t : Int) :
    Calls Tryz.prog 84 #[.int .u64 b, .int .u64 t] w fun e w' => e = .returned (.int .i64 (sz b t)) ∧ w = w' := by
  go_enter Tryz.func84, Tryz.ntmps84
  go_wp2
  go_ret
  exact ⟨rfl, rfl⟩

def Q4.v (q : Q4) : Value := .agg #[.int .i64 q.top, .int .i64 q.bot, .int .i64 q.ring, .int .i64 q.cap]

theorem cell_any (w : World) (q : Q4) (i : Int) (h0 : 0 ≤ i) (_h1 : i ≤ 18446744073709551615) (hr : -1 ≤ q.ring ∧ q.ring ≤ 1000000) (hc : q.cap ≤ 1000000) :
    Calls Tryz.prog 144 #[q.v, .int .u64 i] w fun e w' => e = .returned (.int .i64 (ringI q i)) ∧ Only [] w w' := by
  obtain ⟨qt, qb, qr, qc⟩ := q
  obtain ⟨r1, r2⟩ := hr
  simp only at r1 r2 hc
  have ER := Lib.hid (show ringI ⟨qt, qb, qr, qc⟩ i = if qc < 1 then -1 else qr + i % qc from rfl)
  by_cases h : qc < 1
  · go_enter Tryz.func144, Tryz.ntmps144
    simp only [Q4.v]
    go_wp2_with fail
    go_ret
    exact ⟨ret_int (by rw [ER.out, if_pos h]), (Only.refl _ _).alloc _⟩
  · have h2 : 1 ≤ qc := by omega
    obtain ⟨r, hr⟩ : ∃ r, r = i % qc := ⟨_, rfl⟩
    have hr1 : 0 ≤ r := by rw [hr]; exact Int.emod_nonneg _ (by omega)
    have hr2 : r < qc := by rw [hr]; exact Int.emod_lt_of_pos _ (by omega)
    have HR := Lib.hid hr
    have hq : (qc == 0) = false := by simp; omega
    have hw1 : IntKind.u64.wrap qc = qc := by rw [IntKind.wrap_u64]; omega
    have hw2 : i.tmod qc = r := by rw [hr, Int.tmod_eq_emod_of_nonneg h0]
    have hw3 : IntKind.u64.wrap r = r := by rw [IntKind.wrap_u64]; omega
    have hw4 : IntKind.i64.wrap r = r := IntWalk.i64_in _ (by omega)
    have hw5 : IntKind.i64.wrap (qr + r) = qr + r := IntWalk.i64_in _ (by omega)
    have hq0 : ¬ qc = 0 := by omega
    clear hr
    go_enter Tryz.func144, Tryz.ntmps144
    simp only [Q4.v]
    go_wp2_with fail
    go_quiet (fail)
    go_wp2_with fail
    go_ret
    exact ⟨ret_int (by rw [ER.out, if_neg (by omega), ← HR.out]), ((Only.refl _ _).alloc _).drewN _⟩

/-- End: the first three cells of a machine's block. -/
theorem end_any (w : World) (p : Nat) (T : TypeId) (a : Bool) (c v code val : Int) (rest : List Value) (h : w.heap[p]? = some (.cells (.bool a :: .int .i64 c :: .int .i64 v :: rest).toArray T (0, 0))) :
    Calls Tryz.prog 142 #[.pointer (some ⟨p, 0, none⟩), .int .i64 code, .int .i64 val] w fun e w' => e = .returned (.bool true) ∧ Only [p] w w' ∧ w'.heap[p]? = some (.cells (.bool true :: .int .i64 code :: .int .i64 val :: rest).toArray T (0, 0)) := by
  have c0 := cell_blk h 0
  have c1 := cell_blk h 1
  have c2 := cell_blk h 2
  have f0 := free_blk h 0
  have f1 := free_blk h 1
  have f2 := free_blk h 2
  simp at c0 c1 c2
  have H := Lib.hid h
  clear h
  go_enter Tryz.func142, Tryz.ntmps142
  go_wp2_with fail
  go_ret
  refine ⟨rfl, (((Only.refl _ _).setCell (by simp) _).setCell (by simp) _).setCell (by simp) _, ?_⟩
  have e := blk_setCell (blk_setCell (blk_setCell H.out 0 (.bool true)) 1 (.int .i64 code)) 2 (.int .i64 val)
  simpa only [List.setIfInBounds_toArray, List.set_cons_zero, List.set_cons_succ] using e

theorem ended_any (w : World) (p : Nat) (a : Bool) (h : w.cell? ⟨p, 0, none⟩ = some (.bool a)) :
    Calls Tryz.prog 137 #[.pointer (some ⟨p, 0, none⟩)] w fun e w' => e = .returned (.bool a) ∧ w = w' := by
  go_enter Tryz.func137, Tryz.ntmps137
  go_wp2
  go_ret
  exact ⟨rfl, rfl⟩

theorem result_any (w : World) (p : Nat) (c v : Int) (h1 : w.cell? ⟨p, 1, none⟩ = some (.int .i64 c)) (h2 : w.cell? ⟨p, 2, none⟩ = some (.int .i64 v)) :
    Calls Tryz.prog 138 #[.pointer (some ⟨p, 0, none⟩)] w fun e w' => e = .returned (.tuple #[.int .i64 c, .int .i64 v]) ∧ Only [] w w' := by
  go_enter Tryz.func138, Tryz.ntmps138
  go_wp2_with fail
  go_quiet (fail)
  go_wp2_with fail
  go_ret2
  exact ⟨rfl, (Only.refl _ _).drewN _⟩

theorem ret_uint {a b : Int} (h : a = b) : Ending.returned (.int .u64 a) = .returned (.int .u64 b) := by rw [h]
theorem mask_of {b : Int} (h0 : 0 ≤ b) (h1 : b ≤ 63) : mask b = IntKind.u64.wrap (2 ^ b.toNat) := by
  unfold mask
  rw [if_neg (by omega), IntKind.wrap_u64]
  have h2 : (2 : Nat) ^ b.toNat ≤ 2 ^ 63 := Nat.pow_le_pow_right (by omega) (by omega)
  rw [show ((2 : Int) ^ b.toNat) = ((2 ^ b.toNat : Nat) : Int) from by simp]
  generalize 2 ^ b.toNat = m at h2 ⊢
  omega

end Go.Proofs.YtfhkhknnoepfeaaGreat
