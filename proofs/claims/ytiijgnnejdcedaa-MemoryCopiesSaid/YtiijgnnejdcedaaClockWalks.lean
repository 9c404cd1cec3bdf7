/- What the functions of package clock, and the reference's Draw, compute: for every clock in memory and every number. -/
import Derived.Test.YtiijgnnejdcedaaRows
import Derived.Test.YtiijgnnejdcedaaKit
namespace Go.Proofs.Ytiijgnnejdcedaa
open Go.RowKit

/-- A draw modulo n. -/
def drw (d n : Int) : Int := if n < 1 then 0 else d % n
theorem drw_lt {d n : Int} (h : n < 1) : drw d n = 0 := if_pos h
theorem drw_neg {d n : Int} (h : 1 ≤ n) (hm : d.tmod n < 0) : drw d n = d.tmod n + n := by
  unfold drw; rw [if_neg (by omega), Int.tmod_eq_emod]
  rw [Int.tmod_eq_emod] at hm
  have h1 := Int.emod_nonneg d (show n ≠ 0 by omega)
  have h2 := Int.emod_lt_of_pos d (show 0 < n by omega)
  have e : (n.natAbs : Int) = n := by omega
  split at hm
  · omega
  · rw [if_neg (by assumption)]; omega
theorem drw_nonneg {d n : Int} (h : 1 ≤ n) (hm : 0 ≤ d.tmod n) : drw d n = d.tmod n := by
  unfold drw; rw [if_neg (by omega), Int.tmod_eq_emod]
  rw [Int.tmod_eq_emod] at hm
  have h1 := Int.emod_nonneg d (show n ≠ 0 by omega)
  have h2 := Int.emod_lt_of_pos d (show 0 < n by omega)
  have e : (n.natAbs : Int) = n := by omega
  split at hm
  · rw [if_pos (by assumption)]; omega
  · omega
theorem tmod_lo (d : Int) {n : Int} (h : 1 ≤ n) : -n < d.tmod n := by
  rw [Int.tmod_eq_emod]
  have h1 := Int.emod_nonneg d (show n ≠ 0 by omega)
  have h2 := Int.emod_lt_of_pos d (show 0 < n by omega)
  split <;> omega
theorem wrap_drw {d n : Int} (h : 1 ≤ n) (hn : n ≤ 9223372036854775807) (hm : d.tmod n < 0) : wrap64 (d.tmod n + n) = d.tmod n + n := by
  have := tmod_lo d h
  unfold wrap64; omega
theorem drw_bd (d n : Int) : 0 ≤ drw d n ∧ (1 ≤ n → drw d n < n) := by
  unfold drw
  split
  · omega
  · exact ⟨Int.emod_nonneg d (by omega), fun _ => Int.emod_lt_of_pos d (by omega)⟩

theorem refDraw_any (n d : Int) (w : World) (hn : n ≤ 9223372036854775807) :
   Calls Try.prog 18 #[.int .i64 d, .int .i64 n] w fun e w' => e = .returned (.int .i64 (drw d n)) ∧ w = w' := by
  have hn' : Hid (n ≤ 9223372036854775807) := hn
  clear hn
  go_enter Try.func18, Try.ntmps18
  go_wp2
  · go_ret
    exact ⟨ret_int (drw_lt (by assumption)).symm, rfl⟩
  · go_ret
    exact ⟨ret_int (by rw [drw_neg (by assumption) (by assumption)]; exact wrap_drw (by assumption) hn'.out (by assumption)), rfl⟩
  · go_ret
    exact ⟨ret_int (drw_nonneg (by assumption) (by assumption)).symm, rfl⟩

/-- A clock in memory: its time and its draw. -/
def clk (now d : Int) : Obj := .cells #[.int .i64 now, .int .i64 d] 61 (0, 0)

theorem clockNew_any (w : World) : Calls Try.prog 12 #[] w fun e w' => ∃ b, e = .returned (.pointer (some ⟨b, 0, none⟩)) ∧ Only [] w w' ∧ w.heap.size ≤ b ∧ w'.heap[b]? = some (clk 0 0) := by
  go_enter Try.func12, Try.ntmps12
  go_wp2
  go_ret
  exact ⟨_, rfl, (Only.refl _ _).alloc _, Nat.le_refl _, blk_alloc_new _ _⟩

theorem clockDraw_any (n d t : Int) (b : Nat) (w : World) (hn : n ≤ 9223372036854775807) (hb : w.heap[b]? = some (clk t d)) :
   Calls Try.prog 15 #[.pointer (some ⟨b,0,none⟩), .int .i64 n] w fun e w' => e = .returned (.int .i64 (drw d n)) ∧ w = w' := by
  have hn' : Hid (n ≤ 9223372036854775807) := hn
  have hc := cell_blk hb 1
  clear hn hb
  simp at hc
  go_enter Try.func15, Try.ntmps15
  go_wp2
  · go_ret
    exact ⟨ret_int (drw_lt (by assumption)).symm, rfl⟩
  · go_ret
    exact ⟨ret_int (by rw [drw_neg (by assumption) (by assumption)]; exact wrap_drw (by assumption) hn'.out (by assumption)), rfl⟩
  · go_ret
    exact ⟨ret_int (drw_nonneg (by assumption) (by assumption)).symm, rfl⟩

theorem clockSet_any (t d v : Int) (b : Nat) (w : World) (hb : w.heap[b]? = some (clk t d)) :
   Calls Try.prog 17 #[.pointer (some ⟨b,0,none⟩), .int .i64 v] w fun e w' => e = .returned (.tuple #[]) ∧ Only [b] w w' ∧ w'.heap[b]? = some (clk t v) := by
  have hc := cell_blk hb 1
  have hf := free_blk hb 1
  have H := Lib.hid hb
  clear hb
  simp at hc
  go_enter Try.func17, Try.ntmps17
  go_wp2
  go_end0
  exact ⟨rfl, (Only.refl _ _).setCell (by simp) _, blk_setCell H.out 1 _⟩

theorem clockTick_any (t d : Int) (b : Nat) (w : World) (hb : w.heap[b]? = some (clk t d)) (h0 : 0 ≤ t) (h1 : t ≤ 4000000000000000000) :
   Calls Try.prog 16 #[.pointer (some ⟨b,0,none⟩)] w fun e w' => e = .returned (.tuple #[]) ∧ Only [b] w w' ∧ w'.heap[b]? = some (clk (t + 1) d) := by
  have hc := cell_blk hb 0
  have hf := free_blk hb 0
  have H := Lib.hid hb
  clear hb
  simp at hc
  go_enter Try.func16, Try.ntmps16
  go_wp2
  go_end0
  exact ⟨rfl, (Only.refl _ _).setCell (by simp) _, blk_setCell H.out 0 _⟩

theorem clockNow_any (t d : Int) (b : Nat) (w : World) (hb : w.heap[b]? = some (clk t d)) :
   Calls Try.prog 14 #[.pointer (some ⟨b,0,none⟩)] w fun e w' => e = .returned (.int .i64 t) ∧ w = w' := by
  have hc := cell_blk hb 0
  clear hb
  simp at hc
  go_enter Try.func14, Try.ntmps14
  go_wp2
  go_ret
  exact ⟨rfl, rfl⟩

theorem clockCopy_any (t d : Int) (b : Nat) (w : World) (hb : w.heap[b]? = some (clk t d)) :
   Calls Try.prog 19 #[.pointer (some ⟨b,0,none⟩)] w fun e w' => ∃ k, e = .returned (.pointer (some ⟨k, 0, none⟩)) ∧ Only [] w w' ∧ w.heap.size ≤ k ∧ w'.heap[k]? = some (clk t d) := by
  have hc := cell_blk hb 0
  have hd := cell_blk hb 1
  clear hb
  simp at hc hd
  go_enter Try.func19, Try.ntmps19
  go_wp2
  go_ret
  exact ⟨_, rfl, (Only.refl _ _).alloc _, Nat.le_refl _, blk_alloc_new _ _⟩
end Go.Proofs.Ytiijgnnejdcedaa
