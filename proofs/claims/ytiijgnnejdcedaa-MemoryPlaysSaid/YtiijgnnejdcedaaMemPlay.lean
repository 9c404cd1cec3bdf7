/- MemoryPlays and MemoryCopies of chapter 2, walked. -/
import Derived.Test.YtiijgnnejdcedaaMemAct
import Derived.Test.YtiijgnnejdcedaaMemLaws
import Derived.Test.YtiijgnnejdcedaaClockWalks
namespace Go.Proofs.Ytiijgnnejdcedaa
open Go.RowKit
set_option linter.unusedVariables false

theorem act_any (w : World) (m bc b rc : Nat) (s : MS) (kind c v u : Int) (h : Pair w m bc b rc s) (hn : s.count ≤ 2000000000000000000) :
    Calls Try.prog 33 #[.pointer (some ⟨m, 0, none⟩), .pointer (some ⟨b, 0, none⟩), .agg #[.int .i64 kind, .int .i64 c, .int .u64 v, .int .u64 u]] w (ActPost w m bc b rc s) := by
  have h1 := Int.tmod_eq_emod (a := kind.tmod 8 + 8) (b := 8)
  have h2 := tmod8 kind
  have hK : ∃ j : Nat, j < 8 ∧ (kind.tmod 8 + 8).tmod 8 = (j : Int) := ⟨((kind.tmod 8 + 8).tmod 8).toNat, by split at h1 <;> omega, by split at h1 <;> omega⟩
  obtain ⟨j, hj, hK⟩ := hK
  by_cases hc : c < 0 ∨ s.cells.length ≤ c
  · match j, hj with
    | 0, _ => exact act0_out w m bc b rc s kind c v u h hn hK hc
    | 1, _ => exact act1_out w m bc b rc s kind c v u h hn hK hc
    | 2, _ => exact act2_out w m bc b rc s kind c v u h hn hK hc
    | 3, _ => exact act3_out w m bc b rc s kind c v u h hn hK hc
    | 4, _ => exact act4_out w m bc b rc s kind c v u h hn hK hc
    | 5, _ => exact act5_out w m bc b rc s kind c v u h hn hK hc
    | 6, _ => exact act6_out w m bc b rc s kind c v u h hn hK hc
    | 7, _ => exact act7_out w m bc b rc s kind c v u h hn hK hc
  · have hk : c.toNat < s.cells.length := by omega
    have hck : c = (c.toNat : Int) := by omega
    match j, hj with
    | 0, _ => exact act0_in w m bc b rc s kind c v u h hn hK c.toNat hck hk _ rfl
    | 1, _ => exact act1_in w m bc b rc s kind c v u h hn hK c.toNat hck hk _ rfl
    | 2, _ => exact act2_in w m bc b rc s kind c v u h hn hK c.toNat hck hk _ rfl
    | 3, _ => exact act3_in w m bc b rc s kind c v u h hn hK c.toNat hck hk _ rfl
    | 4, _ => exact act4_in w m bc b rc s kind c v u h hn hK c.toNat hck hk _ rfl
    | 5, _ => exact act5_in w m bc b rc s kind c v u h hn hK c.toNat hck hk _ rfl
    | 6, _ => exact act6_in w m bc b rc s kind c v u h hn hK c.toNat hck hk _ rfl
    | 7, _ => exact act7_in w m bc b rc s kind c v u h hn hK c.toNat hck hk _ rfl

theorem Pair.drew {w : World} {m bc b rc : Nat} {s : MS} (h : Pair w m bc b rc s) : Pair w.drew m bc b rc s := ⟨h.p, h.r, h.mb, h.mr, h.cb, h.cr, h.n⟩

theorem cells6_keep {w w' : World} {b : Nat} {v0 v1 v2 v3 v4 v5 : Value} (ho : Only [] w w')
    (h : w.cell? ⟨b, 0, none⟩ = some v0 ∧ w.cell? ⟨b, 1, none⟩ = some v1 ∧ w.cell? ⟨b, 2, none⟩ = some v2 ∧ w.cell? ⟨b, 3, none⟩ = some v3 ∧ w.cell? ⟨b, 4, none⟩ = some v4 ∧ w.cell? ⟨b, 5, none⟩ = some v5) :
    w'.cell? ⟨b, 0, none⟩ = some v0 ∧ w'.cell? ⟨b, 1, none⟩ = some v1 ∧ w'.cell? ⟨b, 2, none⟩ = some v2 ∧ w'.cell? ⟨b, 3, none⟩ = some v3 ∧ w'.cell? ⟨b, 4, none⟩ = some v4 ∧ w'.cell? ⟨b, 5, none⟩ = some v5 :=
  ⟨ho.keepCell h.1 (by simp), ho.keepCell h.2.1 (by simp), ho.keepCell h.2.2.1 (by simp), ho.keepCell h.2.2.2.1 (by simp), ho.keepCell h.2.2.2.2.1 (by simp), ho.keepCell h.2.2.2.2.2 (by simp)⟩

set_option maxHeartbeats 1000000 in
theorem same_any (w : World) (m bc b rc : Nat) (s : MS) (h : Pair w m bc b rc s) (hn : s.cells.length ≤ 4000000000000) :
    Calls Try.prog 34 #[.pointer (some ⟨m, 0, none⟩), .pointer (some ⟨b, 0, none⟩)] w fun e w' => e = .returned (.bool true) ∧ Only [] w w' := by
  have hP := h.drew
  obtain ⟨v, h1, h2, h6, h7⟩ := h.r
  obtain ⟨a, cap, rfl, hc, _, _⟩ := h2.cells
  simp only [List.length_map] at h1
  have c0 := cell_blk h1 0
  have c1 := cell_blk h1 1
  have c2 := cell_blk h1 2
  have c3 := cell_blk h1 3
  have c4 := cell_blk h1 4
  have c5 := cell_blk h1 5
  simp at c0 c1 c2 c3 c4 c5
  have HC := Lib.hid hc
  have HP := Lib.hid hP
  have HS := Lib.hid (And.intro c0 (And.intro c1 (And.intro c2 (And.intro c3 (And.intro c4 c5)))))
  have O0 := Lib.hid ((Only.refl [] w).drew)
  clear hc hP h h1 h2 h6 h7 c0 c1 c2 c3 c4 c5
  go_enter Try.func34, Try.ntmps34
  go_wp2_with fail
  go_region_held3 (fun w' => w'.cell? ⟨b, 0, none⟩ = some (.slice (some a) s.cells.length cap) ∧ w'.cell? ⟨b, 1, none⟩ = some (.int .i64 s.kind) ∧ w'.cell? ⟨b, 2, none⟩ = some (.int .i64 s.cell) ∧ w'.cell? ⟨b, 3, none⟩ = some (.int .u64 s.old) ∧ w'.cell? ⟨b, 4, none⟩ = some (.int .u64 s.new) ∧ w'.cell? ⟨b, 5, none⟩ = some (.int .i64 s.count))
    (first | exact cells6_keep O0.out HS.out | exact cells6_keep O1.out HS.out | exact cells6_keep O2.out HS.out | exact cells6_keep O3.out HS.out)
    ((first
      | (go_at_call 27; refine (memSize_any _ m bc _ HP.out.p).mono ?_; rintro e w1 ⟨rfl, rfl⟩)
      | (go_at_call 24; refine (memCount_any _ m bc _ HP.out.p).mono ?_; rintro e w1 ⟨rfl, rfl⟩)
      | (go_at_call 28; refine (memLast_any _ m bc _ HP.out.p).mono ?_; rintro e w1 ⟨rfl, o1⟩; have O1 := Lib.hid (O0.out.then0 o1); have HP1 := Lib.hid (HP.out.keep o1 (by simp) (by simp) (by simp) (by simp)); clear o1)
      | (go_at_call 36; refine (memCells_any _ m bc _ HP1.out.p hn).mono ?_; rintro e w2 ⟨v, bv, rfl, o2, hr, l1, l2⟩; obtain ⟨av, cv, rfl, hcv, hcap, hcap2⟩ := hr.cells; have O2 := Lib.hid (O1.out.then0 o2); have HV := Lib.hid hcv; clear o2 hr hcv)
      | (go_at_call 46; refine (refSame_any _ _ _ _ _ _ HV.out (HC.out.keep0 O2.out) hn).mono ?_; rintro e w3 ⟨rfl, o3⟩; have O3 := Lib.hid (O2.out.then0 o3); clear o3)))
  go_wp2_with fail
  go_ret
  exact ⟨rfl, O3.out⟩

/-- The reference's new memory, by value. -/
theorem refNew_any (w : World) (c L : Int) (n : Nat) (hL : min (max c 0) 131072 = L) (hn : L = (n : Int)) (hn' : n ≤ 131072) :
    Calls Try.prog 32 #[.int .i64 c] w fun e w' => ∃ a cap bk, e = .returned (.agg #[.slice (some a) n cap, .int .i64 0, .int .i64 0, .int .u64 0, .int .u64 0, .int .i64 0]) ∧ Only [] w w' ∧ RowAt w' (.slice (some a) n cap) bk 35 ((zeros n).map (.int .u64)) ∧ w.heap.size ≤ bk ∧ bk < w'.heap.size := by
  obtain ⟨i0, hi, hz0, hz1, hz2⟩ := info_parts info64
  have HL := Lib.hid hL
  have HN := Lib.hid hn
  have h3 : L = 0 ∧ c ≤ 0 ∨ L = 131072 ∧ 131072 < c ∨ L = c ∧ 0 < c ∧ c ≤ 131072 := by omega
  clear hL hn
  rcases h3 with ⟨h, h'⟩ | ⟨h, h'⟩ | ⟨h, h', h''⟩
  all_goals
    have HLc := Lib.hid h
    clear h
    go_enter Try.func32, Try.ntmps32
    go_wp2_with (at_make; refine wpList_make_full _ rfl _ _ 32 rfl w.heap.size 35 i0 (.int .u64 0) 1 Try.underlying32 hi hz0 hz1 .i64 .i64 _ _ n rfl rfl (HLc.out.symm.trans HN.out) (HLc.out.symm.trans HN.out) (by rw [hz2]; omega) (by unfold maxLen; omega) (by simp) ?_)
    intro w1 hown hgrow
    obtain ⟨hr, hb, hb2⟩ := rowAt_of_owns2 hown
    rw [toList_madeCells_one] at hr
    have ho : Only [] (w.alloc _) w1 := (Only.refl [] _).grown hgrow (by simp)
    have hk := ho.keep (blk_alloc_new w _) (by simp)
    have HR := Lib.hid hr
    have HO : Only [] w w1 := ((Only.refl [] w).alloc _).then0 ho
    have d0 := cell_blk hk 0
    have d1 := cell_blk hk 1
    have d2 := cell_blk hk 2
    have d3 := cell_blk hk 3
    have d4 := cell_blk hk 4
    have d5 := cell_blk hk 5
    have f0 := free_blk hk 0
    have f1 := free_blk hk 1
    have f2 := free_blk hk 2
    have f3 := free_blk hk 3
    have f4 := free_blk hk 4
    have f5 := free_blk hk 5
    simp at d0 d1 d2 d3 d4 d5
    clear hown hgrow hr hk ho
    go_wp2_with fail
    refine bodyPost_ret (v := .agg #[.slice (some ⟨w.heap.size + 1, 0, none⟩) n n, .int .i64 0, .int .i64 0, .int .u64 0, .int .u64 0, .int .i64 0]) (by simp [results, Try.results32, go_sem, d0, d1, d2, d3, d4, d5]) rfl ⟨_, n, w.heap.size + 1, rfl, ?_, ?_, by omega, ?_⟩
    · exact HO.thenN (only6 w1 w.heap.size _ _ _ _ _ _ _ _ _ _ _ _) (Nat.le_refl _)
    · simpa [zeros] using HR.out.keep (only6 w1 w.heap.size _ _ _ _ _ _ _ _ _ _ _ _) (by simp)
    · exact Nat.lt_of_lt_of_le hb2 (only6 w1 w.heap.size _ _ _ _ _ _ _ _ _ _ _ _).size

theorem tmod64_lo (c : Int) : -64 < c.tmod 64 := by
  have h2 := Int.tmod_eq_emod (a := c) (b := 64)
  split at h2 <;> omega

/-- A new memory and the reference's, the latter laid into a block of its own. -/
theorem Pair.start {n : Nat} {w1 w2 : World} {m bc rc : Nat} {v : Value} (h1 : MemAt w1 m bc ⟨zeros n, 0, 0, 0, 0, 0⟩) (o2 : Only [] w1 w2) (h2 : RowAt w2 v rc 35 ((zeros n).map (.int .u64)))
    (l3 : bc < w1.heap.size) (l4 : w1.heap.size ≤ rc) (l5 : rc < w2.heap.size) :
    Pair (w2.alloc (.cells #[v, .int .i64 0, .int .i64 0, .int .u64 0, .int .u64 0, .int .i64 0] 49)) m bc w2.heap.size rc ⟨zeros n, 0, 0, 0, 0, 0⟩ := by
  have lm := h1.lt
  have ls := o2.size
  exact ⟨(h1.keep o2 (by simp) (by simp)).keep ((Only.refl [] w2).alloc _) (by simp) (by simp), ⟨v, blk_alloc_new w2 _, h2.keep ((Only.refl [] w2).alloc _) (by simp), by omega, by simp⟩, by omega, by omega, by omega, by omega, by simp⟩

/-- The number of cells that MemoryPlays takes. -/
theorem plays_cells (c : Int) : ∃ (C : Int) (n : Nat), (if 64 < c then c.tmod 64 else c) = C ∧ C ≤ 64 ∧ min (max C 0) 131072 = (n : Int) ∧ n ≤ 64 := by
  have h2 := Int.tmod_eq_emod (a := c) (b := 64)
  have h3 := Int.tmod_lt_of_pos c (show (0 : Int) < 64 by omega)
  by_cases h : 64 < c
  · rw [if_pos h]
    rw [if_pos (by omega)] at h2
    exact ⟨_, (c.tmod 64).toNat, rfl, by omega, by omega, by omega⟩
  · rw [if_neg h]
    exact ⟨_, c.toNat, rfl, by omega, by omega, by omega⟩

end Go.Proofs.Ytiijgnnejdcedaa
