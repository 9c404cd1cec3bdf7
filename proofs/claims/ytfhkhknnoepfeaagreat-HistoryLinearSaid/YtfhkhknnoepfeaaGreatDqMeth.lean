/- What the methods of package memory compute, by the contract of their common part. -/
import Derived.Test.YtfhkhknnoepfeaaGreatDqMem
import Derived.WalkSpells
namespace Go.Proofs.YtfhkhknnoepfeaaGreat
open Go.RowKit

theorem memLoad_in (w : World) (m bc : Nat) (s : MS) (c : Int) (k : Nat) (hck : c = (k : Int)) (x : Int) (h : MemAt w m bc s) (hk : k < s.cells.length) (hx : s.cells[k] = x) (hcount : s.count ≤ 4000000000000000000) :
    Calls Tryz.prog 140 #[.pointer (some ⟨m, 0, none⟩), .int .i64 c] w fun e w' => e = .returned (.int .u64 x) ∧ Only [m, bc] w w' ∧ MemAt w' m bc (s.acc 1 k x) := by
  subst hck
  have A := Lib.hid (access_in w m bc s 1 k 146 #[] x x h hk hx hcount cfLoad (memLoad1_any x w.drew))
  clear h hx
  go_enter Tryz.func140, Tryz.ntmps140
  go_wp2_with fail
  refine A.out.mono ?_
  rintro e w1 ⟨rfl, ho, hm⟩
  have HM := Lib.hid hm
  clear hm
  go_wp2_with fail
  go_ret
  exact ⟨rfl, ho, HM.out⟩

theorem memLoad_out (w : World) (m bc : Nat) (s : MS) (c : Int) (h : MemAt w m bc s) (hc : c < 0 ∨ s.cells.length ≤ c) :
    Calls Tryz.prog 140 #[.pointer (some ⟨m, 0, none⟩), .int .i64 c] w fun e w' => e = .returned (.int .u64 0) ∧ w = w' := by
  have A := fun f => Lib.hid (access_out w m bc s 1 c f h hc)
  clear h hc
  go_enter Tryz.func140, Tryz.ntmps140
  go_wp2_with fail
  refine (A _).out.mono ?_
  rintro e w1 ⟨rfl, rfl⟩
  go_wp2_with fail
  go_ret
  exact ⟨rfl, rfl⟩

theorem memStore_in (w : World) (m bc : Nat) (s : MS) (c : Int) (k : Nat) (hck : c = (k : Int)) (x v : Int) (h : MemAt w m bc s) (hk : k < s.cells.length) (hx : s.cells[k] = x) (hcount : s.count ≤ 4000000000000000000) :
    Calls Tryz.prog 143 #[.pointer (some ⟨m, 0, none⟩), .int .i64 c, .int .u64 v] w fun e w' => e = .returned (.tuple #[]) ∧ Only [m, bc] w w' ∧ MemAt w' m bc (s.acc 2 k (v)) := by
  subst hck
  have h' := h.keep ((Only.refl [] w).alloc (.cells #[.int .u64 v] 105)) (by simp) (by simp)
  have A := Lib.hid (access_in _ m bc s 2 k 147 #[.pointer (some ⟨w.heap.size, 0, none⟩)] x (v) h' hk hx hcount cfStore (memStore1_any x v w.heap.size _ (by simp)))
  clear h h' hx
  go_enter Tryz.func143, Tryz.ntmps143
  go_wp2_with fail
  refine A.out.mono ?_
  rintro e w1 ⟨rfl, ho, hm⟩
  have HM := Lib.hid hm
  have HO : Only [m, bc] w w1 := ((Only.refl [m, bc] w).alloc _).trans ho (by simp)
  clear hm ho
  go_wp2_with fail
  go_end0
  exact ⟨rfl, HO, HM.out⟩

theorem memStore_out (w : World) (m bc : Nat) (s : MS) (c v : Int) (h : MemAt w m bc s) (hc : c < 0 ∨ s.cells.length ≤ c) :
    Calls Tryz.prog 143 #[.pointer (some ⟨m, 0, none⟩), .int .i64 c, .int .u64 v] w fun e w' => e = .returned (.tuple #[]) ∧ Only [] w w' := by
  have h' := h.keep ((Only.refl [] w).alloc (.cells #[.int .u64 v] 105)) (by simp) (by simp)
  have A := fun f => Lib.hid (access_out _ m bc s 2 c f h' hc)
  clear h h' hc
  go_enter Tryz.func143, Tryz.ntmps143
  go_wp2_with fail
  refine (A _).out.mono ?_
  rintro e w1 ⟨rfl, rfl⟩
  go_wp2_with fail
  go_end0
  exact ⟨rfl, (Only.refl [] w).alloc _⟩

theorem memCAS_in (w : World) (m bc : Nat) (s : MS) (c : Int) (k : Nat) (hck : c = (k : Int)) (x o v : Int) (h : MemAt w m bc s) (hk : k < s.cells.length) (hx : s.cells[k] = x) (hcount : s.count ≤ 4000000000000000000) :
    Calls Tryz.prog 151 #[.pointer (some ⟨m, 0, none⟩), .int .i64 c, .int .u64 o, .int .u64 v] w fun e w' => e = .returned (.bool (x == o)) ∧ Only [m, bc] w w' ∧ MemAt w' m bc (s.acc 3 k (casB x o v)) := by
  subst hck
  have h' := h.keep (((Only.refl [] w).alloc (.cells #[.int .u64 o] 105)).alloc (.cells #[.int .u64 v] 105)) (by simp) (by simp)
  have A := Lib.hid (access_in _ m bc s 3 k 152 #[.pointer (some ⟨w.heap.size, 0, none⟩), .pointer (some ⟨w.heap.size + 1, 0, none⟩)] x (casB x o v) h' hk hx hcount cfCAS (memCAS1_any x o v w.heap.size (w.heap.size + 1) _ (by simp) (by simp)))
  have hl1 := h.lt
  have hl2 := h.ltc (by omega)
  have c1 : ((w.alloc (.cells #[.int .u64 o] 105)).alloc (.cells #[.int .u64 v] 105)).cell? ⟨w.heap.size, 0, none⟩ = some (.int .u64 o) := by simp
  clear h h' hx
  go_enter Tryz.func151, Tryz.ntmps151
  go_wp2_with fail
  refine A.out.mono ?_
  rintro e w1 ⟨rfl, ho, hm⟩
  have HM := Lib.hid hm
  have HO : Only [m, bc] w w1 := (((Only.refl [m, bc] w).alloc _).alloc _).trans ho (by simp)
  have c2 := ho.keepCell c1 (by simp; omega)
  clear hm ho c1
  go_wp2_with fail
  go_ret
  exact ⟨rfl, HO, HM.out⟩

theorem memCAS_out (w : World) (m bc : Nat) (s : MS) (c o v : Int) (h : MemAt w m bc s) (hc : c < 0 ∨ s.cells.length ≤ c) :
    Calls Tryz.prog 151 #[.pointer (some ⟨m, 0, none⟩), .int .i64 c, .int .u64 o, .int .u64 v] w fun e w' => e = .returned (.bool false) ∧ Only [] w w' := by
  have h' := h.keep (((Only.refl [] w).alloc (.cells #[.int .u64 o] 105)).alloc (.cells #[.int .u64 v] 105)) (by simp) (by simp)
  have A := fun f => Lib.hid (access_out _ m bc s 3 c f h' hc)
  clear h h' hc
  go_enter Tryz.func151, Tryz.ntmps151
  go_wp2_with fail
  refine (A _).out.mono ?_
  rintro e w1 ⟨rfl, rfl⟩
  go_wp2_with fail
  go_ret
  exact ⟨rfl, ((Only.refl [] w).alloc _).alloc _⟩

theorem info64 : (Tryz.prog.info? 105).map (fun i => (i.zero, i.size, i.bytes)) = some (some (.int .u64 0), 1, 8) := by kernel_rfl

/-- n cells that hold 0. -/
def zeros (n : Nat) : List Int := List.replicate n 0
theorem zeros_len (n : Nat) : (zeros n).length = n := by simp [zeros]
theorem zeros_mem {n : Nat} {x : Int} (h : x ∈ zeros n) : x = 0 := by
  unfold zeros at h
  exact (List.mem_replicate.1 h).2

/-- A new memory of cells that hold 0. -/
theorem memNew_any (w : World) (c L : Int) (n : Nat) (hL : min (max c 0) 131072 = L) (hn : L = (n : Int)) (hn' : n ≤ 131072) :
    Calls Tryz.prog 30 #[.int .i64 c] w fun e w' => ∃ k bk, e = .returned (.pointer (some ⟨k, 0, none⟩)) ∧ Only [] w w' ∧ MemAt w' k bk ⟨zeros n, 0, 0, 0, 0, 0⟩ ∧ w.heap.size ≤ k ∧ w.heap.size ≤ bk ∧ bk < w'.heap.size := by
  obtain ⟨i0, hi, hz0, hz1, hz2⟩ := info_parts info64
  have HL := Lib.hid hL
  have HN := Lib.hid hn
  have h3 : L = 0 ∧ c < 0 ∨ L = 131072 ∧ 131072 < c ∨ L = c ∧ 0 ≤ c ∧ c ≤ 131072 := by omega
  clear hL hn
  rcases h3 with ⟨h, h'⟩ | ⟨h, h'⟩ | ⟨h, h', h''⟩
  all_goals
    have HLc := Lib.hid h
    clear h
    go_enter Tryz.func30, Tryz.ntmps30
    go_wp2_with (at_make; refine wpList_make_full _ rfl _ _ 104 rfl w.heap.size 105 i0 (.int .u64 0) 1 Tryz.underlying104 hi hz0 hz1 .i64 .i64 _ _ n rfl rfl (HLc.out.symm.trans HN.out) (HLc.out.symm.trans HN.out) (by rw [hz2]; omega) (by unfold maxLen; omega) (Nat.le_refl _) ?_)
    intro w1 hown hgrow
    obtain ⟨bk, hr, hb, hb2⟩ := rowAt_of_owns hown (by simp)
    rw [toList_madeCells_one] at hr
    have ho : Only [] w w1 := (Only.refl [] w).grown hgrow (by simp)
    have HR := Lib.hid hr
    clear hown hgrow hr
    go_wp2_with fail
    go_ret
    exact ⟨_, bk, rfl, ho.alloc _, ⟨_, blk_alloc_new _ _, by simpa [zeros] using HR.out.keep ((Only.refl [] w1).alloc _) (by simp), by omega, by simp⟩, ho.size, hb, by simp; omega⟩
end Go.Proofs.YtfhkhknnoepfeaaGreat
