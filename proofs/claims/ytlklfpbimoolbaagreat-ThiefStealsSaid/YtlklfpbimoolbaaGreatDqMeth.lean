/- What the methods of package memory compute, by the contract of their common part. -/
import Derived.Test.YtlklfpbimoolbaaGreatDqMem
import Derived.WalkSpells
namespace Go.Proofs.YtlklfpbimoolbaaGreat
open Go.RowKit

theorem memLoad_in (w : World) (m bc : Nat) (s : MS) (c : Int) (k : Nat) (hck : c = (k : Int)) (x : Int) (h : MemAt w m bc s) (hk : k < s.cells.length) (hx : s.cells[k] = x) (hcount : s.count ≤ 4000000000000000000) :
    Calls Tryz.prog 186 #[.pointer (some ⟨m, 0, none⟩), .int .i64 c] w fun e w' => e = .returned (.int .u64 x) ∧ Only [m, bc] w w' ∧ MemAt w' m bc (s.acc 1 k x) := by
  subst hck
  have A := Lib.hid (access_in w m bc s 1 k 190 #[] x x h hk hx hcount cfLoad (memLoad1_any x w.drew))
  clear h hx
  go_enter Tryz.func186, Tryz.ntmps186
  go_wp2_with fail
  refine A.out.mono ?_
  rintro e w1 ⟨rfl, ho, hm⟩
  have HM := Lib.hid hm
  clear hm
  go_wp2_with fail
  go_ret
  exact ⟨rfl, ho, HM.out⟩

theorem memLoad_out (w : World) (m bc : Nat) (s : MS) (c : Int) (h : MemAt w m bc s) (hc : c < 0 ∨ s.cells.length ≤ c) :
    Calls Tryz.prog 186 #[.pointer (some ⟨m, 0, none⟩), .int .i64 c] w fun e w' => e = .returned (.int .u64 0) ∧ w = w' := by
  have A := fun f => Lib.hid (access_out w m bc s 1 c f h hc)
  clear h hc
  go_enter Tryz.func186, Tryz.ntmps186
  go_wp2_with fail
  refine (A _).out.mono ?_
  rintro e w1 ⟨rfl, rfl⟩
  go_wp2_with fail
  go_ret
  exact ⟨rfl, rfl⟩

theorem memOr_in (w : World) (m bc : Nat) (s : MS) (c : Int) (k : Nat) (hck : c = (k : Int)) (x v : Int) (h : MemAt w m bc s) (hk : k < s.cells.length) (hx : s.cells[k] = x) (hcount : s.count ≤ 4000000000000000000) :
    Calls Tryz.prog 200 #[.pointer (some ⟨m, 0, none⟩), .int .i64 c, .int .u64 v] w fun e w' => e = .returned (.int .u64 x) ∧ Only [m, bc] w w' ∧ MemAt w' m bc (s.acc 4 k (orB x v)) := by
  subst hck
  have h' := h.keep ((Only.refl [] w).alloc (.cells #[.int .u64 v] 40)) (by simp) (by simp)
  have A := Lib.hid (access_in _ m bc s 4 k 202 #[.pointer (some ⟨w.heap.size, 0, none⟩)] x (orB x v) h' hk hx hcount cfOr (memOr1_any x v w.heap.size _ (by simp)))
  clear h h' hx
  go_enter Tryz.func200, Tryz.ntmps200
  go_wp2_with fail
  refine A.out.mono ?_
  rintro e w1 ⟨rfl, ho, hm⟩
  have HM := Lib.hid hm
  have HO : Only [m, bc] w w1 := ((Only.refl [m, bc] w).alloc _).trans ho (by simp)
  clear hm ho
  go_wp2_with fail
  go_ret
  exact ⟨rfl, HO, HM.out⟩

theorem memOr_out (w : World) (m bc : Nat) (s : MS) (c v : Int) (h : MemAt w m bc s) (hc : c < 0 ∨ s.cells.length ≤ c) :
    Calls Tryz.prog 200 #[.pointer (some ⟨m, 0, none⟩), .int .i64 c, .int .u64 v] w fun e w' => e = .returned (.int .u64 0) ∧ Only [] w w' := by
  have h' := h.keep ((Only.refl [] w).alloc (.cells #[.int .u64 v] 40)) (by simp) (by simp)
  have A := fun f => Lib.hid (access_out _ m bc s 4 c f h' hc)
  clear h h' hc
  go_enter Tryz.func200, Tryz.ntmps200
  go_wp2_with fail
  refine (A _).out.mono ?_
  rintro e w1 ⟨rfl, rfl⟩
  go_wp2_with fail
  go_ret
  exact ⟨rfl, (Only.refl [] w).alloc _⟩

theorem memAnd_in (w : World) (m bc : Nat) (s : MS) (c : Int) (k : Nat) (hck : c = (k : Int)) (x v : Int) (h : MemAt w m bc s) (hk : k < s.cells.length) (hx : s.cells[k] = x) (hcount : s.count ≤ 4000000000000000000) :
    Calls Tryz.prog 205 #[.pointer (some ⟨m, 0, none⟩), .int .i64 c, .int .u64 v] w fun e w' => e = .returned (.int .u64 x) ∧ Only [m, bc] w w' ∧ MemAt w' m bc (s.acc 5 k (andB x v)) := by
  subst hck
  have h' := h.keep ((Only.refl [] w).alloc (.cells #[.int .u64 v] 40)) (by simp) (by simp)
  have A := Lib.hid (access_in _ m bc s 5 k 206 #[.pointer (some ⟨w.heap.size, 0, none⟩)] x (andB x v) h' hk hx hcount cfAnd (memAnd1_any x v w.heap.size _ (by simp)))
  clear h h' hx
  go_enter Tryz.func205, Tryz.ntmps205
  go_wp2_with fail
  refine A.out.mono ?_
  rintro e w1 ⟨rfl, ho, hm⟩
  have HM := Lib.hid hm
  have HO : Only [m, bc] w w1 := ((Only.refl [m, bc] w).alloc _).trans ho (by simp)
  clear hm ho
  go_wp2_with fail
  go_ret
  exact ⟨rfl, HO, HM.out⟩

theorem memAnd_out (w : World) (m bc : Nat) (s : MS) (c v : Int) (h : MemAt w m bc s) (hc : c < 0 ∨ s.cells.length ≤ c) :
    Calls Tryz.prog 205 #[.pointer (some ⟨m, 0, none⟩), .int .i64 c, .int .u64 v] w fun e w' => e = .returned (.int .u64 0) ∧ Only [] w w' := by
  have h' := h.keep ((Only.refl [] w).alloc (.cells #[.int .u64 v] 40)) (by simp) (by simp)
  have A := fun f => Lib.hid (access_out _ m bc s 5 c f h' hc)
  clear h h' hc
  go_enter Tryz.func205, Tryz.ntmps205
  go_wp2_with fail
  refine (A _).out.mono ?_
  rintro e w1 ⟨rfl, rfl⟩
  go_wp2_with fail
  go_ret
  exact ⟨rfl, (Only.refl [] w).alloc _⟩

theorem memStore_in (w : World) (m bc : Nat) (s : MS) (c : Int) (k : Nat) (hck : c = (k : Int)) (x v : Int) (h : MemAt w m bc s) (hk : k < s.cells.length) (hx : s.cells[k] = x) (hcount : s.count ≤ 4000000000000000000) :
    Calls Tryz.prog 40 #[.pointer (some ⟨m, 0, none⟩), .int .i64 c, .int .u64 v] w fun e w' => e = .returned (.tuple #[]) ∧ Only [m, bc] w w' ∧ MemAt w' m bc (s.acc 2 k (v)) := by
  subst hck
  have h' := h.keep ((Only.refl [] w).alloc (.cells #[.int .u64 v] 40)) (by simp) (by simp)
  have A := Lib.hid (access_in _ m bc s 2 k 67 #[.pointer (some ⟨w.heap.size, 0, none⟩)] x (v) h' hk hx hcount cfStore (memStore1_any x v w.heap.size _ (by simp)))
  clear h h' hx
  go_enter Tryz.func40, Tryz.ntmps40
  go_wp2_with fail
  refine A.out.mono ?_
  rintro e w1 ⟨rfl, ho, hm⟩
  have HM := Lib.hid hm
  have HO : Only [m, bc] w w1 := ((Only.refl [m, bc] w).alloc _).trans ho (by simp)
  clear hm ho
  go_wp2_with fail
  go_end0
  exact ⟨rfl, HO, HM.out⟩

theorem memStore_out (w : World) (m bc : Nat) (s : MS) (c v : Int) (h : MemAt w m bc s) (hc : c < 0 ∨ s.cells.length ≤ c) :
    Calls Tryz.prog 40 #[.pointer (some ⟨m, 0, none⟩), .int .i64 c, .int .u64 v] w fun e w' => e = .returned (.tuple #[]) ∧ Only [] w w' := by
  have h' := h.keep ((Only.refl [] w).alloc (.cells #[.int .u64 v] 40)) (by simp) (by simp)
  have A := fun f => Lib.hid (access_out _ m bc s 2 c f h' hc)
  clear h h' hc
  go_enter Tryz.func40, Tryz.ntmps40
  go_wp2_with fail
  refine (A _).out.mono ?_
  rintro e w1 ⟨rfl, rfl⟩
  go_wp2_with fail
  go_end0
  exact ⟨rfl, (Only.refl [] w).alloc _⟩

theorem memCAS_in (w : World) (m bc : Nat) (s : MS) (c : Int) (k : Nat) (hck : c = (k : Int)) (x o v : Int) (h : MemAt w m bc s) (hk : k < s.cells.length) (hx : s.cells[k] = x) (hcount : s.count ≤ 4000000000000000000) :
    Calls Tryz.prog 194 #[.pointer (some ⟨m, 0, none⟩), .int .i64 c, .int .u64 o, .int .u64 v] w fun e w' => e = .returned (.bool (x == o)) ∧ Only [m, bc] w w' ∧ MemAt w' m bc (s.acc 3 k (casB x o v)) := by
  subst hck
  have h' := h.keep (((Only.refl [] w).alloc (.cells #[.int .u64 o] 40)).alloc (.cells #[.int .u64 v] 40)) (by simp) (by simp)
  have A := Lib.hid (access_in _ m bc s 3 k 195 #[.pointer (some ⟨w.heap.size, 0, none⟩), .pointer (some ⟨w.heap.size + 1, 0, none⟩)] x (casB x o v) h' hk hx hcount cfCAS (memCAS1_any x o v w.heap.size (w.heap.size + 1) _ (by simp) (by simp)))
  have hl1 := h.lt
  have hl2 := h.ltc (by omega)
  have c1 : ((w.alloc (.cells #[.int .u64 o] 40)).alloc (.cells #[.int .u64 v] 40)).cell? ⟨w.heap.size, 0, none⟩ = some (.int .u64 o) := by simp
  clear h h' hx
  go_enter Tryz.func194, Tryz.ntmps194
  go_wp2_with fail
  refine A.out.mono ?_
  rintro e w1 ⟨rfl, ho, hm⟩
  have HM := Lib.hid hm
  have HO : Only [m, bc] w w1 := (((Only.refl [m, bc] w).alloc _).alloc _).trans ho (by simp)
  have c2 := ho.keepCell c1 (by simp; omega)
  clear hm ho c1
  go_wp2_with fail
  go_ret
  exact ⟨rfl, HO, HM.out⟩

theorem memCAS_out (w : World) (m bc : Nat) (s : MS) (c o v : Int) (h : MemAt w m bc s) (hc : c < 0 ∨ s.cells.length ≤ c) :
    Calls Tryz.prog 194 #[.pointer (some ⟨m, 0, none⟩), .int .i64 c, .int .u64 o, .int .u64 v] w fun e w' => e = .returned (.bool false) ∧ Only [] w w' := by
  have h' := h.keep (((Only.refl [] w).alloc (.cells #[.int .u64 o] 40)).alloc (.cells #[.int .u64 v] 40)) (by simp) (by simp)
  have A := fun f => Lib.hid (access_out _ m bc s 3 c f h' hc)
  clear h h' hc
  go_enter Tryz.func194, Tryz.ntmps194
  go_wp2_with fail
  refine (A _).out.mono ?_
  rintro e w1 ⟨rfl, rfl⟩
  go_wp2_with fail
  go_ret
  exact ⟨rfl, ((Only.refl [] w).alloc _).alloc _⟩

theorem memPeek_in (w : World) (m bc : Nat) (s : MS) (c : Int) (k : Nat) (hck : c = (k : Int)) (x : Int) (h : MemAt w m bc s) (hk : k < s.cells.length) (hx : s.cells[k] = x) :
    Calls Tryz.prog 49 #[.pointer (some ⟨m, 0, none⟩), .int .i64 c] w fun e w' => e = .returned (.int .u64 x) ∧ w = w' := by
  subst hck
  obtain ⟨v, h1, h2, h6, h7⟩ := h
  obtain ⟨cap, rfl, hcap, hcapm, hcell, hfree, hrow⟩ := h2.at (by simp; omega)
  have hkc := hcell k (by simpa using hk)
  simp only [List.getElem_map, hx] at hkc
  simp only [List.length_map] at hcap
  have c0 := cell_blk h1 0
  simp at c0
  have hlen : s.cells.length ≤ 9223372036854775807 := by omega
  clear h1 h2 hrow hcell hfree hx h6
  go_enter Tryz.func49, Tryz.ntmps49
  go_wp2_with fail
  go_ret
  exact ⟨rfl, rfl⟩

theorem memPeek_out (w : World) (m bc : Nat) (s : MS) (c : Int) (h : MemAt w m bc s) (hc : c < 0 ∨ s.cells.length ≤ c) :
    Calls Tryz.prog 49 #[.pointer (some ⟨m, 0, none⟩), .int .i64 c] w fun e w' => e = .returned (.int .u64 0) ∧ w = w' := by
  obtain ⟨v, h1, ⟨ao, cap, rfl, h3, h4, h5⟩, h6, h7⟩ := h
  have c0 := cell_blk h1 0
  simp at c0
  clear h1 h5
  simp only [List.length_map] at h3
  go_enter Tryz.func49, Tryz.ntmps49
  by_cases hn : c < 0
  · go_wp2
    go_ret
    exact ⟨rfl, rfl⟩
  · have hge : (s.cells.length : Int) ≤ c := by omega
    go_wp2
    go_ret
    exact ⟨rfl, rfl⟩

theorem memSize_any (w : World) (m bc : Nat) (s : MS) (h : MemAt w m bc s) :
    Calls Tryz.prog 38 #[.pointer (some ⟨m, 0, none⟩)] w fun e w' => e = .returned (.int .i64 s.cells.length) ∧ w = w' := by
  obtain ⟨v, h1, ⟨ao, cap, rfl, h3, h4, h5⟩, h6, h7⟩ := h
  have c0 := cell_blk h1 0
  simp at c0
  clear h1 h5
  go_enter Tryz.func38, Tryz.ntmps38
  go_wp2
  go_ret
  exact ⟨rfl, rfl⟩

theorem memCount_any (w : World) (m bc : Nat) (s : MS) (h : MemAt w m bc s) :
    Calls Tryz.prog 43 #[.pointer (some ⟨m, 0, none⟩)] w fun e w' => e = .returned (.int .i64 s.count) ∧ w = w' := by
  obtain ⟨v, h1, h2, h6, h7⟩ := h
  have c0 := cell_blk h1 5
  simp at c0
  clear h1 h2
  go_enter Tryz.func43, Tryz.ntmps43
  go_wp2
  go_ret
  exact ⟨rfl, rfl⟩

theorem memLast_any (w : World) (m bc : Nat) (s : MS) (h : MemAt w m bc s) :
    Calls Tryz.prog 70 #[.pointer (some ⟨m, 0, none⟩)] w fun e w' => e = .returned (.agg #[.int .i64 s.kind, .int .i64 s.cell, .int .u64 s.old, .int .u64 s.new]) ∧ Only [] w w' := by
  obtain ⟨v, h1, h2, h6, h7⟩ := h
  have hl := lt_of_blk h1
  have c1 := fun o => cell_blk (((Only.refl [] w).alloc o).keep h1 (by simp)) 1
  have c2 := fun o => cell_blk (((Only.refl [] w).alloc o).keep h1 (by simp)) 2
  have c3 := fun o => cell_blk (((Only.refl [] w).alloc o).keep h1 (by simp)) 3
  have c4 := fun o => cell_blk (((Only.refl [] w).alloc o).keep h1 (by simp)) 4
  simp at c1 c2 c3 c4
  clear h1 h2
  go_enter Tryz.func70, Tryz.ntmps70
  go_wp2
  exact bodyPost_ret (v := .agg #[.int .i64 s.kind, .int .i64 s.cell, .int .u64 s.old, .int .u64 s.new]) (by simp [results, Tryz.results70, go_sem]) rfl ⟨rfl, (Only.refl _ _).alloc _⟩

theorem info64 : (Tryz.prog.info? 40).map (fun i => (i.zero, i.size, i.bytes)) = some (some (.int .u64 0), 1, 8) := by kernel_rfl

/-- slices.Clone of a slice of words that is not nil. -/
theorem cloneU_any (w : World) (a : Addr) (cap : Nat) (xs : List Int) (h : CellsAt w (some a) (xs.map (.int .u64))) (hn : xs.length ≤ 4000000000000) :
    Calls Tryz.prog 81 #[.slice (some a) xs.length cap] w fun e w' => ∃ v b, e = .returned v ∧ Only [] w w' ∧ RowAt w' v b 40 (xs.map (.int .u64)) ∧ w.heap.size ≤ b ∧ b < w'.heap.size := by
  obtain ⟨i0, hi, hz0, hz1, hz2⟩ := info_parts info64
  have H := Lib.hid h
  clear h
  have hown : (w.alloc (.cells #[] 40)).ownsRow w.heap.size 40 1 (.slice (some ⟨w.heap.size, 0, none⟩) 0 0) 0 [] := World.ownsRow_made w #[] 0 (Nat.le_refl _) (by simp) rfl
  have HO := Lib.hid hown
  clear hown
  have hneq := fun (w : World) => Lib.run_eql_slice_nil (P := Tryz.prog) w 22 40 (some a) xs.length cap 0 0 Tryz.underlying22
  go_enter Tryz.func81, Tryz.ntmps81
  have hlen : (xs.map (Value.int .u64)).length = xs.length * 1 := by simp
  have hnews : ∀ j u, (xs.map (Value.int .u64))[j]? = some u → (w.alloc (.cells #[] 40)).cell? (a.add j) = some u := (H.out.keep0 ((Only.refl [] w).alloc _)).news
  have hone : ∀ u ∈ xs.map (Value.int .u64), u.oneCell' = true := by intro u hu; simp at hu; obtain ⟨z, _, rfl⟩ := hu; rfl
  have HN := Lib.hid hnews
  have HL := Lib.hid hlen
  have H1 := Lib.hid hone
  clear hlen hnews hone
  go_wp2_with (at_builtin; refine wpList_append_own _ rfl _ _ 22 rfl w.heap.size 40 i0 (.int .u64 0) 1 8 Tryz.underlying22 hi hz0 hz1 hz2 rfl (by decide) _ _ _ rfl HO.out a xs.length cap (xs.map (.int .u64)) rfl HL.out HN.out H1.out (by unfold maxLen; omega) (by omega) (by simp) ?_)
  intro v' w1 hown' hgrow hnil
  have hv : v' ≠ .slice none 0 0 := by simpa using hnil
  obtain ⟨b, hr, hb, hb2⟩ := rowAt_of_owns hown' hv
  have HR := Lib.hid hr
  have ho : Only [] w w1 := ((Only.refl [] w).alloc _).grown hgrow (by simp [Value.ownBlock])
  clear hown' hgrow hnil hr hv
  go_wp2_with fail
  go_ret
  exact ⟨_, b, rfl, ho, HR.out, hb, hb2⟩

/-- All cells, in new memory. -/
theorem memCells_any (w : World) (m bc : Nat) (s : MS) (h : MemAt w m bc s) (hn : s.cells.length ≤ 4000000000000) :
    Calls Tryz.prog 69 #[.pointer (some ⟨m, 0, none⟩)] w fun e w' => ∃ v b, e = .returned v ∧ Only [] w w' ∧ RowAt w' v b 40 (s.cells.map (.int .u64)) ∧ w.heap.size ≤ b ∧ b < w'.heap.size := by
  obtain ⟨v, h1, h2, h6, h7⟩ := h
  obtain ⟨a, cap, rfl, hc, _, _⟩ := h2.cells
  have c0 := cell_blk h1 0
  simp at c0
  have A := Lib.hid (cloneU_any w a cap s.cells hc hn)
  clear h1 h2 hc
  go_enter Tryz.func69, Tryz.ntmps69
  go_wp2_with fail
  refine A.out.mono ?_
  rintro e w1 ⟨v, b, rfl, ho, hr, hb, hb2⟩
  have HR := Lib.hid hr
  clear hr
  go_wp2_with fail
  go_ret
  exact ⟨_, b, rfl, ho, HR.out, hb, hb2⟩

/-- n cells that hold 0. -/
def zeros (n : Nat) : List Int := List.replicate n 0
theorem zeros_len (n : Nat) : (zeros n).length = n := by simp [zeros]
theorem zeros_mem {n : Nat} {x : Int} (h : x ∈ zeros n) : x = 0 := by
  unfold zeros at h
  exact (List.mem_replicate.1 h).2

/-- A cell of a memory that holds 0 everywhere, looked at with any number. -/
theorem memPeek_zero (w : World) (m bc : Nat) (s : MS) (c : Int) (h : MemAt w m bc s) (hz : ∀ x ∈ s.cells, x = 0) :
    Calls Tryz.prog 49 #[.pointer (some ⟨m, 0, none⟩), .int .i64 c] w fun e w' => e = .returned (.int .u64 0) ∧ w = w' := by
  by_cases h1 : c < 0 ∨ s.cells.length ≤ c
  · exact memPeek_out w m bc s c h h1
  · have hk : c.toNat < s.cells.length := by omega
    exact memPeek_in w m bc s c c.toNat (by omega) 0 h hk (hz _ (List.getElem_mem hk))

/-- A new memory of cells that hold 0. -/
theorem memNew_any (w : World) (c L : Int) (n : Nat) (hL : min (max c 0) 131072 = L) (hn : L = (n : Int)) (hn' : n ≤ 131072) :
    Calls Tryz.prog 63 #[.int .i64 c] w fun e w' => ∃ k bk, e = .returned (.pointer (some ⟨k, 0, none⟩)) ∧ Only [] w w' ∧ MemAt w' k bk ⟨zeros n, 0, 0, 0, 0, 0⟩ ∧ w.heap.size ≤ k ∧ w.heap.size ≤ bk ∧ bk < w'.heap.size := by
  obtain ⟨i0, hi, hz0, hz1, hz2⟩ := info_parts info64
  have HL := Lib.hid hL
  have HN := Lib.hid hn
  have h3 : L = 0 ∧ c < 0 ∨ L = 131072 ∧ 131072 < c ∨ L = c ∧ 0 ≤ c ∧ c ≤ 131072 := by omega
  clear hL hn
  rcases h3 with ⟨h, h'⟩ | ⟨h, h'⟩ | ⟨h, h', h''⟩
  all_goals
    have HLc := Lib.hid h
    clear h
    go_enter Tryz.func63, Tryz.ntmps63
    go_wp2_with (at_make; refine wpList_make_full _ rfl _ _ 22 rfl w.heap.size 40 i0 (.int .u64 0) 1 Tryz.underlying22 hi hz0 hz1 .i64 .i64 _ _ n rfl rfl (HLc.out.symm.trans HN.out) (HLc.out.symm.trans HN.out) (by rw [hz2]; omega) (by unfold maxLen; omega) (Nat.le_refl _) ?_)
    intro w1 hown hgrow
    obtain ⟨bk, hr, hb, hb2⟩ := rowAt_of_owns hown (by simp)
    rw [toList_madeCells_one] at hr
    have ho : Only [] w w1 := (Only.refl [] w).grown hgrow (by simp)
    have HR := Lib.hid hr
    clear hown hgrow hr
    go_wp2_with fail
    go_ret
    exact ⟨_, bk, rfl, ho.alloc _, ⟨_, blk_alloc_new _ _, by simpa [zeros] using HR.out.keep ((Only.refl [] w1).alloc _) (by simp), by omega, by simp⟩, ho.size, hb, by simp; omega⟩
end Go.Proofs.YtlklfpbimoolbaaGreat
