/- Bare environments of the program and of the reference, and when they are the same. -/
import Derived.Test.YtfhkhknnoepfeaaGreatMachMem
import Derived.Test.YtfhkhknnoepfeaaGreatPushStep
import Derived.Test.YtfhkhknnoepfeaaGreatDqRef
namespace Go.Proofs.YtfhkhknnoepfeaaGreat
open Go.RowKit
set_option linter.unusedVariables false

def cfg0 : List Value := [.int .i64 0, .int .i64 0, .int .i64 0, .int .i64 0, .int .i64 0, .int .i64 0, .int .i64 0, .int .i64 0, .int .i64 0, .slice none 0 0, .slice none 0 0]
def lay0 : List Value := [.int .i64 0, .int .i64 0, .int .i64 0, .int .i64 0, .int .i64 0, .int .i64 0, .int .i64 0, .int .i64 0, .int .i64 0, .int .i64 0, .int .i64 0]
def envO (m ck : Nat) : Obj := .cells (cfg0 ++ (lay0 ++ [Value.pointer (some ⟨m, 0, none⟩), Value.pointer (some ⟨ck, 0, none⟩), Value.slice none 0 0, Value.slice none 0 0])).toArray 99 (0, 0)
def clkO (now draw : Int) : Obj := .cells #[.int .i64 now, .int .i64 draw] 129 (0, 0)
def renvPost (now : Int) : List Value := [.int .i64 now, .int .i64 0, .slice none 0 0, .slice none 0 0]

/-- The program's environment at en: its memory m with the cells bc, its clock ck. -/
structure EnvAt (w : World) (en m bc ck : Nat) (s : MS) (now : Int) : Prop where
  e : w.heap[en]? = some (envO m ck)
  c : w.heap[ck]? = some (clkO now 0)
  mm : MemAt w m bc s
  em : en ≠ m
  ec : en ≠ bc
  ek : en ≠ ck
  km : ck ≠ m
  kc : ck ≠ bc

/-- The reference's environment at r, its cells rc. -/
def REnvAt (w : World) (r rc : Nat) (s : MS) (now : Int) : Prop := RMemAt w 112 r cfg0 (renvPost now) rc s

theorem EnvAt.keep {S : List Nat} {w w' : World} {en m bc ck : Nat} {s : MS} {now : Int} (h : EnvAt w en m bc ck s now) (o : Only S w w') (h1 : en ∉ S) (h2 : m ∉ S) (h3 : bc ∉ S) (h4 : ck ∉ S) : EnvAt w' en m bc ck s now :=
  ⟨o.keep h.e h1, o.keep h.c h4, h.mm.keep o h2 h3, h.em, h.ec, h.ek, h.km, h.kc⟩
theorem EnvAt.keep0 {w w' : World} {en m bc ck : Nat} {s : MS} {now : Int} (h : EnvAt w en m bc ck s now) (o : Only [] w w') : EnvAt w' en m bc ck s now := h.keep o (by simp) (by simp) (by simp) (by simp)
theorem EnvAt.drew {w : World} {en m bc ck : Nat} {s : MS} {now : Int} (h : EnvAt w en m bc ck s now) : EnvAt w.drew en m bc ck s now := h.keep0 (Only.refl _ _).drew

theorem EnvAt.mem {w : World} {en m bc ck : Nat} {s : MS} {now : Int} (h : EnvAt w en m bc ck s now) : w.cell? ⟨en, 22, none⟩ = some (.pointer (some ⟨m, 0, none⟩)) := by
  rw [cell_blk (show w.heap[en]? = some (.cells _ _ _) from h.e)]; rfl
theorem EnvAt.clk {w : World} {en m bc ck : Nat} {s : MS} {now : Int} (h : EnvAt w en m bc ck s now) : w.cell? ⟨en, 23, none⟩ = some (.pointer (some ⟨ck, 0, none⟩)) := by
  rw [cell_blk (show w.heap[en]? = some (.cells _ _ _) from h.e)]; rfl
theorem EnvAt.recs {w : World} {en m bc ck : Nat} {s : MS} {now : Int} (h : EnvAt w en m bc ck s now) : w.cell? ⟨en, 24, none⟩ = some (.slice none 0 0) := by
  rw [cell_blk (show w.heap[en]? = some (.cells _ _ _) from h.e)]; rfl
theorem EnvAt.evs {w : World} {en m bc ck : Nat} {s : MS} {now : Int} (h : EnvAt w en m bc ck s now) : w.cell? ⟨en, 25, none⟩ = some (.slice none 0 0) := by
  rw [cell_blk (show w.heap[en]? = some (.cells _ _ _) from h.e)]; rfl

set_option maxRecDepth 100000 in
theorem clockNew_any (w : World) : Calls Tryz.prog 31 #[] w fun e w' => e = .returned (.pointer (some ⟨w.heap.size, 0, none⟩)) ∧ w' = w.alloc (clkO 0 0) := by
  go_enter Tryz.func31, Tryz.ntmps31
  go_wp2
  go_ret
  exact ⟨rfl, rfl⟩

set_option maxRecDepth 100000 in
theorem machBare_any (w : World) (c : Int) (n : Nat) (hc : c = n) (hn : n ≤ 131072) :
    Calls Tryz.prog 16 #[.int .i64 c] w fun e w' => ∃ en m bc ck, e = .returned (.pointer (some ⟨en, 0, none⟩)) ∧ Only [] w w' ∧ EnvAt w' en m bc ck ⟨zeros n, 0, 0, 0, 0, 0⟩ 0 ∧ w.heap.size ≤ en ∧ w.heap.size ≤ m ∧ w.heap.size ≤ bc ∧ w.heap.size ≤ ck ∧ en < w'.heap.size ∧ m < w'.heap.size ∧ bc < w'.heap.size ∧ ck < w'.heap.size := by
  have HN := fun w => Lib.hid (memNew_any w c n n (by omega) rfl hn)
  clear hn hc
  go_enter Tryz.func16, Tryz.ntmps16
  go_wp2_with fail
  refine (HN _).out.mono ?_; rintro e w1 ⟨m, bc, rfl, o1, h1, l1, l2, l3⟩
  have l4 := h1.lt
  have M1 := Lib.hid h1
  have O1 := Lib.hid o1
  clear h1 o1
  go_wp2_with fail
  refine (clockNew_any _).mono ?_; rintro e w2 ⟨rfl, rfl⟩
  go_wp2_with fail
  go_ret
  have k1 := blk_alloc_new w1 (clkO 0 0)
  have e1 : ((w1.alloc (clkO 0 0)).alloc (envO m w1.heap.size)).heap[w1.heap.size + 1]? = some (envO m w1.heap.size) := by
    have h := blk_alloc_new (w1.alloc (clkO 0 0)) (envO m w1.heap.size)
    rwa [show (w1.alloc (clkO 0 0)).heap.size = w1.heap.size + 1 from by simp] at h
  have o2 := ((Only.refl [] w1).alloc (clkO 0 0)).alloc (envO m w1.heap.size)
  have ls := O1.out.size
  refine ⟨w1.heap.size + 1, m, bc, w1.heap.size, by simp, O1.out.then0 o2, ⟨e1, ?_, M1.out.keep o2 (by simp) (by simp), by omega, by omega, by omega, by omega, by omega⟩, by omega, l1, l2, by omega, ?_, ?_, ?_, ?_⟩
  · show ((w1.alloc (clkO 0 0)).alloc (envO m w1.heap.size)).heap[w1.heap.size]? = _
    rw [blk_alloc_old (by simp)]
    exact k1
  all_goals
    show _ < ((w1.alloc (clkO 0 0)).alloc (envO m w1.heap.size)).heap.size
    simp <;> omega

/-- The reference's new memory, by value. -/
theorem refNew_any (w : World) (c L : Int) (n : Nat) (hL : min (max c 0) 131072 = L) (hn : L = (n : Int)) (hn' : n ≤ 131072) :
    Calls Tryz.prog 33 #[.int .i64 c] w fun e w' => ∃ a cap bk, e = .returned (.agg #[.slice (some a) n cap, .int .i64 0, .int .i64 0, .int .u64 0, .int .u64 0, .int .i64 0]) ∧ Only [] w w' ∧ RowAt w' (.slice (some a) n cap) bk 105 ((zeros n).map (.int .u64)) ∧ w.heap.size ≤ bk ∧ bk < w'.heap.size := by
  obtain ⟨i0, hi, hz0, hz1, hz2⟩ := info_parts info64
  have HL := Lib.hid hL
  have HN := Lib.hid hn
  have h3 : L = 0 ∧ c ≤ 0 ∨ L = 131072 ∧ 131072 < c ∨ L = c ∧ 0 < c ∧ c ≤ 131072 := by omega
  clear hL hn
  rcases h3 with ⟨h, h'⟩ | ⟨h, h'⟩ | ⟨h, h', h''⟩
  all_goals
    have HLc := Lib.hid h
    clear h
    go_enter Tryz.func33, Tryz.ntmps33
    go_wp2_with (at_make; refine wpList_make_full _ rfl _ _ 104 rfl w.heap.size 105 i0 (.int .u64 0) 1 Tryz.underlying104 hi hz0 hz1 .i64 .i64 _ _ n rfl rfl (HLc.out.symm.trans HN.out) (HLc.out.symm.trans HN.out) (by rw [hz2]; omega) (by unfold maxLen; omega) (by simp) ?_)
    intro w1 hown hgrow
    obtain ⟨hr, hb, hb2⟩ := rowAt_of_owns2 hown
    rw [toList_madeCells_one] at hr
    have ho : Only [] (w.alloc _) w1 := (Only.refl [] _).grown hgrow (by simp)
    have hk := ho.keep (blk_alloc_new w _) (by simp)
    have HR := Lib.hid hr
    have HO : Only [] w w1 := ((Only.refl [] w).alloc _).then0 ho
    have d0 := cell_blk hk 0
    have d1 := cell_blk hk 1
    have d2 := cell_blk hk 2
    have d3 := cell_blk hk 3
    have d4 := cell_blk hk 4
    have d5 := cell_blk hk 5
    have f0 := free_blk hk 0
    have f1 := free_blk hk 1
    have f2 := free_blk hk 2
    have f3 := free_blk hk 3
    have f4 := free_blk hk 4
    have f5 := free_blk hk 5
    simp at d0 d1 d2 d3 d4 d5
    clear hown hgrow hr hk ho
    go_wp2_with fail
    refine bodyPost_ret (v := .agg #[.slice (some ⟨w.heap.size + 1, 0, none⟩) n n, .int .i64 0, .int .i64 0, .int .u64 0, .int .u64 0, .int .i64 0]) (by simp [results, Tryz.results33, go_sem, d0, d1, d2, d3, d4, d5]) rfl ⟨_, n, w.heap.size + 1, rfl, ?_, ?_, by omega, ?_⟩
    · exact HO.thenN (only6 w1 w.heap.size _ _ _ _ _ _ _ _ _ _ _ _) (Nat.le_refl _)
    · simpa [zeros] using HR.out.keep (only6 w1 w.heap.size _ _ _ _ _ _ _ _ _ _ _ _) (by simp)
    · exact Nat.lt_of_lt_of_le hb2 (only6 w1 w.heap.size _ _ _ _ _ _ _ _ _ _ _ _).size

set_option maxRecDepth 100000 in
theorem refBare_any (w : World) (c : Int) (n : Nat) (hc : c = n) (hn : n ≤ 131072) :
    Calls Tryz.prog 21 #[.int .i64 c] w fun e w' => ∃ r rc, e = .returned (.pointer (some ⟨r, 0, none⟩)) ∧ Only [] w w' ∧ REnvAt w' r rc ⟨zeros n, 0, 0, 0, 0, 0⟩ 0 ∧ w.heap.size ≤ r ∧ w.heap.size ≤ rc ∧ r < w'.heap.size ∧ rc < w'.heap.size := by
  have HN := fun w => Lib.hid (refNew_any w c n n (by omega) rfl hn)
  clear hn hc
  go_enter Tryz.func21, Tryz.ntmps21
  go_wp2_with fail
  refine (HN _).out.mono ?_; rintro e w1 ⟨a, cap, bk, rfl, o1, h1, l1, l2⟩
  have M1 := Lib.hid h1
  have O1 := Lib.hid o1
  clear h1 o1
  go_wp2_with fail
  go_ret
  have ls := O1.out.size
  have o2 := (Only.refl [] w1).alloc (.cells (cfg0 ++ ([Value.slice (some a) n cap, .int .i64 0, .int .i64 0, .int .u64 0, .int .u64 0, .int .i64 0] ++ renvPost 0)).toArray 112 (0, 0))
  refine ⟨w1.heap.size, bk, rfl, O1.out.then0 o2, ⟨_, blk_alloc_new w1 _, M1.out.keep o2 (by simp), by omega, by simp⟩, by omega, l1, ?_, ?_⟩
  all_goals
    show _ < (w1.alloc (.cells (cfg0 ++ ([Value.slice (some a) n cap, .int .i64 0, .int .i64 0, .int .u64 0, .int .u64 0, .int .i64 0] ++ renvPost 0)).toArray 112 (0, 0))).heap.size
    simp <;> omega
end Go.Proofs.YtfhkhknnoepfeaaGreat
