/- The reference engine between two entries, whole; a step of one of its machines. No condition beside those named. -/
import Derived.Test.YtncnepmgmphanaaGreatDoorTcEng1
import Derived.Test.YtncnepmgmphanaaGreatDoorTcStep4
import Derived.Test.YtncnepmgmphanaaGreatDoorMg19
import Derived.Laws.MakeOwn
import Derived.OwnWalk
set_option linter.unusedVariables false
set_option linter.unusedSimpArgs false
set_option linter.unusedSectionVars false
namespace Go.Proofs.YtncnepmgmphanaaGreatDoor
open Go.RowKit
def ecells (pe lb k kc : Nat) (ent : Int) (st l0 l1 l2 l3 : Value) : Array Value := #[.pointer (some ⟨pe, 0, none⟩), .slice (some ⟨lb, 0, none⟩) k kc, .int .i64 ent, st, l0, l1, l2, l3]
abbrev EntT : Nat := 88
abbrev KCh (B : Nat) (k : Nat) (U : TypeId) (j : Nat) : Prop := B ≤ k ∧ U ≠ EntT
structure GI [Inhabited SBW] (w00 : World) (sh : Sh) (B T rb N : Nat) (w : World) (xb lb k kc : Nat) (mbs fbs : Nat → Nat) (ent : Int) (st l0 l1 l2 l3 : Value) : Prop where
  ee : EE sh B N T w
  wt : WT kd.sig B N w
  bw : B ≤ w.heap.size
  eng : w.heap[xb]? = some (.cells (ecells sh.pe lb k kc ent st l0 l1 l2 l3) ET (0, 0))
  bx : B ≤ xb
  ml : ∀ j, j < k → w.cell? ⟨lb, j, none⟩ = some (.pointer (some ⟨mbs j, 0, none⟩))
  mi : ∀ j, j < k → MI sh T rb w (mbs j) (fbs j)
  bm : ∀ j, j < k → B ≤ mbs j
  fr : ∀ j, j < k → ∃ f, w.heap[fbs j]? = some (.cells f FRT (0, 0))
  inj : ∀ i j, i < k → j < k → i ≠ j → mbs i ≠ mbs j ∧ fbs i ≠ fbs j
  k1 : 1 ≤ k
  k2 : k ≤ 68719476736
  sbt : ∃ c U, w.heap[SBn]? = some (.cells c U (0, 0)) ∧ (U = IT ∨ SBn = sh.pe)
  stv : st = .slice none 0 0 ∨ ∃ n cap, st = .slice (some ⟨SBn, 0, none⟩) n cap
  sb0 : B ≤ SBn
  bf : ∀ j, j < k → B ≤ fbs j
  keep : Eff (KCh B) w00 w
section
variable [Inhabited SBW] {w00 : World} {sh : Sh} {B N T : Nat} {w w' : World} {rb cr xb lb k kc mb fb : Nat} {mbs fbs : Nat → Nat} {ent : Int} {st l0 l1 l2 l3 : Value}
theorem kE : kd.sig ET = some cs_r28_Engine := by kernel_rfl
theorem ent_prM : ∀ q, (EntT, q % kd.sz EntT) ∈ protM := fun q => by
  have szN : kd.sz EntT = 2 := by kernel_rfl
  rw [szN]
  have h4 : q % 2 = 0 ∨ q % 2 = 1 := by omega
  rcases h4 with e | e <;> rw [e] <;> decide
theorem GI.lst (h : GI w00 sh B T rb N w xb lb k kc mbs fbs ent st l0 l1 l2 l3) : ∃ cur : Array Value, B ≤ lb ∧ w.heap[lb]? = some (.cells cur PT (0, 0)) ∧ k ≤ kc ∧ kc ≤ maxLen ∧ cur.size = kc * 1 ∧ k ≤ N := by
  obtain ⟨v, e, o⟩ := row_cell h.wt kE h.bx h.eng (i := 1) (j := 1) (by simp [ecells]) rfl rfl
  rw [cell_blk h.eng] at e
  cases e
  obtain ⟨n', xs, hn, hl, ⟨hx, -⟩ | ⟨b, cp, cur, hx, h1, h2, h3, h4, h5, h6⟩⟩ := o
  · cases hx
  · cases hx
    exact ⟨cur, h1, h2, h3, h4, h5, hn⟩
theorem MI.mt (h : MI sh T rb w mb fb) : ∃ c, w.heap[mb]? = some (.cells c MT (0, 0)) := by
  rcases h with ⟨v0, v2, v3, hx⟩ | ⟨n, κ, cap, c2, c3, h⟩
  · exact ⟨_, hx⟩
  · exact ⟨_, h.mac⟩
theorem prM_blk {mb fb k sz : Nat} {c cm f : Array Value} {U : TypeId} (hb : w.heap[k]? = some (.cells c U (0, 0))) (hm : w.heap[mb]? = some (.cells cm MT (0, 0))) (hf : w.heap[fb]? = some (.cells f FRT (0, 0))) (h1 : U ≠ MT) (h2 : U ≠ FRT) (hs : kd.sz U = sz) (h0 : 0 < sz) (h3 : ∀ q, q < sz → (U, q) ∈ protM) (g : Eff (SCh B w mb fb) w w') : w'.heap[k]? = some (.cells c U (0, 0)) := by
  obtain ⟨c', l1, l2, l3⟩ := g.cells _ _ _ _ hb
  rw [l1]
  congr 2
  refine blk_eq fun j => l3 j ?_
  have hk := lt_of_blk hb
  rintro (rfl | rfl | hx | ⟨-, hx⟩)
  · rw [hb] at hm; cases hm; exact h1 rfl
  · rw [hb] at hf; cases hf; exact h2 rfl
  · omega
  · have hx := hx.1
    rw [hs] at hx; exact hx (h3 _ (Nat.mod_lt _ h0))
theorem sch_np {mb fb : Nat} {cm f : Array Value} (hm : w.heap[mb]? = some (.cells cm MT (0, 0))) (hf : w.heap[fb]? = some (.cells f FRT (0, 0))) (g : Eff (SCh B w mb fb) w w') : Eff NPc w w' := g.monoT fun k c U f' j hk hc => by
  rcases hc with rfl | rfl | hc | ⟨-, hc⟩
  · rw [hm] at hk
    cases hk
    have : ∀ q, (MT, q) ∉ prot := fun q hq => by simp [prot, MT] at hq
    exact this _
  · rw [hf] at hk
    cases hk
    have : ∀ q, (FRT, q) ∉ prot := fun q hq => by simp [prot, FRT] at hq
    exact this _
  · have := lt_of_blk hk; omega
  · exact protM_of hc.1
theorem step_any (h : MI sh T rb w mb fb) (ee : EE sh B N T w) (wt : WT kd.sig B N w) (bw : B ≤ w.heap.size) (bm : B ≤ mb) (hfr : ∃ f, w.heap[fb]? = some (.cells f FRT (0, 0))) (h8 : 8 ≤ N) (hNN : N + 60 ≤ 68719476736) (hrb : sh.el 19 = .slice (some ⟨rb, 0, none⟩) T cr) :
    Calls Tryz.prog 56 #[.pointer (some ⟨mb, 0, none⟩), .pointer (some ⟨sh.pe, 0, none⟩)] w (StepR sh T rb B (N + 40) w mb fb) := by
  have hfl : fb < w.heap.size := by obtain ⟨f, hf⟩ := hfr; exact lt_of_blk hf
  rcases h with ⟨v0, v2, v3, hx⟩ | ⟨n, κ, cap, c2, c3, h⟩
  · have c1 : w.cell? ⟨mb, 1, none⟩ = some (.bool true) := by rw [cell_blk hx]; rfl
    have FIN : Hid (StepR sh T rb B (N + 40) w mb fb (.returned (.bool true)) w) := Lib.hid ⟨true, fb, rfl, wt.mono (by omega), Eff.refl _ _, .inl ⟨v0, v2, v3, hx⟩, .inl rfl, hfr⟩
    clear hx ee wt hfr
    go_enter Tryz.func56, Tryz.ntmps56
    go_wp2_with fail
    go_ret
    exact FIN.out
  · exact step_run h ee wt bw bm hfl h8 hNN hrb
theorem GI.step {i N' : Nat} {e : Ending} (h : GI w00 sh B T rb N w xb lb k kc mbs fbs ent st l0 l1 l2 l3) (hi : i < k) (hN : N ≤ N') (hS : StepR sh T rb B N' w (mbs i) (fbs i) e w') : ∃ fbs', GI w00 sh B T rb N' w' xb lb k kc mbs fbs' ent st l0 l1 l2 l3 := by
  obtain ⟨b, fb', rfl, hw', g, hM, hf, fnew⟩ := hS
  obtain ⟨cm, hm⟩ := (h.mi i hi).mt
  obtain ⟨ff, hff⟩ := h.fr i hi
  have hnp := sch_np hm hff g
  have hs := g.size
  have frl : ∀ j, j < k → fbs j < w.heap.size := fun j hj => by obtain ⟨f, hf⟩ := h.fr j hj; exact lt_of_blk hf
  have frk : ∀ j, j < k → ∃ f, w'.heap[fbs j]? = some (.cells f FRT (0, 0)) := fun j hj => by
    obtain ⟨f, hf⟩ := h.fr j hj
    obtain ⟨c', l1, -, -⟩ := g.cells _ _ _ _ hf
    exact ⟨c', l1⟩
  obtain ⟨cur, q1, q2, q3, q4, q5, q6⟩ := h.lst
  have p1 : ∀ q, q < 1 → (PT, q) ∈ protM := by decide
  have p8 : ∀ q, q < 8 → (ET, q) ∈ protM := by decide
  have ml' := prM_blk (sz := 1) q2 hm hff (by decide) (by decide) (by kernel_rfl) (by omega) p1 g
  have en' := prM_blk (sz := 8) h.eng hm hff (by decide) (by decide) (by kernel_rfl) (by omega) p8 g
  obtain ⟨cs, U, b1, b2⟩ := h.sbt
  refine ⟨fun j => if j = i then fb' else fbs j, ⟨h.ee.mono h.wt hnp hN, hw', Nat.le_trans h.bw hs, en', h.bx, fun j hj => ?_, fun j hj => ?_, h.bm, fun j hj => ?_, fun a b ha hb hab => ⟨(h.inj a b ha hb hab).1, ?_⟩, h.k1, h.k2, ?_, h.stv, h.sb0, fun j hj => ?_, h.keep.trans (g.monoT fun k c U f j hk hc => ?_)⟩⟩
  · rw [cell_blk ml', ← cell_blk q2]; exact h.ml j hj
  · by_cases hji : j = i
    · subst hji
      simp only [if_true]
      exact hM
    · simp only [if_neg hji]
      exact (h.mi j hj).other h.wt (h.bm j hj) hm (h.inj j i hj hi hji).1 (h.inj j i hj hi hji).2 ⟨ff, hff⟩ g
  · by_cases hji : j = i
    · simp only [if_pos hji]; exact fnew
    · simp only [if_neg hji]; exact frk j hj
  · have := frl a ha
    have := frl b hb
    by_cases hai : a = i
    · subst hai
      simp only [if_true, if_neg (Ne.symm hab)]
      rcases hf with e | e
      · rw [e]; exact (h.inj a b ha hb hab).2
      · omega
    · by_cases hbi : b = i
      · subst hbi
        simp only [if_true, if_neg hai]
        rcases hf with e | e
        · rw [e]; exact (h.inj a b ha hb hab).2
        · omega
      · simp only [if_neg hai, if_neg hbi]
        exact (h.inj a b ha hb hab).2
  · obtain ⟨c', l1, -, -⟩ := g.cells _ _ _ _ b1
    exact ⟨c', U, l1, b2⟩
  · by_cases hji : j = i
    · simp only [if_pos hji]
      rcases hf with e | e
      · rw [e]; exact h.bf i hi
      · exact Nat.le_trans h.bw e
    · simp only [if_neg hji]; exact h.bf j hj
  · rcases hc with rfl | rfl | hc | ⟨-, hc, hB⟩
    · rw [hm] at hk
      cases hk
      exact ⟨h.bm i hi, by decide⟩
    · rw [hff] at hk
      cases hk
      exact ⟨h.bf i hi, by decide⟩
    · have := lt_of_blk hk; omega
    · exact ⟨hB, fun e => by rw [e] at hc; exact hc (ent_prM j)⟩
theorem GI.chg {N' : Nat} {ent' : Int} {st' m0 m1 m2 m3 : Value} (h : GI w00 sh B T rb N w xb lb k kc mbs fbs ent st l0 l1 l2 l3) (hN : N ≤ N') (hw' : WT kd.sig B N' w') (g : Eff (DCh sh.pe xb) w w') (he : w'.heap[xb]? = some (.cells (ecells sh.pe lb k kc ent' st' m0 m1 m2 m3) ET (0, 0))) (hst : st' = .slice none 0 0 ∨ ∃ n cap, st' = .slice (some ⟨SBn, 0, none⟩) n cap) : GI w00 sh B T rb N' w' xb lb k kc mbs fbs ent' st' m0 m1 m2 m3 := by
  obtain ⟨e, h1, h2, h3⟩ := id h.ee.blk
  obtain ⟨cur, q1, q2, q3, q4, q5, q6⟩ := h.lst
  have ml' : w'.heap[lb]? = some (.cells cur PT (0, 0)) := by
    obtain ⟨c', l1, l2, l3⟩ := g.cells _ _ _ _ q2
    rw [l1]
    congr 2
    refine blk_eq fun j => l3 j ?_
    rintro (⟨-, hx⟩ | ⟨-, hx⟩ | ⟨rfl, -⟩)
    · exact absurd hx (by decide)
    · exact absurd hx (by decide)
    · rw [h2] at q2; cases q2
  obtain ⟨cs, U, b1, b2⟩ := h.sbt
  refine ⟨h.ee.keepD h.wt hN g, hw', Nat.le_trans h.bw g.size, he, h.bx, fun j hj => by rw [cell_blk ml', ← cell_blk q2]; exact h.ml j hj, fun j hj => (h.mi j hj).keepD h.wt (h.bm j hj) ⟨e, h2⟩ g, h.bm, fun j hj => ?_, h.inj, h.k1, h.k2, ?_, hst, h.sb0, h.bf, h.keep.trans (g.monoT fun k c U f j hk hc => ?_)⟩
  · obtain ⟨f, hf⟩ := h.fr j hj
    obtain ⟨c', l1, -, -⟩ := g.cells _ _ _ _ hf
    exact ⟨c', l1⟩
  · obtain ⟨c', l1, -, -⟩ := g.cells _ _ _ _ b1
    exact ⟨c', U, l1, b2⟩
  · rcases hc with ⟨rfl, rfl⟩ | ⟨rfl, rfl⟩ | ⟨rfl, -⟩
    · exact ⟨h.sb0, by decide⟩
    · exact ⟨h.bx, by decide⟩
    · rw [h2] at hk
      cases hk
      exact ⟨h1, by decide⟩
end
end Go.Proofs.YtncnepmgmphanaaGreatDoor

namespace Go.Proofs.YtncnepmgmphanaaGreatDoor
open Go.RowKit
def frmW (K ln A J : Int) : List Value := [.int .i64 K, .int .i64 ln, .int .i64 0, .int .i64 0, .int .i64 0, .int .i64 0, .int .i64 A, .int .i64 0, .int .i64 0, .int .i64 0, .int .i64 J, .int .i64 0, .int .i64 0, .int .u64 0, .int .u64 0, .int .u64 0, .int .u64 0, .slice none 0 0]
theorem wpList_build1 {ops : Array Oper} {rest : List Oper} {op : Oper} {a : Act} {w : World} {Q : Exit → Act → World → Prop} {x : Operand} {cs : List Value} (hgd : op.guard = none) (ho : op.op = .buildSlice 139 1 #[(0, x)]) (hx : a.eval x = .agg cs.toArray) (hl : cs.length = 18)
    (h : wpList Tryz.prog ops Q rest (a.put op.dst (.slice (some ⟨w.heap.size, 0, none⟩) 1 1)) (w.alloc (.cells cs.toArray 118))) : wpList Tryz.prog ops Q (op :: rest) a w := by
  letI : Inhabited SBW := sbI 0
  exact wpList_plain hgd fun _ hK => wp_build1 ho hx hl (hK _ _ h)
set_option maxRecDepth 100000 in
set_option maxHeartbeats 1000000 in
theorem make_25 (w : World) (A J : Int) : Calls Tryz.prog 54 #[.agg (frmW 25 0 A J).toArray] w fun e w' => e = .returned (.pointer (some ⟨w.heap.size + 2, 0, none⟩)) ∧ w' = ((w.alloc (.cells (frmW 25 1 A J).toArray 118)).alloc (.cells (frmW 25 1 A J).toArray 118)).alloc (.cells (mcells (w.heap.size + 1) 1 1 0 0) 141) := by
  obtain ⟨cs, hcs⟩ : ∃ cs, cs = frmW 25 1 A J := ⟨_, rfl⟩
  obtain ⟨w1, hw1⟩ : ∃ w1, w1 = w.alloc (.cells cs.toArray 118) := ⟨_, rfl⟩
  have hl : cs.length = 18 := by rw [hcs]; rfl
  have RG := Lib.hid (show w1.rangeAt w.heap.size 0 cs from by rw [hw1]; exact rangeAt_blk (blk_alloc_new _ _))
  have hs1 : w1.heap.size = w.heap.size + 1 := by rw [hw1]; simp
  have HC := Lib.hid hcs
  have HW := Lib.hid hw1
  go_enter Tryz.func54, Tryz.ntmps54
  unfold frmW
  go_upto_region 4 with fail
  change Code.wp _ _ _ _ (w.alloc (.cells (frmW 25 1 A J).toArray 118))
  rw [← hcs, ← hw1]
  clear hcs hw1
  go_wp2_with (first
    | (with_reducible refine wpList_load_mid rfl 118 (.tmp 1) rfl w.heap.size 0 rfl cs _ RG.out rfl rfl (by rw [hl]; exact infoF) ?_)
    | (with_reducible refine wpList_build1 rfl rfl rfl hl ?_))
  refine bodyPost_ret (results_tmp rfl _ _ _) rfl ⟨rfl, ?_⟩
  have h1 := HW.out
  have h2 := HC.out
  rw [h1, h2]
  unfold frmW mcells
  rfl
set_option maxRecDepth 100000 in
set_option maxHeartbeats 1000000 in
theorem make_26 (w : World) (A J : Int) : Calls Tryz.prog 54 #[.agg (frmW 26 0 A J).toArray] w fun e w' => e = .returned (.pointer (some ⟨w.heap.size + 2, 0, none⟩)) ∧ w' = ((w.alloc (.cells (frmW 26 1 A J).toArray 118)).alloc (.cells (frmW 26 1 A J).toArray 118)).alloc (.cells (mcells (w.heap.size + 1) 1 1 0 0) 141) := by
  obtain ⟨cs, hcs⟩ : ∃ cs, cs = frmW 26 1 A J := ⟨_, rfl⟩
  obtain ⟨w1, hw1⟩ : ∃ w1, w1 = w.alloc (.cells cs.toArray 118) := ⟨_, rfl⟩
  have hl : cs.length = 18 := by rw [hcs]; rfl
  have RG := Lib.hid (show w1.rangeAt w.heap.size 0 cs from by rw [hw1]; exact rangeAt_blk (blk_alloc_new _ _))
  have hs1 : w1.heap.size = w.heap.size + 1 := by rw [hw1]; simp
  have HC := Lib.hid hcs
  have HW := Lib.hid hw1
  go_enter Tryz.func54, Tryz.ntmps54
  unfold frmW
  go_upto_region 4 with fail
  change Code.wp _ _ _ _ (w.alloc (.cells (frmW 26 1 A J).toArray 118))
  rw [← hcs, ← hw1]
  clear hcs hw1
  go_wp2_with (first
    | (with_reducible refine wpList_load_mid rfl 118 (.tmp 1) rfl w.heap.size 0 rfl cs _ RG.out rfl rfl (by rw [hl]; exact infoF) ?_)
    | (with_reducible refine wpList_build1 rfl rfl rfl hl ?_))
  refine bodyPost_ret (results_tmp rfl _ _ _) rfl ⟨rfl, ?_⟩
  have h1 := HW.out
  have h2 := HC.out
  rw [h1, h2]
  unfold frmW mcells
  rfl
end Go.Proofs.YtncnepmgmphanaaGreatDoor

namespace Go.Proofs.YtncnepmgmphanaaGreatDoor
open Go.RowKit
variable {B N : Nat}
theorem u64_info : ∃ i z, Tryz.prog.info? 59 = some i ∧ i.zero = some z ∧ z.cells = #[.int .u64 0] ∧ i.size = 1 ∧ i.bytes ≤ 1024 := by
  have h1 : (Tryz.prog.info? 59).map (fun i => (i.zero.map (·.cells), i.size, decide (i.bytes ≤ 1024))) = some (some #[.int .u64 0], 1, true) := by kernel_rfl
  cases hi : Tryz.prog.info? 59 with
  | none => rw [hi] at h1; cases h1
  | some i =>
    rw [hi] at h1
    simp only [Option.map_some, Option.some.injEq, Prod.mk.injEq, decide_eq_true_eq, Option.map_eq_some_iff] at h1
    obtain ⟨⟨z, hz, hc⟩, h2, h3⟩ := h1
    exact ⟨i, z, rfl, hz, hc, h2, h3⟩
theorem u64s_under : Tryz.prog.underlying 58 = some (.slice 59) := by kernel_rfl
theorem made_rows (n : Nat) (w : World) : RowsOK w B N [.int .u64] (madeCells #[.int .u64 0] (n * 1)) := by
  refine ⟨⟨n, by rw [size_madeCells]; rfl⟩, fun i v hi => ⟨.int .u64, by rw [show i % List.length [CK.int .u64] = 0 from Nat.mod_one _]; rfl, ?_⟩⟩
  unfold madeCells at hi
  rw [Array.getElem?_map, Array.getElem?_range] at hi
  split at hi
  · simp only [Option.map_some, Option.some.injEq] at hi
    refine ⟨0, ?_, by constructor <;> decide⟩
    rw [← hi]
    have : i % (#[Value.int .u64 0] : Array Value).size = 0 := Nat.mod_one _
    rw [this]
    rfl
  · cases hi
theorem wpList_make64 {ops : Array Oper} {rest : List Oper} {o : Oper} {a : Act} {w : World} {Q : Exit → Act → World → Prop} (hg : o.guard = none) (l : Operand) (hop : o.op = Op.makeSlice 58 l l) {n : Nat} (hl : a.eval l = .int .i64 n) (hn : n ≤ 131072)
    (h : wpList Tryz.prog ops Q rest (a.put o.dst (.slice (some ⟨w.heap.size, 0, none⟩) n n)) (w.alloc (.cells (madeCells #[.int .u64 0] (n * 1)) 59))) : wpList Tryz.prog ops Q (o :: rest) a w := by
  obtain ⟨i, z, hi, hz, hzc, hs, hb⟩ := u64_info
  refine wpList_plain hg fun K hK => ?_
  have hr := run_make (P := Tryz.prog) w 58 59 i z u64s_under hi hz .i64 .i64 n n (by omega) (Int.le_refl _) (by
    have : i.bytes * n ≤ 1024 * 131072 := Nat.mul_le_mul hb hn
    have h2 : ((i.bytes * n : Nat) : Int) ≤ 281474976710656 := by omega
    rwa [Int.natCast_mul] at h2) (by omega)
  simp only [Int.toNat_natCast, hzc, hs] at hr
  unfold Oper.wp
  simp [execOp, hop, hl, hr, Result.andThen]
  exact hK _ _ (by simpa using h)
def MemR (B N : Nat) (w : World) (e : Ending) (w' : World) : Prop := ∃ v, e = .returned (.agg #[v, .int .i64 0, .int .i64 0, .int .u64 0, .int .u64 0, .int .i64 0]) ∧ WT kd.sig B N w' ∧ Eff (fun _ _ _ => False) w w' ∧ CellOK w' B N (.sl 59 1) v
set_option maxRecDepth 100000 in
set_option maxHeartbeats 4000000 in
theorem memNew (w : World) (c : Int) (hw : WT kd.sig B N w) (hB : B ≤ w.heap.size) (hN : 131072 ≤ N) : Calls Tryz.prog 63 #[.int .i64 c] w (MemR B N w) := by
  have kMm : kd.sig 63 = some cs_r02_Memory := by kernel_rfl
  have kU : kd.sig 59 = some [.int .u64] := by kernel_rfl
  obtain ⟨n, hn, hn2⟩ : ∃ n : Nat, max 0 (min c 131072) = (n : Int) ∧ n ≤ 131072 := ⟨(max 0 (min c 131072)).toNat, by omega, by omega⟩
  have HN := Lib.hid hn
  have HW := Lib.hid (And.intro hw (And.intro hB (And.intro hN (And.intro kMm (And.intro kU hn2)))))
  clear hn hw hB hN kMm kU hn2
  go_enter Tryz.func63, Tryz.ntmps63
  go_wp2_with (at_make; refine wpList_make64 rfl _ rfl (n := n) (by show Value.int IntKind.i64 (max 0 (min c 131072)) = _; rw [HN.out]) HW.out.2.2.2.2.2 ?_)
  obtain ⟨cs, hcs⟩ : ∃ cs : List Value, cs = [.slice (some ⟨w.heap.size + 1, 0, none⟩) n n, .int .i64 0, .int .i64 0, .int .u64 0, .int .u64 0, .int .i64 0] := ⟨_, rfl⟩
  obtain ⟨w2, hw2⟩ : ∃ w2, w2 = (w.alloc (.cells #[.slice (some ⟨w.heap.size + 1, 0, none⟩) n n, .int .i64 0, .int .i64 0, .int .u64 0, .int .u64 0, .int .i64 0] 63)).alloc (.cells (madeCells #[.int .u64 0] n) 59) := ⟨_, rfl⟩
  rw [← hw2]
  obtain ⟨hw, hB, hN, kMm, kU, hn2⟩ := HW.out
  have hb : w2.heap[w.heap.size]? = some (.cells cs.toArray 63 (0, 0)) := by
    rw [hw2, blk_alloc_old (by simp), hcs]
    exact blk_alloc_new _ _
  have hw2' : w2 = (w.alloc (.cells cs.toArray 63)).alloc (.cells (madeCells #[.int .u64 0] n) 59) := by rw [hw2, hcs]
  have hb1 : w2.heap[w.heap.size + 1]? = some (.cells (madeCells #[.int .u64 0] n) 59 (0, 0)) := by
    have h1 := blk_alloc_new (w.alloc (.cells cs.toArray 63)) (.cells (madeCells #[.int .u64 0] n) 59)
    have h2 : ∀ o, (w.alloc o).heap.size = w.heap.size + 1 := fun o => by simp
    rw [h2] at h1
    rw [hw2']; exact h1
  have hok : CellOK w2 B N (.sl 59 1) (.slice (some ⟨w.heap.size + 1, 0, none⟩) n n) :=
    ⟨n, (madeCells #[.int .u64 0] n).toList, by omega, by simp [size_madeCells], .inr ⟨w.heap.size + 1, n, _, rfl, by omega, hb1, Nat.le_refl _, by unfold maxLen; omega, by simp [size_madeCells], by rw [Nat.mul_one]; exact List.take_of_length_le (by simp [size_madeCells])⟩⟩
  have z : CellOK w2 B N (.int .i64) (.int .i64 0) := ⟨0, rfl, i64_in (by omega)⟩
  have u : CellOK w2 B N (.int .u64) (.int .u64 0) := ⟨0, rfl, by constructor <;> decide⟩
  have hW2 : WT kd.sig B N w2 := by
    have h2 := WT.allocs hw [.cells cs.toArray 63, .cells (madeCells #[.int .u64 0] n) 59] fun c U f L hm hL => by
      have hV2' : allocs w [.cells cs.toArray 63, .cells (madeCells #[.int .u64 0] n) 59] = w2 := by rw [hw2, hcs]; rfl
      rw [hV2']
      simp only [List.mem_cons, List.not_mem_nil, or_false] at hm
      rcases hm with hm | hm
      · cases hm
        rw [kMm] at hL
        cases hL
        rw [hcs]
        exact ⟨rfl, RowsOK.one ⟨hok, z, z, u, u, z, trivial⟩⟩
      · cases hm
        rw [kU] at hL
        cases hL
        have := made_rows (B := B) (N := N) n w2
        rw [Nat.mul_one] at this
        exact ⟨rfl, this⟩
    rw [hw2]
    rw [hcs] at h2
    exact h2
  have hE : Eff (fun _ _ _ => False) w w2 := by rw [hw2]; exact (Eff.alloc1 _ _ _).alloc _
  refine bodyPost_ret (run_results_cell 2 63 (a := ⟨w.heap.size, 0, none⟩) (v := .agg cs.toArray) rfl rfl (run_loadVar_mid w2 w.heap.size 0 63 cs _ (rangeAt_blk hb) rfl rfl (by rw [hcs]; kernel_rfl))) rfl ⟨_, by rw [hcs], hW2, hE, hok⟩
end Go.Proofs.YtncnepmgmphanaaGreatDoor

namespace Go.Proofs.YtncnepmgmphanaaGreatDoor
open Go.RowKit
variable {B N : Nat}
abbrev RcT : Nat := 137
theorem kRc : kd.sig RcT = some cs_api_Record := by kernel_rfl
def zeroR : Array Value := #[.int .i64 0, .int .i64 0, .int .i64 0, .int .i64 0, .int .i64 0, .slice none 0 0, .bool false]
theorem rec_info : ∃ i z, Tryz.prog.info? 137 = some i ∧ i.zero = some z ∧ z.cells = zeroR ∧ i.size = 7 ∧ i.bytes ≤ 1024 := by
  have h1 : (Tryz.prog.info? 137).map (fun i => (i.zero.map (·.cells), i.size, decide (i.bytes ≤ 1024))) = some (some zeroR, 7, true) := by kernel_rfl
  cases hi : Tryz.prog.info? 137 with
  | none => rw [hi] at h1; cases h1
  | some i =>
    rw [hi] at h1
    simp only [Option.map_some, Option.some.injEq, Prod.mk.injEq, decide_eq_true_eq, Option.map_eq_some_iff] at h1
    obtain ⟨⟨z, hz, hc⟩, h2, h3⟩ := h1
    exact ⟨i, z, rfl, hz, hc, h2, h3⟩
theorem recs_under : Tryz.prog.underlying 64 = some (.slice 137) := by kernel_rfl
theorem fillR7 (a0 a1 a2 a3 a4 a5 a6 : Value) : Instr.fill (fun i => some (i * 7, 7)) zeroR [(0, .agg #[a0, a1, a2, a3, a4, a5, a6])] = some #[a0, a1, a2, a3, a4, a5, a6] := by kernel_rfl
theorem fillR : ∀ {cs : List Value}, cs.length = 7 → Instr.fill (fun i => some (i * 7, 7)) zeroR [(0, .agg cs.toArray)] = some cs.toArray
  | [a0, a1, a2, a3, a4, a5, a6], _ => fillR7 a0 a1 a2 a3 a4 a5 a6
theorem wp_buildR {op : Oper} {a : Act} {w : World} {K : Act → World → Prop} {Q : Exit → Act → World → Prop} {x : Operand} {cs : List Value} (ho : op.op = .buildSlice 64 1 #[(0, x)]) (hx : a.eval x = .agg cs.toArray) (hl : cs.length = 7)
    (h : K (a.put op.dst (.slice (some ⟨w.heap.size, 0, none⟩) 1 1)) (w.alloc (.cells cs.toArray 137))) : op.wp Tryz.prog a w K Q := by
  obtain ⟨i, z, hi, hz, hzc, hs, hb⟩ := rec_info
  have hrun : (execOp a.eval op).run Tryz.prog w = .ok (.value (.slice (some ⟨w.heap.size, 0, none⟩) 1 1)) (w.alloc (.cells cs.toArray 137)) := by
    have hf := fillR hl
    have hrg : (Array.range 7).map (fun k => zeroR[k % zeroR.size]!) = zeroR := by kernel_rfl
    unfold execOp
    simp only [ho]
    simp [Instr.buildSlice, run_underlying recs_under, sizeOf, typeInfo, hi, hs, zeroValue, hz, newRow, hzc, hx]
    rw [hrg, hf]
    rfl
  unfold Oper.wp
  rw [hrun]
  exact h
theorem wp_appendRt {op : Oper} {a : Act} {w : World} {K : Act → World → Prop} {Q : Exit → Act → World → Prop} {s x : Operand} {cs : List Value} {B0 X b : Nat} {v0 : Value} (ho : op.op = .call { callee := .builtin .append, args := #[s, x], argTypes := #[64, 64] })
    (hs : a.eval s = v0) (hx : a.eval x = .slice (some ⟨b, 0, none⟩) 1 1) (hw : WT kd.sig B N w) (hB0 : B ≤ B0) (hBw : B0 ≤ w.heap.size) (hv : SlOK w B0 X RcT 7 v0) (hn : AllOK w B N cs_api_Record cs) (hb : w.heap[b]? = some (.cells cs.toArray RcT (0, 0))) (hX : X + 1 ≤ N) (hN : N ≤ 68719476736)
    (h : ∀ v w', WT kd.sig B N w' → SlOK w' B0 N RcT 7 v → Eff (fun k U _ => B0 ≤ k ∧ U = RcT) w w' → slLen v = slLen v0 + 1 → K (a.put op.dst v) w') : op.wp Tryz.prog a w K Q := by
  obtain ⟨i, z, hi, hz, hzc, hsz, hby⟩ := rec_info
  have hl : cs.length = 7 := by rw [← hn.len]; rfl
  obtain ⟨v, w', hr, h1, h2, h3, h4⟩ := run_append_ty (P := Tryz.prog) (kd := kd) (L := cs_api_Record) (ty := op.type) (a := ⟨b, 0, none⟩) (m := 1) (c := 1) (news := cs) (X := X) (M := N) recs_under hi hz hsz hby (by rw [hzc]; decide) kRc hw hB0 hBw hv (RowsOK.one hn) (by rw [hl]; rfl) (fun j u hj => by rw [Go.WideShapes.add_plain, Nat.zero_add, cell_blk hb]; simpa using hj) hX (Nat.le_refl _) hN (fun _ => by omega)
  unfold Oper.wp execOp
  simp only [ho, resolve, invoke, builtin, Sem.run_bind, Sem.run_pure, Result.andThen_ok, List.map_toArray, List.map_cons, List.map_nil, hs, hx, hr]
  exact h v w' h1 h2 h3 h4
end Go.Proofs.YtncnepmgmphanaaGreatDoor

namespace Go.Proofs.YtncnepmgmphanaaGreatDoor
open Go.RowKit
variable {B N : Nat}
def evN : Ev := (66, [])
def sh0 : Sh := ⟨0, fun _ => .bool false, fun _ => .bool false⟩
abbrev GT : World → Prop := fun _ => True
theorem evN_ok : EvSh evN sh0 GT := fun q hq => by cases hq
theorem safe_GT : Safe kd prot GT := fun _ _ _ _ => trivial
theorem chkN_deques : fnChk Tryz.prog kd evN (ftLook []) prot Tryz.f82 sg_deques = true := by kernel_rfl
theorem tcN_deques : TC Tryz.prog kd sh0 B GT 82 sg_deques := fn_sound Tryz.func82 chkN_deques hft_nil evN_ok safe_GT mixed
theorem chkN_Cells : fnChk Tryz.prog kd evN (ftLook [(82, sg_deques)]) prot Tryz.f64 sg_Cells = true := by kernel_rfl
theorem tcN_Cells : TC Tryz.prog kd sh0 B GT 64 sg_Cells := fn_sound Tryz.func64 chkN_Cells (hft_cons call_deques tcN_deques hft_nil) evN_ok safe_GT mixed
theorem chkN_Fresh : fnChk Tryz.prog kd evN (ftLook []) prot Tryz.f65 sg_Fresh = true := by kernel_rfl
theorem tcN_Fresh : TC Tryz.prog kd sh0 B GT 65 sg_Fresh := fn_sound Tryz.func65 chkN_Fresh hft_nil evN_ok safe_GT mixed
theorem noeff {s : FSig} {args : Array Value} {w w' : World} (he : s.eff = []) (h : Eff (ChOf B kd (cxOf kd sh0 s args w) s.eff) w w') : Eff (fun _ _ _ => False) w w' := h.mono fun k U j hk hc => by
  rw [he] at hc
  rcases hc with hc | ⟨i, o, hm, -⟩ | ⟨o, hm, -⟩
  · have : w.heap.size ≤ k := hc
    omega
  · cases hm
  · cases hm
theorem cells_any {w : World} {cs : List Value} (hw : WT kd.sig B N w) (hB : B ≤ w.heap.size) (hN : N ≤ 68719476736) (hc : AllOK w B N cs_api_Config cs) : Calls Tryz.prog 64 #[.agg cs.toArray] w fun e w' => ∃ n, e = .returned (.int .i64 n) ∧ WT kd.sig B N w' ∧ Eff (fun _ _ _ => False) w w' := by
  refine (tcN_Cells N w #[.agg cs.toArray] rfl hB (by simpa [sg_Cells] using hN) hw trivial (fun i t ht => ?_) no_post).mono ?_
  · match i, ht with
    | 0, ht => cases ht; exact ⟨_, rfl, cs, rfl, hc⟩
  · rintro e w' ⟨v, rfl, g1, g2, ⟨n, rfl, -⟩, -⟩
    exact ⟨n, rfl, by simpa [sg_Cells] using g1, noeff rfl g2⟩
theorem fresh_any {w : World} {a b : Int} (hw : WT kd.sig B N w) (hB : B ≤ w.heap.size) (hN : N ≤ 68719476736) (ia : inK .i64 a) (ib : inK .i64 b) : Calls Tryz.prog 65 #[.int .i64 a, .int .i64 b] w fun e w' => ∃ cs : List Value, e = .returned (.agg cs.toArray) ∧ AllOK w' B N cs_api_Record cs ∧ WT kd.sig B N w' ∧ Eff (fun _ _ _ => False) w w' := by
  refine (tcN_Fresh N w #[.int .i64 a, .int .i64 b] rfl hB (by simpa [sg_Fresh] using hN) hw trivial (fun i t ht => ?_) no_post).mono ?_
  · match i, ht with
    | 0, ht => cases ht; exact ⟨_, rfl, a, rfl, ia⟩
    | 1, ht => cases ht; exact ⟨_, rfl, b, rfl, ib⟩
  · rintro e w' ⟨v, rfl, g1, g2, ⟨cs, rfl, hcs⟩, -⟩
    exact ⟨cs, rfl, by simpa [sg_Fresh] using hcs, by simpa [sg_Fresh] using g1, noeff rfl g2⟩
end Go.Proofs.YtncnepmgmphanaaGreatDoor
