/- The reference engine between two entries, whole; a step of one of its machines. No condition beside those named. -/
import Derived.Test.YtncnepmgmphanaaGreatDoorMg18
import Derived.Test.YtncnepmgmphanaaGreatDoorTcStep4
import Derived.Test.YtncnepmgmphanaaGreatDoorMg16
import Derived.Laws.MakeOwn
import Derived.OwnWalk
set_option linter.unusedVariables false
set_option linter.unusedSimpArgs false
set_option linter.unusedSectionVars false
namespace Go.Proofs.YtncnepmgmphanaaGreatDoor
section
open Go.RowKit
def dQ (pe lb k kc : Nat) (dx : Int) (st l0 l1 l2 l3 : Value) : Array Value := #[.pointer (some ⟨pe, 0, none⟩), .slice (some ⟨lb, 0, none⟩) k kc, .int .i64 dx, st, l0, l1, l2, l3]
abbrev Gz : Nat := 88
abbrev KCh (B : Nat) (k : Nat) (U : TypeId) (j : Nat) : Prop := B ≤ k ∧ U ≠ Gz
structure GI [Inhabited cK] (dG : World) (sh : Sh) (B T rb N : Nat) (w : World) (xb lb k kc : Nat) (bN cu : Nat → Nat) (dx : Int) (st l0 l1 l2 l3 : Value) : Prop where
 ee : EE sh B N T w
 wt : WT kd.sig B N w
 bw : B ≤ w.heap.size
 ed : w.heap[xb]? = some (.cells (dQ sh.pe lb k kc dx st l0 l1 l2 l3) ET (0, 0))
 bx : B ≤ xb
 ml : ∀ j, j < k → w.cell? ⟨lb, j, none⟩ = some (.pointer (some ⟨bN j, 0, none⟩))
 mi : ∀ j, j < k → MI sh T rb w (bN j) (cu j)
 bm : ∀ j, j < k → B ≤ bN j
 fr : ∀ j, j < k → ∃ f, w.heap[cu j]? = some (.cells f bT (0, 0))
 inj : ∀ i j, i < k → j < k → i ≠ j → bN i ≠ bN j ∧ cu i ≠ cu j
 k1 : 1 ≤ k
 k2 : k ≤ 68719476736
 sbt : ∃ c U, w.heap[uO]? = some (.cells c U (0, 0)) ∧ (U = IT ∨ uO = sh.pe)
 A9 : st = .slice none 0 0 ∨ ∃ n cap, st = .slice (some ⟨uO, 0, none⟩) n cap
 sb0 : B ≤ uO
 bf : ∀ j, j < k → B ≤ cu j
 keep : Eff (KCh B) dG w
section
variable [Inhabited cK] {dG : World} {sh : Sh} {B N T : Nat} {w w' : World} {rb cr xb lb k kc mb fb : Nat} {bN cu : Nat → Nat} {dx : Int} {st l0 l1 l2 l3 : Value}
theorem kE : kd.sig ET = some nK := by kernel_rfl
theorem agj : ∀ q, (Gz, q % kd.sz Gz) ∈ rU := fun q => by
 have szN : kd.sz Gz = 2 := by kernel_rfl
 rw [szN]
 have h4 : q % 2 = 0 ∨ q % 2 = 1 := by omega
 rcases h4 with e | e <;> rw [e] <;> decide
theorem GI.lst (h : GI dG sh B T rb N w xb lb k kc bN cu dx st l0 l1 l2 l3) : ∃ cur : Array Value, B ≤ lb ∧ w.heap[lb]? = some (.cells cur PT (0, 0)) ∧ k ≤ kc ∧ kc ≤ maxLen ∧ cur.size = kc * 1 ∧ k ≤ N := by
 obtain ⟨v, e, o⟩ := bZ h.wt kE h.bx h.ed (i := 1) (j := 1) (by simp [dQ]) rfl rfl
 rw [aa h.ed] at e
 cases e
 obtain ⟨n', xs, hn, hl, ⟨hx, -⟩ | ⟨b, cp, cur, hx, h1, h2, h3, h4, h5, h6⟩⟩ := o
 · cases hx
 · cases hx
   exact ⟨cur, h1, h2, h3, h4, h5, hn⟩
theorem MI.mt (h : MI sh T rb w mb fb) : ∃ c, w.heap[mb]? = some (.cells c MT (0, 0)) := by
 rcases h with ⟨v0, v2, v3, hx⟩ | ⟨n, κ, cap, c2, c3, h⟩
 · exact ⟨_, hx⟩
 · exact ⟨_, h.fF⟩
theorem Ui {mb fb k sz : Nat} {c cm f : Array Value} {U : TypeId} (hb : w.heap[k]? = some (.cells c U (0, 0))) (hm : w.heap[mb]? = some (.cells cm MT (0, 0))) (hf : w.heap[fb]? = some (.cells f bT (0, 0))) (h1 : U ≠ MT) (h2 : U ≠ bT) (hs : kd.sz U = sz) (h0 : 0 < sz) (h3 : ∀ q, q < sz → (U, q) ∈ rU) (g : Eff (Td B w mb fb) w w') : w'.heap[k]? = some (.cells c U (0, 0)) := by
 obtain ⟨c', l1, l2, l3⟩ := g.cells _ _ _ _ hb
 rw [l1]
 congr 2
 refine kK fun j => l3 j ?_
 have hk := aK hb
 rintro (rfl | rfl | hx | ⟨-, hx⟩)
 · rw [hb] at hm; cases hm; exact h1 rfl
 · rw [hb] at hf; cases hf; exact h2 rfl
 · omega
 · have hx := hx.1
   rw [hs] at hx; exact hx (h3 _ (Nat.mod_lt _ h0))
theorem ahF {mb fb : Nat} {cm f : Array Value} (hm : w.heap[mb]? = some (.cells cm MT (0, 0))) (hf : w.heap[fb]? = some (.cells f bT (0, 0))) (g : Eff (Td B w mb fb) w w') : Eff ui w w' := g.iI fun k c U f' j hk hc => by
 rcases hc with rfl | rfl | hc | ⟨-, hc⟩
 · rw [hm] at hk
   cases hk
   have : ∀ q, (MT, q) ∉ ae := fun q hq => by simp [ae, MT] at hq
   exact this _
 · rw [hf] at hk
   cases hk
   have : ∀ q, (bT, q) ∉ ae := fun q hq => by simp [ae, bT] at hq
   exact this _
 · have := aK hk; omega
 · exact DJ hc.1
theorem aex (h : MI sh T rb w mb fb) (ee : EE sh B N T w) (wt : WT kd.sig B N w) (bw : B ≤ w.heap.size) (bm : B ≤ mb) (hfr : ∃ f, w.heap[fb]? = some (.cells f bT (0, 0))) (h8 : 8 ≤ N) (fM : N + 60 ≤ 68719476736) (hrb : sh.el 19 = .slice (some ⟨rb, 0, none⟩) T cr) :
   Calls Tryz.prog 56 #[.pointer (some ⟨mb, 0, none⟩), .pointer (some ⟨sh.pe, 0, none⟩)] w (Av sh T rb B (N + 40) w mb fb) := by
 have hfl : fb < w.heap.size := by obtain ⟨f, hf⟩ := hfr; exact aK hf
 rcases h with ⟨v0, v2, v3, hx⟩ | ⟨n, κ, cap, c2, c3, h⟩
 · have c1 : w.cell? ⟨mb, 1, none⟩ = some (.bool true) := by rw [aa hx]; rfl
   have FIN : Hid (Av sh T rb B (N + 40) w mb fb (.returned (.bool true)) w) := Lib.hid ⟨true, fb, rfl, wt.mono (by omega), Eff.refl _ _, .inl ⟨v0, v2, v3, hx⟩, .inl rfl, hfr⟩
   clear hx ee wt hfr
   go_enter Tryz.func56, Tryz.ntmps56
   go_wp2_with fail
   go_ret
   exact FIN.out
 · exact aeP h ee wt bw bm hfl h8 fM hrb
theorem GI.step {i N' : Nat} {e : Ending} (h : GI dG sh B T rb N w xb lb k kc bN cu dx st l0 l1 l2 l3) (hi : i < k) (hN : N ≤ N') (hS : Av sh T rb B N' w (bN i) (cu i) e w') : ∃ il, GI dG sh B T rb N' w' xb lb k kc bN il dx st l0 l1 l2 l3 := by
 obtain ⟨b, dP, rfl, hw', g, hM, hf, ala⟩ := hS
 obtain ⟨cm, hm⟩ := (h.mi i hi).mt
 obtain ⟨ff, wQ⟩ := h.fr i hi
 have jq := ahF hm wQ g
 have hs := g.size
 have frl : ∀ j, j < k → cu j < w.heap.size := fun j hj => by obtain ⟨f, hf⟩ := h.fr j hj; exact aK hf
 have frk : ∀ j, j < k → ∃ f, w'.heap[cu j]? = some (.cells f bT (0, 0)) := fun j hj => by
   obtain ⟨f, hf⟩ := h.fr j hj
   obtain ⟨c', l1, -, -⟩ := g.cells _ _ _ _ hf
   exact ⟨c', l1⟩
 obtain ⟨cur, q1, q2, q3, q4, q5, q6⟩ := h.lst
 have p1 : ∀ q, q < 1 → (PT, q) ∈ rU := by decide
 have p8 : ∀ q, q < 8 → (ET, q) ∈ rU := by decide
 have ml' := Ui (sz := 1) q2 hm wQ (by decide) (by decide) (by kernel_rfl) (by omega) p1 g
 have en' := Ui (sz := 8) h.ed hm wQ (by decide) (by decide) (by kernel_rfl) (by omega) p8 g
 obtain ⟨cs, U, b1, b2⟩ := h.sbt
 refine ⟨fun j => if j = i then dP else cu j, ⟨h.ee.mono h.wt jq hN, hw', Nat.le_trans h.bw hs, en', h.bx, fun j hj => ?_, fun j hj => ?_, h.bm, fun j hj => ?_, fun a b ha hb hab => ⟨(h.inj a b ha hb hab).1, ?_⟩, h.k1, h.k2, ?_, h.A9, h.sb0, fun j hj => ?_, h.keep.trans (g.iI fun k c U f j hk hc => ?_)⟩⟩
 · rw [aa ml', ← aa q2]; exact h.ml j hj
 · by_cases hji : j = i
   · subst hji
     simp only [if_true]
     exact hM
   · simp only [if_neg hji]
     exact (h.mi j hj).other h.wt (h.bm j hj) hm (h.inj j i hj hi hji).1 (h.inj j i hj hi hji).2 ⟨ff, wQ⟩ g
 · by_cases hji : j = i
   · simp only [if_pos hji]; exact ala
   · simp only [if_neg hji]; exact frk j hj
 · have := frl a ha
   have := frl b hb
   by_cases hai : a = i
   · subst hai
     simp only [if_true, if_neg (Ne.symm hab)]
     rcases hf with e | e
     · rw [e]; exact (h.inj a b ha hb hab).2
     · omega
   · by_cases hbi : b = i
     · subst hbi
       simp only [if_true, if_neg hai]
       rcases hf with e | e
       · rw [e]; exact (h.inj a b ha hb hab).2
       · omega
     · simp only [if_neg hai, if_neg hbi]
       exact (h.inj a b ha hb hab).2
 · obtain ⟨c', l1, -, -⟩ := g.cells _ _ _ _ b1
   exact ⟨c', U, l1, b2⟩
 · by_cases hji : j = i
   · simp only [if_pos hji]
     rcases hf with e | e
     · rw [e]; exact h.bf i hi
     · exact Nat.le_trans h.bw e
   · simp only [if_neg hji]; exact h.bf j hj
 · rcases hc with rfl | rfl | hc | ⟨-, hc, hB⟩
   · rw [hm] at hk
     cases hk
     exact ⟨h.bm i hi, by decide⟩
   · rw [wQ] at hk
     cases hk
     exact ⟨h.bf i hi, by decide⟩
   · have := aK hk; omega
   · exact ⟨hB, fun e => by rw [e] at hc; exact hc (agj j)⟩
theorem GI.JM {N' : Nat} {sw : Int} {st' m0 m1 m2 m3 : Value} (h : GI dG sh B T rb N w xb lb k kc bN cu dx st l0 l1 l2 l3) (hN : N ≤ N') (hw' : WT kd.sig B N' w') (g : Eff (Un sh.pe xb) w w') (he : w'.heap[xb]? = some (.cells (dQ sh.pe lb k kc sw st' m0 m1 m2 m3) ET (0, 0))) (hst : st' = .slice none 0 0 ∨ ∃ n cap, st' = .slice (some ⟨uO, 0, none⟩) n cap) : GI dG sh B T rb N' w' xb lb k kc bN cu sw st' m0 m1 m2 m3 := by
 obtain ⟨e, h1, h2, h3⟩ := id h.ee.blk
 obtain ⟨cur, q1, q2, q3, q4, q5, q6⟩ := h.lst
 have ml' : w'.heap[lb]? = some (.cells cur PT (0, 0)) := by
   obtain ⟨c', l1, l2, l3⟩ := g.cells _ _ _ _ q2
   rw [l1]
   congr 2
   refine kK fun j => l3 j ?_
   rintro (⟨-, hx⟩ | ⟨-, hx⟩ | ⟨rfl, -⟩)
   · exact absurd hx (by decide)
   · exact absurd hx (by decide)
   · rw [h2] at q2; cases q2
 obtain ⟨cs, U, b1, b2⟩ := h.sbt
 refine ⟨h.ee.keepD h.wt hN g, hw', Nat.le_trans h.bw g.size, he, h.bx, fun j hj => by rw [aa ml', ← aa q2]; exact h.ml j hj, fun j hj => (h.mi j hj).keepD h.wt (h.bm j hj) ⟨e, h2⟩ g, h.bm, fun j hj => ?_, h.inj, h.k1, h.k2, ?_, hst, h.sb0, h.bf, h.keep.trans (g.iI fun k c U f j hk hc => ?_)⟩
 · obtain ⟨f, hf⟩ := h.fr j hj
   obtain ⟨c', l1, -, -⟩ := g.cells _ _ _ _ hf
   exact ⟨c', l1⟩
 · obtain ⟨c', l1, -, -⟩ := g.cells _ _ _ _ b1
   exact ⟨c', U, l1, b2⟩
 · rcases hc with ⟨rfl, rfl⟩ | ⟨rfl, rfl⟩ | ⟨rfl, -⟩
   · exact ⟨h.sb0, by decide⟩
   · exact ⟨h.bx, by decide⟩
   · rw [h2] at hk
     cases hk
     exact ⟨h1, by decide⟩
end
end
section
open Go.RowKit
def ja (K ln A J : Int) : List Value := [.int .i64 K, .int .i64 ln, .int .i64 0, .int .i64 0, .int .i64 0, .int .i64 0, .int .i64 A, .int .i64 0, .int .i64 0, .int .i64 0, .int .i64 J, .int .i64 0, .int .i64 0, .int .u64 0, .int .u64 0, .int .u64 0, .int .u64 0, .slice none 0 0]
theorem wX {ops : Array Oper} {rest : List Oper} {op : Oper} {a : Act} {w : World} {Q : Exit → Act → World → Prop} {x : Operand} {cs : List Value} (hgd : op.guard = none) (ho : op.op = .buildSlice 139 1 #[(0, x)]) (hx : a.eval x = .agg cs.toArray) (hl : cs.length = 18)
   (h : wpList Tryz.prog ops Q rest (a.put op.dst (.slice (some ⟨w.heap.size, 0, none⟩) 1 1)) (w.alloc (.cells cs.toArray 118))) : wpList Tryz.prog ops Q (op :: rest) a w := by
 letI : Inhabited cK := bY 0
 exact wpList_plain hgd fun _ hK => tL ho hx hl (hK _ _ h)
set_option maxRecDepth 100000 in
set_option maxHeartbeats 1000000 in
theorem TV (w : World) (A J : Int) : Calls Tryz.prog 54 #[.agg (ja 25 0 A J).toArray] w fun e w' => e = .returned (.pointer (some ⟨w.heap.size + 2, 0, none⟩)) ∧ w' = ((w.alloc (.cells (ja 25 1 A J).toArray 118)).alloc (.cells (ja 25 1 A J).toArray 118)).alloc (.cells (iC (w.heap.size + 1) 1 1 0 0) 141) := by
 obtain ⟨cs, hcs⟩ : ∃ cs, cs = ja 25 1 A J := ⟨_, rfl⟩
 obtain ⟨w1, hw1⟩ : ∃ w1, w1 = w.alloc (.cells cs.toArray 118) := ⟨_, rfl⟩
 have hl : cs.length = 18 := by rw [hcs]; rfl
 have RG := Lib.hid (show w1.rangeAt w.heap.size 0 cs from by rw [hw1]; exact dE (blk_alloc_new _ _))
 have hs1 : w1.heap.size = w.heap.size + 1 := by rw [hw1]; simp
 have HC := Lib.hid hcs
 have HW := Lib.hid hw1
 go_enter Tryz.func54, Tryz.ntmps54
 unfold ja
 go_upto_region 4 with fail
 change Code.wp _ _ _ _ (w.alloc (.cells (ja 25 1 A J).toArray 118))
 rw [← hcs, ← hw1]
 clear hcs hw1
 go_wp2_with (first
   | (with_reducible refine wpList_load_mid rfl 118 (.tmp 1) rfl w.heap.size 0 rfl cs _ RG.out rfl rfl (by rw [hl]; exact rT) ?_)
   | (with_reducible refine wX rfl rfl rfl hl ?_))
 refine bodyPost_ret (results_tmp rfl _ _ _) rfl ⟨rfl, ?_⟩
 have h1 := HW.out
 have h2 := HC.out
 rw [h1, h2]
 unfold ja iC
 rfl
set_option maxRecDepth 100000 in
set_option maxHeartbeats 1000000 in
theorem TQ (w : World) (A J : Int) : Calls Tryz.prog 54 #[.agg (ja 26 0 A J).toArray] w fun e w' => e = .returned (.pointer (some ⟨w.heap.size + 2, 0, none⟩)) ∧ w' = ((w.alloc (.cells (ja 26 1 A J).toArray 118)).alloc (.cells (ja 26 1 A J).toArray 118)).alloc (.cells (iC (w.heap.size + 1) 1 1 0 0) 141) := by
 obtain ⟨cs, hcs⟩ : ∃ cs, cs = ja 26 1 A J := ⟨_, rfl⟩
 obtain ⟨w1, hw1⟩ : ∃ w1, w1 = w.alloc (.cells cs.toArray 118) := ⟨_, rfl⟩
 have hl : cs.length = 18 := by rw [hcs]; rfl
 have RG := Lib.hid (show w1.rangeAt w.heap.size 0 cs from by rw [hw1]; exact dE (blk_alloc_new _ _))
 have hs1 : w1.heap.size = w.heap.size + 1 := by rw [hw1]; simp
 have HC := Lib.hid hcs
 have HW := Lib.hid hw1
 go_enter Tryz.func54, Tryz.ntmps54
 unfold ja
 go_upto_region 4 with fail
 change Code.wp _ _ _ _ (w.alloc (.cells (ja 26 1 A J).toArray 118))
 rw [← hcs, ← hw1]
 clear hcs hw1
 go_wp2_with (first
   | (with_reducible refine wpList_load_mid rfl 118 (.tmp 1) rfl w.heap.size 0 rfl cs _ RG.out rfl rfl (by rw [hl]; exact rT) ?_)
   | (with_reducible refine wX rfl rfl rfl hl ?_))
 refine bodyPost_ret (results_tmp rfl _ _ _) rfl ⟨rfl, ?_⟩
 have h1 := HW.out
 have h2 := HC.out
 rw [h1, h2]
 unfold ja iC
 rfl
end
section
open Go.RowKit
variable {B N : Nat}
theorem ac9 : ∃ i z, Tryz.prog.info? 59 = some i ∧ i.zero = some z ∧ z.cells = #[.int .u64 0] ∧ i.size = 1 ∧ i.bytes ≤ 1024 := by
 have h1 : (Tryz.prog.info? 59).map (fun i => (i.zero.map (·.cells), i.size, decide (i.bytes ≤ 1024))) = some (some #[.int .u64 0], 1, true) := by kernel_rfl
 cases hi : Tryz.prog.info? 59 with
 | none => rw [hi] at h1; cases h1
 | some i =>
   rw [hi] at h1
   simp only [Option.map_some, Option.some.injEq, Prod.mk.injEq, decide_eq_true_eq, Option.map_eq_some_iff] at h1
   obtain ⟨⟨z, hz, hc⟩, h2, h3⟩ := h1
   exact ⟨i, z, rfl, hz, hc, h2, h3⟩
theorem UE : Tryz.prog.underlying 58 = some (.slice 59) := by kernel_rfl
theorem abA (n : Nat) (w : World) : aT w B N [.int .u64] (madeCells #[.int .u64 0] (n * 1)) := by
 refine ⟨⟨n, by rw [size_madeCells]; rfl⟩, fun i v hi => ⟨.int .u64, by rw [show i % List.length [CK.int .u64] = 0 from Nat.mod_one _]; rfl, ?_⟩⟩
 unfold madeCells at hi
 rw [Array.getElem?_map, Array.getElem?_range] at hi
 split at hi
 · simp only [Option.map_some, Option.some.injEq] at hi
   refine ⟨0, ?_, by constructor <;> decide⟩
   rw [← hi]
   have : i % (#[Value.int .u64 0] : Array Value).size = 0 := Nat.mod_one _
   rw [this]
   rfl
 · cases hi
theorem KN {ops : Array Oper} {rest : List Oper} {o : Oper} {a : Act} {w : World} {Q : Exit → Act → World → Prop} (hg : o.guard = none) (l : Operand) (hop : o.op = Op.makeSlice 58 l l) {n : Nat} (hl : a.eval l = .int .i64 n) (hn : n ≤ 131072)
   (h : wpList Tryz.prog ops Q rest (a.put o.dst (.slice (some ⟨w.heap.size, 0, none⟩) n n)) (w.alloc (.cells (madeCells #[.int .u64 0] (n * 1)) 59))) : wpList Tryz.prog ops Q (o :: rest) a w := by
 obtain ⟨i, z, hi, hz, hzc, hs, hb⟩ := ac9
 refine wpList_plain hg fun K hK => ?_
 have hr := run_make (P := Tryz.prog) w 58 59 i z UE hi hz .i64 .i64 n n (by omega) (Int.le_refl _) (by
   have : i.bytes * n ≤ 1024 * 131072 := Nat.mul_le_mul hb hn
   have h2 : ((i.bytes * n : Nat) : Int) ≤ 281474976710656 := by omega
   rwa [Int.natCast_mul] at h2) (by omega)
 simp only [Int.toNat_natCast, hzc, hs] at hr
 unfold Oper.wp
 simp [execOp, hop, hl, hr, Result.andThen]
 exact hK _ _ (by simpa using h)
def akV (B N : Nat) (w : World) (e : Ending) (w' : World) : Prop := ∃ v, e = .returned (.agg #[v, .int .i64 0, .int .i64 0, .int .u64 0, .int .u64 0, .int .i64 0]) ∧ WT kd.sig B N w' ∧ Eff (fun _ _ _ => False) w w' ∧ aU w' B N (.sl 59 1) v
set_option maxRecDepth 100000 in
set_option maxHeartbeats 4000000 in
theorem ahc (w : World) (c : Int) (hw : WT kd.sig B N w) (hB : B ≤ w.heap.size) (hN : 131072 ≤ N) : Calls Tryz.prog 63 #[.int .i64 c] w (akV B N w) := by
 have kMm : kd.sig 63 = some wT := by kernel_rfl
 have kU : kd.sig 59 = some [.int .u64] := by kernel_rfl
 obtain ⟨n, hn, hn2⟩ : ∃ n : Nat, max 0 (min c 131072) = (n : Int) ∧ n ≤ 131072 := ⟨(max 0 (min c 131072)).toNat, by omega, by omega⟩
 have HN := Lib.hid hn
 have HW := Lib.hid (And.intro hw (And.intro hB (And.intro hN (And.intro kMm (And.intro kU hn2)))))
 clear hn hw hB hN kMm kU hn2
 go_enter Tryz.func63, Tryz.ntmps63
 go_wp2_with (at_make; refine KN rfl _ rfl (n := n) (by show Value.int IntKind.i64 (max 0 (min c 131072)) = _; rw [HN.out]) HW.out.2.2.2.2.2 ?_)
 obtain ⟨cs, hcs⟩ : ∃ cs : List Value, cs = [.slice (some ⟨w.heap.size + 1, 0, none⟩) n n, .int .i64 0, .int .i64 0, .int .u64 0, .int .u64 0, .int .i64 0] := ⟨_, rfl⟩
 obtain ⟨w2, hw2⟩ : ∃ w2, w2 = (w.alloc (.cells #[.slice (some ⟨w.heap.size + 1, 0, none⟩) n n, .int .i64 0, .int .i64 0, .int .u64 0, .int .u64 0, .int .i64 0] 63)).alloc (.cells (madeCells #[.int .u64 0] n) 59) := ⟨_, rfl⟩
 rw [← hw2]
 obtain ⟨hw, hB, hN, kMm, kU, hn2⟩ := HW.out
 have hb : w2.heap[w.heap.size]? = some (.cells cs.toArray 63 (0, 0)) := by
   rw [hw2, cO (by simp), hcs]
   exact blk_alloc_new _ _
 have akP : w2 = (w.alloc (.cells cs.toArray 63)).alloc (.cells (madeCells #[.int .u64 0] n) 59) := by rw [hw2, hcs]
 have hb1 : w2.heap[w.heap.size + 1]? = some (.cells (madeCells #[.int .u64 0] n) 59 (0, 0)) := by
   have h1 := blk_alloc_new (w.alloc (.cells cs.toArray 63)) (.cells (madeCells #[.int .u64 0] n) 59)
   have h2 : ∀ o, (w.alloc o).heap.size = w.heap.size + 1 := fun o => by simp
   rw [h2] at h1
   rw [akP]; exact h1
 have hok : aU w2 B N (.sl 59 1) (.slice (some ⟨w.heap.size + 1, 0, none⟩) n n) :=
   ⟨n, (madeCells #[.int .u64 0] n).toList, by omega, by simp [size_madeCells], .inr ⟨w.heap.size + 1, n, _, rfl, by omega, hb1, Nat.le_refl _, by unfold maxLen; omega, by simp [size_madeCells], by rw [Nat.mul_one]; exact List.take_of_length_le (by simp [size_madeCells])⟩⟩
 have z : aU w2 B N (.int .i64) (.int .i64 0) := ⟨0, rfl, i64_in (by omega)⟩
 have u : aU w2 B N (.int .u64) (.int .u64 0) := ⟨0, rfl, by constructor <;> decide⟩
 have hW2 : WT kd.sig B N w2 := by
   have h2 := WT.lS hw [.cells cs.toArray 63, .cells (madeCells #[.int .u64 0] n) 59] fun c U f L hm hL => by
     have ae9 : lS w [.cells cs.toArray 63, .cells (madeCells #[.int .u64 0] n) 59] = w2 := by rw [hw2, hcs]; rfl
     rw [ae9]
     simp only [List.mem_cons, List.not_mem_nil, or_false] at hm
     rcases hm with hm | hm
     · cases hm
       rw [kMm] at hL
       cases hL
       rw [hcs]
       exact ⟨rfl, aT.one ⟨hok, z, z, u, u, z, trivial⟩⟩
     · cases hm
       rw [kU] at hL
       cases hL
       have := abA (B := B) (N := N) n w2
       rw [Nat.mul_one] at this
       exact ⟨rfl, this⟩
   rw [hw2]
   rw [hcs] at h2
   exact h2
 have hE : Eff (fun _ _ _ => False) w w2 := by rw [hw2]; exact (Eff.bL _ _ _).alloc _
 refine bodyPost_ret (Ed 2 63 (a := ⟨w.heap.size, 0, none⟩) (v := .agg cs.toArray) rfl rfl (run_loadVar_mid w2 w.heap.size 0 63 cs _ (dE hb) rfl rfl (by rw [hcs]; kernel_rfl))) rfl ⟨_, by rw [hcs], hW2, hE, hok⟩
end
section
open Go.RowKit
variable {B N : Nat}
abbrev qd : Nat := 137
theorem kRc : kd.sig qd = some dJ := by kernel_rfl
def wC : Array Value := #[.int .i64 0, .int .i64 0, .int .i64 0, .int .i64 0, .int .i64 0, .slice none 0 0, .bool false]
theorem Oz : ∃ i z, Tryz.prog.info? 137 = some i ∧ i.zero = some z ∧ z.cells = wC ∧ i.size = 7 ∧ i.bytes ≤ 1024 := by
 have h1 : (Tryz.prog.info? 137).map (fun i => (i.zero.map (·.cells), i.size, decide (i.bytes ≤ 1024))) = some (some wC, 7, true) := by kernel_rfl
 cases hi : Tryz.prog.info? 137 with
 | none => rw [hi] at h1; cases h1
 | some i =>
   rw [hi] at h1
   simp only [Option.map_some, Option.some.injEq, Prod.mk.injEq, decide_eq_true_eq, Option.map_eq_some_iff] at h1
   obtain ⟨⟨z, hz, hc⟩, h2, h3⟩ := h1
   exact ⟨i, z, rfl, hz, hc, h2, h3⟩
theorem EK : Tryz.prog.underlying 64 = some (.slice 137) := by kernel_rfl
theorem ahq (a0 a1 a2 a3 a4 a5 a6 : Value) : Instr.fill (fun i => some (i * 7, 7)) wC [(0, .agg #[a0, a1, a2, a3, a4, a5, a6])] = some #[a0, a1, a2, a3, a4, a5, a6] := by kernel_rfl
theorem ajg : ∀ {cs : List Value}, cs.length = 7 → Instr.fill (fun i => some (i * 7, 7)) wC [(0, .agg cs.toArray)] = some cs.toArray
 | [a0, a1, a2, a3, a4, a5, a6], _ => ahq a0 a1 a2 a3 a4 a5 a6
theorem x8 {op : Oper} {a : Act} {w : World} {K : Act → World → Prop} {Q : Exit → Act → World → Prop} {x : Operand} {cs : List Value} (ho : op.op = .buildSlice 64 1 #[(0, x)]) (hx : a.eval x = .agg cs.toArray) (hl : cs.length = 7)
   (h : K (a.put op.dst (.slice (some ⟨w.heap.size, 0, none⟩) 1 1)) (w.alloc (.cells cs.toArray 137))) : op.wp Tryz.prog a w K Q := by
 obtain ⟨i, z, hi, hz, hzc, hs, hb⟩ := Oz
 have hrun : (execOp a.eval op).run Tryz.prog w = .ok (.value (.slice (some ⟨w.heap.size, 0, none⟩) 1 1)) (w.alloc (.cells cs.toArray 137)) := by
   have hf := ajg hl
   have hrg : (Array.range 7).map (fun k => wC[k % wC.size]!) = wC := by kernel_rfl
   unfold execOp
   simp only [ho]
   simp [Instr.buildSlice, run_underlying EK, sizeOf, typeInfo, hi, hs, zeroValue, hz, newRow, hzc, hx]
   rw [hrg, hf]
   rfl
 unfold Oper.wp
 rw [hrun]
 exact h
theorem uF {op : Oper} {a : Act} {w : World} {K : Act → World → Prop} {Q : Exit → Act → World → Prop} {s x : Operand} {cs : List Value} {B0 X b : Nat} {v0 : Value} (ho : op.op = .call { callee := .builtin .append, args := #[s, x], argTypes := #[64, 64] })
   (hs : a.eval s = v0) (hx : a.eval x = .slice (some ⟨b, 0, none⟩) 1 1) (hw : WT kd.sig B N w) (hB0 : B ≤ B0) (hBw : B0 ≤ w.heap.size) (hv : pY w B0 X qd 7 v0) (hn : bJ w B N dJ cs) (hb : w.heap[b]? = some (.cells cs.toArray qd (0, 0))) (hX : X + 1 ≤ N) (hN : N ≤ 68719476736)
   (h : ∀ v w', WT kd.sig B N w' → pY w' B0 N qd 7 v → Eff (fun k U _ => B0 ≤ k ∧ U = qd) w w' → bO v = bO v0 + 1 → K (a.put op.dst v) w') : op.wp Tryz.prog a w K Q := by
 obtain ⟨i, z, hi, hz, hzc, hsz, hby⟩ := Oz
 have hl : cs.length = 7 := by rw [← hn.len]; rfl
 obtain ⟨v, w', hr, h1, h2, h3, h4⟩ := nI (P := Tryz.prog) (kd := kd) (L := dJ) (ty := op.type) (a := ⟨b, 0, none⟩) (m := 1) (c := 1) (news := cs) (X := X) (M := N) EK hi hz hsz hby (by rw [hzc]; decide) kRc hw hB0 hBw hv (aT.one hn) (by rw [hl]; rfl) (fun j u hj => by rw [Go.WideShapes.add_plain, Nat.zero_add, aa hb]; simpa using hj) hX (Nat.le_refl _) hN (fun _ => by omega)
 unfold Oper.wp execOp
 simp only [ho, resolve, invoke, builtin, Sem.run_bind, Sem.run_pure, Result.andThen_ok, List.map_toArray, List.map_cons, List.map_nil, hs, hx, hr]
 exact h v w' h1 h2 h3 h4
end
section
open Go.RowKit
variable {B N : Nat}
def evN : Ev := (66, [])
def Yo : Sh := ⟨0, fun _ => .bool false, fun _ => .bool false⟩
abbrev GT : World → Prop := fun _ => True
theorem Md : rf evN Yo GT := fun q hq => by cases hq
theorem Jb : Safe kd ae GT := fun _ _ _ _ => trivial
theorem Rc : aW Tryz.prog kd evN (ah []) ae Tryz.f82 mK = true := by kernel_rfl
theorem Xc : TC Tryz.prog kd Yo B GT 82 mK := aH Tryz.func82 Rc jk Md Jb mixed
theorem XT : aW Tryz.prog kd evN (ah [(82, mK)]) ae Tryz.f64 oh = true := by kernel_rfl
theorem abT : TC Tryz.prog kd Yo B GT 64 oh := aH Tryz.func64 XT (bn Bg Xc jk) Md Jb mixed
theorem UD : aW Tryz.prog kd evN (ah []) ae Tryz.f65 mF = true := by kernel_rfl
theorem abf : TC Tryz.prog kd Yo B GT 65 mF := aH Tryz.func65 UD jk Md Jb mixed
theorem aft {s : aj} {args : Array Value} {w w' : World} (he : s.aS = []) (h : Eff (dC B kd (bQ kd Yo s args w) s.aS) w w') : Eff (fun _ _ _ => False) w w' := h.mono fun k U j hk hc => by
 rw [he] at hc
 rcases hc with hc | ⟨i, o, hm, -⟩ | ⟨o, hm, -⟩
 · have : w.heap.size ≤ k := hc
   omega
 · cases hm
 · cases hm
theorem aaV {w : World} {cs : List Value} (hw : WT kd.sig B N w) (hB : B ≤ w.heap.size) (hN : N ≤ 68719476736) (hc : bJ w B N bK cs) : Calls Tryz.prog 64 #[.agg cs.toArray] w fun e w' => ∃ n, e = .returned (.int .i64 n) ∧ WT kd.sig B N w' ∧ Eff (fun _ _ _ => False) w w' := by
 refine (abT N w #[.agg cs.toArray] rfl hB (by simpa [oh] using hN) hw trivial (fun i t ht => ?_) gJ).mono ?_
 · match i, ht with
   | 0, ht => cases ht; exact ⟨_, rfl, cs, rfl, hc⟩
 · rintro e w' ⟨v, rfl, g1, g2, ⟨n, rfl, -⟩, -⟩
   exact ⟨n, rfl, by simpa [oh] using g1, aft rfl g2⟩
theorem J2 {w : World} {a b : Int} (hw : WT kd.sig B N w) (hB : B ≤ w.heap.size) (hN : N ≤ 68719476736) (ia : bB .i64 a) (ib : bB .i64 b) : Calls Tryz.prog 65 #[.int .i64 a, .int .i64 b] w fun e w' => ∃ cs : List Value, e = .returned (.agg cs.toArray) ∧ bJ w' B N dJ cs ∧ WT kd.sig B N w' ∧ Eff (fun _ _ _ => False) w w' := by
 refine (abf N w #[.int .i64 a, .int .i64 b] rfl hB (by simpa [mF] using hN) hw trivial (fun i t ht => ?_) gJ).mono ?_
 · match i, ht with
   | 0, ht => cases ht; exact ⟨_, rfl, a, rfl, ia⟩
   | 1, ht => cases ht; exact ⟨_, rfl, b, rfl, ib⟩
 · rintro e w' ⟨v, rfl, g1, g2, ⟨cs, rfl, hcs⟩, -⟩
   exact ⟨cs, rfl, by simpa [mF] using hcs, by simpa [mF] using g1, aft rfl g2⟩
end
end Go.Proofs.YtncnepmgmphanaaGreatDoor
