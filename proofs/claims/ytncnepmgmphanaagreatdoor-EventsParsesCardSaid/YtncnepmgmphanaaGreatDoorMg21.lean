/- A script performed by the reference engine. No condition beside those named. -/
import Derived.Test.YtncnepmgmphanaaGreatDoorTcDo
import Derived.Test.YtncnepmgmphanaaGreatDoorTcEnvNew
set_option linter.unusedVariables false
set_option linter.unusedSimpArgs false
set_option linter.unusedSectionVars false
namespace Go.Proofs.YtncnepmgmphanaaGreatDoor
section
open Go.RowKit
variable {dG : World} {sh : Sh} {B N T : Nat} {w w' : World} {rb cr xb lb k kc : Nat} {bN cu : Nat → Nat} {dx : Int} {st l0 l1 l2 l3 : Value}
def GX (dG : World) (sh : Sh) (B T rb N : Nat) (w : World) (xb : Nat) : Prop := ∃ sb lb k kc bN cu dx st l0 l1 l2 l3, @GI (bY sb) dG sh B T rb N w xb lb k kc bN cu dx st l0 l1 l2 l3 ∧ UH w sh.pe st
theorem GX.keep (h : GX dG sh B T rb N w xb) : Eff (KCh B) dG w := by
 obtain ⟨sb, lb, k, kc, bN, cu, dx, st, l0, l1, l2, l3, h, -⟩ := h
 letI : Inhabited cK := bY sb
 exact h.keep
theorem ahg {lM v : Int} (h : GX dG sh B T rb N w xb) (hrb : sh.el 19 = .slice (some ⟨rb, 0, none⟩) T cr) (h8 : 8 ≤ N) (fM : N + 70 ≤ 68719476736) (ik : bB .i64 lM) (iv : bB .i64 v) :
   Calls Tryz.prog 38 #[.pointer (some ⟨xb, 0, none⟩), .agg #[.int .i64 lM, .int .i64 v]] w fun e w' => e = .returned (.tuple #[]) ∧ GX dG sh B T rb (N + 40) w' xb := by
 obtain ⟨sb, lb, k, kc, bN, cu, dx, st, l0, l1, l2, l3, h, -⟩ := h
 letI : Inhabited cK := bY sb
 refine (af4 h hrb h8 fM ik iv).mono ?_
 rintro e w' ⟨rfl, sb', il, sw, st', m0, m1, m2, m3, h'⟩
 exact ⟨rfl, sb', _, _, _, _, _, _, _, _, _, _, _, h'⟩
def OH (w : World) (ao : Option Addr) (n : Nat) : Prop := n = 0 ∨ ∃ eb ec, ao = some ⟨eb, 0, none⟩ ∧ w.heap[eb]? = some (.cells ec Gz (0, 0)) ∧ ∀ i, i < n → ∃ a b, ec[i * 2]? = some (.int .i64 a) ∧ ec[i * 2 + 1]? = some (.int .i64 b) ∧ bB .i64 a ∧ bB .i64 b
set_option maxRecDepth 100000 in
set_option maxHeartbeats 4000000 in
theorem aeY {ao : Option Addr} {n cap : Nat} (h : GX dG sh B T rb N w xb) (hrb : sh.el 19 = .slice (some ⟨rb, 0, none⟩) T cr) (h8 : 8 ≤ N) (hn : n ≤ 1000) (fM : N + 50000 ≤ 68719476736) (hE : OH dG ao n) :
   Calls Tryz.prog 19 #[.pointer (some ⟨xb, 0, none⟩), .slice ao n cap] w fun e w' => e = .returned (.tuple #[]) ∧ GX dG sh B T rb (N + 40 * n) w' xb := by
 have HH := Lib.hid (And.intro h (And.intro hrb (And.intro h8 (And.intro hn (And.intro fM hE)))))
 clear h hrb h8 hn fM hE
 go_enter Tryz.func19, Tryz.ntmps19
 go_wp2_with fail
 go_loopg [4] (n + 1) (fun g s4 wr => ∃ i : Nat, s4 = .int .i64 i ∧ i + g = n + 1 ∧ i ≤ n ∧ GX dG sh B T rb (N + 40 * i) wr xb)
 case atStart => exact ⟨0, rfl, by omega, by omega, HH.out.1⟩
 case round =>
   obtain ⟨i, rfl, hg, hi, hX⟩ := hrel
   have HX := Lib.hid (And.intro hX (And.intro hg hi))
   by_cases hlt : i < n
   · have hlt' : (i : Int) < (n : Int) := by omega
     have hi0 : (0 : Int) ≤ (i : Int) := by omega
     obtain ⟨a, b, eb, rfl, ca, cb, ia, ib⟩ : ∃ a b eb, ao = some ⟨eb, 0, none⟩ ∧ wr.cell? ⟨eb, i * 2, none⟩ = some (.int .i64 a) ∧ wr.cell? ⟨eb, i * 2 + 1, none⟩ = some (.int .i64 b) ∧ bB .i64 a ∧ bB .i64 b := by
       rcases HH.out.2.2.2.2.2 with h0 | ⟨eb, ec, rfl, hb, hc⟩
       · omega
       · obtain ⟨a, b, h1, h2, h3, h4⟩ := hc i hlt
         have hb' : wr.heap[eb]? = some (.cells ec Gz (0, 0)) := by
           obtain ⟨c', l1, -, l3⟩ := hX.keep.cells _ _ _ _ hb
           rw [l1]
           congr 2
           exact Array.ext_getElem? fun j => l3 j fun hh => hh.2 rfl
         exact ⟨a, b, eb, rfl, by rw [aa hb']; exact h1, by rw [aa hb']; exact h2, h3, h4⟩
     have DO := Lib.hid (ahg (lM := a) (v := b) hX HH.out.2.1 (by have := HH.out.2.2.1; omega) (by have := HH.out.2.2.2.2.1; have := HH.out.2.2.2.1; omega) ia ib)
     have hw1 : IntKind.i64.wrap ((i : Int) + 1) = ((i + 1 : Nat) : Int) := by have := HH.out.2.2.2.1; rw [IntWalk.i64_in _ (by omega)]; omega
     have hwl : wrap64 ((i : Int) + 1) = ((i + 1 : Nat) : Int) := by rw [← IntWalk.i64_left]; exact hw1
     clear hX hg hi ia ib
     go_wp2_with (go_at_call 38; refine DO.out.mono ?_; rintro e w3 ⟨rfl, hx⟩; have HX3 := Lib.hid hx; clear hx)
     go_roundg (n - i)
     case measure =>
       have := HX.out.2.1
       omega
     case rel =>
       have := HX.out.2.1
       exact ⟨i + 1, by simp, by omega, by omega, by rw [show N + 40 * (i + 1) = N + 40 * i + 40 by omega]; exact HX3.out⟩
   · have hlt' : ¬ (i : Int) < (n : Int) := by omega
     have e9 : i = n := by have := HX.out.2.2; omega
     clear hX hg hi
     go_wp2_with fail
     refine bodyPost_end (results_none rfl _ _ _) rfl ⟨rfl, ?_⟩
     rw [← e9]
     exact HX.out.1
end
section
open Go.RowKit
variable {B N T rb cr xb mb fb k : Nat} {w w' w0 : World} {sh : Sh} {v : Value} {bN cu : Nat → Nat}
theorem JD : kd.sig PT = some [.np] := by kernel_rfl
theorem kE0 : kd.sig ET = some nK := by kernel_rfl
theorem af7 : ∃ i z, Tryz.prog.info? PT = some i ∧ i.zero = some z ∧ z.cells = #[.pointer none] ∧ i.size = 1 ∧ i.bytes ≤ 1024 := by
 have h1 : (Tryz.prog.info? PT).map (fun i => (i.zero.map (·.cells), i.size, decide (i.bytes ≤ 1024))) = some (some #[.pointer none], 1, true) := by kernel_rfl
 cases hi : Tryz.prog.info? PT with
 | none => rw [hi] at h1; cases h1
 | some i =>
   rw [hi] at h1
   simp only [Option.map_some, Option.some.injEq, Prod.mk.injEq, decide_eq_true_eq, Option.map_eq_some_iff] at h1
   obtain ⟨⟨z, hz, hc⟩, h2, h3⟩ := h1
   exact ⟨i, z, rfl, hz, hc, h2, h3⟩
theorem J3 : Tryz.prog.underlying 68 = some (.slice PT) := by kernel_rfl
def Ky (w : World) (B0 k : Nat) (bN : Nat → Nat) (v : Value) : Prop := (v = .slice none 0 0 ∧ k = 0) ∨ ∃ lb kc cur, v = .slice (some ⟨lb, 0, none⟩) k kc ∧ B0 ≤ lb ∧ w.heap[lb]? = some (.cells cur PT (0, 0)) ∧ k ≤ kc ∧ kc ≤ maxLen ∧ cur.size = kc * 1 ∧ ∀ j, j < k → w.cell? ⟨lb, j, none⟩ = some (.pointer (some ⟨bN j, 0, none⟩))
theorem Ky.out {B0 : Nat} (h : Ky w B0 k bN v) (g : Eff (fun _ U _ => U = ET) w w') : Ky w' B0 k bN v := by
 rcases h with h | ⟨lb, kc, cur, e, h1, h2, h3, h4, h5, h6⟩
 · exact .inl h
 · obtain ⟨c', l1, l2, l3⟩ := g.cells _ _ _ _ h2
   refine .inr ⟨lb, kc, c', e, h1, l1, h3, h4, by omega, fun j hj => ?_⟩
   rw [aa l1, l3 j (by decide), ← aa h2]
   exact h6 j hj
theorem Ky.ok {B0 : Nat} (h : Ky w B0 k bN v) (hB : B ≤ B0) (hk : k ≤ N) : aU w B N (.sl PT 1) v := by
 rcases h with ⟨rfl, rfl⟩ | ⟨lb, kc, cur, rfl, h1, h2, h3, h4, h5, h6⟩
 · exact ⟨0, [], Nat.zero_le _, World.ownsRow_nil _ _ _ _⟩
 · refine ⟨k, cur.toList.take (k * 1), hk, ?_, .inr ⟨lb, kc, cur, rfl, by omega, h2, h3, h4, h5, rfl⟩⟩
   rw [List.length_take, Array.length_toList, h5]
   exact Nat.min_eq_left (by omega)
structure WI (B N B0 k : Nat) (w : World) (bN : Nat → Nat) (mb : Nat) (lb kc : Nat) (w' : World) : Prop where
 wt : WT kd.sig B N w'
 aS : Eff (fun b U _ => B0 ≤ b ∧ U = PT) w w'
 ls : Ky w' B0 (k + 1) (fun j => if j = k then mb else bN j) (.slice (some ⟨lb, 0, none⟩) (k + 1) kc)
theorem mP {op : Oper} {a : Act} {K : Act → World → Prop} {Q : Exit → Act → World → Prop} {s x : Operand} {B0 b : Nat} (ho : op.op = .call { callee := .builtin .append, args := #[s, x], argTypes := #[68, 68] })
   (hs : a.eval s = v) (hx : a.eval x = .slice (some ⟨b, 0, none⟩) 1 1) (hw : WT kd.sig B N w) (hB0 : B ≤ B0) (hBw : B0 ≤ w.heap.size) (hv : Ky w B0 k bN v) (hb : w.heap[b]? = some (.cells #[.pointer (some ⟨mb, 0, none⟩)] PT (0, 0))) (hk : k < 68719476736)
   (h : ∀ lb kc w', WI B N B0 k w bN mb lb kc w' → K (a.put op.dst (.slice (some ⟨lb, 0, none⟩) (k + 1) kc)) w') : op.wp Tryz.prog a w K Q := by
 obtain ⟨i, z, hi, hz, hzc, hsz, hby⟩ := af7
 have hn : bJ w B N [.np] [.pointer (some ⟨mb, 0, none⟩)] := ⟨⟨_, rfl⟩, trivial⟩
 have hc : ∀ (j : Nat) (u : Value), [Value.pointer (some ⟨mb, 0, none⟩)][j]? = some u → w.cell? ((⟨b, 0, none⟩ : Addr).add j) = some u := fun j u hj => by rw [Go.WideShapes.add_plain, Nat.zero_add, aa hb]; simpa using hj
 rcases hv with ⟨rfl, rfl⟩ | ⟨lb, kc, cur, rfl, h1, h2, h3, h4, h5, h6⟩
 · have hr := run_append_nil (P := Tryz.prog) w 68 op.type PT i z J3 hi hz ⟨b, 0, none⟩ 1 1 [.pointer (some ⟨mb, 0, none⟩)] (by rw [hsz]; rfl) hc (by omega) (by omega) (by omega)
   obtain ⟨cap', vN⟩ : ∃ cap', cap' = grownCap w 1 0 PT := ⟨_, rfl⟩
   have hgc := grownCap_ge w 1 0 PT
   have hgm := grownCap_le_maxLen w 1 0 PT (by unfold maxLen; omega)
   rw [← vN] at hr hgc hgm
   obtain ⟨w5, dZ⟩ : ∃ w5, w5 = w.drew.alloc (.cells ([Value.pointer (some ⟨mb, 0, none⟩)].toArray ++ Builtin.zeroCells z.cells (cap' - 1)) PT) := ⟨_, rfl⟩
   rw [← dZ] at hr
   have hE0 : Eff (fun _ _ _ => False) w w5 := by rw [dZ]; exact (Eff.refl _ _).drew.alloc _
   have hbk : w5.heap[w.heap.size]? = some (.cells ([Value.pointer (some ⟨mb, 0, none⟩)].toArray ++ Builtin.zeroCells z.cells (cap' - 1)) PT (0, 0)) := by rw [dZ]; exact blk_alloc_new w.drew _
   have ig : eZ [.np] z.cells.toList = true := by rw [hzc]; decide
   have hsz5 : ([Value.pointer (some ⟨mb, 0, none⟩)].toArray ++ Builtin.zeroCells z.cells (cap' - 1)).size = cap' := by
     simp only [Array.size_append, List.size_toArray, size_zeroCells, hzc, List.length_singleton]
     simp
     omega
   have W5 : WT kd.sig B N w5 := by
     rw [dZ]
     exact WT.alloc hw.drew JD (((aT.one hn).app (aT.zeros ig w (cap' - 1))).mono ((Eff.refl (fun _ _ _ => False) w).drew) (Nat.le_refl _))
   have hg0 : w5.cell? ⟨w.heap.size, 0, none⟩ = some (.pointer (some ⟨mb, 0, none⟩)) := by rw [aa hbk, Array.getElem?_append_left (by simp)]; rfl
   have A : WI B N B0 0 w bN mb w.heap.size cap' w5 := by
     refine ⟨W5, hE0.mono fun _ _ _ _ h => h.elim, .inr ⟨w.heap.size, cap', _, rfl, hBw, hbk, by omega, hgm, by rw [hsz5, Nat.mul_one], fun j hj => ?_⟩⟩
     have : j = 0 := by omega
     subst this
     exact hg0
   unfold Oper.wp execOp
   simp only [ho, resolve, invoke, builtin, Sem.run_bind, Sem.run_pure, Result.andThen_ok, List.map_toArray, List.map_cons, List.map_nil, hs, hx, hr]
   exact h w.heap.size cap' w5 A
 · obtain ⟨g', cap', w5, hr, A⟩ := mg (P := Tryz.prog) (kd := kd) (L := [.np]) (ty := op.type) (a := ⟨b, 0, none⟩) (c := 1) (news := [.pointer (some ⟨mb, 0, none⟩)]) J3 hi hz hsz hby (by rw [hzc]; decide) (by decide) JD hw (Nat.le_trans hB0 hBw) (Nat.le_trans hB0 h1) h2 h3 h4 (by rw [h5]; rfl) (aT.one hn) rfl hc hk
   obtain ⟨c5, c51, Ux⟩ := A.blk
   have hB' : B0 ≤ g' := by
     rcases A.at' with e | e
     · omega
     · omega
   have A2 : WI B N B0 k w bN mb g' cap' w5 := by
     refine ⟨A.wt, ?_, .inr ⟨g', cap', c5, rfl, hB', c51, A.cap, A.max, Ux, fun j hj => ?_⟩⟩
     · exact A.aS.iI fun b c U f j hk hc => by
         obtain ⟨rfl, -⟩ := hc
         rw [h2] at hk
         cases hk
         exact ⟨h1, rfl⟩
     · by_cases hjk : j = k
       · subst hjk
         simp only [if_true]
         have := A.new 0 _ rfl
         simpa using this
       · simp only [if_neg hjk]
         rw [A.old j (by simp; omega)]
         exact h6 j (by omega)
   unfold Oper.wp execOp
   simp only [ho, resolve, invoke, builtin, Sem.run_bind, Sem.run_pure, Result.andThen_ok, List.map_toArray, List.map_cons, List.map_nil, hs, hx, hr]
   exact h g' cap' w5 A2
def FM (w : World) (mb fb : Nat) : Prop := ∃ K A J, (K = 25 ∨ K = 26) ∧ w.heap[mb]? = some (.cells (iC fb 1 1 0 0) MT (0, 0)) ∧ w.heap[fb]? = some (.cells (ja K 1 A J).toArray bT (0, 0))
theorem FM.out (h : FM w mb fb) (g : Eff (fun _ U _ => U = ET ∨ U = PT) w w') : FM w' mb fb := by
 letI : Inhabited cK := bY 0
 obtain ⟨K, A, J, hK, h1, h2⟩ := h
 obtain ⟨c1, l1, -, l3⟩ := g.cells _ _ _ _ h1
 obtain ⟨c2, m1, -, m3⟩ := g.cells _ _ _ _ h2
 refine ⟨K, A, J, hK, ?_, ?_⟩
 · rw [l1]; congr 2; exact kK fun j => l3 j (by decide)
 · rw [m1]; congr 2; exact kK fun j => m3 j (by decide)
theorem FM.mi {sb : Nat} (h : FM w mb fb) : @MI (bY sb) sh T rb w mb fb := by
 letI : Inhabited cK := bY sb
 obtain ⟨K, A, J, hK, h1, h2⟩ := h
 refine .inr ⟨0, fun _ => K, 1, 0, 0, h1, fun i hi => absurd hi (Nat.not_lt_zero _), fun i hi => absurd hi (Nat.not_lt_zero _), by omega, by omega, 1, ?_, ?_, by omega, by omega, fun e => by omega, fun e => ⟨0, ?_, Int.le_refl _⟩⟩
 all_goals
   unfold fc
   rw [aa h2]
   rfl
theorem Ai {K A J : Int} (hK : K = 25 ∨ K = 26) (hw : WT kd.sig B N w) (hB : B ≤ w.heap.size) (hN : 1 ≤ N) (iA : bB .i64 A) (iJ : bB .i64 J) (e : w' = ((w.alloc (.cells (ja K 1 A J).toArray 118)).alloc (.cells (ja K 1 A J).toArray 118)).alloc (.cells (iC (w.heap.size + 1) 1 1 0 0) 141)) :
   WT kd.sig B N w' ∧ Eff (fun _ _ _ => False) w w' ∧ FM w' (w.heap.size + 2) (w.heap.size + 1) := by
 letI : Inhabited cK := bY 0
 obtain ⟨fr, hfr⟩ : ∃ fr, fr = ja K 1 A J := ⟨_, rfl⟩
 have z : ∀ w : World, aU w B N (.int .i64) (.int .i64 0) := fun _ => ⟨0, rfl, i64_in (by omega)⟩
 have u : ∀ w : World, aU w B N (.int .u64) (.int .u64 0) := fun _ => ⟨0, rfl, by constructor <;> decide⟩
 have ha : ∀ w : World, bJ w B N ax fr := fun w => by
   rw [hfr]
   exact ⟨⟨K, rfl, i64_in (by omega)⟩, ⟨1, rfl, i64_in (by omega)⟩, z w, z w, z w, z w, ⟨A, rfl, iA⟩, z w, z w, z w, ⟨J, rfl, iJ⟩, z w, z w, u w, u w, u w, u w, ⟨0, [], Nat.zero_le _, World.ownsRow_nil _ _ _ _⟩, trivial⟩
 have hl : fr.length = 18 := by rw [hfr]; rfl
 rw [← hfr] at e
 obtain ⟨w1, hw1⟩ : ∃ w1, w1 = w.alloc (.cells fr.toArray bT) := ⟨_, rfl⟩
 obtain ⟨w2, hw2⟩ : ∃ w2, w2 = w1.alloc (.cells fr.toArray bT) := ⟨_, rfl⟩
 have W1 : WT kd.sig B N w1 := by rw [hw1]; exact hw.alloc kF (aT.one (ha _))
 have W2 : WT kd.sig B N w2 := by rw [hw2]; exact W1.alloc kF (aT.one (ha _))
 have s1 : w1.heap.size = w.heap.size + 1 := by rw [hw1]; simp
 have s2 : w2.heap.size = w.heap.size + 2 := by rw [hw2]; simp [s1]
 have b2 : w2.heap[w.heap.size + 1]? = some (.cells fr.toArray bT (0, 0)) := by rw [hw2, ← s1]; exact blk_alloc_new _ _
 have e' : w' = w2.alloc (.cells (iC (w.heap.size + 1) 1 1 0 0) MT) := by rw [e, hw2, hw1]
 have sl : aU w2 B N (.sl bT 18) (.slice (some ⟨w.heap.size + 1, 0, none⟩) 1 1) := Ez hN (by omega) b2 (Nat.le_refl _) (by unfold maxLen; omega) (by simp [hl])
 refine ⟨?_, ?_, K, A, J, hK, ?_, ?_⟩
 · rw [e']
   exact W2.alloc kM (aT.one (l := (iC (w.heap.size + 1) 1 1 0 0).toList) ⟨sl, ⟨false, rfl⟩, z _, z _, trivial⟩)
 · rw [e', hw2, hw1]
   exact ((Eff.bL _ _ _).alloc _).alloc _
 · rw [e', ← s2]; exact blk_alloc_new _ _
 · rw [e', cO (by omega), b2, hfr]
def Df (pe : Nat) (v : Value) : Array Value := #[.pointer (some ⟨pe, 0, none⟩), v, .int .i64 0, .slice none 0 0, .int .i64 0, .int .i64 0, .int .u64 0, .int .u64 0]
structure EN (B N : Nat) (c : kT) (w0 : World) (xb pe : Nat) (m rs : Value) (w : World) (v : Value) (k : Nat) (bN cu : Nat → Nat) : Prop where
 wt : WT kd.sig B N w
 aS : Eff (fun _ _ _ => False) w0 w
 env : w.heap[pe]? = some (.cells (iE c m rs) 66 (0, 0))
 pe0 : w0.heap.size ≤ pe
 PM : w0.heap.size ≤ xb
 ed : w.heap[xb]? = some (.cells (Df pe v) ET (0, 0))
 ls : Ky w w0.heap.size k bN v
 fm : ∀ j, j < k → FM w (bN j) (cu j)
 bm : ∀ j, j < k → w0.heap.size ≤ bN j ∧ w0.heap.size ≤ cu j
 inj : ∀ i j, i < k → j < k → i ≠ j → bN i ≠ bN j ∧ cu i ≠ cu j
 ro : pY w w0.heap.size N qd 7 rs
 rl : bO rs = c.T
variable {c : kT} {pe : Nat} {m rs : Value}
theorem EN.out (h : EN B N c w0 xb pe m rs w v k bN cu) (hw : WT kd.sig B N w') (g : Eff (fun _ _ _ => False) w w') : EN B N c w0 xb pe m rs w' v k bN cu :=
 ⟨hw, h.aS.trans g, g.blk h.env fun _ _ h => h, h.pe0, h.PM, g.blk h.ed fun _ _ h => h, h.ls.out (g.mono fun _ _ _ _ h => h.elim), fun j hj => (h.fm j hj).out (g.mono fun _ _ _ _ h => h.elim), h.bm, h.inj, yK h.ro g, h.rl⟩
theorem EN.lt (h : EN B N c w0 xb pe m rs w v k bN cu) : ∀ j, j < k → bN j < w.heap.size ∧ cu j < w.heap.size := fun j hj => by
 obtain ⟨K, A, J, -, h1, h2⟩ := h.fm j hj
 exact ⟨aK h1, aK h2⟩
theorem EN.Ma (h : EN B N c w0 xb pe m rs w v k bN cu) (g : Eff (fun b U _ => w0.heap.size ≤ b ∧ U = PT) w w') : w'.heap[xb]? = some (.cells (Df pe v) ET (0, 0)) := by
 letI : Inhabited cK := bY 0
 obtain ⟨c1, l1, -, l3⟩ := g.cells _ _ _ _ h.ed
 rw [l1]; congr 2; exact kK fun j => l3 j fun hh => absurd hh.2 (by decide)
theorem EN.push {lb kc : Nat} (h : EN B N c w0 xb pe m rs w v k bN cu) (hB : B ≤ w0.heap.size) (hk : k + 1 ≤ N) (hf : FM w mb fb) (hn : ∀ j, j < k → bN j ≠ mb ∧ cu j ≠ fb) (hm : w0.heap.size ≤ mb ∧ w0.heap.size ≤ fb) (A : WI B N w0.heap.size k w bN mb lb kc w') :
   EN B N c w0 xb pe m rs (w'.setCell ⟨xb, 1, none⟩ (.slice (some ⟨lb, 0, none⟩) (k + 1) kc)) (.slice (some ⟨lb, 0, none⟩) (k + 1) kc) (k + 1) (fun j => if j = k then mb else bN j) (fun j => if j = k then fb else cu j) := by
 letI : Inhabited cK := bY 0
 have g1 : Eff (fun b U _ => w0.heap.size ≤ b ∧ U = PT) w w' := A.aS
 have en := h.Ma g1
 have ae8 : w'.heap[pe]? = some (.cells (iE c m rs) 66 (0, 0)) := by
   obtain ⟨c1, l1, -, l3⟩ := g1.cells _ _ _ _ h.env
   rw [l1]; congr 2; exact kK fun j => l3 j fun hh => absurd hh.2 (by decide)
 have g2 : Eff (fun b U _ => w0.heap.size ≤ b ∧ U = ET) w' (w'.setCell ⟨xb, 1, none⟩ (.slice (some ⟨lb, 0, none⟩) (k + 1) kc)) := (Eff.refl _ w').dK en (.inl ⟨h.PM, rfl⟩)
 have gt : Eff (fun b U _ => w0.heap.size ≤ b ∧ (U = ET ∨ U = PT)) w (w'.setCell ⟨xb, 1, none⟩ (.slice (some ⟨lb, 0, none⟩) (k + 1) kc)) := (g1.mono fun _ _ _ _ h => ⟨h.1, .inr h.2⟩).trans (g2.mono fun _ _ _ _ h => ⟨h.1, .inl h.2⟩)
 have hpx : pe ≠ xb := fun e => by
   rw [e, en] at ae8
   cases ae8
 refine ⟨A.wt.set en kE0 (i := 1) (ck := .sl PT 1) rfl (A.ls.ok hB hk), ?_, by rw [bM hpx]; exact ae8, h.pe0, h.PM, by rw [aR en]; simp [Df], A.ls.out (g2.mono fun _ _ _ _ h => h.2), fun j hj => ?_, fun j hj => ?_, fun i j hi hj hij => ?_, ?_, h.rl⟩
 · exact ((h.aS.mono (oW := fun b _ _ => w0.heap.size ≤ b) fun _ _ _ _ h => h.elim).trans (gt.mono fun _ _ _ _ h => h.1)).mono fun b _ _ hb hc => by omega
 · by_cases hjk : j = k
   · simp only [if_pos hjk]; exact hf.out (gt.mono fun _ _ _ _ h => h.2)
   · simp only [if_neg hjk]; exact (h.fm j (by omega)).out (gt.mono fun _ _ _ _ h => h.2)
 · by_cases hjk : j = k
   · simp only [if_pos hjk]; exact hm
   · simp only [if_neg hjk]; exact h.bm j (by omega)
 · by_cases hik : i = k
   · have hjk : j ≠ k := by omega
     simp only [if_pos hik, if_neg hjk]
     have := hn j (by omega)
     exact ⟨Ne.symm this.1, Ne.symm this.2⟩
   · by_cases hjk : j = k
     · simp only [if_neg hik, if_pos hjk]; exact hn i (by omega)
     · simp only [if_neg hik, if_neg hjk]; exact h.inj i j (by omega) (by omega) hij
 · exact aU.mono (ck := .sl qd 7) (B := w0.heap.size) h.ro gt (Nat.le_refl _)
def TW (pe : Nat) (c : kT) (m rs : Value) : Sh := ⟨pe, fun q => ((iE c m rs)[q]?).getD (.bool false), fun _ => .bool false⟩
theorem EN.gx (h : EN B N c w0 xb pe m rs w v k bN cu) (hc : qL B N w0 c) (hw0 : WT kd.sig B N w0) (hB : B ≤ w0.heap.size) (hk1 : 1 ≤ k) (hk2 : k ≤ 68719476736) : ∃ rb cr, (TW pe c m rs).el 19 = .slice (some ⟨rb, 0, none⟩) c.T cr ∧ GX w (TW pe c m rs) B c.T rb N w xb := by
 have hs := h.aS.size
 obtain ⟨rb, cr, hrs⟩ : ∃ rb cr, rs = .slice (some ⟨rb, 0, none⟩) c.T cr := by
   have hl := h.rl
   have ht := hc.t1
   obtain ⟨n, xs, hn, -, ⟨rfl, -⟩ | ⟨b, cp, cur, rfl, -⟩⟩ := h.ro
   · simp [bO] at hl; omega
   · exact ⟨b, cp, by simp [bO] at hl; rw [hl]⟩
 have Om : B ≤ pe := Nat.le_trans hB h.pe0
 have rc := fun (j : Nat) (ck : CK) (hj : j < 21) (hck : fQ[j]? = some ck) => bZ h.wt kEv Om h.env (i := j) (j := j) (by simpa [iE] using hj) (Nat.mod_eq_of_lt hj) hck
 have cell : ∀ q, q < 21 → w.cell? ⟨pe, q, none⟩ = some ((TW pe c m rs).el q) := fun q hq => by
   rw [aa h.env]
   show _ = some (((iE c m rs)[q]?).getD (.bool false))
   rw [Array.getElem?_eq_getElem (by simpa [iE] using hq)]
   rfl
 have ok : ∀ (j : Nat) (ck : CK), j < 21 → fQ[j]? = some ck → aU w B N ck ((TW pe c m rs).el j) := fun j ck hj hck => by
   obtain ⟨v, e, o⟩ := rc j ck hj hck
   rw [cell j hj] at e
   cases e
   exact o
 have hps : aU w0 B N (.sl 123 1) c.ps := hc.all.2.2.2.2.2.2.2.2.2.1
 refine ⟨rb, cr, by rw [← hrs]; rfl, ?_⟩
 rcases h.ls with ⟨-, h0⟩ | ⟨lb, kc, cur, rfl, l1, l2, l3, l4, l5, l6⟩
 · omega
 refine ⟨pe, lb, k, kc, bN, cu, 0, .slice none 0 0, .int .i64 0, .int .i64 0, .int .u64 0, .int .u64 0, ?_, .slice none 0 0, cell 20 (by omega), Nat.le_refl _⟩
 letI : Inhabited cK := bY pe
 refine ⟨⟨fun q hq => cell q ?_, ⟨_, Om, h.env, by rw [uT]; simp [iE]⟩, cell 3 (by omega), h.rl, by have := hc.t2; show c.T ≤ 68719476736; omega, ⟨c.W, rfl, i64_in (by have := hc.w1; have := hc.w2; omega), hc.w1⟩, ok 9 _ (by omega) rfl, ok 10 _ (by omega) rfl, ok 11 _ (by omega) rfl, ok 19 _ (by omega) rfl, hc.pr.mono hw0 hps (h.aS.mono fun _ _ _ _ h => h.elim), aK h.env⟩, h.wt, Nat.le_trans hB hs, h.ed, Nat.le_trans hB h.PM, l6, fun j hj => (h.fm j hj).mi, fun j hj => Nat.le_trans hB (h.bm j hj).1, fun j hj => ?_, h.inj, hk1, hk2, ⟨_, _, h.env, .inr rfl⟩, .inl rfl, Om, fun j hj => Nat.le_trans hB (h.bm j hj).2, Eff.refl _ _⟩
 · have hq' : q = 0 ∨ q = 9 ∨ q = 10 ∨ q = 11 ∨ q = 19 := by simpa [aQ] using hq
   omega
 · obtain ⟨K, A, J, -, -, h2⟩ := h.fm j hj
   exact ⟨_, h2⟩
end
end Go.Proofs.YtncnepmgmphanaaGreatDoor
