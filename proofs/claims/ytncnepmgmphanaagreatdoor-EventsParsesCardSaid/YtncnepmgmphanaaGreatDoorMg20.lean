/- The script's entries: the reference's decoder of scripts, its types kept. No condition beside those named. -/
import Derived.Test.YtncnepmgmphanaaGreatDoorMg08
import Derived.Deep.LoopGhost
import Derived.Test.YtncnepmgmphanaaGreatDoorMg19
set_option linter.unusedVariables false
set_option linter.unusedSimpArgs false
set_option linter.unusedSectionVars false
namespace Go.Proofs.YtncnepmgmphanaaGreatDoor
section
open Go.RowKit
variable {B N : Nat}
def ScE (w : World) (B0 k : Nat) (v : Value) : Prop := ∃ f, mf w jh 2 B0 k f v ∧ ∀ j, j < k → ∃ a b : Int, f j = [.int .i64 a, .int .i64 b] ∧ bB .i64 a ∧ bB .i64 b
structure SK (B N : Nat) (w0 : World) (k : Nat) (v : Value) (w : World) : Prop where
 wt : WT kd.sig B N w
 aS : Eff (fun _ _ _ => False) w0 w
 en : ScE w w0.heap.size k v
theorem SK.push {w0 w w' : World} {k lb kc : Nat} {v : Value} {f : Nat → List Value} {a b : Int} (h : SK B N w0 k v w) (hA : uq B N jh 2 w0.heap.size k w f [.int .i64 a, .int .i64 b] lb kc w') (hf : ∀ j, j < k → ∃ a b : Int, f j = [.int .i64 a, .int .i64 b] ∧ bB .i64 a ∧ bB .i64 b) (ia : bB .i64 a) (ib : bB .i64 b) : SK B N w0 (k + 1) (.slice (some ⟨lb, 0, none⟩) (k + 1) kc) w' := by
 refine ⟨hA.wt, ((h.aS.mono (oW := fun k _ _ => w0.heap.size ≤ k) fun _ _ _ _ h => h.elim).trans (hA.aS.mono fun _ _ _ _ h => h.1)).mono fun k _ _ hk hc => by omega, _, hA.ls, fun j hj => ?_⟩
 by_cases e : j = k
 · subst e
   exact ⟨a, b, by simp, ia, ib⟩
 · simp only [if_neg e]
   exact hf j (by omega)
theorem SK.two {w0 w : World} {k : Nat} {v x y : Value} (h : SK B N w0 k v w) (hx : aU w B N (.int .i64) x) (hy : aU w B N (.int .i64) y) : SK B N w0 k v (w.alloc (.cells #[x, y] jh)) := by
 have e : Eff (fun _ _ _ => False) w (w.alloc (.cells #[x, y] jh)) := Eff.bL _ _ _
 obtain ⟨f, h1, h2⟩ := h.en
 exact ⟨h.wt.alloc kEn (aT.one (l := [x, y]) ⟨hx, hy, trivial⟩), h.aS.trans e, f, h1.keep e fun _ _ _ _ h => h, h2⟩
theorem SK.Ls {w0 w : World} {k : Nat} {v : Value} (h : SK B N w0 k v w) : SK B N w0 k v w.drew := by
 have e : Eff (fun _ _ _ => False) w w.drew := (Eff.refl _ _).drew
 obtain ⟨f, h1, h2⟩ := h.en
 exact ⟨h.wt.drew, h.aS.trans e, f, h1.keep e fun _ _ _ _ h => h, h2⟩
theorem Nk {w0 w : World} {k : Nat} {v : Value} {f : Nat → List Value} {a b : Int} (hB : B ≤ w0.heap.size) (h : SK B N w0 k v w) (hf : mf w jh 2 w0.heap.size k f v) (ia : bB .i64 a) (ib : bB .i64 b) (hk : k ≤ 60000) :
   WT kd.sig B N ((w.alloc (.cells #[.int .i64 a, .int .i64 b] jh)).alloc (.cells #[.int .i64 a, .int .i64 b] jh)).drew ∧ B ≤ w0.heap.size ∧ w0.heap.size ≤ ((w.alloc (.cells #[.int .i64 a, .int .i64 b] jh)).alloc (.cells #[.int .i64 a, .int .i64 b] jh)).drew.heap.size ∧ mf ((w.alloc (.cells #[.int .i64 a, .int .i64 b] jh)).alloc (.cells #[.int .i64 a, .int .i64 b] jh)).drew jh gW.length w0.heap.size k f v ∧ bJ ((w.alloc (.cells #[.int .i64 a, .int .i64 b] jh)).alloc (.cells #[.int .i64 a, .int .i64 b] jh)).drew B N gW [.int .i64 a, .int .i64 b] ∧ ((w.alloc (.cells #[.int .i64 a, .int .i64 b] jh)).alloc (.cells #[.int .i64 a, .int .i64 b] jh)).drew.heap[w.heap.size + 1]? = some (.cells [.int .i64 a, .int .i64 b].toArray jh (0, 0)) ∧ k < 68719476736 := by
 have h2 := ((h.two (x := .int .i64 a) (y := .int .i64 b) ⟨_, rfl, ia⟩ ⟨_, rfl, ib⟩).two (x := .int .i64 a) (y := .int .i64 b) ⟨_, rfl, ia⟩ ⟨_, rfl, ib⟩).Ls
 have e : Eff (fun _ _ _ => False) w ((w.alloc (.cells #[.int .i64 a, .int .i64 b] jh)).alloc (.cells #[.int .i64 a, .int .i64 b] jh)).drew := ((Eff.bL _ _ _).trans (Eff.bL _ _ _)).drew
 refine ⟨h2.wt, hB, h2.aS.size, hf.keep e fun _ _ _ _ h => h, ⟨⟨_, rfl, ia⟩, ⟨_, rfl, ib⟩, trivial⟩, ?_, by omega⟩
 have := blk_alloc_new (w.alloc (.cells #[.int .i64 a, .int .i64 b] jh)) (.cells #[.int .i64 a, .int .i64 b] jh)
 rw [show (w.alloc (.cells #[.int .i64 a, .int .i64 b] jh)).heap.size = w.heap.size + 1 by simp] at this
 exact this
set_option maxRecDepth 100000 in
set_option maxHeartbeats 4000000 in
theorem ad1 (w : World) (ao : Option Addr) (n cap : Nat) (hw : WT kd.sig B N w) (hB : B ≤ w.heap.size) (hbs : BytesAt w ao n) (hn : n ≤ 100000) :
   Calls Tryz.prog 39 #[.slice ao n cap] w fun e w' => ∃ k v, e = .returned v ∧ k ≤ n ∧ SK B N w k v w' := by
 have HW := Lib.hid (And.intro hw (And.intro hB (And.intro hbs hn)))
 clear hw hB hbs hn
 obtain ⟨i, z, hi, hz, hzc, hsz, hby⟩ := agK
 have ig : eZ gW z.cells.toList = true := by rw [hzc]; decide
 go_enter Tryz.func39, Tryz.ntmps39
 go_wp2_with fail
 go_loopg [3, 4] (n + 2) (fun g s3 s4 wr => ∃ k : Nat, s4 = .int .i64 (2 * k : Nat) ∧ 2 * k + g = n + 2 ∧ 2 * k ≤ n + 1 ∧ SK B N w k s3 wr)
 case atStart => exact ⟨0, rfl, by omega, by omega, HW.out.1, Eff.refl _ _, fun _ => [], .inl ⟨rfl, rfl⟩, fun j hj => absurd hj (Nat.not_lt_zero _)⟩
 case round =>
   obtain ⟨k, rfl, hg, hk, hS⟩ := hrel
   obtain ⟨f, hF, hf⟩ := hS.en
   obtain ⟨ao3, Oj, rfl⟩ : ∃ ao3 Oj, u3 = .slice ao3 k Oj := by
     rcases hF with ⟨e, h0⟩ | ⟨lb, kc, cur, e, -⟩
     · exact ⟨none, 0, by rw [e, h0]⟩
     · exact ⟨_, _, e⟩
   have HB := HW.out.2.2.1.keep (hS.aS.mono fun _ _ _ _ h => h.elim)
   have HS := Lib.hid (And.intro hS (And.intro hg (And.intro hk (And.intro hF hf))))
   have hn := HW.out.2.2.2
   have hk5 : k < 65536 := by have := HW.out.2.2.2; omega
   have hk6 : decide (k < 65536) = true := decide_eq_true hk5
   have hk7 : (k : Int) < 65536 := by omega
   clear hg hk hF hf
   by_cases hlt : 2 * k + 1 < n
   · obtain ⟨ab, off, rfl, x, hx, hx0, hx1⟩ := HB (2 * k) (by omega)
     obtain ⟨ab', off', ha', y, hy, hy0, hy1⟩ := HB (2 * k + 1) hlt
     cases ha'
     have hlt2 : ((2 * k : Nat) : Int) + 1 < (n : Int) := by omega
     obtain ⟨j, hj⟩ : ∃ j, j = 2 * k := ⟨_, rfl⟩
     have HJ := Lib.hid hj
     rw [← hj] at hx hy hlt hlt2 ⊢
     clear hj HB hS
     have hjn : j < n := by omega
     have hbw : ab < wr.heap.size := lt_of_cell hx
     go_wp2_with fail
     go_region
     obtain ⟨q, hq⟩ : ∃ q, x % 4 = q := ⟨_, rfl⟩
     have hq0 : 0 ≤ q := by omega
     have hq1 : q ≤ 3 := by omega
     have iq : bB .i64 q := i64_in (by omega)
     have iy : bB .i64 y := i64_in (by omega)
     have i1 : bB .i64 1 := i64_in (by omega)
     have i3 : bB .i64 3 := i64_in (by omega)
     have i0 : bB .i64 0 := i64_in (by omega)
     have hk8 : k ≤ 60000 := by have := HJ.out; omega
     simp only [hq]
     clear hk5 hk6 hk7 hq hx hy
     by_cases ahY : q = 1
     · subst ahY
       have HQ1 := Lib.hid ((HS.out.1.two (x := .int .i64 1) (y := .int .i64 0) ⟨_, rfl, i1⟩ ⟨_, rfl, i0⟩).two (x := .int .i64 1) (y := .int .i64 0) ⟨_, rfl, i1⟩ ⟨_, rfl, i0⟩).Ls
       have HQ2 := Lib.hid (show WT kd.sig B N ((wr.alloc (.cells #[.int .i64 1, .int .i64 0] jh)).alloc (.cells #[.int .i64 1, .int .i64 0] jh)).drew ∧ _ from Nk HW.out.2.1 HS.out.1 HS.out.2.2.2.1 i1 i0 (by omega))
       go_wp2_with (at_builtin; refine jf (B := B) (N := N) (L := gW) (B0 := w.heap.size) (k := k) (b := wr.heap.size + 1) (row := [.int .i64 1, .int .i64 0]) (f := f) rfl Dz hi hz hsz hby ig (by decide) kEn rfl rfl rfl ?hw ?_)
       case hw => exact HQ2.out
       intro lb kc w5 hA
       have PU := Lib.hid (HQ1.out.push (f := f) hA HS.out.2.2.2.2 i1 i0)
       clear hA
       go_wp2_with fail
       go_roundg (n + 2 - 2 * (k + 1))
       case measure => have := HS.out; omega
       case rel => exact ⟨k + 1, by have := HJ.out; first | rfl | (congr 1; omega) | omega, by have := HJ.out; omega, by have := HJ.out; omega, PU.out⟩
     by_cases hq3 : q = 3
     · subst hq3
       have HQ1 := Lib.hid ((HS.out.1.two (x := .int .i64 3) (y := .int .i64 0) ⟨_, rfl, i3⟩ ⟨_, rfl, i0⟩).two (x := .int .i64 3) (y := .int .i64 0) ⟨_, rfl, i3⟩ ⟨_, rfl, i0⟩).Ls
       have HQ2 := Lib.hid (show WT kd.sig B N ((wr.alloc (.cells #[.int .i64 3, .int .i64 0] jh)).alloc (.cells #[.int .i64 3, .int .i64 0] jh)).drew ∧ _ from Nk HW.out.2.1 HS.out.1 HS.out.2.2.2.1 i3 i0 (by omega))
       go_wp2_with (at_builtin; refine jf (B := B) (N := N) (L := gW) (B0 := w.heap.size) (k := k) (b := wr.heap.size + 1) (row := [.int .i64 3, .int .i64 0]) (f := f) rfl Dz hi hz hsz hby ig (by decide) kEn rfl rfl rfl ?hw ?_)
       case hw => exact HQ2.out
       intro lb kc w5 hA
       have PU := Lib.hid (HQ1.out.push (f := f) hA HS.out.2.2.2.2 i3 i0)
       clear hA
       go_wp2_with fail
       go_roundg (n + 2 - 2 * (k + 1))
       case measure => have := HS.out; omega
       case rel => exact ⟨k + 1, by have := HJ.out; first | rfl | (congr 1; omega) | omega, by have := HJ.out; omega, by have := HJ.out; omega, PU.out⟩
     have e1 : (q == 1) = false := by simpa using ahY
     have e3 : (q == 3) = false := by simpa using hq3
     have HQ1 := Lib.hid ((HS.out.1.two (x := .int .i64 q) (y := .int .i64 y) ⟨_, rfl, iq⟩ ⟨_, rfl, iy⟩).two (x := .int .i64 q) (y := .int .i64 y) ⟨_, rfl, iq⟩ ⟨_, rfl, iy⟩).Ls
     have HQ2 := Lib.hid (show WT kd.sig B N ((wr.alloc (.cells #[.int .i64 q, .int .i64 y] jh)).alloc (.cells #[.int .i64 q, .int .i64 y] jh)).drew ∧ _ from Nk HW.out.2.1 HS.out.1 HS.out.2.2.2.1 iq iy (by omega))
     go_wp2_with (at_builtin; refine jf (B := B) (N := N) (L := gW) (B0 := w.heap.size) (k := k) (b := wr.heap.size + 1) (row := [.int .i64 q, .int .i64 y]) (f := f) rfl Dz hi hz hsz hby ig (by decide) kEn rfl rfl rfl ?hw ?_)
     case hw => exact HQ2.out
     intro lb kc w5 hA
     have PU := Lib.hid (HQ1.out.push (f := f) hA HS.out.2.2.2.2 iq iy)
     clear hA
     go_wp2_with fail
     go_roundg (n + 2 - 2 * (k + 1))
     case measure => have := HS.out; omega
     case rel => exact ⟨k + 1, by have := HJ.out; first | rfl | (congr 1; omega) | omega, by have := HJ.out; omega, by have := HJ.out; omega, PU.out⟩
   · have hlt2 : ¬ ((2 * k : Nat) : Int) + 1 < (n : Int) := by omega
     have hk9 := HS.out.2.2.1
     obtain ⟨j, hj⟩ : ∃ j, j = 2 * k := ⟨_, rfl⟩
     rw [← hj] at hlt hlt2 hk9 ⊢
     clear hj HB hS
     go_wp2_with fail
     refine bodyPost_ret (results_tmp rfl _ _ _) rfl ?_
     exact ⟨k, _, rfl, by have := HS.out.2.2.1; omega, HS.out.1⟩
end
section
open Go.RowKit
variable {dG : World} {sh : Sh} {B N N' T : Nat} {w w' : World} {rb cr xb lb k kc : Nat} {bN cu : Nat → Nat} {dx : Int} {st l0 l1 l2 l3 : Value}
theorem kI : kd.sig IT = some [.int .i64] := by kernel_rfl
theorem ad8 : ∃ i z, Tryz.prog.info? 3 = some i ∧ i.zero = some z ∧ z.cells = #[.int .i64 0] ∧ i.size = 1 ∧ i.bytes ≤ 1024 := by
 have h1 : (Tryz.prog.info? 3).map (fun i => (i.zero.map (·.cells), i.size, decide (i.bytes ≤ 1024))) = some (some #[.int .i64 0], 1, true) := by kernel_rfl
 cases hi : Tryz.prog.info? 3 with
 | none => rw [hi] at h1; cases h1
 | some i =>
   rw [hi] at h1
   simp only [Option.map_some, Option.some.injEq, Prod.mk.injEq, decide_eq_true_eq, Option.map_eq_some_iff] at h1
   obtain ⟨⟨z, hz, hc⟩, h2, h3⟩ := h1
   exact ⟨i, z, rfl, hz, hc, h2, h3⟩
theorem E9 : Tryz.prog.underlying 29 = some (.slice 3) := by kernel_rfl
structure StA (B N : Nat) (w : World) (st : Value) (sb : Nat) (g' cap' : Nat) (w' : World) : Prop where
 wt : WT kd.sig B N w'
 ok : ∀ N', N ≤ N' → bO st + 1 ≤ N' → aU w' B N' (.sl IT 1) (.slice (some ⟨g', 0, none⟩) (bO st + 1) cap')
 blk : ∃ c, w'.heap[g']? = some (.cells c IT (0, 0))
 way : (g' = sb ∧ (∃ c, w.heap[sb]? = some (.cells c IT (0, 0))) ∧ Eff (fun k U j => k = sb ∧ U = IT) w w') ∨ (g' = w.heap.size ∧ Eff (fun _ _ _ => False) w w')
theorem wD {op : Oper} {a : Act} {K : Act → World → Prop} {Q : Exit → Act → World → Prop} {s x : Operand} {sb b : Nat} {v : Int} (ho : op.op = .call { callee := .builtin .append, args := #[s, x], argTypes := #[29, 29] })
   (hs : a.eval s = st) (hx : a.eval x = .slice (some ⟨b, 0, none⟩) 1 1) (hw : WT kd.sig B N w) (hBw : B ≤ w.heap.size) (hst : aU w B N (.sl IT 1) st) (hsb : st = .slice none 0 0 ∨ ∃ n cap, st = .slice (some ⟨sb, 0, none⟩) n cap) (iv : bB .i64 v) (hb : w.heap[b]? = some (.cells #[.int .i64 v] IT (0, 0))) (hN : bO st < 68719476736)
   (h : ∀ g' cap' w', StA B N w st sb g' cap' w' → K (a.put op.dst (.slice (some ⟨g', 0, none⟩) (bO st + 1) cap')) w') : op.wp Tryz.prog a w K Q := by
 obtain ⟨i, z, hi, hz, hzc, hsz, hby⟩ := ad8
 have hn : bJ w B N [.int .i64] [.int .i64 v] := ⟨⟨v, rfl, iv⟩, trivial⟩
 have hc : ∀ (j : Nat) (u : Value), [Value.int .i64 v][j]? = some u → w.cell? ((⟨b, 0, none⟩ : Addr).add j) = some u := fun j u hj => by rw [Go.WideShapes.add_plain, Nat.zero_add, aa hb]; simpa using hj
 rcases hsb with rfl | ⟨n, cap, rfl⟩
 · have hr := run_append_nil (P := Tryz.prog) w 29 op.type 3 i z E9 hi hz ⟨b, 0, none⟩ 1 1 [.int .i64 v] (by rw [hsz]; rfl) hc (by omega) (by omega) (by omega)
   obtain ⟨cap', vN⟩ : ∃ cap', cap' = grownCap w 1 0 3 := ⟨_, rfl⟩
   have hgc := grownCap_ge w 1 0 3
   have hgm := grownCap_le_maxLen w 1 0 3 (by unfold maxLen; omega)
   rw [← vN] at hr hgc hgm
   obtain ⟨w5, dZ⟩ : ∃ w5, w5 = w.drew.alloc (.cells ([Value.int .i64 v].toArray ++ Builtin.zeroCells z.cells (cap' - 1)) 3) := ⟨_, rfl⟩
   rw [← dZ] at hr
   have hE0 : Eff (fun _ _ _ => False) w w5 := by rw [dZ]; exact (Eff.refl _ _).drew.alloc _
   have hbk : w5.heap[w.heap.size]? = some (.cells ([Value.int .i64 v].toArray ++ Builtin.zeroCells z.cells (cap' - 1)) IT (0, 0)) := by rw [dZ]; exact blk_alloc_new w.drew _
   have ig : eZ [.int .i64] z.cells.toList = true := by rw [hzc]; decide
   have hsz5 : ([Value.int .i64 v].toArray ++ Builtin.zeroCells z.cells (cap' - 1)).size = cap' := by
     simp only [Array.size_append, List.size_toArray, size_zeroCells, hzc, List.length_singleton]
     simp
     omega
   have W5 : WT kd.sig B N w5 := by
     rw [dZ]
     exact WT.alloc hw.drew kI (((aT.one hn).app (aT.zeros ig w (cap' - 1))).mono ((Eff.refl (fun _ _ _ => False) w).drew) (Nat.le_refl _))
   have A : StA B N w (.slice none 0 0) sb w.heap.size cap' w5 := by
     refine ⟨W5, fun N' fM hl => ⟨1, [.int .i64 v], by simpa [bO] using hl, rfl, .inr ⟨w.heap.size, cap', _, rfl, hBw, hbk, hgc, hgm, by rw [hsz5, Nat.mul_one], by simp⟩⟩, ⟨_, hbk⟩, .inr ⟨rfl, hE0⟩⟩
   unfold Oper.wp execOp
   simp only [ho, resolve, invoke, builtin, Sem.run_bind, Sem.run_pure, Result.andThen_ok, List.map_toArray, List.map_cons, List.map_nil, hs, hx, hr]
   exact h w.heap.size cap' w5 A
 · rcases df hst with hh | ⟨b', n', c, cur, hh, k1, k2, k3, k4, k5⟩
   · cases hh
   cases hh
   obtain ⟨n2, xs, hn2, hl2, ⟨hx2, -⟩ | ⟨b2, cp2, anj, hx2, h1, h2, h3, h4, h5, h6⟩⟩ := hst
   · cases hx2
   cases hx2
   rw [k2] at h2
   cases h2
   obtain ⟨g', cap', w5, hr, A⟩ := mg (P := Tryz.prog) (kd := kd) (L := [.int .i64]) (ty := op.type) (a := ⟨b, 0, none⟩) (c := 1) (news := [.int .i64 v]) E9 hi hz hsz hby (by rw [hzc]; decide) (by decide) kI hw hBw k1 k2 h3 h4 (by rw [h5]; rfl) (aT.one hn) rfl hc (by simpa [bO] using hN)
   obtain ⟨c5, c51, Ux⟩ := A.blk
   have hB' : B ≤ g' := by
     rcases A.at' with e | e
     · omega
     · omega
   have A2 : StA B N w (.slice (some ⟨sb, 0, none⟩) n cap) sb g' cap' w5 := by
     refine ⟨A.wt, fun N' fM hl => ⟨n + 1, c5.toList.take ((n + 1) * 1), hl, ?_, .inr ⟨g', cap', c5, rfl, hB', c51, A.cap, A.max, Ux, rfl⟩⟩, ⟨_, c51⟩, ?_⟩
     · rw [List.length_take, Array.length_toList, Ux]
       have := A.cap
       simp only [List.length_singleton, Nat.mul_one]
       omega
     · rcases A.fresh with e | e
       · exact .inl ⟨e, ⟨_, k2⟩, A.aS.iI fun k c U f j hk hc => by
           obtain ⟨rfl, -⟩ := hc
           rw [k2] at hk
           cases hk
           exact ⟨rfl, rfl⟩⟩
       · exact .inr e
   unfold Oper.wp execOp
   simp only [ho, resolve, invoke, builtin, Sem.run_bind, Sem.run_pure, Result.andThen_ok, List.map_toArray, List.map_cons, List.map_nil, hs, hx, hr]
   exact h g' cap' w5 A2
theorem GI.sto [Inhabited cK] (h : GI dG sh B T rb N w xb lb k kc bN cu dx st l0 l1 l2 l3) : aU w B N (.sl IT 1) st := by
 obtain ⟨v, e, o⟩ := bZ h.wt kE h.bx h.ed (i := 3) (j := 3) (by simp [dQ]) rfl rfl
 rw [aa h.ed] at e
 cases e
 exact o
theorem UI {pe : Nat} {v : Value} (h : w.heap[xb]? = some (.cells (dQ pe lb k kc dx st l0 l1 l2 l3) ET (0, 0))) : (w.setCell ⟨xb, 3, none⟩ v).heap[xb]? = some (.cells (dQ pe lb k kc dx v l0 l1 l2 l3) ET (0, 0)) := by
 rw [aR h]; simp [dQ]
theorem GI.vR {sb : Nat} (h : @GI (bY sb) dG sh B T rb N w xb lb k kc bN cu dx st l0 l1 l2 l3) : w.heap[xb]? = some (.cells (dQ sh.pe lb k kc dx st l0 l1 l2 l3) ET (0, 0)) := by
 letI : Inhabited cK := bY sb
 exact h.ed
theorem GI.Wq {sb : Nat} (h : @GI (bY sb) dG sh B T rb N w xb lb k kc bN cu dx st l0 l1 l2 l3) : aU w B N (.sl IT 1) st := by
 letI : Inhabited cK := bY sb
 exact h.sto
theorem GI.Uo {sb g' cap' : Nat} (h : @GI (bY sb) dG sh B T rb N w xb lb k kc bN cu dx st l0 l1 l2 l3) (A : StA B N w st sb g' cap' w') : w'.heap[xb]? = some (.cells (dQ sh.pe lb k kc dx st l0 l1 l2 l3) ET (0, 0)) ∧ ∀ q, w'.cell? ⟨sh.pe, q, none⟩ = w.cell? ⟨sh.pe, q, none⟩ := by
 letI : Inhabited cK := bY sb
 obtain ⟨e, n1, n2, n3⟩ := id h.ee.blk
 rcases A.way with ⟨rfl, ⟨c0, hc0⟩, g⟩ | ⟨rfl, g⟩
 · have hne : xb ≠ g' := fun e => by
     subst e
     rw [h.ed] at hc0
     cases hc0
   have jq : sh.pe ≠ g' := fun e => by
     rw [e] at n2
     rw [n2] at hc0
     cases hc0
   constructor
   · obtain ⟨c', l1, l2, l3⟩ := g.cells _ _ _ _ h.ed
     rw [l1]
     congr 2
     exact kK fun j => l3 j fun hx => hne hx.1
   · intro q
     obtain ⟨c', l1, l2, l3⟩ := g.cells _ _ _ _ n2
     rw [aa l1, aa n2, l3 q fun hx => jq hx.1]
 · refine ⟨g.blk h.ed fun _ _ h => h, fun q => ?_⟩
   obtain ⟨c', l1, l2, l3⟩ := g.cells _ _ _ _ n2
   rw [aa l1, aa n2, l3 q fun hx => hx]
theorem GI.stamp {sb g' cap' : Nat} (h : @GI (bY sb) dG sh B T rb N w xb lb k kc bN cu dx st l0 l1 l2 l3) (A : StA B N w st sb g' cap' w') (hN : bO st + 1 ≤ N) : ∃ sb', @GI (bY sb') dG sh B T rb N (w'.setCell ⟨xb, 3, none⟩ (.slice (some ⟨g', 0, none⟩) (bO st + 1) cap')) xb lb k kc bN cu dx (.slice (some ⟨g', 0, none⟩) (bO st + 1) cap') l0 l1 l2 l3 := by
 have hok := A.ok N (Nat.le_refl _) hN
 rcases A.way with ⟨rfl, ⟨c0, hc0⟩, g⟩ | ⟨rfl, g⟩
 · letI : Inhabited cK := bY g'
   have hne : xb ≠ g' := fun e => by
     subst e
     rw [h.ed] at hc0
     cases hc0
   have qV : w'.heap[xb]? = some (.cells (dQ sh.pe lb k kc dx st l0 l1 l2 l3) ET (0, 0)) := by
     obtain ⟨c', l1, l2, l3⟩ := g.cells _ _ _ _ h.ed
     rw [l1]
     congr 2
     exact kK fun j => l3 j fun hx => hne hx.1
   have h1 : GI dG sh B T rb N w' xb lb k kc bN cu dx st l0 l1 l2 l3 := h.JM (Nat.le_refl _) A.wt (g.mono fun k U j _ hc => .inl hc) qV h.A9
   refine ⟨g', ?_⟩
   exact h1.JM (Nat.le_refl _) (A.wt.set qV kE (i := 3) (ck := .sl IT 1) rfl hok) ((Eff.refl _ w').dK qV (.inl (.inr (.inl ⟨rfl, rfl⟩)))) (UI qV) (.inr ⟨_, _, rfl⟩)
 · obtain ⟨cn, hcn⟩ := A.blk
   have hsl := aK hcn
   have qV : w'.heap[xb]? = some (.cells (dQ sh.pe lb k kc dx st l0 l1 l2 l3) ET (0, 0)) := g.blk (by letI : Inhabited cK := bY sb; exact h.ed) fun _ _ h => h
   -- the old facts, with the new block
   have old : (@GI (bY sb) dG sh B T rb N w' xb lb k kc bN cu dx st l0 l1 l2 l3) := by
     letI : Inhabited cK := bY sb
     exact h.JM (Nat.le_refl _) A.wt (g.mono fun _ _ _ _ h => h.elim) qV h.A9
   have mi1 : ∀ j, j < k → @MI (bY w.heap.size) sh T rb w' (bN j) (cu j) := fun j hj => by
     have h0 : @MI (bY w.heap.size) sh T rb w (bN j) (cu j) := MI.swap (by letI : Inhabited cK := bY sb; exact h.mi j hj) (Nat.le_refl _)
     letI : Inhabited cK := bY w.heap.size
     refine MI.keepD (pe := sh.pe) (xb := xb) (B := B) (N := N) h0 ?_ ?_ ?_ (g.mono fun _ _ _ _ h => h.elim)
     · letI : Inhabited cK := bY sb; exact h.wt
     · letI : Inhabited cK := bY sb; exact h.bm j hj
     · letI : Inhabited cK := bY sb
       obtain ⟨e, h1, h2, h3⟩ := h.ee.blk
       exact ⟨e, h2⟩
   have ee1 : @EE (bY w.heap.size) sh B N T w' := EE.swap (by letI : Inhabited cK := bY sb; exact old.ee) hsl
   -- the engine's cell
   have w2 : WT kd.sig B N (w'.setCell ⟨xb, 3, none⟩ (.slice (some ⟨w.heap.size, 0, none⟩) (bO st + 1) cap')) := (by letI : Inhabited cK := bY sb; exact A.wt.set qV kE (i := 3) (ck := .sl IT 1) rfl hok)
   refine ⟨w.heap.size, ?_⟩
   letI : Inhabited cK := bY w.heap.size
   have gD : Eff (Un sh.pe xb) w' (w'.setCell ⟨xb, 3, none⟩ (.slice (some ⟨w.heap.size, 0, none⟩) (bO st + 1) cap')) := (Eff.refl _ w').dK qV (.inl (.inr (.inl ⟨rfl, rfl⟩)))
   obtain ⟨e, e1, e2, e3⟩ := id ee1.blk
   have hnx : xb ≠ w.heap.size := fun hx => by
     rw [hx] at qV
     rw [hcn] at qV
     cases qV
   have ane : @GI (bY sb) dG sh B T rb N (w'.setCell ⟨xb, 3, none⟩ (.slice none 0 0)) xb lb k kc bN cu dx (.slice none 0 0) l0 l1 l2 l3 := by
     letI : Inhabited cK := bY sb
     exact old.JM (Nat.le_refl _) (A.wt.set qV kE (i := 3) (ck := .sl IT 1) rfl ⟨0, [], Nat.zero_le _, World.ownsRow_nil _ _ _ _⟩) ((Eff.refl _ w').dK qV (.inl (.inr (.inl ⟨rfl, rfl⟩)))) (UI qV) (.inl rfl)
   have lbx : ∀ j, j < k → w'.cell? ⟨lb, j, none⟩ = some (.pointer (some ⟨bN j, 0, none⟩)) ∧ lb ≠ xb := by
     letI : Inhabited cK := bY sb
     intro j hj
     obtain ⟨cur, q1, q2, -⟩ := old.lst
     exact ⟨old.ml j hj, fun hx => by rw [hx, qV] at q2; cases q2⟩
   refine GI.mk (ee1.keepD A.wt (Nat.le_refl _) gD) w2 ?_ (UI qV) ?_ (fun j hj => by rw [dX (lbx j hj).2]; exact (lbx j hj).1) (fun j hj => (mi1 j hj).keepD A.wt ?_ ⟨e, e2⟩ gD) ?_ (fun j hj => ?_) ?_ ?_ ?_ ⟨cn, IT, by rw [bM (Ne.symm hnx)]; exact hcn, .inl rfl⟩ (.inr ⟨_, _, rfl⟩) ?_ ?_ ?_
   · letI : Inhabited cK := bY sb
     exact Nat.le_trans old.bw gD.size
   · letI : Inhabited cK := bY sb; exact old.bx
   · letI : Inhabited cK := bY sb; exact old.bm j hj
   · letI : Inhabited cK := bY sb; exact old.bm
   · have : ∃ f, w'.heap[cu j]? = some (.cells f bT (0, 0)) := by letI : Inhabited cK := bY sb; exact old.fr j hj
     obtain ⟨f, hf⟩ := this
     obtain ⟨c', l1, -, -⟩ := gD.cells _ _ _ _ hf
     exact ⟨c', l1⟩
   · letI : Inhabited cK := bY sb; exact old.inj
   · letI : Inhabited cK := bY sb; exact old.k1
   · letI : Inhabited cK := bY sb; exact old.k2
   · letI : Inhabited cK := bY sb; exact h.bw
   · letI : Inhabited cK := bY sb; exact old.bf
   · have hk1 : Eff (KCh B) dG w' := by letI : Inhabited cK := bY sb; exact old.keep
     have hxB : B ≤ xb := by letI : Inhabited cK := bY sb; exact old.bx
     exact hk1.trans ((Eff.refl _ w').dK qV (.inl ⟨hxB, by decide⟩))
end
end Go.Proofs.YtncnepmgmphanaaGreatDoor
