/- What a worker's frame enters, but at line 7. No condition beside those named. -/
import Derived.Test.YtncnepmgmphanaaGreatDoorMg14
import Derived.Test.YtncnepmgmphanaaGreatDoorMg04
import Derived.Test.YtncnepmgmphanaaGreatDoorMg06
import Derived.Test.YtncnepmgmphanaaGreatDoorMg05
import Derived.Test.YtncnepmgmphanaaGreatDoorMg00
import Derived.Deep.MidRow
import Derived.Deep.DeepCutAuto
set_option linter.unusedVariables false
set_option linter.unusedSimpArgs false
set_option linter.unusedSectionVars false
namespace Go.Proofs.YtncnepmgmphanaaGreatDoor
section
open Go.RowKit
variable [Inhabited cK] {sh : Sh} {B N T : Nat} {w w' : World}
theorem ae2 {fb r rb : Nat} (h : At sh B N T w fb r) {ln : Int} (hF : FI T w fb r 25 ln) (h7 : ln ≠ 7) :
   Calls Tryz.prog 66 #[.pointer (some ⟨sh.pe, 0, none⟩), .pointer (some ⟨fb, r * 18, none⟩)] w fun e w' => mJ sh T B (N + 1) w rb fb r 25 e w' := by
 obtain ⟨f, hf1, BH, hf3⟩ := id h.row
 obtain ⟨kV, hl', hlk⟩ := pQ h.wt h.row (o := 1) (by omega) rfl
 rw [hF.c1] at hl'
 cases hl'
 refine (tH (fb := fb) (r := r) (Y7 (h.ee.ev h.wt) (eP w)) (Eff.refl _ w) (by decide) rfl h.wt h.bw (by have := h.nn; show N + 1 ≤ _; omega) h.row rfl rfl (dM h.ee rfl rfl) (fun o t' ht' => ?_)).mono ?_
 · have hm := Hm.at_mem ht'
   simp only [oo, List.mem_cons, List.not_mem_nil, or_false, Prod.mk.injEq] at hm
   rcases hm with ⟨⟨-, -, rfl⟩, rfl⟩ | ⟨⟨-, -, rfl⟩, rfl⟩
   · exact ⟨_, hF.c0, rfl, i64_in (by omega)⟩
   · exact ⟨_, hF.c1, ln, rfl, hlk, h7⟩
 · rintro e w' ⟨v, rfl, g1, hps, g2, q, hq, g3, -⟩
   simp only [List.mem_singleton] at hq
   subst hq
   have hfe := IE (w := w) (by decide) rfl hps g2
   have c0' : fc w' fb r 0 = some (.int .i64 25) := by rw [qx BH hfe (.inl rfl) (.inl rfl)]; exact hF.c0
   obtain ⟨cs, ok, rfl, ha, ⟨c, hc, hcs⟩, hok⟩ := oG g3 (.inr ⟨_, rfl⟩)
   obtain rfl := hok _ rfl
   have hr : ∀ c ∈ ([18, 23, 22, 21, 2, 14, 19, 4] : List Int), rank c < rank 25 ∧ 0 ≤ c ∧ c < 24 := by decide
   obtain ⟨r1, r2, r3⟩ := hr c hc
   exact ⟨cs, true, rfl, g1, ha, hfe, (fun hx => by cases hx), fun _ => ⟨c, hcs, ⟨c0', by omega, by omega, r1, r2, by omega, fun hx => by omega, fun hx => by omega⟩, fun hx => by omega⟩⟩
end
section
open Go.RowKit
variable {B N : Nat}
def lS (w : World) : List Obj → World
 | [] => w
 | o :: l => lS (w.alloc o) l
theorem BN : ∀ (l : List Obj) (w : World), (lS w l).heap = w.heap ++ l.toArray
 | [], w => by simp [lS]
 | o :: l, w => by
   rw [lS, BN l, show (w.alloc o).heap = w.heap.push o from rfl]
   simp
theorem Gq : ∀ (l : List Obj) (w : World), Eff (fun _ _ _ => False) w (lS w l)
 | [], w => Eff.refl _ _
 | o :: l, w => (Eff.bL _ _ _).trans (Gq l _)
theorem WT.lS {sig : Ml} {w : World} (h : WT sig B N w) (l : List Obj) (hl : ∀ c T f L, Obj.cells c T f ∈ l → sig T = some L → f = (0, 0) ∧ aT (lS w l) B N L c) : WT sig B N (lS w l) := by
 intro k c T f L hk hh hL
 rw [BN, Array.getElem?_append] at hh
 split at hh
 · obtain ⟨h1, h2, h3⟩ := h k c T f L hk hh hL
   exact ⟨h1, h2, fun i v hi => by obtain ⟨ck, e, o⟩ := h3 i v hi; exact ⟨ck, e, o.mono (Gq l w) (Nat.le_refl _)⟩⟩
 · rw [List.getElem?_toArray] at hh
   obtain ⟨h1, h2, h3⟩ := hl c T f L (List.mem_of_getElem? hh) hL
   exact ⟨h1, h2, h3⟩
theorem Ol {P : Program} {fn : Func} {tmps : Array Value} {w : World} {x b T : Nat} {cs : List Value} {d : TypeDesc} (hr : fn.results = #[.cell x T]) (hx : tmps.getD x undef = .pointer (some ⟨b, 0, none⟩)) (hc : w.rangeAt b 0 cs) (hu : P.underlying T = some d) (hd : d.isRow = true) (hi : (P.info? T).map (·.size) = some cs.length) : (results fn tmps).run P w = .ok (.agg cs.toArray) w := by
 rw [vF, hr]
 have : (pE tmps (.cell x T)).run P w = .ok (.agg cs.toArray) w := by
   simp only [pE, hx, asAddr, Sem.run_bind, Sem.run_pure, Result.andThen_ok]
   exact run_loadVar_mid w b 0 T cs d hc hu hd hi
 simp [this]
theorem QP {w : World} {b : Nat} {c : Array Value} {T : TypeId} {f : Nat × Nat} (h : w.heap[b]? = some (.cells c T f)) : w.rangeAt b 0 c.toList := fun j v hj => by
 rw [Nat.zero_add, aa h, ← Array.getElem?_toList]; exact hj
def dH (A t : Int) (b : Nat) : Array Value := #[.int .i64 24, .int .i64 0, .int .i64 0, .int .i64 0, .int .i64 0, .int .i64 0, .int .i64 A, .int .i64 t, .int .i64 0, .int .i64 0, .int .i64 0, .int .i64 0, .int .i64 0, .int .u64 0, .int .u64 0, .int .u64 0, .int .u64 0, .slice (some ⟨b, 0, none⟩) 1 1]
set_option maxRecDepth 100000 in
set_option maxHeartbeats 1000000 in
theorem Qp (w : World) (A t : Int) : Calls Tryz.prog 133 #[.int .i64 A, .int .i64 t] w fun e w' => e = .returned (.agg (dH A t (w.heap.size + 1))) ∧ w' = (w.alloc (.cells (dH A t (w.heap.size + 1)) 118)).alloc (.cells #[.int .i64 t] 3) := by
 go_enter Tryz.func133, Tryz.ntmps133
 go_wp2_with fail
 obtain ⟨w', hw'⟩ : ∃ w', w' = (w.alloc (.cells (dH A t (w.heap.size + 1)) 118)).alloc (.cells #[.int .i64 t] 3) := ⟨_, rfl⟩
 have hb : w'.heap[w.heap.size]? = some (.cells (dH A t (w.heap.size + 1)) 118 (0, 0)) := by
   rw [hw', cO (by simp)]; exact blk_alloc_new _ _
 have hr := fun tmps hx => Ol (P := Tryz.prog) (fn := Tryz.f133) (tmps := tmps) (x := 4) (T := 118) rfl hx (QP hb) rfl rfl rfl
 unfold dH at hw'
 rw [← hw']
 exact bodyPost_ret (hr _ rfl) rfl ⟨rfl, hw'⟩
end
section
open Go.RowKit
theorem Ah {b : Nat} {T : TypeId} : ∀ (vs : List Value) (o : Nat) (w : World) (arr : Array Value), w.heap[b]? = some (.cells arr T (0, 0)) → o + vs.length ≤ arr.size →
   ∃ DY : Array Value, (w.setCells b o vs).heap[b]? = some (.cells DY T (0, 0)) ∧ DY.size = arr.size ∧ (∀ j, j < o ∨ o + vs.length ≤ j → DY[j]? = arr[j]?) ∧ ∀ j, j < vs.length → DY[o + j]? = vs[j]?
 | [], o, w, arr, h, _ => ⟨arr, h, rfl, fun _ _ => rfl, fun j hj => by simp at hj⟩
 | v :: r, o, w, arr, h, hl => by
   simp only [List.length_cons] at hl
   obtain ⟨DY, h1, h2, h3, h4⟩ := Ah r (o + 1) (w.setCell ⟨b, o, none⟩ v) (arr.setIfInBounds o v) (aR h o v) (by simp; omega)
   refine ⟨DY, h1, by simpa using h2, fun j hj => ?_, fun j hj => ?_⟩
   · rw [h3 j (by simp at hj; omega), Array.getElem?_setIfInBounds_ne (by simp at hj; omega)]
   · cases j with
     | zero =>
       rw [Nat.add_zero, h3 o (by omega), Array.getElem?_setIfInBounds_self_of_lt (by omega)]
       rfl
     | succ j =>
       simp only [List.length_cons] at hj
       have := h4 j (by omega)
       rw [show o + (j + 1) = o + 1 + j from by omega, this]
       rfl
theorem wZ (b : Nat) : ∀ (vs : List Value) (o : Nat) (w : World), Only [b] w (w.setCells b o vs)
 | [], _, w => Only.refl _ _
 | v :: r, o, w => ((Only.refl [b] w).setCell (by simp) v).trans (wZ b r (o + 1) _) (by simp)
def ah5 (w w' : World) (b : Nat) (cs : List Value) : Prop := Only [b] w w' ∧ ∀ (arr : Array Value) (T : TypeId), w.heap[b]? = some (.cells arr T (0, 0)) → arr.size = cs.length → w'.heap[b]? = some (.cells cs.toArray T (0, 0))
theorem iU (w : World) (b : Nat) (cs : List Value) : ah5 w (w.setCells b 0 cs) b cs := by
 refine ⟨wZ b cs 0 w, fun arr T h hs => ?_⟩
 obtain ⟨DY, h1, h2, _, h4⟩ := Ah cs 0 w arr h (by omega)
 rw [h1]
 congr 2
 apply Array.ext_getElem?
 intro i
 by_cases hi : i < cs.length
 · have := h4 i hi
   rw [Nat.zero_add] at this
   rw [this]; simp
 · rw [Array.getElem?_eq_none (by omega), Array.getElem?_eq_none (by simp; omega)]
theorem pK {P : Program} {fn : Func} {tmps : Array Value} {w : World} (x y : Nat) (t : TypeId) {a : Addr} {v u : Value} (hF : fn.results = #[.cell x t, .tmp y]) (hx : tmps.getD x undef = .pointer (some a)) (hl : (loadVar t a).run P w = .ok v w) (hy : tmps.getD y undef = u) :
   (results fn tmps).run P w = .ok (.tuple #[v, u]) w := by
 have h1 : asAddr (tmps.getD x undef) = pure a := by rw [hx]; rfl
 rw [Array.getD_eq_getD_getElem?] at h1 hy
 unfold results
 rw [hF]
 simp [h1, hy, hl, Result.andThen_ok]
theorem Ed {P : Program} {fn : Func} {tmps : Array Value} {w : World} (x : Nat) (t : TypeId) {a : Addr} {v : Value} (hF : fn.results = #[.cell x t]) (hx : tmps.getD x undef = .pointer (some a)) (hl : (loadVar t a).run P w = .ok v w) :
   (results fn tmps).run P w = .ok v w := by
 have h1 : asAddr (tmps.getD x undef) = pure a := by rw [hx]; rfl
 rw [Array.getD_eq_getD_getElem?] at h1
 unfold results
 rw [hF]
 simp [h1, hl]
theorem dE {w : World} {b : Nat} {cs : List Value} {T : TypeId} {f : Nat × Nat} (h : w.heap[b]? = some (.cells cs.toArray T f)) : w.rangeAt b 0 cs := fun j v hv => by
 rw [Nat.zero_add, aa h]
 simpa using hv
theorem JQ {w : World} {b : Nat} {arr : Array Value} {T : TypeId} (h : w.heap[b]? = some (.cells arr T (0, 0))) : w.there b 0 arr.size := fun j hj => by
 rw [Nat.zero_add, aa h]
 exact ⟨by rw [Array.getElem?_eq_getElem hj]; rfl, ay h j⟩
end
section
open Go.RowKit
variable {B N : Nat}
def dm : Array Value := #[.int .i64 0, .int .i64 0, .int .i64 0, .int .i64 0, .int .i64 0, .int .i64 0, .int .i64 0, .int .i64 0, .int .i64 0, .int .i64 0, .int .i64 0, .int .i64 0, .int .i64 0, .int .u64 0, .int .u64 0, .int .u64 0, .int .u64 0, .slice none 0 0]
theorem rT : (Tryz.prog.info? 118).map (·.size) = some 18 := by kernel_rfl
set_option maxRecDepth 100000 in
set_option maxHeartbeats 1000000 in
theorem ew7 (w : World) (pe fb o : Nat) (A t : Int) (hfl : fb < w.heap.size) (h1 : w.cell? ⟨fb, o + 1, none⟩ = some (.int .i64 7)) (hA : w.cell? ⟨fb, o + 6, none⟩ = some (.int .i64 A)) (hN : w.cell? ⟨fb, o + 11, none⟩ = some (.int .i64 t)) :
   Calls Tryz.prog 88 #[.pointer (some ⟨pe, 0, none⟩), .pointer (some ⟨fb, o, none⟩)] w fun e w' => ∃ b q1, b = w.heap.size + 2 ∧ e = .returned (.tuple #[.agg (dH A t b), .bool true]) ∧ w' = ((((w.alloc (.cells dm 118)).drewN q1).alloc (.cells (dH A t b) 118)).alloc (.cells #[.int .i64 t] 3)).setCells w.heap.size 0 (dH A t b).toList := by
 have RF := Lib.hid Qp
 have CA := (Eff.bL (fun _ _ _ => False) w (.cells dm 118)).cell hA fun _ h => h
 have CN := (Eff.bL (fun _ _ _ => False) w (.cells dm 118)).cell hN fun _ h => h
 have CZ := blk_alloc_new w (.cells dm 118)
 have hz := Lib.hid (show w.heap.size < (w.alloc (.cells dm 118)).heap.size by simp)
 unfold dm at CA CN CZ hz
 go_enter Tryz.func88, Tryz.ntmps88
 go_upto_region 17 with fail
 obtain ⟨W9, oJ⟩ : ∃ W9, W9 = w.alloc (.cells dm 118) := ⟨_, rfl⟩
 have HW := Lib.hid oJ
 unfold dm at oJ
 rw [← oJ] at CA CN CZ hz
 rw [← oJ]
 clear oJ
 go_cut [5] (fun s5 wx => s5 = .bool true ∧ ∃ b q1, b = w.heap.size + 2 ∧ wx = (((W9.drewN q1).alloc (.cells (dH A t b) 118)).alloc (.cells #[.int .i64 t] 3)).setCells w.heap.size 0 (dH A t b).toList)
 case first =>
   refine wp_region_held_drew (S := fun w' => w'.cell? ⟨fb, o + 6, none⟩ = some (.int .i64 A) ∧ w'.cell? ⟨fb, o + 11, none⟩ = some (.int .i64 t)) (by kernel_rfl) ⟨CA, CN⟩ (fun hHeld => ?_)
   refine wpAnyH_take (i := 0) (v := ?_) rfl (by kernel_rfl) (by kernel_rfl) (by kernel_rfl) (fun _ _ _ h => h) (Or.inl ⟨by rfl, ?_⟩) (by assumption) ?_
   rotate_left
   · (intro w hSw; (try dsimp only at hSw); obtain ⟨hS1, hS2⟩ := hSw; go_simp; try with_reducible rfl)
   try simp only [Act.put, sI]
   refine wpAnyH_take (i := 1) (v := ?_) rfl (by kernel_rfl) (by kernel_rfl) (by kernel_rfl) (fun _ _ _ h => h) (Or.inl ⟨by rfl, ?_⟩) (by assumption) ?_
   rotate_left
   · (intro w hSw; (try dsimp only at hSw); obtain ⟨hS1, hS2⟩ := hSw; go_simp; try with_reducible rfl)
   try simp only [Act.put, sI]
   refine wpAnyH_take (i := 2) (v := ?_) rfl (by kernel_rfl) (by kernel_rfl) (by kernel_rfl) (fun _ _ _ h => h) (Or.inl ⟨by rfl, ?_⟩) (by assumption) ?_
   rotate_left
   · (intro w hSw; (try dsimp only at hSw); obtain ⟨hS1, hS2⟩ := hSw; go_simp; try with_reducible rfl)
   try simp only [Act.put, sI]
   refine wpAnyH_take (i := 3) (v := ?_) rfl (by kernel_rfl) (by kernel_rfl) (by kernel_rfl) (fun _ _ _ h => h) (Or.inl ⟨by rfl, ?_⟩) (by assumption) ?_
   rotate_left
   · (intro w hSw; (try dsimp only at hSw); obtain ⟨hS1, hS2⟩ := hSw; go_simp; try with_reducible rfl)
   try simp only [Act.put, sI]
   refine wpAnyH_take (i := 4) (v := ?_) rfl (by kernel_rfl) (by kernel_rfl) (by kernel_rfl) (fun _ _ _ h => h) (Or.inl ⟨by rfl, ?_⟩) (by assumption) ?_
   rotate_left
   · (intro w hSw; (try dsimp only at hSw); obtain ⟨hS1, hS2⟩ := hSw; go_simp; try with_reducible rfl)
   try simp only [Act.put, sI]
   refine wpAnyH_take (i := 5) (v := ?_) rfl (by kernel_rfl) (by kernel_rfl) (by kernel_rfl) (fun _ _ _ h => h) (Or.inl ⟨by rfl, ?_⟩) (by assumption) ?_
   rotate_left
   · (intro w hSw; (try dsimp only at hSw); obtain ⟨hS1, hS2⟩ := hSw; go_simp; try with_reducible rfl)
   try simp only [Act.put, sI]
   refine wpAnyH_take (i := 6) (v := ?_) rfl (by kernel_rfl) (by kernel_rfl) (by kernel_rfl) (fun _ _ _ h => h) (Or.inl ⟨by rfl, ?_⟩) (by assumption) ?_
   rotate_left
   · (intro w hSw; (try dsimp only at hSw); obtain ⟨hS1, hS2⟩ := hSw; go_simp; try with_reducible rfl)
   try simp only [Act.put, sI]
   refine wpAnyH_take (i := 7) (v := ?_) rfl (by kernel_rfl) (by kernel_rfl) (by kernel_rfl) (fun _ _ _ h => h) (Or.inl ⟨by rfl, ?_⟩) (by assumption) ?_
   rotate_left
   · (intro w hSw; (try dsimp only at hSw); obtain ⟨hS1, hS2⟩ := hSw; go_simp; try with_reducible rfl)
   try simp only [Act.put, sI]
   refine wpAnyH_ready (rs := [8]) (by kernel_rfl) (by simp) ?_
   refine AllReadyH.cons rfl (fun K hK => ?_) AllReadyH.nil
   go_simp
   refine (RF.out _ _ _).mono ?_
   rintro e w1 ⟨rfl, hw1⟩
   have E1 : Eff (fun _ _ _ => False) W9 w1 := by rw [hw1]; exact (((Eff.refl _ W9).drew.alloc _).alloc _)
   have d1 := E1.cell CA fun _ h => h
   have d2 := E1.cell CN fun _ h => h
   have tbl := E1.blk CZ fun _ _ h => h
   refine hK.out _ _ ⟨d1, d2⟩ (fun hHeld => ?_)
   clear hK K
   try simp only [Act.put, sI]
   refine wpAnyH_ready (rs := [9]) (by kernel_rfl) (by simp) ?_
   refine AllReadyH.cons rfl (fun K hK => ?_) AllReadyH.nil
   rw [if_pos (by rfl)]
   refine wp_store_mid 118 (.tmp 4) (.tmp 95) rfl w.heap.size 0 (dH A t (W9.drew.heap.size + 1)) rfl rfl (by have hth := JQ tbl; exact hth) rT (by simp [dH, Value.oneCell']) ?_
   have st := (iU w1 w.heap.size (dH A t (W9.drew.heap.size + 1)).toList).1
   have nfb : fb ≠ w.heap.size := by omega
   have e1 := st.keepCell d1 (by simpa using nfb)
   have e2 := st.keepCell d2 (by simpa using nfb)
   obtain ⟨W2, hW2⟩ : ∃ W2, W2 = w1.setCells w.heap.size 0 (dH A t (W9.drew.heap.size + 1)).toList := ⟨_, rfl⟩
   rw [← hW2] at e1 e2
   rw [← hW2]
   have HW2 := Lib.hid hW2
   have HW1 := Lib.hid hw1
   clear hW2 st hw1
   refine hK.out _ _ ⟨e1, e2⟩ (fun hHeld => ?_)
   clear hK K
   try simp only [Act.put, sI]
   refine wpAnyH_ready (rs := [10]) (by kernel_rfl) (by simp) ?_
   refine AllReadyH.cons rfl (fun K hK => ?_) AllReadyH.nil
   go_simp
   refine hK.out _ _ ⟨e1, e2⟩ (fun hHeld => ?_)
   clear hK K
   try simp only [Act.put, sI]
   refine wpAnyH_done (by kernel_rfl) ?_ _
   go_wp2_with fail
   go_meet
   exact ⟨rfl, _, 1, (by have := hz.out; have h2 : W9.heap.size = w.heap.size + 1 := (by rw [HW.out]; simp); show W9.heap.size + 1 = _; omega), by rw [HW2.out, HW1.out]; rfl⟩
 case rest =>
   obtain ⟨rfl, b, q1, hb, hwc⟩ := hcut
   have E2 : Eff (fun _ _ _ => False) W9 (((W9.drewN q1).alloc (.cells (dH A t b) 118)).alloc (.cells #[.int .i64 t] 3)) := (((Eff.refl _ W9).drewN q1).alloc _).alloc _
   have tbl := E2.blk CZ fun _ _ h => h
   have akM : wc.rangeAt w.heap.size 0 (dH A t b).toList := by
     rw [hwc]
     exact dE ((iU _ w.heap.size (dH A t b).toList).2 _ _ tbl (by simp [dH]))
   have HC := Lib.hid hwc
   clear hwc E2 tbl hz CZ CA CN
   go_wp2_with fail
   refine bodyPost_ret (pK 4 5 118 (a := ⟨w.heap.size, 0, none⟩) (v := .agg (dH A t b)) (u := .bool true) rfl rfl (run_loadVar_mid wc w.heap.size 0 118 (dH A t b).toList _ akM rfl rfl (by simpa [dH] using rT)) rfl) rfl ⟨b, q1, hb, rfl, ?_⟩
   rw [HC.out, HW.out]
end
section
open Go.RowKit
variable {sh : Sh} {B N T : Nat}
theorem ug {w : World} {A t : Int} {b : Nat} (hA : bB .i64 A) (ht : bB .i64 t) (hN : 1 ≤ N) (hB : B ≤ b) (hb : w.heap[b]? = some (.cells #[.int .i64 t] 3 (0, 0))) : bJ w B N ax (dH A t b).toList :=
 have z : ∀ w : World, aU w B N (.int .i64) (.int .i64 0) := fun _ => ⟨0, rfl, i64_in (by omega)⟩
 have u : ∀ w : World, aU w B N (.int .u64) (.int .u64 0) := fun _ => ⟨0, rfl, by constructor <;> decide⟩
 ⟨⟨24, rfl, i64_in (by omega)⟩, z _, z _, z _, z _, z _, ⟨A, rfl, hA⟩, ⟨t, rfl, ht⟩, z _, z _, z _, z _, z _, u _, u _, u _, u _, ⟨1, [.int .i64 t], hN, rfl, .inr ⟨b, 1, _, rfl, hB, hb, Nat.le_refl _, by decide, rfl, rfl⟩⟩, trivial⟩
theorem ER (w : World) : bJ w B N ax dm.toList := fJ (by decide) w
theorem Je {w : World} {b : Nat} {cs : List Value} (h : w.heap[b]? = some (.cells dm 118 (0, 0))) (hl : cs.length = 18) : w.there b 0 cs.toArray.size := by
 have h2 := JQ h
 rw [show dm.size = 18 from rfl] at h2
 rw [List.size_toArray, hl]
 exact h2
structure EnD (B N : Nat) (w : World) (A t : Int) (e : Ending) (w' : World) (b : Nat) : Prop where
 e : e = .returned (.tuple #[.agg (dH A t b), .bool true])
 aS : Eff (fun _ _ _ => False) w w'
 wt : WT kd.sig B N w'
 blk : w'.heap[b]? = some (.cells #[.int .i64 t] 3 (0, 0))
 new : w.heap.size ≤ b
set_option maxRecDepth 100000 in
set_option maxHeartbeats 1000000 in
theorem ahK (w : World) (pe fb o : Nat) (A t : Int) (hfl : fb < w.heap.size) (h0 : w.cell? ⟨fb, o, none⟩ = some (.int .i64 25)) (h1 : w.cell? ⟨fb, o + 1, none⟩ = some (.int .i64 7)) (hA : w.cell? ⟨fb, o + 6, none⟩ = some (.int .i64 A)) (hN : w.cell? ⟨fb, o + 11, none⟩ = some (.int .i64 t)) (hw : WT kd.sig B N w) (hB : B ≤ w.heap.size) (hN1 : 1 ≤ N) (iA : bB .i64 A) (it : bB .i64 t) :
   Calls Tryz.prog 66 #[.pointer (some ⟨pe, 0, none⟩), .pointer (some ⟨fb, o, none⟩)] w fun e w' => ∃ b, EnD B N w A t e w' b := by
 have kF : kd.sig 118 = some ax := by kernel_rfl
 have kI : kd.sig 3 = some [.int .i64] := by kernel_rfl
 have E := Eff.bL (fun _ _ _ => False) w (.cells dm 118)
 have EW := Lib.hid (ew7 (w.alloc (.cells dm 118)) pe fb o A t (by simp; omega) (E.cell h1 fun _ h => h) (E.cell hA fun _ h => h) (E.cell hN fun _ h => h))
 have ZB := blk_alloc_new w (.cells dm 118)
 have W1 : WT kd.sig B N (w.alloc (.cells dm 118)) := hw.alloc kF (aT.one (ER _))
 -- what stands behind enterWorker
 have EW2 : Hid (Calls Tryz.prog 88 #[.pointer (some ⟨pe, 0, none⟩), .pointer (some ⟨fb, o, none⟩)] (w.alloc (.cells dm 118)) fun e w' => ∃ (cs : List Value) (b : Nat), cs = (dH A t b).toList ∧ e = .returned (.tuple #[.agg cs.toArray, .bool true]) ∧ w.heap.size < b ∧ w'.heap[w.heap.size]? = some (.cells dm 118 (0, 0)) ∧ w'.heap[b]? = some (.cells #[.int .i64 t] 3 (0, 0)) ∧ WT kd.sig B N w' ∧ Eff (fun _ _ _ => False) w w') := Lib.hid (by
   refine EW.out.mono ?_
   rintro e w1 ⟨b, q1, hb, rfl, hw1⟩
   have hs1 : (w.alloc (.cells dm 118)).heap.size = w.heap.size + 1 := by simp
   obtain ⟨V, hV⟩ : ∃ V, V = (((w.alloc (.cells dm 118)).alloc (.cells dm 118)).drewN q1) := ⟨_, rfl⟩
   have hVs : V.heap.size = w.heap.size + 2 := by rw [hV]; show ((w.alloc _).alloc _).heap.size = _; simp
   have EV : Eff (fun _ _ _ => False) w V := by rw [hV]; exact (E.alloc _).drewN q1
   have WV : WT kd.sig B N V := by rw [hV]; exact (W1.alloc kF (aT.one (ER _))).drewN q1
   have ZV : V.heap[w.heap.size]? = some (.cells dm 118 (0, 0)) := by
     rw [hV]; show ((w.alloc _).alloc _).heap[w.heap.size]? = _
     rw [cO (by omega)]; exact ZB
   have ZV1 : V.heap[w.heap.size + 1]? = some (.cells dm 118 (0, 0)) := by
     rw [hV]; show ((w.alloc _).alloc _).heap[w.heap.size + 1]? = _
     rw [← hs1]; exact blk_alloc_new _ _
   have hbV : b = V.heap.size + 1 := by omega
   rw [← hV] at hw1
   obtain ⟨V2, hV2⟩ : ∃ V2, V2 = (V.alloc (.cells (dH A t b) 118)).alloc (.cells #[.int .i64 t] 3) := ⟨_, rfl⟩
   have E2 : Eff (fun _ _ _ => False) V V2 := by rw [hV2]; exact (Eff.bL _ _ _).alloc _
   have hb2 : V2.heap[b]? = some (.cells #[.int .i64 t] 3 (0, 0)) := by
     have h3 := blk_alloc_new (V.alloc (.cells (dH A t b) 118)) (.cells #[.int .i64 t] 3)
     have h4 : ∀ o, (V.alloc o).heap.size = V.heap.size + 1 := fun o => by simp
     rw [h4, ← hbV] at h3
     rw [hV2]; exact h3
   have WV2 : WT kd.sig B N V2 := by
     have h2 := WT.lS WV [.cells (dH A t b) 118, .cells #[.int .i64 t] 3] fun c U f L hm hL => by
       have ae9 : lS V [.cells (dH A t b) 118, .cells #[.int .i64 t] 3] = V2 := by rw [hV2]; rfl
       rw [ae9]
       simp only [List.mem_cons, List.not_mem_nil, or_false] at hm
       rcases hm with hm | hm
       · cases hm
         rw [kF] at hL
         cases hL
         exact ⟨rfl, aT.one (l := (dH A t b).toList) (ug iA it hN1 (by omega) hb2)⟩
       · cases hm
         rw [kI] at hL
         cases hL
         exact ⟨rfl, aT.one (l := [.int .i64 t]) ⟨⟨t, rfl, it⟩, trivial⟩⟩
     rw [hV2]; exact h2
   rw [hs1, ← hV2] at hw1
   have ZV2 := E2.blk ZV1 fun _ _ h => h
   have W3 : WT kd.sig B N w1 := by
     rw [hw1]
     exact WT.sets kF (dH A t b).toList ax 0 V2 dm WV2 ZV2 (ug iA it hN1 (by omega) hb2) fun j k hk => by
       have : j < 18 := (List.getElem?_eq_some_iff.1 hk).1
       rw [Nat.zero_add, show ax.length = 18 from rfl, Nat.mod_eq_of_lt this]; exact hk
   have E3 : Eff (fun k _ _ => k = w.heap.size + 1) V2 w1 := by
     rw [hw1]
     exact Eff.wK (dH A t b).toList 0 V2 dm (Eff.refl _ _) ZV2 fun j _ => .inl rfl
   refine ⟨_, b, rfl, by simp, by omega, E3.blk (E2.blk ZV fun _ _ h => h) (fun _ _ h => by omega), E3.blk hb2 (fun _ _ h => by omega), W3, ?_⟩
   exact (((EV.trans E2).mono (oW := fun k _ _ => w.heap.size ≤ k) fun _ _ _ _ h => h.elim).trans (E3.mono fun k U j hk hh => by rw [hh]; omega)).mono fun k U j hk hh => by omega)
 clear E h1 hA hN EW ZB W1
 have HK := Lib.hid (And.intro kF (And.intro hN1 (And.intro hB (And.intro iA it))))
 clear kF kI hN1 hB iA it hw
 go_enter Tryz.func66, Tryz.ntmps66
 go_upto_region 32 with fail
 obtain ⟨W9, oJ⟩ : ∃ W9, W9 = w.alloc (.cells dm 118) := ⟨_, rfl⟩
 rw [← oJ] at EW2
 unfold dm at oJ
 rw [← oJ]
 clear oJ
 go_wp2_with (first
   | (go_at_call 88; refine EW2.out.mono ?_; rintro e w1 ⟨cs, b, hcs, rfl, hb, hzb, hbb, hwt, hef⟩; have hl : cs.length = 18 := (by rw [hcs]; rfl); have hone : cs.toArray.all (·.oneCell') = true := (by rw [hcs]; simp [dH, Value.oneCell']); have hth : w1.there w.heap.size 0 cs.toArray.size := Je hzb hl; have hin : (Tryz.prog.info? 118).map (·.size) = some cs.toArray.size := (by rw [List.size_toArray, hl]; exact rT); have HF := Lib.hid (And.intro hcs (And.intro hb (And.intro hzb (And.intro hbb (And.intro hwt hef))))); have HG := Lib.hid (And.intro hone (And.intro hth (And.intro hin hl))); clear hcs hb hzb hbb hwt hef hl hone hth hin EW2)
   | (with_reducible refine wpList_store_mid rfl 118 (.tmp 4) (.tmp 246) rfl w.heap.size 0 cs.toArray rfl rfl HG.out.2.1 HG.out.2.2.1 HG.out.1 ?_; obtain ⟨w2, hw2⟩ : ∃ w2, w2 = w1.setCells w.heap.size 0 cs.toArray.toList := ⟨_, rfl⟩; rw [← hw2]; have HW2 := Lib.hid hw2; clear hw2))
 obtain ⟨hcs, hb, hzb, hbb, hwt, hef⟩ := HF.out
 obtain ⟨kF, hN1, hB, iA, it⟩ := HK.out
 have hw2 : w2 = w1.setCells w.heap.size 0 cs := by simpa using HW2.out
 have hb2 : w2.heap[w.heap.size]? = some (.cells cs.toArray 118 (0, 0)) := by
   rw [hw2]; exact (iU w1 w.heap.size cs).2 _ _ hzb HG.out.2.2.2.symm
 have E3 : Eff (fun k _ _ => k = w.heap.size) w1 w2 := by
   rw [hw2]
   exact Eff.wK cs 0 w1 dm (Eff.refl _ _) hzb fun j _ => .inl rfl
 have hr : bJ w1 B N ax cs := by rw [hcs]; exact ug iA it hN1 (by omega) hbb
 have W3 : WT kd.sig B N w2 := by
   rw [hw2]
   exact WT.sets kF cs ax 0 w1 dm hwt hzb hr fun j k hk => by
     have : j < 18 := (List.getElem?_eq_some_iff.1 hk).1
     rw [Nat.zero_add, show ax.length = 18 from rfl, Nat.mod_eq_of_lt this]; exact hk
 refine bodyPost_ret (pK 4 5 118 (a := ⟨w.heap.size, 0, none⟩) (v := .agg cs.toArray) (u := .bool true) rfl rfl (run_loadVar_mid w2 w.heap.size 0 118 cs _ (dE hb2) rfl rfl (by rw [HG.out.2.2.2]; exact rT)) rfl) rfl ⟨b, by rw [hcs], ?_, W3, E3.blk hbb (fun _ _ h => by omega), by omega⟩
 exact ((hef.mono (oW := fun k _ _ => w.heap.size ≤ k) fun _ _ _ _ h => h.elim).trans (E3.mono fun k U j hk hh => by rw [hh]; omega)).mono fun k U j hk hh => by omega
end
section
open Go.RowKit
variable [Inhabited cK] {sh : Sh} {B N T : Nat} {w w' : World}
theorem mJ.mono {N' rb fb r : Nat} {k : Int} {e : Ending} (h : mJ sh T B N w rb fb r k e w') (hN : N ≤ N') : mJ sh T B N' w rb fb r k e w' := by
 obtain ⟨cs, ok, h1, h2, h3, h4⟩ := h
 exact ⟨cs, ok, h1, h2.mono hN, h3.mono (Eff.refl (fun _ _ _ => False) _) hN, h4⟩
theorem VT {fb r rb : Nat} (h : At sh B N T w fb r) {k ln : Int} (hF : FI T w fb r k ln) (hk : k < 24) :
   Calls Tryz.prog 66 #[.pointer (some ⟨sh.pe, 0, none⟩), .pointer (some ⟨fb, r * 18, none⟩)] w fun e w' => mJ sh T B N w rb fb r k e w' ∧ Eff (fun _ _ _ => False) w w' := by
 obtain ⟨f, hf1, BH, hf3⟩ := id h.row
 obtain ⟨s, ks, b, hs, e1, e2, e3, e4, e5, e6⟩ := Xj (h.ee.ev h.wt) (eP w) hF.lo hk
 refine (tH (fb := fb) (r := r) hs (Eff.refl _ w) (by rw [e4]; rfl) (by rw [e1]; rfl) h.wt h.bw (by have := h.nn; rw [e6]; omega) h.row (by rw [e1]; rfl) rfl (dM h.ee e1 rfl) (fun o t' ht' => ?_)).mono ?_
 · rw [e4] at ht'
   have hm := Hm.at_mem ht'
   simp only [List.mem_cons, List.not_mem_nil, or_false, Prod.mk.injEq] at hm
   obtain ⟨⟨-, -, rfl⟩, rfl⟩ := hm
   exact ⟨_, hF.c0, rfl, i64_in ⟨by have := hF.lo; omega, by omega⟩⟩
 · rintro e w' ⟨v, rfl, g1, hps, g2, q, hq, g3, -⟩
   simp only [List.mem_singleton] at hq
   subst hq
   rw [e6] at g1 g3
   rw [e5] at g2
   simp only [e2] at g3
   have hfe := IE (w := w) (by decide) rfl hps g2
   have sf := fun o => Hz (r := r) (o := o) rfl BH g2
   have h0 : Eff (fun _ _ _ => False) w w' := g2.mono fun k U j hk hc => by
     rcases hc with hx | ⟨i, o, hm, -, -⟩ | ⟨o, hm, -⟩
     · have : w.heap.size ≤ k := hx
       omega
     · cases hm
     · cases hm
   obtain ⟨cs, ok, rfl, ha, ⟨c, hc, hcs⟩, hok⟩ := oG g3 (by rcases e3 with rfl | ⟨rfl, -⟩; exact .inr ⟨_, rfl⟩; exact .inl rfl)
   refine ⟨⟨cs, ok, rfl, g1, ha, hfe, (fun _ => ⟨ln, (sf 0).trans hF.c0, (sf 1).trans hF.c1, hF.lo, hF.hi, fun hx => by omega, fun hx => by omega⟩), fun hx => ?_⟩, h0⟩
   rcases e3 with rfl | ⟨rfl, e3⟩
   · rw [hok _ rfl] at hx; cases hx
   · obtain ⟨r1, r2, r3⟩ := e3 c hc
     exact ⟨c, hcs, ⟨(sf 0).trans hF.c0, hF.lo, hF.hi, r1, r2, by omega, fun hx => by omega, fun hx => by omega⟩, fun hx => by omega⟩
theorem XG {fb r rb : Nat} (h : At sh B N T w fb r) (hF : FI T w fb r 25 7) :
   Calls Tryz.prog 66 #[.pointer (some ⟨sh.pe, 0, none⟩), .pointer (some ⟨fb, r * 18, none⟩)] w fun e w' => mJ sh T B (N + 1) w rb fb r 25 e w' := by
 obtain ⟨f, hf1, BH, hf3⟩ := id h.row
 obtain ⟨A, hA, iA⟩ := pQ h.wt h.row (o := 6) (by omega) rfl
 obtain ⟨t, ht, it⟩ := pQ h.wt h.row (o := 11) (by omega) rfl
 have h0 : w.cell? ⟨fb, r * 18, none⟩ = some (.int .i64 25) := by have := hF.c0; unfold fc at this; simpa using this
 refine (ahK (N := N + 1) (B := B) w sh.pe fb (r * 18) A t (aK BH) h0 hF.c1 hA ht (h.wt.mono (by omega)) h.bw (by omega) iA it).mono ?_
 rintro e w' ⟨b, he, hef, hwt, hbk, hnw⟩
 have hb := h.bw
 have c0' : fc w' fb r 0 = some (.int .i64 25) := hef.cell hF.c0 fun _ h => h
 refine ⟨(dH A t b).toList, true, by rw [he], hwt, ug iA it (by omega) (by omega) hbk, hef.mono fun _ _ _ _ h => h.elim, (fun hx => by cases hx), fun _ => ⟨24, rfl, ⟨c0', by omega, by omega, by decide, by omega, by omega, fun hx => by omega, fun hx => by omega⟩, fun _ => ⟨b, 0, 1, rfl, by have := h.ee.Tg; omega⟩⟩⟩
theorem abe {fb r rb cr : Nat} (h : At sh B N T w fb r) {k ln : Int} (hF : FI T w fb r k ln) (hrb : sh.el 19 = .slice (some ⟨rb, 0, none⟩) T cr) :
   Calls Tryz.prog 66 #[.pointer (some ⟨sh.pe, 0, none⟩), .pointer (some ⟨fb, r * 18, none⟩)] w fun e w' => mJ sh T B (N + 1) w rb fb r k e w' ∧ (k < 24 → Eff (fun _ _ _ => False) w w') := by
 have hlo := hF.lo
 have hhi := hF.hi
 by_cases qQ : k < 24
 · exact (VT h hF qQ).mono fun e w' hr => ⟨hr.1.mono (by omega), fun _ => hr.2⟩
 rcases (show k = 24 ∨ k = 25 ∨ k = 26 by omega) with rfl | rfl | rfl
 · exact (ae3 h hF hrb).mono fun e w' hr => ⟨hr.mono (by omega), fun hx => by omega⟩
 · by_cases h7 : ln = 7
   · subst h7
     exact (XG h hF).mono fun e w' hr => ⟨hr, fun hx => by omega⟩
   · exact (ae2 h hF h7).mono fun e w' hr => ⟨hr, fun hx => by omega⟩
 · exact (ad6 h hF).mono fun e w' hr => ⟨hr.mono (by omega), fun hx => by omega⟩
end
end Go.Proofs.YtncnepmgmphanaaGreatDoor
