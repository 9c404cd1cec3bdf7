/- The decoder's rows under way. No condition beside those named. -/
import Derived.Test.YtncnepmgmphanaaGreatDoorMg11
import Derived.Test.YtncnepmgmphanaaGreatDoorTcEnvNew
import Derived.Test.YtncnepmgmphanaaGreatDoorMg19
set_option linter.unusedVariables false
set_option linter.unusedSimpArgs false
set_option linter.unusedSectionVars false
namespace Go.Proofs.YtncnepmgmphanaaGreatDoor
open Go.RowKit
variable {B N nb cap kb cb pos xb E : Nat} {w w' w0 wa ws : World} {ao : Option Addr} {s1 s3 v : Value} {cs row : List Value}
structure XS (B N : Nat) (w0 : World) (ao : Option Addr) (nb cap kb cb : Nat) (s1 s3 : Value) (cs : List Value) (E : Nat) (wa : World) (xb : Nat) (row : List Value) (pos : Nat) (w : World) : Prop where
  ds : DS B N w0 ao nb cap kb cb s1 s3 cs pos w
  x : w.heap[xb]? = some (.cells row.toArray E (0, 0))
  xl : wa.heap.size ≤ xb
  w0l : w0.heap.size ≤ wa.heap.size
  eff : Eff (fun b T _ => wa.heap.size ≤ b ∨ T = CodT) wa w
  ne : E ≠ CodT ∧ E ≠ CfT
theorem XS.start {a b c : Int} (h : DS B N w0 ao nb cap kb cb s1 s3 cs pos wa) (hE : kd.sig E = some [.int .i64, .int .i64, .int .i64]) (hne : E ≠ CodT ∧ E ≠ CfT) (ia : inK .i64 a) (ib : inK .i64 b) (ic : inK .i64 c) :
    XS B N w0 ao nb cap kb cb s1 s3 cs E wa wa.heap.size [.int .i64 a, .int .i64 b, .int .i64 c] pos (wa.alloc (.cells #[.int .i64 a, .int .i64 b, .int .i64 c] E)) := by
  have e : Eff (fun _ _ _ => False) wa (wa.alloc (.cells #[.int .i64 a, .int .i64 b, .int .i64 c] E)) := Eff.alloc1 _ _ _
  exact ⟨h.out (h.k.wt.alloc hE (RowsOK.one (l := [.int .i64 a, .int .i64 b, .int .i64 c]) ⟨⟨_, rfl, ia⟩, ⟨_, rfl, ib⟩, ⟨_, rfl, ic⟩, trivial⟩)) (e.mono fun _ _ _ _ h => h.elim), blk_alloc_new _ _, Nat.le_refl _, h.k.eff.size, e.mono fun _ _ _ _ h => h.elim, hne⟩
theorem XS.num (h : XS B N w0 ao nb cap kb cb s1 s3 cs E wa xb row pos w) {p : Nat} (hk : DS B N w0 ao nb cap kb cb s1 s3 cs p w') (g : Eff (fun k T _ => k = kb ∧ T = CodT) w w') : XS B N w0 ao nb cap kb cb s1 s3 cs E wa xb row p w' :=
  ⟨hk, g.keepT h.x fun _ hx => h.ne.1 hx.2, h.xl, h.w0l, h.eff.trans (g.mono fun _ _ _ _ h => .inr h.2), h.ne⟩
theorem XS.set (C : DC B N w0 ao nb) (h : XS B N w0 ao nb cap kb cb s1 s3 cs E wa xb row pos w) (hE : kd.sig E = some [.int .i64, .int .i64, .int .i64]) {i : Nat} {n : Int} (hi : i < 3) (hn : inK .i64 n) : XS B N w0 ao nb cap kb cb s1 s3 cs E wa xb (row.set i (.int .i64 n)) pos (w.setCell ⟨xb, i, none⟩ (.int .i64 n)) := by
  have hxl := h.xl
  have hwl := h.w0l
  have e2 : Eff (fun k T _ => k = xb ∧ T = E) w (w.setCell ⟨xb, i, none⟩ (.int .i64 n)) := (Eff.refl _ w).setT h.x (.inl ⟨rfl, rfl⟩)
  refine ⟨h.ds.out ?_ (e2.mono fun k T _ _ hk => ⟨by omega, by rw [hk.2]; exact h.ne.1, by rw [hk.2]; exact h.ne.2⟩), ?_, h.xl, h.w0l, h.eff.trans (e2.mono fun k T _ _ hk => .inl (by omega)), h.ne⟩
  · refine h.ds.k.wt.set h.x hE (i := i) (ck := .int .i64) ?_ ⟨n, rfl, hn⟩
    have : i = 0 ∨ i = 1 ∨ i = 2 := by omega
    rcases this with rfl | rfl | rfl <;> rfl
  · rw [blk_setCell h.x]
    simp
theorem XS.cell (h : XS B N w0 ao nb cap kb cb s1 s3 cs E wa xb row pos w) {i : Nat} {v : Value} (hi : row[i]? = some v) : w.cell? ⟨xb, i, none⟩ = some v := by
  rw [cell_blk h.x]
  simpa using hi
theorem XS.pre {B0 k : Nat} {f : Nat → List Value} {a b c : Int} (h : XS B N w0 ao nb cap kb cb s1 s3 cs E wa xb [.int .i64 a, .int .i64 b, .int .i64 c] pos w) (hE : kd.sig E = some [.int .i64, .int .i64, .int .i64]) (ia : inK .i64 a) (ib : inK .i64 b) (ic : inK .i64 c) (hB : B ≤ B0) (hB0 : B0 ≤ wa.heap.size) (hv : Rws wa E 3 B0 k f v) (hk : k < 1000) :
    WT kd.sig B N (w.alloc (.cells #[.int .i64 a, .int .i64 b, .int .i64 c] E)) ∧ B ≤ B0 ∧ B0 ≤ (w.alloc (.cells #[.int .i64 a, .int .i64 b, .int .i64 c] E)).heap.size ∧ Rws (w.alloc (.cells #[.int .i64 a, .int .i64 b, .int .i64 c] E)) E 3 B0 k f v ∧ AllOK (w.alloc (.cells #[.int .i64 a, .int .i64 b, .int .i64 c] E)) B N [.int .i64, .int .i64, .int .i64] [.int .i64 a, .int .i64 b, .int .i64 c] ∧ (w.alloc (.cells #[.int .i64 a, .int .i64 b, .int .i64 c] E)).heap[w.heap.size]? = some (.cells [.int .i64 a, .int .i64 b, .int .i64 c].toArray E (0, 0)) ∧ k < 68719476736 := by
  have e : Eff (fun _ _ _ => False) w (w.alloc (.cells #[.int .i64 a, .int .i64 b, .int .i64 c] E)) := Eff.alloc1 _ _ _
  have ok : ∀ w : World, AllOK w B N [.int .i64, .int .i64, .int .i64] [.int .i64 a, .int .i64 b, .int .i64 c] := fun w => ⟨⟨_, rfl, ia⟩, ⟨_, rfl, ib⟩, ⟨_, rfl, ic⟩, trivial⟩
  refine ⟨h.ds.k.wt.alloc hE (RowsOK.one (ok _)), hB, Nat.le_trans hB0 (Nat.le_trans h.eff.size e.size), (hv.keep h.eff fun b j h1 h2 hc => ?_).keep e fun _ _ _ _ h => h, ok _, blk_alloc_new _ _, by omega⟩
  rcases hc with hc | hc
  · omega
  · exact h.ne.1 hc
theorem XS.push {B0 k lb kc : Nat} {f : Nat → List Value} {a b c : Int} (h : XS B N w0 ao nb cap kb cb s1 s3 cs E wa xb [.int .i64 a, .int .i64 b, .int .i64 c] pos w) (hB0 : w0.heap.size ≤ B0) (hA : RApp B N E 3 B0 k (w.alloc (.cells #[.int .i64 a, .int .i64 b, .int .i64 c] E)) f [.int .i64 a, .int .i64 b, .int .i64 c] lb kc w') :
    DS B N w0 ao nb cap kb cb s1 s3 cs pos w' ∧ Eff (fun b T _ => (B0 ≤ b ∧ T = E) ∨ wa.heap.size ≤ b ∨ T = CodT) wa w' := by
  have e : Eff (fun _ _ _ => False) w (w.alloc (.cells #[.int .i64 a, .int .i64 b, .int .i64 c] E)) := Eff.alloc1 _ _ _
  have e2 := (e.mono (Ch' := fun b T _ => B0 ≤ b ∧ T = E) fun _ _ _ _ h => h.elim).trans hA.eff
  exact ⟨h.ds.out hA.wt (e2.mono fun k T _ _ hk => ⟨by omega, by rw [hk.2]; exact h.ne.1, by rw [hk.2]; exact h.ne.2⟩), (h.eff.mono fun _ _ _ _ h => .inr h).trans (e2.mono fun _ _ _ _ h => .inl h)⟩
theorem num_xs {m : Int} (C : DC B N w0 ao nb) (h : XS B N w0 ao nb cap kb cb s1 s3 cs E wa xb row pos w) (hm : 0 < m) (hm2 : m ≤ 1000) (hp : pos ≤ 1000000) :
    Calls Tryz.prog 55 #[.pointer (some ⟨kb, 0, none⟩), .int .i64 m] w fun e w' => ∃ r : Int, e = .returned (.int .i64 r) ∧ 0 ≤ r ∧ r < m ∧ XS B N w0 ao nb cap kb cb s1 s3 cs E wa xb row (pos + 1) w' :=
  (num_ds C h.ds hm hm2 hp).mono fun e w' ⟨r, e1, h0, h1, h2, h3⟩ => ⟨r, e1, h0, h1, h.num h2 h3⟩
theorem Pg.push {B0 k lb kc : Nat} {f : Nat → List Value} {o a b : Int} (hf : ∀ j, j < k → InRow (f j)) (ha : 0 ≤ a) (hA : RApp B N InT 3 B0 k w f [.int .i64 o, .int .i64 a, .int .i64 b] lb kc w') : Pg w' B0 (k + 1) (.slice (some ⟨lb, 0, none⟩) (k + 1) kc) := by
  refine ⟨_, hA.ls, fun j hj => ?_⟩
  by_cases e : j = k
  · subst e
    exact ⟨o, a, b, by simp, ha⟩
  · simp only [if_neg e]
    exact hf j (by omega)
theorem Rws.lower {B0 B1 s k : Nat} {f : Nat → List Value} (h : Rws w E s B1 k f v) (hb : B0 ≤ B1) : Rws w E s B0 k f v := by
  rcases h with h | ⟨lb, kc, cur, e, h1, h2⟩
  · exact .inl h
  · exact .inr ⟨lb, kc, cur, e, by omega, h2⟩
theorem Pgs.push {B0 B1 k lb kc m : Nat} {f : Nat → List Value} {p : Value} (hf : ∀ j, j < k → ∃ m p, f j = [p] ∧ m ≤ 1000 ∧ Pg w B0 m p) (hp : Pg w B1 m p) (hm : m ≤ 1000) (hb : B0 ≤ B1) (hA : RApp B N IlT 1 B0 k w f [p] lb kc w') : Pgs w' B0 (k + 1) (.slice (some ⟨lb, 0, none⟩) (k + 1) kc) := by
  have hk : ∀ {B2 m p}, Pg w B2 m p → Pg w' B2 m p := fun h => h.keep hA.eff fun _ _ _ _ h => absurd h.2 (by decide)
  refine ⟨_, hA.ls, fun j hj => ?_⟩
  by_cases e : j = k
  · subst e
    obtain ⟨g, h1, h2⟩ := hk hp
    exact ⟨m, p, by simp, hm, g, h1.lower hb, h2⟩
  · simp only [if_neg e]
    obtain ⟨m', p', e', hm', hp'⟩ := hf j (by omega)
    exact ⟨m', p', e', hm', hk hp'⟩
theorem DS.preP {BB B1 k m : Nat} {f : Nat → List Value} {pv p : Value} (h : DS B N w0 ao nb cap kb cb s1 s3 cs pos w) (hB : B ≤ BB) (hBB : BB ≤ w.heap.size) (hB1 : BB ≤ B1) (hv : Rws w IlT 1 BB k f pv) (hp : Pg w B1 m p) (hm : m ≤ N) (hk : k < 1000) :
    WT kd.sig B N (w.alloc (.cells #[p] IlT)) ∧ B ≤ BB ∧ BB ≤ (w.alloc (.cells #[p] IlT)).heap.size ∧ Rws (w.alloc (.cells #[p] IlT)) IlT 1 BB k f pv ∧ AllOK (w.alloc (.cells #[p] IlT)) B N [.sl InT 3] [p] ∧ (w.alloc (.cells #[p] IlT)).heap[w.heap.size]? = some (.cells [p].toArray IlT (0, 0)) ∧ k < 68719476736 := by
  have e : Eff (fun _ _ _ => False) w (w.alloc (.cells #[p] IlT)) := Eff.alloc1 _ _ _
  obtain ⟨g, h1, h2⟩ := hp
  have ok : AllOK w B N [.sl InT 3] [p] := ⟨h1.ok (Nat.le_trans hB hB1) hm, trivial⟩
  exact ⟨h.k.wt.alloc kIl (RowsOK.one (l := [p]) ok), hB, Nat.le_trans hBB e.size, hv.keep e fun _ _ _ _ h => h, ok.mono e (Nat.le_refl _), blk_alloc_new _ _, by omega⟩
theorem DS.pushP {BB B1 k m lb kc : Nat} {f : Nat → List Value} {p : Value} (C : DC B N w0 ao nb) (h : DS B N w0 ao nb cap kb cb s1 s3 cs pos w) (hBB : BB = w0.heap.size) (hB1 : BB ≤ B1) (hf : ∀ j, j < k → ∃ m p, f j = [p] ∧ m ≤ 1000 ∧ Pg w BB m p) (hp : Pg w B1 m p) (hm : m ≤ 1000) (hk : k < 1000)
    (hA : RApp B N IlT 1 BB k (w.alloc (.cells #[p] IlT)) f [p] lb kc w') :
    DS B N w0 ao nb cap kb cb s1 s3 cs pos w' ∧ DS B N w0 ao nb cap kb cb s1 s3 (cs.set 9 (.slice (some ⟨lb, 0, none⟩) (k + 1) kc)) pos (w'.setCell ⟨cb, 9, none⟩ (.slice (some ⟨lb, 0, none⟩) (k + 1) kc)) ∧ Pgs (w'.setCell ⟨cb, 9, none⟩ (.slice (some ⟨lb, 0, none⟩) (k + 1) kc)) BB (k + 1) (.slice (some ⟨lb, 0, none⟩) (k + 1) kc) := by
  have e : Eff (fun _ _ _ => False) w (w.alloc (.cells #[p] IlT)) := Eff.alloc1 _ _ _
  have e2 := (e.mono (Ch' := fun b T _ => BB ≤ b ∧ T = IlT) fun _ _ _ _ h => h.elim).trans hA.eff
  have D1 : DS B N w0 ao nb cap kb cb s1 s3 cs pos w' := h.out hA.wt (e2.mono fun k T _ _ hk => ⟨by omega, by rw [hk.2]; decide, by rw [hk.2]; decide⟩)
  have hN := C.n1
  have hb := C.b
  have kp' : ∀ {B2 m : Nat} {q : Value}, Pg w B2 m q → Pg (w.alloc (.cells #[p] IlT)) B2 m q := fun {B2 m q} h => Pg.keep (Ch := fun _ _ _ => False) h e (fun _ _ _ _ h => h)
  have hP : Pgs w' BB (k + 1) (.slice (some ⟨lb, 0, none⟩) (k + 1) kc) := Pgs.push (fun j hj => by
    obtain ⟨m, q, e1, e2, e3⟩ := hf j hj
    exact ⟨m, q, e1, e2, kp' e3⟩) (kp' hp) hm hB1 hA
  have hP2 := hP
  obtain ⟨f2, hf2, -⟩ := hP2
  have hv : CellOK w' B N (.sl IlT 1) (.slice (some ⟨lb, 0, none⟩) (k + 1) kc) := hf2.ok (by omega) (by omega)
  have e3 : Eff (fun k T _ => k = cb ∧ T = CfT) w' (w'.setCell ⟨cb, 9, none⟩ (.slice (some ⟨lb, 0, none⟩) (k + 1) kc)) := (Eff.refl _ w').setT D1.cfg (.inl ⟨rfl, rfl⟩)
  exact ⟨D1, D1.set C (i := 9) (ck := .sl IlT 1) (by decide) rfl hv, hP.keep e3 fun b T j h1 h2 h3 h4 => by
    rcases h3 with rfl | rfl
    · exact absurd h4.2 (by decide)
    · exact absurd h4.2 (by decide)⟩
theorem DS.pushS {BB k lb kc np : Nat} {f : Nat → List Value} {a b c : Int} {pv : Value} (C : DC B N w0 ao nb) (h : XS B N w0 ao nb cap kb cb s1 s3 cs SbT wa xb [.int .i64 a, .int .i64 b, .int .i64 c] pos w) (hBB : BB = w0.heap.size) (hP : Pgs wa BB np pv) (hk : k < 1000)
    (hA : RApp B N SbT 3 BB k (w.alloc (.cells #[.int .i64 a, .int .i64 b, .int .i64 c] SbT)) f [.int .i64 a, .int .i64 b, .int .i64 c] lb kc w') :
    DS B N w0 ao nb cap kb cb s1 s3 cs pos w' ∧ DS B N w0 ao nb cap kb cb s1 s3 (cs.set 10 (.slice (some ⟨lb, 0, none⟩) (k + 1) kc)) pos (w'.setCell ⟨cb, 10, none⟩ (.slice (some ⟨lb, 0, none⟩) (k + 1) kc)) ∧ Pgs (w'.setCell ⟨cb, 10, none⟩ (.slice (some ⟨lb, 0, none⟩) (k + 1) kc)) BB np pv ∧ ∃ f2, Rws (w'.setCell ⟨cb, 10, none⟩ (.slice (some ⟨lb, 0, none⟩) (k + 1) kc)) SbT 3 BB (k + 1) f2 (.slice (some ⟨lb, 0, none⟩) (k + 1) kc) := by
  obtain ⟨D1, E1⟩ := h.push (Nat.le_of_eq hBB.symm) hA
  have hN := C.n1
  have hb := C.b
  have hv : CellOK w' B N (.sl SbT 3) (.slice (some ⟨lb, 0, none⟩) (k + 1) kc) := hA.ls.ok (by omega) (by omega)
  have e3 : Eff (fun k T _ => k = cb ∧ T = CfT) w' (w'.setCell ⟨cb, 10, none⟩ (.slice (some ⟨lb, 0, none⟩) (k + 1) kc)) := (Eff.refl _ w').setT D1.cfg (.inl ⟨rfl, rfl⟩)
  refine ⟨D1, D1.set C (i := 10) (ck := .sl SbT 3) (by decide) rfl hv, (hP.keep E1 fun b T j h1 h2 h3 h4 => ?_).keep e3 fun b T j h1 h2 h3 h4 => ?_, _, hA.ls.keep e3 fun _ _ _ _ h => absurd h.2 (by decide)⟩
  · rcases h4 with h4 | h4 | h4
    · rcases h3 with rfl | rfl
      · exact absurd h4.2 (by decide)
      · exact absurd h4.2 (by decide)
    · omega
    · rcases h3 with rfl | rfl
      · exact absurd h4 (by decide)
      · exact absurd h4 (by decide)
  · rcases h3 with rfl | rfl
    · exact absurd h4.2 (by decide)
    · exact absurd h4.2 (by decide)
theorem RowsOK.all1 {L : List CK} {l : List Value} (h : RowsOK w B N L l.toArray) (hl : l.length = L.length) : AllOK w B N L l :=
  AllOK.of_get hl.symm fun i v hi => by
    obtain ⟨ck, e, o⟩ := h.2 i v (by simpa using hi)
    have hlt : i < L.length := by rw [← hl]; exact (List.getElem?_eq_some_iff.1 hi).1
    rw [Nat.mod_eq_of_lt hlt] at e
    exact ⟨ck, e, o⟩
theorem there_blkD {b n : Nat} {c : Array Value} {T : TypeId} (h : w.heap[b]? = some (.cells c T (0, 0))) (hn : n ≤ c.size) : w.there b 0 n := fun j hj => by
  refine ⟨?_, free_blk h _⟩
  rw [cell_blk h, Nat.zero_add, Array.getElem?_eq_getElem (by omega)]
  rfl
def DecMade (B N : Nat) (w : World) (c : Cfg) (w' : World) : Prop := CfgOK B N w' c ∧ WT kd.sig B N w' ∧ Eff (fun _ _ _ => False) w w'
theorem DS.fin {wB : World} {rb BB n : Nat} {cz : List Value} (c : Cfg) (C : DC B N w0 ao nb) (h : DS B N w0 ao nb cap kb cb s1 s3 cs pos w) (hB : B ≤ wB.heap.size) (hw : Eff (fun _ _ _ => False) wB w0) (hrb : wB.heap.size ≤ rb) (hz : cz.length = cs.length) (RR : w.heap[rb]? = some (.cells cz.toArray CfT (0, 0))) (hP : Pgs w BB n c.ps) (hc : c.cells = cs)
    (w1 : 0 < c.W) (w2 : c.W ≤ 1000) (t1 : 1 ≤ c.T) (t2 : c.T ≤ 1000) : DecMade B N wB c (w.setCells rb 0 cs) ∧ (w.setCells rb 0 cs).heap[rb]? = some (.cells cs.toArray CfT (0, 0)) := by
  have AO : AllOK w B N cs_api_Config cs := (WT.rows h.k.wt kCfT (by have := h.cl; have := C.b; omega) h.cfg).all1 (by rw [← hc]; rfl)
  have s := (stored_setCells w rb cs).2 _ _ RR (by simpa using hz)
  have e1 : Eff (fun k T _ => k = rb ∧ T = CfT) w (w.setCells rb 0 cs) := Eff.setsT cs 0 w _ (Eff.refl _ _) RR fun _ _ => .inl ⟨rfl, rfl⟩
  have W : WT kd.sig B N (w.setCells rb 0 cs) := WT.sets kCfT cs cs_api_Config 0 w _ h.k.wt RR AO fun j k hj => by
    have hlt : j < cs_api_Config.length := (List.getElem?_eq_some_iff.1 hj).1
    rw [Nat.zero_add, Nat.mod_eq_of_lt hlt]
    exact hj
  refine ⟨⟨⟨by rw [hc]; exact AO.mono e1 (Nat.le_refl _), w1, w2, t1, t2, (hP.keep e1 fun b T j h1 h2 h3 h4 => ?_).pr⟩, W, ?_⟩, s⟩
  · rcases h3 with rfl | rfl
    · exact absurd h4.2 (by decide)
    · exact absurd h4.2 (by decide)
  · exact (((hw.trans h.k.eff).mono (Ch' := fun k _ _ => wB.heap.size ≤ k) fun _ _ _ _ h => h.elim).trans (e1.mono fun _ _ _ _ h => by omega)).mono fun k _ _ hk hc => by omega
end Go.Proofs.YtncnepmgmphanaaGreatDoor
