/- The decoder's rows under way. No condition beside those named. -/
import Derived.Test.YtncnepmgmphanaaGreatDoorMg08
import Derived.Test.YtncnepmgmphanaaGreatDoorTcEnvNew
import Derived.Test.YtncnepmgmphanaaGreatDoorMg16
set_option linter.unusedVariables false
set_option linter.unusedSimpArgs false
set_option linter.unusedSectionVars false
namespace Go.Proofs.YtncnepmgmphanaaGreatDoor
open Go.RowKit
variable {B N nb cap kb cb pos xb E : Nat} {w w' w0 wa ws : World} {ao : Option Addr} {s1 s3 v : Value} {cs row : List Value}
structure XS (B N : Nat) (w0 : World) (ao : Option Addr) (nb cap kb cb : Nat) (s1 s3 : Value) (cs : List Value) (E : Nat) (wa : World) (xb : Nat) (row : List Value) (pos : Nat) (w : World) : Prop where
 ds : DS B N w0 ao nb cap kb cb s1 s3 cs pos w
 x : w.heap[xb]? = some (.cells row.toArray E (0, 0))
 xl : wa.heap.size ≤ xb
 w0l : w0.heap.size ≤ wa.heap.size
 aS : Eff (fun b T _ => wa.heap.size ≤ b ∨ T = ll) wa w
 ne : E ≠ ll ∧ E ≠ q8
theorem XS.start {a b c : Int} (h : DS B N w0 ao nb cap kb cb s1 s3 cs pos wa) (hE : kd.sig E = some [.int .i64, .int .i64, .int .i64]) (hne : E ≠ ll ∧ E ≠ q8) (ia : bB .i64 a) (ib : bB .i64 b) (ic : bB .i64 c) :
   XS B N w0 ao nb cap kb cb s1 s3 cs E wa wa.heap.size [.int .i64 a, .int .i64 b, .int .i64 c] pos (wa.alloc (.cells #[.int .i64 a, .int .i64 b, .int .i64 c] E)) := by
 have e : Eff (fun _ _ _ => False) wa (wa.alloc (.cells #[.int .i64 a, .int .i64 b, .int .i64 c] E)) := Eff.bL _ _ _
 exact ⟨h.out (h.k.wt.alloc hE (aT.one (l := [.int .i64 a, .int .i64 b, .int .i64 c]) ⟨⟨_, rfl, ia⟩, ⟨_, rfl, ib⟩, ⟨_, rfl, ic⟩, trivial⟩)) (e.mono fun _ _ _ _ h => h.elim), blk_alloc_new _ _, Nat.le_refl _, h.k.aS.size, e.mono fun _ _ _ _ h => h.elim, hne⟩
theorem XS.num (h : XS B N w0 ao nb cap kb cb s1 s3 cs E wa xb row pos w) {p : Nat} (hk : DS B N w0 ao nb cap kb cb s1 s3 cs p w') (g : Eff (fun k T _ => k = kb ∧ T = ll) w w') : XS B N w0 ao nb cap kb cb s1 s3 cs E wa xb row p w' :=
 ⟨hk, g.Aw h.x fun _ hx => h.ne.1 hx.2, h.xl, h.w0l, h.aS.trans (g.mono fun _ _ _ _ h => .inr h.2), h.ne⟩
theorem XS.set (C : DC B N w0 ao nb) (h : XS B N w0 ao nb cap kb cb s1 s3 cs E wa xb row pos w) (hE : kd.sig E = some [.int .i64, .int .i64, .int .i64]) {i : Nat} {n : Int} (hi : i < 3) (hn : bB .i64 n) : XS B N w0 ao nb cap kb cb s1 s3 cs E wa xb (row.set i (.int .i64 n)) pos (w.setCell ⟨xb, i, none⟩ (.int .i64 n)) := by
 have hxl := h.xl
 have hwl := h.w0l
 have e2 : Eff (fun k T _ => k = xb ∧ T = E) w (w.setCell ⟨xb, i, none⟩ (.int .i64 n)) := (Eff.refl _ w).dK h.x (.inl ⟨rfl, rfl⟩)
 refine ⟨h.ds.out ?_ (e2.mono fun k T _ _ hk => ⟨by omega, by rw [hk.2]; exact h.ne.1, by rw [hk.2]; exact h.ne.2⟩), ?_, h.xl, h.w0l, h.aS.trans (e2.mono fun k T _ _ hk => .inl (by omega)), h.ne⟩
 · refine h.ds.k.wt.set h.x hE (i := i) (ck := .int .i64) ?_ ⟨n, rfl, hn⟩
   have : i = 0 ∨ i = 1 ∨ i = 2 := by omega
   rcases this with rfl | rfl | rfl <;> rfl
 · rw [aR h.x]
   simp
theorem XS.cell (h : XS B N w0 ao nb cap kb cb s1 s3 cs E wa xb row pos w) {i : Nat} {v : Value} (hi : row[i]? = some v) : w.cell? ⟨xb, i, none⟩ = some v := by
 rw [aa h.x]
 simpa using hi
theorem XS.pre {B0 k : Nat} {f : Nat → List Value} {a b c : Int} (h : XS B N w0 ao nb cap kb cb s1 s3 cs E wa xb [.int .i64 a, .int .i64 b, .int .i64 c] pos w) (hE : kd.sig E = some [.int .i64, .int .i64, .int .i64]) (ia : bB .i64 a) (ib : bB .i64 b) (ic : bB .i64 c) (hB : B ≤ B0) (hB0 : B0 ≤ wa.heap.size) (hv : mf wa E 3 B0 k f v) (hk : k < 1000) :
   WT kd.sig B N (w.alloc (.cells #[.int .i64 a, .int .i64 b, .int .i64 c] E)) ∧ B ≤ B0 ∧ B0 ≤ (w.alloc (.cells #[.int .i64 a, .int .i64 b, .int .i64 c] E)).heap.size ∧ mf (w.alloc (.cells #[.int .i64 a, .int .i64 b, .int .i64 c] E)) E 3 B0 k f v ∧ bJ (w.alloc (.cells #[.int .i64 a, .int .i64 b, .int .i64 c] E)) B N [.int .i64, .int .i64, .int .i64] [.int .i64 a, .int .i64 b, .int .i64 c] ∧ (w.alloc (.cells #[.int .i64 a, .int .i64 b, .int .i64 c] E)).heap[w.heap.size]? = some (.cells [.int .i64 a, .int .i64 b, .int .i64 c].toArray E (0, 0)) ∧ k < 68719476736 := by
 have e : Eff (fun _ _ _ => False) w (w.alloc (.cells #[.int .i64 a, .int .i64 b, .int .i64 c] E)) := Eff.bL _ _ _
 have ok : ∀ w : World, bJ w B N [.int .i64, .int .i64, .int .i64] [.int .i64 a, .int .i64 b, .int .i64 c] := fun w => ⟨⟨_, rfl, ia⟩, ⟨_, rfl, ib⟩, ⟨_, rfl, ic⟩, trivial⟩
 refine ⟨h.ds.k.wt.alloc hE (aT.one (ok _)), hB, Nat.le_trans hB0 (Nat.le_trans h.aS.size e.size), (hv.keep h.aS fun b j h1 h2 hc => ?_).keep e fun _ _ _ _ h => h, ok _, blk_alloc_new _ _, by omega⟩
 rcases hc with hc | hc
 · omega
 · exact h.ne.1 hc
theorem XS.push {B0 k lb kc : Nat} {f : Nat → List Value} {a b c : Int} (h : XS B N w0 ao nb cap kb cb s1 s3 cs E wa xb [.int .i64 a, .int .i64 b, .int .i64 c] pos w) (hB0 : w0.heap.size ≤ B0) (hA : uq B N E 3 B0 k (w.alloc (.cells #[.int .i64 a, .int .i64 b, .int .i64 c] E)) f [.int .i64 a, .int .i64 b, .int .i64 c] lb kc w') :
   DS B N w0 ao nb cap kb cb s1 s3 cs pos w' ∧ Eff (fun b T _ => (B0 ≤ b ∧ T = E) ∨ wa.heap.size ≤ b ∨ T = ll) wa w' := by
 have e : Eff (fun _ _ _ => False) w (w.alloc (.cells #[.int .i64 a, .int .i64 b, .int .i64 c] E)) := Eff.bL _ _ _
 have e2 := (e.mono (oW := fun b T _ => B0 ≤ b ∧ T = E) fun _ _ _ _ h => h.elim).trans hA.aS
 exact ⟨h.ds.out hA.wt (e2.mono fun k T _ _ hk => ⟨by omega, by rw [hk.2]; exact h.ne.1, by rw [hk.2]; exact h.ne.2⟩), (h.aS.mono fun _ _ _ _ h => .inr h).trans (e2.mono fun _ _ _ _ h => .inl h)⟩
theorem uU {m : Int} (C : DC B N w0 ao nb) (h : XS B N w0 ao nb cap kb cb s1 s3 cs E wa xb row pos w) (hm : 0 < m) (hm2 : m ≤ 1000) (hp : pos ≤ 1000000) :
   Calls Tryz.prog 55 #[.pointer (some ⟨kb, 0, none⟩), .int .i64 m] w fun e w' => ∃ r : Int, e = .returned (.int .i64 r) ∧ 0 ≤ r ∧ r < m ∧ XS B N w0 ao nb cap kb cb s1 s3 cs E wa xb row (pos + 1) w' :=
 (kQ C h.ds hm hm2 hp).mono fun e w' ⟨r, e1, h0, h1, h2, h3⟩ => ⟨r, e1, h0, h1, h.num h2 h3⟩
theorem Pg.push {B0 k lb kc : Nat} {f : Nat → List Value} {o a b : Int} (hf : ∀ j, j < k → afA (f j)) (ha : 0 ≤ a) (hA : uq B N InT 3 B0 k w f [.int .i64 o, .int .i64 a, .int .i64 b] lb kc w') : Pg w' B0 (k + 1) (.slice (some ⟨lb, 0, none⟩) (k + 1) kc) := by
 refine ⟨_, hA.ls, fun j hj => ?_⟩
 by_cases e : j = k
 · subst e
   exact ⟨o, a, b, by simp, ha⟩
 · simp only [if_neg e]
   exact hf j (by omega)
theorem mf.lower {B0 B1 s k : Nat} {f : Nat → List Value} (h : mf w E s B1 k f v) (hb : B0 ≤ B1) : mf w E s B0 k f v := by
 rcases h with h | ⟨lb, kc, cur, e, h1, h2⟩
 · exact .inl h
 · exact .inr ⟨lb, kc, cur, e, by omega, h2⟩
theorem oC.push {B0 B1 k lb kc m : Nat} {f : Nat → List Value} {p : Value} (hf : ∀ j, j < k → ∃ m p, f j = [p] ∧ m ≤ 1000 ∧ Pg w B0 m p) (hp : Pg w B1 m p) (hm : m ≤ 1000) (hb : B0 ≤ B1) (hA : uq B N mh 1 B0 k w f [p] lb kc w') : oC w' B0 (k + 1) (.slice (some ⟨lb, 0, none⟩) (k + 1) kc) := by
 have hk : ∀ {B2 m p}, Pg w B2 m p → Pg w' B2 m p := fun h => h.keep hA.aS fun _ _ _ _ h => absurd h.2 (by decide)
 refine ⟨_, hA.ls, fun j hj => ?_⟩
 by_cases e : j = k
 · subst e
   obtain ⟨g, h1, h2⟩ := hk hp
   exact ⟨m, p, by simp, hm, g, h1.lower hb, h2⟩
 · simp only [if_neg e]
   obtain ⟨m', p', e', hm', hp'⟩ := hf j (by omega)
   exact ⟨m', p', e', hm', hk hp'⟩
theorem DS.akS {BB B1 k m : Nat} {f : Nat → List Value} {pv p : Value} (h : DS B N w0 ao nb cap kb cb s1 s3 cs pos w) (hB : B ≤ BB) (Kh : BB ≤ w.heap.size) (hB1 : BB ≤ B1) (hv : mf w mh 1 BB k f pv) (hp : Pg w B1 m p) (hm : m ≤ N) (hk : k < 1000) :
   WT kd.sig B N (w.alloc (.cells #[p] mh)) ∧ B ≤ BB ∧ BB ≤ (w.alloc (.cells #[p] mh)).heap.size ∧ mf (w.alloc (.cells #[p] mh)) mh 1 BB k f pv ∧ bJ (w.alloc (.cells #[p] mh)) B N [.sl InT 3] [p] ∧ (w.alloc (.cells #[p] mh)).heap[w.heap.size]? = some (.cells [p].toArray mh (0, 0)) ∧ k < 68719476736 := by
 have e : Eff (fun _ _ _ => False) w (w.alloc (.cells #[p] mh)) := Eff.bL _ _ _
 obtain ⟨g, h1, h2⟩ := hp
 have ok : bJ w B N [.sl InT 3] [p] := ⟨h1.ok (Nat.le_trans hB hB1) hm, trivial⟩
 exact ⟨h.k.wt.alloc kIl (aT.one (l := [p]) ok), hB, Nat.le_trans Kh e.size, hv.keep e fun _ _ _ _ h => h, ok.mono e (Nat.le_refl _), blk_alloc_new _ _, by omega⟩
theorem DS.ajk {BB B1 k m lb kc : Nat} {f : Nat → List Value} {p : Value} (C : DC B N w0 ao nb) (h : DS B N w0 ao nb cap kb cb s1 s3 cs pos w) (Kh : BB = w0.heap.size) (hB1 : BB ≤ B1) (hf : ∀ j, j < k → ∃ m p, f j = [p] ∧ m ≤ 1000 ∧ Pg w BB m p) (hp : Pg w B1 m p) (hm : m ≤ 1000) (hk : k < 1000)
   (hA : uq B N mh 1 BB k (w.alloc (.cells #[p] mh)) f [p] lb kc w') :
   DS B N w0 ao nb cap kb cb s1 s3 cs pos w' ∧ DS B N w0 ao nb cap kb cb s1 s3 (cs.set 9 (.slice (some ⟨lb, 0, none⟩) (k + 1) kc)) pos (w'.setCell ⟨cb, 9, none⟩ (.slice (some ⟨lb, 0, none⟩) (k + 1) kc)) ∧ oC (w'.setCell ⟨cb, 9, none⟩ (.slice (some ⟨lb, 0, none⟩) (k + 1) kc)) BB (k + 1) (.slice (some ⟨lb, 0, none⟩) (k + 1) kc) := by
 have e : Eff (fun _ _ _ => False) w (w.alloc (.cells #[p] mh)) := Eff.bL _ _ _
 have e2 := (e.mono (oW := fun b T _ => BB ≤ b ∧ T = mh) fun _ _ _ _ h => h.elim).trans hA.aS
 have D1 : DS B N w0 ao nb cap kb cb s1 s3 cs pos w' := h.out hA.wt (e2.mono fun k T _ _ hk => ⟨by omega, by rw [hk.2]; decide, by rw [hk.2]; decide⟩)
 have hN := C.n1
 have hb := C.b
 have kp' : ∀ {B2 m : Nat} {q : Value}, Pg w B2 m q → Pg (w.alloc (.cells #[p] mh)) B2 m q := fun {B2 m q} h => Pg.keep (Ch := fun _ _ _ => False) h e (fun _ _ _ _ h => h)
 have hP : oC w' BB (k + 1) (.slice (some ⟨lb, 0, none⟩) (k + 1) kc) := oC.push (fun j hj => by
   obtain ⟨m, q, e1, e2, e3⟩ := hf j hj
   exact ⟨m, q, e1, e2, kp' e3⟩) (kp' hp) hm hB1 hA
 have hP2 := hP
 obtain ⟨f2, hf2, -⟩ := hP2
 have hv : aU w' B N (.sl mh 1) (.slice (some ⟨lb, 0, none⟩) (k + 1) kc) := hf2.ok (by omega) (by omega)
 have e3 : Eff (fun k T _ => k = cb ∧ T = q8) w' (w'.setCell ⟨cb, 9, none⟩ (.slice (some ⟨lb, 0, none⟩) (k + 1) kc)) := (Eff.refl _ w').dK D1.cfg (.inl ⟨rfl, rfl⟩)
 exact ⟨D1, D1.set C (i := 9) (ck := .sl mh 1) (by decide) rfl hv, hP.keep e3 fun b T j h1 h2 h3 h4 => by
   rcases h3 with rfl | rfl
   · exact absurd h4.2 (by decide)
   · exact absurd h4.2 (by decide)⟩
theorem DS.ai8 {BB k lb kc np : Nat} {f : Nat → List Value} {a b c : Int} {pv : Value} (C : DC B N w0 ao nb) (h : XS B N w0 ao nb cap kb cb s1 s3 cs qY wa xb [.int .i64 a, .int .i64 b, .int .i64 c] pos w) (Kh : BB = w0.heap.size) (hP : oC wa BB np pv) (hk : k < 1000)
   (hA : uq B N qY 3 BB k (w.alloc (.cells #[.int .i64 a, .int .i64 b, .int .i64 c] qY)) f [.int .i64 a, .int .i64 b, .int .i64 c] lb kc w') :
   DS B N w0 ao nb cap kb cb s1 s3 cs pos w' ∧ DS B N w0 ao nb cap kb cb s1 s3 (cs.set 10 (.slice (some ⟨lb, 0, none⟩) (k + 1) kc)) pos (w'.setCell ⟨cb, 10, none⟩ (.slice (some ⟨lb, 0, none⟩) (k + 1) kc)) ∧ oC (w'.setCell ⟨cb, 10, none⟩ (.slice (some ⟨lb, 0, none⟩) (k + 1) kc)) BB np pv ∧ ∃ f2, mf (w'.setCell ⟨cb, 10, none⟩ (.slice (some ⟨lb, 0, none⟩) (k + 1) kc)) qY 3 BB (k + 1) f2 (.slice (some ⟨lb, 0, none⟩) (k + 1) kc) := by
 obtain ⟨D1, E1⟩ := h.push (Nat.le_of_eq Kh.symm) hA
 have hN := C.n1
 have hb := C.b
 have hv : aU w' B N (.sl qY 3) (.slice (some ⟨lb, 0, none⟩) (k + 1) kc) := hA.ls.ok (by omega) (by omega)
 have e3 : Eff (fun k T _ => k = cb ∧ T = q8) w' (w'.setCell ⟨cb, 10, none⟩ (.slice (some ⟨lb, 0, none⟩) (k + 1) kc)) := (Eff.refl _ w').dK D1.cfg (.inl ⟨rfl, rfl⟩)
 refine ⟨D1, D1.set C (i := 10) (ck := .sl qY 3) (by decide) rfl hv, (hP.keep E1 fun b T j h1 h2 h3 h4 => ?_).keep e3 fun b T j h1 h2 h3 h4 => ?_, _, hA.ls.keep e3 fun _ _ _ _ h => absurd h.2 (by decide)⟩
 · rcases h4 with h4 | h4 | h4
   · rcases h3 with rfl | rfl
     · exact absurd h4.2 (by decide)
     · exact absurd h4.2 (by decide)
   · omega
   · rcases h3 with rfl | rfl
     · exact absurd h4 (by decide)
     · exact absurd h4 (by decide)
 · rcases h3 with rfl | rfl
   · exact absurd h4.2 (by decide)
   · exact absurd h4.2 (by decide)
theorem aT.all1 {L : List CK} {l : List Value} (h : aT w B N L l.toArray) (hl : l.length = L.length) : bJ w B N L l :=
 bJ.Nt hl.symm fun i v hi => by
   obtain ⟨ck, e, o⟩ := h.2 i v (by simpa using hi)
   have hlt : i < L.length := by rw [← hl]; exact (List.getElem?_eq_some_iff.1 hi).1
   rw [Nat.mod_eq_of_lt hlt] at e
   exact ⟨ck, e, o⟩
theorem Gg {b n : Nat} {c : Array Value} {T : TypeId} (h : w.heap[b]? = some (.cells c T (0, 0))) (hn : n ≤ c.size) : w.there b 0 n := fun j hj => by
 refine ⟨?_, ay h _⟩
 rw [aa h, Nat.zero_add, Array.getElem?_eq_getElem (by omega)]
 rfl
def AB (B N : Nat) (w : World) (c : kT) (w' : World) : Prop := qL B N w' c ∧ WT kd.sig B N w' ∧ Eff (fun _ _ _ => False) w w'
theorem DS.fin {wB : World} {rb BB n : Nat} {cz : List Value} (c : kT) (C : DC B N w0 ao nb) (h : DS B N w0 ao nb cap kb cb s1 s3 cs pos w) (hB : B ≤ wB.heap.size) (hw : Eff (fun _ _ _ => False) wB w0) (hrb : wB.heap.size ≤ rb) (hz : cz.length = cs.length) (RR : w.heap[rb]? = some (.cells cz.toArray q8 (0, 0))) (hP : oC w BB n c.ps) (hc : c.cells = cs)
   (w1 : 0 < c.W) (w2 : c.W ≤ 1000) (t1 : 1 ≤ c.T) (t2 : c.T ≤ 1000) : AB B N wB c (w.setCells rb 0 cs) ∧ (w.setCells rb 0 cs).heap[rb]? = some (.cells cs.toArray q8 (0, 0)) := by
 have AO : bJ w B N bK cs := (WT.rows h.k.wt Iy (by have := h.cl; have := C.b; omega) h.cfg).all1 (by rw [← hc]; rfl)
 have s := (iU w rb cs).2 _ _ RR (by simpa using hz)
 have e1 : Eff (fun k T _ => k = rb ∧ T = q8) w (w.setCells rb 0 cs) := Eff.wK cs 0 w _ (Eff.refl _ _) RR fun _ _ => .inl ⟨rfl, rfl⟩
 have W : WT kd.sig B N (w.setCells rb 0 cs) := WT.sets Iy cs bK 0 w _ h.k.wt RR AO fun j k hj => by
   have hlt : j < bK.length := (List.getElem?_eq_some_iff.1 hj).1
   rw [Nat.zero_add, Nat.mod_eq_of_lt hlt]
   exact hj
 refine ⟨⟨⟨by rw [hc]; exact AO.mono e1 (Nat.le_refl _), w1, w2, t1, t2, (hP.keep e1 fun b T j h1 h2 h3 h4 => ?_).pr⟩, W, ?_⟩, s⟩
 · rcases h3 with rfl | rfl
   · exact absurd h4.2 (by decide)
   · exact absurd h4.2 (by decide)
 · exact (((hw.trans h.k.aS).mono (oW := fun k _ _ => wB.heap.size ≤ k) fun _ _ _ _ h => h.elim).trans (e1.mono fun _ _ _ _ h => by omega)).mono fun k _ _ hk hc => by omega
end Go.Proofs.YtncnepmgmphanaaGreatDoor
