/- A checker of the types of a function's code, fourth part: each operation keeps the types. Plain; no condition. -/
import Derived.Test.YtncnepmgmphanaaGreatDoorTcC
set_option linter.unusedVariables false
set_option linter.unusedSimpArgs false
set_option linter.unusedSectionVars false
namespace Go.Proofs.YtncnepmgmphanaaGreatDoor
open Go.RowKit
variable {P : Program} {kd : Kd} {cx : Cx} {w w' w0 : World} {B N : Nat} {E : List EI} {FT : FuncId → Option aj} {od : Od} {G : World → Prop} {pe : Nat}
theorem Au {L : List CK} {r q j : Nat} {k : CK} {T : TypeId} (hT : kd.sig T = some L) (h : L[q + j]? = some k) : L[(r * kd.sz T + q + j) % L.length]? = some k := by
 have hl := (List.getElem?_eq_some_iff.1 h).1
 rw [Kd.qK hT, show r * L.length + q + j = (q + j) + r * L.length by omega, Nat.add_mul_mod_self_right, Nat.mod_eq_of_lt hl]
 exact h
theorem AX {U b r : Nat} (hw : eO kd w B U b r) {q : Nat} (hq : q < kd.sz U) : ∃ L, kd.sig U = some L := by
 unfold Kd.sz at hq
 cases h : kd.sig U with
 | none => rw [h] at hq; simp at hq
 | some L => exact ⟨L, rfl⟩
theorem lQ {U T q : Nat} {g : FU} {ck : CK} {x : Value} (hw : WT kd.sig B N w) (hx : bD kd cx w B N (.ptr U q g) x) (h1 : pq ((kd.sig U).getD []) q (VK.c ck).cells = true) (h2 : pF P T (.c ck) = true) :
   ∃ v b r, (Instr.loadAt T x).run P w = .ok v w ∧ aU w B N ck v ∧ tY cx g b r ∧ w.cell? ⟨b, r * kd.sz U + q, none⟩ = some v := by
 obtain ⟨b, r, rfl, hq, hrow, hg⟩ := hx
 obtain ⟨L, hL⟩ := AX hrow hq
 obtain ⟨c, hB, hc, hs⟩ := hrow
 rw [hL] at h1
 obtain ⟨g1, g2⟩ := oH h1
 simp only [Option.getD_some] at g1 g2
 have hsz : kd.sz U = L.length := Kd.qK hL
 obtain ⟨cs, hcs, hr⟩ := hw.range hL hB hc (ks := (VK.c ck).cells) (i := r * kd.sz U + q) (by rw [hsz] at hs ⊢; rw [Nat.add_mul] at hs; omega) (fun j k' hj => Au hL (g2 j k' hj))
 simp only [pF, beq_iff_eq] at h2
 match cs, hcs with
 | [v], hv =>
   have hcell := hr 0 v rfl
   rw [Nat.add_zero] at hcell
   cases hd : P.underlying T with
   | none => rw [hd] at h2; cases h2
   | some d =>
     rw [hd] at h2
     simp only [Option.map_some, Option.some.injEq] at h2
     have hagg : (isAgg T).run P w = .ok false w := by
       unfold isAgg
       rw [Sem.run_bind, run_underlying hd w]
       cases d <;> simp_all
     exact ⟨v, b, r, by simp [Instr.loadAt, Instr.sureAddr, loadVar, hagg, hcell], hv.1, hg, hcell⟩
theorem uA {U T q : Nat} {g : FU} {k : VK} {t : AT} {x : Value} (hw : WT kd.sig B N w) (hx : bD kd cx w B N (.ptr U q g) x) (h1 : pq ((kd.sig U).getD []) q k.cells = true) (h2 : pF P T k = true) (h3 : zQ kd k = some t) :
   ∃ v, (Instr.loadAt T x).run P w = .ok v w ∧ bD kd cx w B N t v := by
 obtain ⟨b, r, rfl, hq, hrow, -⟩ := hx
 obtain ⟨L, hL⟩ := AX hrow hq
 obtain ⟨c, hB, hc, hs⟩ := hrow
 rw [hL] at h1
 obtain ⟨g1, g2⟩ := oH h1
 simp only [Option.getD_some] at g1 g2
 have hsz : kd.sz U = L.length := Kd.qK hL
 obtain ⟨cs, hcs, hr⟩ := hw.range hL hB hc (ks := k.cells) (i := r * kd.sz U + q) (by rw [hsz] at hs ⊢; rw [Nat.add_mul] at hs; omega) (fun j k' hj => Au hL (g2 j k' hj))
 cases k with
 | c ck =>
   simp only [pF, beq_iff_eq] at h2
   match cs, hcs with
   | [v], hv =>
     have hcell := hr 0 v rfl
     rw [Nat.add_zero] at hcell
     cases hd : P.underlying T with
     | none => rw [hd] at h2; cases h2
     | some d =>
       rw [hd] at h2
       simp only [Option.map_some, Option.some.injEq] at h2
       have hagg : (isAgg T).run P w = .ok false w := by
         unfold isAgg
         rw [Sem.run_bind, run_underlying hd w]
         cases d <;> simp_all
       exact ⟨v, by simp [Instr.loadAt, Instr.sureAddr, loadVar, hagg, hcell], Jg h3 hv.1⟩
 | agg L' =>
   simp only [pF, Bool.and_eq_true, beq_iff_eq] at h2
   have hl := hcs.len
   cases hd : P.underlying T with
   | none => rw [hd] at h2; cases h2.1
   | some d =>
     rw [hd] at h2
     simp only [Option.map_some, Option.some.injEq] at h2
     exact ⟨_, run_loadAt_mid w b _ T cs d hr hd h2.1 (by rw [← hl]; exact h2.2), Jg h3 ⟨cs, rfl, hcs⟩⟩
 | ak L' ks => simp [pF] at h2
 | bk b => simp [pF] at h2
theorem tF {U T q : Nat} {g : FU} {k : VK} {x y : Value} {D : List EI} (hw : WT kd.sig B N w) (hx : bD kd cx w B N (.ptr U q g) x) (hy : mI w B N k y) (h1 : pq ((kd.sig U).getD []) q k.cells = true)
   (h2 : (P.info? T).map (·.size) = some k.cells.length) (h3 : D = (List.range k.cells.length).flatMap fun j => rW g U (q + j)) :
   ∃ w', (Instr.storeAt T x y).run P w = .ok () w' ∧ WT kd.sig B N w' ∧ Eff (dC B kd cx D) w w' ∧ ∃ b r, x = .pointer (some ⟨b, r * kd.sz U + q, none⟩) ∧ w' = w.setCells b (r * kd.sz U + q) y.cells.toList := by
 obtain ⟨b, r, rfl, hq, hrow, hg⟩ := hx
 obtain ⟨L, hL⟩ := AX hrow hq
 obtain ⟨c, hB, hc, hs⟩ := hrow
 rw [hL] at h1
 obtain ⟨g1, g2⟩ := oH h1
 simp only [Option.getD_some] at g1 g2
 have hsz : kd.sz U = L.length := Kd.qK hL
 have ha := hy.cells
 have hl := ha.len
 have hin : ∀ j, j < y.cells.toList.length → r * kd.sz U + q + j < c.size := fun j hj => by rw [hsz] at hs ⊢; rw [Nat.add_mul] at hs; omega
 have hrun := run_storeCells_cells (P := P) b (r * kd.sz U + q) y.cells.toList 0 w (fun j hj => by
     rw [Nat.add_zero, aa hc, Array.getElem?_eq_getElem (hin j hj)]; rfl) (fun j hj => ay hc _) ha.one
 rw [Nat.add_zero] at hrun
 refine ⟨w.setCells b (r * kd.sz U + q) y.cells.toList, ?_, WT.sets hL _ k.cells _ w c hw hc ha (fun j k' hj => Au hL (g2 j k' hj)), Eff.wK _ _ _ c (Eff.refl _ _) hc (fun j hj => .inl ?_), b, r, rfl, rfl⟩
 · cases hi : P.info? T with
   | none => rw [hi] at h2; cases h2
   | some i =>
     rw [hi] at h2
     simp only [Option.map_some, Option.some.injEq] at h2
     have : y.cells.size = i.size := by rw [h2, hl]; simp
     simp [Instr.storeAt, Instr.sureAddr, storeVar, sizeOf, typeInfo, hi, this, hrun]
 · rw [Nat.add_assoc]
   refine Pp (fun e he => ?_) (by rw [hsz]; omega) hg hB
   rw [h3]
   exact List.mem_flatMap.2 ⟨j, by simp; omega, he⟩
theorem Bp {T e : TypeId} {i : TypeInfo} {z : Value} {L : List CK} (h : Gf P kd T = some (e, i, z, L)) : P.underlying T = some (.slice e) ∧ P.info? e = some i ∧ i.zero = some z ∧ kd.sig e = some L ∧ i.size = L.length ∧ i.bytes ≤ 1024 ∧ eZ L z.cells.toList = true ∧ 0 < L.length ∧ L.length ≤ 1000 := by
 unfold Gf at h
 split at h
 · rename_i e' hu
   split at h
   · rename_i L' i' h1 h2
     split at h
     · rename_i z' h3
       split at h
       · rename_i hc
         cases h
         simp only [Bool.and_eq_true, decide_eq_true_eq] at hc
         exact ⟨hu, h2, h3, h1, hc.1.1.1.1, Nat.le_of_ble_eq_true hc.1.1.1.2, hc.1.1.2, hc.1.2, hc.2⟩
       · cases h
     · cases h
   · cases h
 · cases h
theorem aiJ {T ty e : TypeId} {i : TypeInfo} {z : Value} {L : List CK} {s t u : AT} {m : Nat} {D : List EI} {x y : Value} (h : Lx kd E e L s t = some (u, m, D)) (hu : P.underlying T = some (.slice e)) (hi : P.info? e = some i) (hz : i.zero = some z) (hsz : i.size = L.length) (hby : i.bytes ≤ 1024) (ig : eZ L z.cells.toList = true)
   (hL : kd.sig e = some L) (h0 : 0 < L.length) (hBb : B ≤ cx.base) (hb : cx.base ≤ w.heap.size) (hw : WT kd.sig B N w) (he : Eff (dC B kd cx E) w0 w) (hlim : N + m ≤ 68719476736) (hx : bD kd cx w B N s x) (hy : bD kd cx w B N t y) :
   ∃ v w', (Builtin.append_ #[T, T] ty #[x, y]).run P w = .ok v w' ∧ D.all (lU kd E) = true ∧ Left kd cx E D B w0 w (some u) (N + m) v w' := by
 have hB : B ≤ w.heap.size := Nat.le_trans hBb hb
 -- what a short slice of the call's own gives to be appended
 have news : ∀ {m : Nat} {y : Value}, bD kd cx w B N (.rE e L.length m) y → ∃ (b : Nat) (c : Array Value), y = .slice (some ⟨b, 0, none⟩) m m ∧ aT w B N L c.toList.toArray ∧ c.toList.length = m * L.length ∧ ∀ j u, c.toList[j]? = some u → w.cell? ((⟨b, 0, none⟩ : Addr).add j) = some u := fun {m y} hy => by
   obtain ⟨b, c, e1, h1, h2, h3, h4, h5⟩ := hy
   refine ⟨b, c, e1, by simpa using hw.rows hL (Nat.le_trans hBb h1) h2, by simpa using h3, fun j u hj => ?_⟩
   rw [Go.WideShapes.add_plain, Nat.zero_add, aa h2]
   simpa using hj
 have own : ∀ {m : Nat} {x y : Value}, aU w cx.base N (.sl e L.length) x → bD kd cx w B N (.rE e L.length m) y → 0 < m → N + m ≤ 68719476736 → ∃ v w', (Builtin.append_ #[T, T] ty #[x, y]).run P w = .ok v w' ∧ ([] : List EI).all (lU kd E) = true ∧ Left kd cx E [] B w0 w (some (.oL e L.length)) (N + m) v w' := fun {m x y} hx hy hm hlim => by
   obtain ⟨b, c, rfl, h1, h2, h3⟩ := news hy
   obtain ⟨v, w', hr, g1, g2, g3, gl⟩ := nI (P := P) (ty := ty) (X := N) (M := N + m) hu hi hz hsz hby ig hL hw hBb hb hx h1 h2 h3 (Nat.le_refl _) (Nat.le_add_right _ _) hlim (fun _ => hm) (a := ⟨b, 0, none⟩) (c := m)
   exact ⟨v, w', hr, rfl, g1, he.trans (g3.mono fun k U j _ hc => .inl hc.1), g3.mono fun k U j _ hc => .inl hc.1, fun t e => by cases e; exact ⟨g2, by rw [gl]; omega⟩⟩
 unfold Lx at h
 split at h
 · rename_i e1 s1 e2 s2 m'
   split at h
   · rename_i hc
     simp only [Bool.and_eq_true, decide_eq_true_eq, List.all_eq_true, List.mem_range, List.contains_iff_mem] at hc
     obtain ⟨⟨⟨⟨⟨rfl, rfl⟩, rfl⟩, rfl⟩, hm⟩, hall⟩ := hc
     cases h
     obtain ⟨b, c, rfl, h1, h2, h3⟩ := news hy
     obtain ⟨v, w', hr, g1, g2, g3, gl⟩ := nI (P := P) (ty := ty) (X := N) (M := N + m) hu hi hz hsz hby ig hL hw (Nat.le_refl B) hB hx h1 h2 h3 (Nat.le_refl _) (Nat.le_add_right _ _) hlim (fun _ => hm) (a := ⟨b, 0, none⟩) (c := m)
     have hin : ((List.range L.length).map fun o => EI.ty e2 o).all (lU kd E) = true := by
       rw [List.all_eq_true]
       intro d hd
       obtain ⟨o, ho, rfl⟩ := List.mem_map.1 hd
       simp only [lU, List.contains_iff_mem]
       exact hall o (by simpa using ho)
     have hg3 : Eff (dC B kd cx ((List.range L.length).map fun o => EI.ty e2 o)) w w' := g3.mono fun k U j _ hc => by
       obtain ⟨jm, rfl⟩ := hc
       exact .inr (.inr ⟨j % L.length, List.mem_map.2 ⟨_, by simpa using Nat.mod_lt _ h0, rfl⟩, by rw [Kd.qK hL], jm⟩)
     exact ⟨v, w', hr, hin, g1, he.trans (hg3.mono fun k U j _ hc => rY hin hc), hg3, fun t e => by cases e; exact g2⟩
   · cases h
 · rename_i e1 s1 e2 s2 m'
   split at h
   · rename_i hc
     simp only [Bool.and_eq_true, decide_eq_true_eq] at hc
     obtain ⟨⟨⟨⟨rfl, rfl⟩, rfl⟩, rfl⟩, hm⟩ := hc
     cases h
     exact own hx hy hm hlim
   · cases h
 · rename_i e1 s1 m1 e2 s2 m'
   split at h
   · rename_i hc
     simp only [Bool.and_eq_true, decide_eq_true_eq] at hc
     obtain ⟨⟨⟨⟨rfl, rfl⟩, rfl⟩, rfl⟩, hm⟩ := hc
     cases h
     exact own (QJ hx) hy hm hlim
   · cases h
 · rename_i e1 s1 e2 s2 m'
   split at h
   · rename_i hc
     simp only [Bool.and_eq_true, decide_eq_true_eq] at hc
     obtain ⟨⟨⟨⟨rfl, rfl⟩, rfl⟩, rfl⟩, hm⟩ := hc
     cases h
     exact own hx.1 hy hm hlim
   · cases h
 · rename_i e1 s1
   split at h
   · rename_i hc
     simp only [Bool.and_eq_true, decide_eq_true_eq] at hc
     obtain ⟨⟨rfl, rfl⟩, hty⟩ := hc
     cases h
     have hys := oz hBb hty hy
     have hxo := QJ hx
     obtain ⟨b0, c0, rfl, k1, k2, k3, k4, k5⟩ := hx
     obtain ⟨n, xs, hn, hl, ⟨rfl, rfl⟩ | ⟨g, cap, cur, rfl, q1, q2, q3, q4, q5, q6⟩⟩ := hys
     · obtain ⟨n0, xs0, hn0, ho0⟩ := hxo
       exact ⟨_, w, run_append_owned_none (P := P) (w := w) cx.base T ty _ i L.length hu hi _ n0 xs0 ho0, rfl, hw, he, Eff.refl _ _, fun t e => by cases e; exact ⟨n0, xs0, hn0, ho0⟩⟩
     · have hrow := hw.rows hL q1 q2
       have hcap : n * L.length ≤ cur.size := by rw [q5]; exact Nat.mul_le_mul_right _ q3
       obtain ⟨v, w', hr, g1, g2, g3, gl⟩ := nI (P := P) (ty := ty) (X := 0) (M := N) (x := .slice (some ⟨b0, 0, none⟩) 0 0) (m := n) (a := ⟨g, 0, none⟩) (c := cap) hu hi hz hsz hby ig hL hw hBb hb
         ⟨0, [], Nat.le_refl _, by simp, .inr ⟨b0, 0, c0, rfl, k1, k2, Nat.le_refl _, Nat.zero_le _, by simpa using k3, by simp⟩⟩ (hrow.take hcap) (by rw [q6]; exact hl) (fun j u hj => by
           rw [Go.WideShapes.add_plain, Nat.zero_add, aa q2]
           rw [List.getElem?_take] at hj
           split at hj
           · simpa using hj
           · cases hj) (by omega) (Nat.le_refl _) (by omega) (fun e => by cases e)
       exact ⟨v, w', hr, rfl, g1, he.trans (g3.mono fun k U j _ hc => .inl hc.1), g3.mono fun k U j _ hc => .inl hc.1, fun t e => by cases e; exact g2⟩
   · cases h
 · cases h
def rf (ev : Ev) (sh : Sh) (G : World → Prop) : Prop := ∀ q, q ∈ ev.2 → (∀ n, sh.el q = .int .i64 n → 0 < n) ∧ ∀ w, G w → w.cell? ⟨sh.pe, q, none⟩ = some (sh.el q)
abbrev rA (ev : Ev) (cx : Cx) (G : World → Prop) : Prop := rf ev cx.sh G
theorem af9 {ev : Ev} {H : Hm} {U T q : Nat} {g : FU} {k : VK} {t : AT} {x : Value} (hw : WT kd.sig B N w) (hH : dL kd cx w B N H) (hev : rA ev cx G) (hG : G w) (hx : bD kd cx w B N (.ptr U q g) x) (h1 : pq ((kd.sig U).getD []) q k.cells = true) (h2 : pF P T k = true) (h3 : Gh kd ev H U q g k = some t) :
   ∃ v, (Instr.loadAt T x).run P w = .ok v w ∧ bD kd cx w B N t v := by
 unfold Gh at h3
 split at h3
 · rename_i i ck
   split at h3
   · rename_i t' ht
     cases h3
     obtain ⟨v, b, r, e, -, hg, hc⟩ := lQ hw hx h1 h2
     obtain ⟨-, -, -, v', h4, h5⟩ := hH i U q t ht
     simp only [tY] at hg
     rw [hg.1] at h4
     rw [hc] at h4
     cases h4
     exact ⟨v, e, h5⟩
   · exact uA hw hx h1 h2 h3
 · rename_i E' s'
   split at h3
   · rename_i hc
     cases h3
     simp only [Bool.and_eq_true, List.contains_iff_mem] at hc
     obtain ⟨v, b, r, e, hk, ⟨rfl, rfl⟩, hcell⟩ := lQ hw hx h1 h2
     have hcq : w.cell? ⟨cx.pe, q, none⟩ = some (cx.el q) := (hev q hc.2).2 w hG
     rw [Nat.zero_mul, Nat.zero_add, hcq] at hcell
     cases hcell
     exact ⟨_, e, rfl, hk⟩
   · cases h3
     obtain ⟨v, b, r, e, hk, -, -⟩ := lQ hw hx h1 h2
     exact ⟨v, e, hk⟩
 · split at h3
   · rename_i hc
     cases h3
     simp only [Bool.and_eq_true, List.contains_iff_mem] at hc
     obtain ⟨v, b, r, e, ⟨n, rfl, hn⟩, ⟨rfl, rfl⟩, hcell⟩ := lQ hw hx h1 h2
     have hcq : w.cell? ⟨cx.pe, q, none⟩ = some (cx.el q) := (hev q hc.2).2 w hG
     rw [Nat.zero_mul, Nat.zero_add, hcq] at hcell
     have he : cx.el q = .int .i64 n := by injection hcell
     exact ⟨_, e, he.symm, n, rfl, hn, (hev q hc.2).1 n he⟩
   · cases h3
     obtain ⟨v, b, r, e, hk, -, -⟩ := lQ hw hx h1 h2
     exact ⟨v, e, hk⟩
 · exact uA hw hx h1 h2 h3
def ng (kd : Kd) (cx : Cx) (w : World) (B N : Nat) (e : (Nat × Nat × Nat) × AT) : Prop :=
 (cx.ps e.1.1).1 < cx.base ∧ e.1.2.2 < kd.sz e.1.2.1 ∧ eO kd w B e.1.2.1 (cx.ps e.1.1).1 (cx.ps e.1.1).2 ∧ ∃ v, w.cell? ⟨(cx.ps e.1.1).1, (cx.ps e.1.1).2 * kd.sz e.1.2.1 + e.1.2.2, none⟩ = some v ∧ bD kd cx w B N e.2 v
def aaF (od : Od) (post : Hm) (ps : List AT) (args : Array Operand) (e : (Nat × Nat × Nat) × AT) : Option ((Nat × Nat × Nat) × AT) :=
 match ps[e.1.1]?, args[e.1.1]? with
 | some (.ptr T _ _), some x => match od [] x with
   | some (.ptr T' _ (.par m)) => if decide (T = T') && decide (e.1.2.1 = T) && jl e.2 && decide (post.at (e.1.1, e.1.2.1, e.1.2.2) = some e.2) then some ((m, T, e.1.2.2), e.2) else none
   | _ => none
 | _, _ => none
def Ic (od : Od) (FT : FuncId → Option aj) (f : FuncId) (args : Array Operand) : Hm := match FT f with
 | some s => s.post.filterMap (aaF od s.post s.ps args)
 | none => []
theorem Uf {H : Hm} {D : List EI} {a : Act} {f : FuncId} {args : Array Operand} {oO : Array TypeId} {dst : Option Nat} {ty : TypeId} {pos : String} {after : Array Edge} {guard : Option (Nat × Bool)} {r : Option AT} {inc : Nat} (h : (match FT f with
   | some s => if tC kd od s.ps args && s.aS.all (sD kd od s.ps args) && (s.aS.flatMap (jH od args)).all (lU kd E) && jl s.res && s.pre.all (vW kd od H s.ps args) then some (some s.res, s.inc, s.aS.flatMap (jH od args)) else none
   | none => none) = some (r, inc, D)) (gH : ∀ f s, FT f = some s → au P f ∧ TC P kd cx.sh B G f s) (hH : dL kd cx w B N H)
   (dF : ∀ x t, od [] x = some t → bD kd cx w B N t (a.eval x))
   (hw : WT kd.sig B N w) (he' : Eff (dC B kd cx E) w0 w) (hb : cx.base ≤ w.heap.size) (hBb : B ≤ cx.base) (hG : G w) (hlim : N + inc ≤ 68719476736) :
   D.all (lU kd E) = true ∧ nL P a ⟨dst, .call ⟨.value (.func f), args, oO⟩, ty, pos, after, guard⟩ w (fun v w' => Left kd cx E D B w0 w r (N + inc) v w' ∧ ∀ e ∈ Ic od FT f args, ng kd cx w' B (N + inc) e) := by
 have hB : B ≤ w.heap.size := Nat.le_trans hBb hb
 split at h
 · rename_i s hs
   split at h
   · rename_i hc
     simp only [Bool.and_eq_true] at hc
     obtain ⟨⟨⟨⟨hc1, hc2⟩, ZR⟩, hc3⟩, hc4⟩ := hc
     cases h
     refine ⟨ZR, ?_⟩
     obtain ⟨⟨fn, hfn, hname, hbody⟩, hT⟩ := gH f s hs
     simp only [tC, Bool.and_eq_true, decide_eq_true_eq, List.all_eq_true, List.mem_range] at hc1
     have hsh : (bQ kd cx.sh s (args.map a.eval) w).sh = cx.sh := rfl
     have hps : ∀ (i : Nat) (t : AT), s.ps[i]? = some t → ∃ v, (args.map a.eval)[i]? = some v ∧ bD kd (bQ kd cx.sh s (args.map a.eval) w) w B N t v := fun i t ht => by
       have hil := (List.getElem?_eq_some_iff.1 ht).1
       have hx := hc1.2 i hil
       rw [ht] at hx
       split at hx
       · rename_i f' x h1 h2
         cases h1
         split at hx
         · rename_i u hu
           have hv := dF x u hu
           refine ⟨a.eval x, by rw [Array.getElem?_map, h2]; rfl, ?_⟩
           unfold WQ at hx
           split at hx
           · rename_i T o j
             simp only [Bool.and_eq_true, decide_eq_true_eq] at hx
             obtain ⟨rfl, hx⟩ := hx
             split at hx
             · rename_i T' o' g
               simp only [Bool.and_eq_true, decide_eq_true_eq] at hx
               obtain ⟨rfl, rfl⟩ := hx
               obtain ⟨b, r, e, h5, h6, h7⟩ := hv
               refine ⟨b, r, e, h5, h6, ?_⟩
               refine ⟨?_, by obtain ⟨c', -, hcb, -⟩ := h6; exact aK hcb⟩
               simp only [bQ, l8, ht, Array.getElem?_map, h2, Option.map_some, e]
               rw [mQ h5]
             · cases hx
           · rename_i T o
             split at hx
             · rename_i T' o'
               simp only [Bool.and_eq_true, decide_eq_true_eq] at hx
               obtain ⟨rfl, rfl⟩ := hx
               exact hv
             · cases hx
           · rename_i k
             split at hx
             · simp only [decide_eq_true_eq] at hx
               subst hx
               exact hv
             · simp only [Bool.and_eq_true, decide_eq_true_eq] at hx
               obtain ⟨⟨rfl, h6⟩, h7⟩ := hx
               exact ⟨_, hv.1, hv.2, h6, h7⟩
             · cases hx
           · rename_i o
             simp only [decide_eq_true_eq] at hx
             subst hx
             exact hv
           · rename_i k n
             simp only [decide_eq_true_eq] at hx
             subst hx
             exact hv
           · rename_i k n
             simp only [decide_eq_true_eq] at hx
             subst hx
             exact hv
           · rename_i k
             exact nX hBb hx hv
           · cases hx
         · cases hx
       · cases hx
     have hpre : dL kd (bQ kd cx.sh s (args.map a.eval) w) w B N s.pre := fun i T o t ht => by
       rw [List.all_eq_true] at hc4
       have hx := hc4 _ (Hm.at_mem ht)
       simp only [vW] at hx
       split at hx
       · rename_i T1 o1 g1 x h1 h2
         split at hx
         · rename_i T2 o2 m h3
           simp only [Bool.and_eq_true, decide_eq_true_eq] at hx
           obtain ⟨⟨⟨rfl, rfl⟩, hfree⟩, hx⟩ := hx
           split at hx
           · rename_i t' ht'
             obtain ⟨k1, k2, k3, v, k4, k5⟩ := hH m T o t' ht'
             obtain ⟨b, r, e, h5, h6, h7⟩ := dF x _ h3
             simp only [tY] at h7
             have hpi : (bQ kd cx.sh s (args.map a.eval) w).ps i = cx.ps m := by
               rw [h7.1]
               simp only [bQ, l8, h1, Array.getElem?_map, h2, Option.map_some, e]
               rw [mQ h5]
             rw [hpi]
             exact ⟨Nat.lt_of_lt_of_le k1 hb, k2, k3, v, k4, gZ hsh.symm hfree (AQ hBb hx k5)⟩
           · cases hx
         · cases hx
       · cases hx
     refine .inr (.inr ⟨f, args.map a.eval, w, ?_, (hT N w (args.map a.eval) (by simpa using hc1.1) hB hlim hw hG hps hpre).mono ?_⟩)
     · simp [execOp, resolve, Act.eval, Deferred.ofValue, invoke, run_callFunc_enter hfn hname hbody]
     · rintro e w' ⟨v, rfl, g1, g2, g3, g5⟩
       have g4 : Eff (dC B kd cx (s.aS.flatMap (jH od args))) w w' := g2.iI fun k c T f j hk hj => JU hps dF hc2 hk hj
       refine ⟨v, rfl, ⟨g1, he'.trans (g4.mono fun k T j _ hcc => rY ZR hcc), g4, fun t e => ?_⟩, fun e he => ?_⟩
       · cases e
         exact gZ hsh hc3 g3
       · simp only [Ic, hs, List.mem_filterMap] at he
         obtain ⟨⟨⟨i, U, o⟩, t⟩, hm, hx⟩ := he
         unfold aaF at hx
         split at hx
         · rename_i T1 o1 g1' x h1 h2
           split at hx
           · rename_i T2 o2 m h3
             split at hx
             · rename_i hcc
               cases hx
               simp only [Bool.and_eq_true, decide_eq_true_eq] at hcc
               obtain ⟨⟨⟨rfl, rfl⟩, hfree⟩, hat⟩ := hcc
               obtain ⟨k1, k2, k3, v', k4, k5⟩ := g5 i _ o t hat
               obtain ⟨b, r, e, h5, h6, h7⟩ := dF x _ h3
               simp only [tY] at h7
               have hpi : (bQ kd cx.sh s (args.map a.eval) w).ps i = cx.ps m := by
                 rw [h7.1]
                 simp only [bQ, l8, h1, Array.getElem?_map, h2, Option.map_some, e]
                 rw [mQ h5]
               rw [hpi] at k3 k4
               exact ⟨by rw [h7.1]; exact h7.2, k2, k3, v', k4, gZ hsh hfree k5⟩
             · cases hx
           · cases hx
         · cases hx
   · cases h
 · cases h
theorem adV {ev : Ev} {H : Hm} {D : List EI} {a : Act} {o : Oper} {r : Option AT} {inc : Nat} (h : q9 P kd ev FT E H od o.op = some (r, inc, D)) (gH : ∀ f s, FT f = some s → au P f ∧ TC P kd cx.sh B G f s) (hev : rA ev cx G) (hH : dL kd cx w B N H)
   (hod : ∀ K x t, od K x = some t → (∀ q ∈ K, a.eval (.tmp q.1) = .bool q.2) → bD kd cx w B N t (a.eval x))
   (hw : WT kd.sig B N w) (he' : Eff (dC B kd cx E) w0 w) (hb : cx.base ≤ w.heap.size) (hBb : B ≤ cx.base) (hG : G w) (hlim : N + inc ≤ 68719476736) : D.all (lU kd E) = true ∧ nL P a o w (Left kd cx E D B w0 w r (N + inc)) := by
 have hB : B ≤ w.heap.size := Nat.le_trans hBb hb
 have dF : ∀ x t, od [] x = some t → bD kd cx w B N t (a.eval x) := fun x t hx => hod [] x t hx (by simp)
 obtain ⟨dst, op, ty, pos, after, guard⟩ := o
 simp only at h
 unfold q9 at h
 split at h
 · -- move
   rename_i x
   cases hx : od [] x with
   | none => rw [hx] at h; cases h
   | some t => rw [hx] at h; cases h; refine ⟨rfl, ?_⟩; exact .inl ⟨_, w, by simp [execOp], eF hw he' (dF x t hx)⟩
 · rename_i x
   split at h
   · rename_i t hx
     cases h; refine ⟨rfl, ?_⟩; exact .inl ⟨_, w, rfl, eF hw he' (dF _ t hx)⟩
   · cases h
     refine ⟨rfl, ?_⟩; exact .inl ⟨_, w, rfl, hw, he', Eff.refl _ _, fun t e => by cases e⟩
   · cases h
 · -- pick
   rename_i g x y
   split at h
   · rename_i hc
     cases h1 : od [(g, true)] x with
     | none => rw [h1] at h; cases h
     | some t =>
       rw [h1] at h; cases h
       have hq : a.eval (.tmp g) = .bool true := dF _ _ hc
       refine ⟨rfl, ?_⟩; exact .inl ⟨_, w, by simp [execOp, hq, asBool], eF hw he' (hod _ _ _ h1 (by simpa using hq))⟩
   · rename_i hc
     cases h1 : od [(g, false)] y with
     | none => rw [h1] at h; cases h
     | some t =>
       rw [h1] at h; cases h
       have hq : a.eval (.tmp g) = .bool false := dF _ _ hc
       refine ⟨rfl, ?_⟩; exact .inl ⟨_, w, by simp [execOp, hq, asBool], eF hw he' (hod _ _ _ h1 (by simpa using hq))⟩
   · rename_i hc
     split at h
     · rename_i t u h1 h2
       cases hj : uR t u with
       | none => rw [hj] at h; cases h
       | some z =>
         rw [hj] at h; cases h
         obtain ⟨q, hq⟩ := dF _ _ hc
         refine ⟨rfl, ?_⟩; refine .inl ⟨_, w, by simp [execOp, hq, asBool]; rfl, eF hw he' ?_⟩
         cases q with
         | true => exact acZ hj (hod _ _ _ h1 (by simpa using hq))
         | false => exact adp hj (hod _ _ _ h2 (by simpa using hq))
     · cases h
   · cases h
 · -- alloc
   rename_i T
   split at h
   · rename_i k z hk hz
     split at h
     · rename_i hc
       simp only [Bool.and_eq_true, decide_eq_true_eq] at hc
       cases h
       cases hi : P.info? T with
       | none => rw [hi] at hz; cases hz
       | some i =>
         rw [hi] at hz
         simp only [Option.bind_some] at hz
         have := Nu (cx := cx) (E := E) (w0 := w0) (Kd.uV hk) hc.2 hb hB hw he' (fJ hc.1 w)
         refine ⟨rfl, ?_⟩; refine .inl ⟨_, _, ?_, this⟩
         simp [execOp, Instr.alloc, zeroValue, typeInfo, hi, hz, newVar, newRow]
     · cases h
   · cases h
 · -- box
   rename_i T x
   split at h
   · rename_i k t hk hx
     split at h
     · rename_i hc
       simp only [Bool.and_eq_true, decide_eq_true_eq] at hc
       cases h
       have hv := nX hBb hc.1 (dF x t hx)
       have := Nu (cx := cx) (E := E) (w0 := w0) (Kd.uV hk) hc.2 hb hB hw he' hv.cells
       refine ⟨rfl, ?_⟩; exact .inl ⟨_, _, by simp [execOp, Instr.box, newVar, newRow], this⟩
     · cases h
   · cases h
 · -- build
   rename_i T parts
   split at h
   · rename_i L z fields hk hz hu
     split at h
     · rename_i places hp
       split at h
       · rename_i hc
         simp only [Bool.and_eq_true, Array.all_eq_true_iff_forall_mem, List.all_eq_true] at hc
         cases h
         cases hi : P.info? T with
         | none => rw [hi] at hz; cases hz
         | some i =>
           rw [hi] at hz
           simp only [Option.bind_some] at hz
           obtain ⟨out, e1, e2⟩ := G9 (w := w) (B := B) (N := N) (place := fun i => places.toArray[i]?) (L := L) ((parts.map fun (i, x) => (i, a.eval x)).toList) z.cells (fJ hc.1 w) (fun p hp' => by
             simp only [Array.toList_map, List.mem_map] at hp'
             obtain ⟨⟨i, x⟩, hm, rfl⟩ := hp'
             have hq := hc.2 (i, x) hm
             simp only [xw] at hq
             split at hq
             · rename_i off n k h1 h2
               simp only [Bool.and_eq_true, decide_eq_true_eq] at hq
               cases hox : od [] x with
               | none => rw [hox] at h2; cases h2
               | some t =>
                 rw [hox] at h2
                 exact ⟨off, k.cells, by simp [h1, hq.1], hq.2, (oz hBb h2 (dF x t hox)).cells⟩
             · cases hq)
           have ahO : P.built T (parts.map fun (i, x) => (i, a.eval x)).toList = some out := by
             unfold Program.built
             unfold placesOf at hp
             simp only [hi, hu, hz, hp]
             exact e1
           refine ⟨rfl, ?_⟩; refine .inl ⟨_, w, by simp only [execOp, Sem.run_bind, run_build w T _ out ahO, Result.andThen_ok]; rfl, eF hw he' ?_⟩
           split
           · rename_i n hn
             refine ⟨out.toList, by simp, e2, n, List.mem_singleton_self n, ?_⟩
             have h0 := acf (kd := kd) (cx := cx) (w := w) (B := B) (N := N) hn dF (by
               by_cases h0 : 0 < z.cells.size
               · exact h0
               · exfalso
                 have hz0 : z.cells = #[] := Array.eq_empty_of_size_eq_zero (by omega)
                 have hL := (fJ hc.1 w (B := B) (N := N)).len
                 have h2 := e2.len
                 rw [hz0] at hL
                 have : out = #[] := Array.eq_empty_of_size_eq_zero (by simp at hL; rw [hL] at h2; simpa using h2.symm)
                 subst this
                 unfold Gw at hn
                 rw [hz0] at hn
                 split at hn
                 · cases hn
                 · split at hn
                   · rename_i x rest heq
                     split at hn
                     · rename_i hcc
                       simp only [Bool.and_eq_true, decide_eq_true_eq] at hcc
                       have hq := hc.2 (0, x) (by rw [heq]; simp)
                       simp only [xw, hcc.2] at hq
                       split at hq
                       · rename_i off m k g1 g2
                         cases g1
                         simp only [Bool.and_eq_true, decide_eq_true_eq] at hq
                         have := (oH hq.2).1
                         rw [← hq.1, hL] at this
                         simp at this
                       · cases hq
                     · cases hn
                   · cases hn) e1
             simpa using h0
           · exact ⟨out.toList, by simp, e2⟩
       · cases h
     · cases h
   · cases h
 · -- load
   rename_i T x
   split at h
   · rename_i U q g k hx hk
     split at h
     · rename_i hc
       simp only [Bool.and_eq_true] at hc
       cases ho : Gh kd ev H U q g k with
       | none => rw [ho] at h; cases h
       | some t =>
         rw [ho] at h; cases h
         obtain ⟨v, e, hv⟩ := af9 hw hH hev hG (dF x _ hx) hc.1 hc.2 ho
         refine ⟨rfl, ?_⟩; exact .inl ⟨v, w, by simp [execOp, e], eF hw he' hv⟩
     · cases h
   · cases h
 · -- store
   rename_i T x y
   split at h
   · rename_i U q g k hx hy
     split at h
     · rename_i hc
       simp only [Bool.and_eq_true, decide_eq_true_eq] at hc
       cases h
       obtain ⟨t, hy', hy⟩ := Option.bind_eq_some_iff.1 hy
       obtain ⟨w', e, g1, g2, -⟩ := tF (P := P) (T := T) hw (dF x _ hx) (oz hBb hy (dF y t hy')) hc.1.1 hc.1.2 rfl
       exact ⟨hc.2, .inr (.inl ⟨w', by simp [execOp, e], g1, he'.trans (g2.mono fun k T j _ hcc => rY hc.2 hcc), g2, fun t e => by cases e⟩)⟩
     · cases h
   · cases h
 · -- nilCheck
   rename_i x
   split at h
   · rename_i U q g hx
     cases h
     have hv := dF x _ hx
     obtain ⟨b, r, e, -⟩ := id hv
     refine ⟨rfl, ?_⟩; exact .inl ⟨a.eval x, w, by simp [execOp, e], eF hw he' hv⟩
   · cases h
 · -- binOp
   rename_i op T x y U
   split at h
   · rename_i s t hx hy
     cases hj : Ll op s t with
     | none => rw [hj] at h; cases h
     | some z =>
       rw [hj] at h; cases h
       obtain ⟨v, e, hv⟩ := Yg (P := P) (T := T) (x := x) (y := y) hj (dF x _ hx) (dF y _ hy)
       refine ⟨rfl, ?_⟩; exact .inl ⟨v, w, by simp only [execOp, Sem.run_bind] at e ⊢; rw [e]; rfl, eF hw he' hv⟩
   · cases h
 · -- unOp
   rename_i op T x
   split at h
   · rename_i s hx
     cases hj : Xb op s with
     | none => rw [hj] at h; cases h
     | some z =>
       rw [hj] at h; cases h
       obtain ⟨v, e, hv⟩ := aev (P := P) hj (dF x _ hx)
       refine ⟨rfl, ?_⟩; exact .inl ⟨v, w, by simp [execOp, e], eF hw he' hv⟩
   · cases h
 · -- convert
   rename_i S T x
   split at h
   · rename_i k0 d k hx hS hT
     cases h
     cases ho : od [] x with
     | none => rw [ho] at hx; cases hx
     | some t =>
       rw [ho] at hx
       obtain ⟨n, e, hn⟩ := iX hx (dF x t ho)
       refine ⟨rfl, ?_⟩; exact .inl ⟨.int k (k.wrap n), w, by simp [execOp, convert, run_underlying hS, run_underlying hT, e, Conv.intToInt], eF hw he' ⟨_, rfl, gP _ _⟩⟩
   · cases h
 · -- fieldAddr
   rename_i S x f
   split at h
   · rename_i U q g fields hx hS
     split at h
     · rename_i fd hf
       split at h
       · rename_i n hn
         split at h
         · rename_i hc
           simp only [Bool.and_eq_true, decide_eq_true_eq] at hc
           cases h
           obtain ⟨b, r, e, h1, h2, h3⟩ := dF x _ hx
           cases hi : P.info? fd.type with
           | none => rw [hi] at hn; cases hn
           | some i =>
             rw [hi] at hn
             simp only [Option.map_some, Option.some.injEq] at hn
             have hi0 : i.size ≠ 0 := by omega
             refine ⟨rfl, ?_⟩; refine .inl ⟨.pointer (some ⟨b, r * kd.sz U + (q + fd.offset), none⟩), w, ?_, eF hw he' ⟨b, r, rfl, hc.2, h2, h3⟩⟩
             simp [execOp, Instr.fieldAt, run_underlying hS, hf, e, Instr.sureAddr, fieldPlace, sizeOf, typeInfo, hi, hi0, Addr.add_mid, Nat.add_assoc]
         · cases h
       · cases h
     · cases h
   · cases h
 · -- indexAddr
   rename_i T x ix
   split at h
   · rename_i o e sz o' e' hx hi hT
     split at h
     · rename_i hc
       simp only [Bool.and_eq_true, decide_eq_true_eq] at hc
       obtain ⟨⟨⟨⟨rfl, rfl⟩, hsz⟩, h0⟩, BQ⟩ := hc
       cases h
       obtain ⟨hv, n, xs, hn, hl, hh⟩ := dF x _ hx
       obtain ⟨z, hz, hzl, -⟩ := dF ix _ hi
       rw [← hv] at hzl
       rcases hh with ⟨hnil, rfl⟩ | ⟨b, cap, cur, hsv, q1, q2, q3, q4, q5, q6⟩
       · rw [hnil] at hzl; simp [bO] at hzl
       · rw [hsv] at hzl
         simp only [bO] at hzl
         cases hii : P.info? e with
         | none => rw [hii] at BQ; cases BQ
         | some i =>
           rw [hii] at BQ
           simp only [Option.map_some, Option.some.injEq] at BQ
           have hz1 : (z : Int) < (n : Int) := by omega
           refine ⟨rfl, ?_⟩; refine .inl ⟨.pointer (some ⟨b, z * kd.sz e + 0, none⟩), w, ?_, eF hw he' ⟨b, z, rfl, by omega, ⟨cur, q1, q2, ?_⟩, trivial⟩⟩
           · simp [execOp, Instr.indexAt, hz, hsv, asIntOf, run_underlying hT, sizeOf, typeInfo, hii, BQ, hsz, Addr.add_mid, hzl]
           · rw [q5, ← hsz]; exact Nat.mul_le_mul_right _ (by omega)
     · cases h
   · cases h
 · -- slice
   rename_i T x y
   split at h
   · rename_i j e s j' e' hx hy hT
     split at h
     · rename_i hc
       simp only [Bool.and_eq_true, decide_eq_true_eq] at hc
       obtain ⟨⟨rfl, rfl⟩, BQ⟩ := hc
       cases h
       obtain ⟨hv, ⟨n, xs, hn, hl, hh⟩, h0⟩ := dF x _ hx
       obtain ⟨m, hm, Oo, -⟩ := dF y _ hy
       rw [← hv] at Oo
       rcases hh with ⟨hnil, rfl⟩ | ⟨b, cap, cur, hsv, q1, q2, q3, q4, q5, q6⟩
       · rw [hnil] at h0; simp [bO] at h0
       · rw [hsv] at Oo
         simp only [bO] at Oo
         obtain ⟨i, hi⟩ := Option.isSome_iff_exists.1 BQ
         have hel : P.elem T = e := by simp [Program.elem, hT]
         have hT' : P.underlying T = some (.slice (P.elem T)) := by rw [hel]; exact hT
         refine ⟨rfl, ?_⟩
         refine .inl ⟨.slice (some ⟨b, 0, none⟩) m cap, w, ?_, eF hw he' ⟨m, cur.toList.take (m * s), by omega, ?_, .inr ⟨b, cap, cur, rfl, q1, q2, by omega, q4, q5, rfl⟩⟩⟩
         · have hmc : m ≤ cap := by omega
           have r1 := run_sliceAt_slice (P := P) (w := w) (t := T) (x := .slice (some ⟨b, 0, none⟩) n cap) (lo := none) (hi := some (.int .i64 (m : Int))) (mx := none) hT'
           have r2 := run_slice_h (P := P) (w := w) (t := T) (a := some ⟨b, 0, none⟩) (len := n) (cap := cap) hT' .i64 (m : Int) (by omega) (by omega)
           simp only [execOp, hm, hsv, Option.map_some, Option.map_none]
           simp [r1, r2, sizeOf, typeInfo, hel, hi, sliced, Addr.add]
         · have := Nat.mul_le_mul_right s (show m ≤ cap by omega)
           rw [List.length_take, Array.length_toList]
           omega
     · cases h
   · cases h
 · -- extract
   rename_i x i
   split at h
   · rename_i l hx
     split at h
     · rename_i k hk
       cases ho : zQ kd k with
       | none => rw [ho] at h; cases h
       | some t =>
         rw [ho] at h; cases h
         obtain ⟨xs, e, hxs⟩ := dF x _ hx
         obtain ⟨v, hv, hv2⟩ : ∃ v, xs[i]? = some v ∧ mI w B N k v := by
           clear e hx
           induction l generalizing xs i with
           | nil => simp at hk
           | cons k' l ih => cases xs with
             | nil => exact hxs.elim
             | cons y ys => cases i with
               | zero => simp at hk; subst hk; exact ⟨y, rfl, hxs.1⟩
               | succ i => exact ih i (by simpa using hk) ys hxs.2
         refine ⟨rfl, ?_⟩; exact .inl ⟨v, w, by simp [execOp, Instr.extract, e, hv], eF hw he' (Jg ho hv2)⟩
     · cases h
   · cases h
 · -- call
   rename_i f args oO
   obtain ⟨q1, q2⟩ := Uf (a := a) (dst := dst) (ty := ty) (pos := pos) (after := after) (guard := guard) (oO := oO) (w0 := w0) (E := E) (cx := cx) h gH hH dF hw he' hb hBb hG hlim
   exact ⟨q1, q2.mono fun v w' hl => hl.1⟩
 · -- len
   rename_i x T
   split at h
   · rename_i E' s' e' hx hT
     cases h
     obtain ⟨t, ht, hx⟩ := Option.bind_eq_some_iff.1 hx
     obtain ⟨n, xs, hn, hl, hh⟩ := oz hBb hx (dF x t ht)
     have hm : n ≤ maxLen ∧ ∃ ao cap, a.eval x = .slice ao n cap := by
       rcases hh with ⟨e, rfl⟩ | ⟨b, cap, cur, e, _, _, h1, h2, _⟩
       · exact ⟨Nat.zero_le _, none, 0, e⟩
       · exact ⟨Nat.le_trans h1 h2, _, cap, e⟩
     obtain ⟨hm, ao, cap, e⟩ := hm
     refine ⟨rfl, ?_⟩; refine .inl ⟨.int .i64 n, w, by simp [execOp, resolve, invoke, builtin, Builtin.len_, run_underlying hT, e, goInt], eF hw he' ?_⟩
     have hv0 := dF x t ht
     rw [ht]
     unfold afQ
     split
     · rename_i o E2 s2 heq
       cases heq
       have e3 : a.eval x = cx.el o := hv0.1
       have e4 : bO (cx.el o) = n := by rw [← e3, e]; rfl
       exact ⟨by rw [e4], by rw [e4]; omega⟩
     · rename_i j E2 s2 heq
       cases heq
       have e3 : a.eval x = cx.vals j := hv0.1
       have e4 : bO (cx.vals j) = n := by rw [← e3, e]; rfl
       have h0 : 0 < bO (a.eval x) := hv0.2.2
       rw [e3, e4] at h0
       exact ⟨n - 1, by congr 1; omega, by rw [e4]; omega, by omega⟩
     refine ⟨n, rfl, ?_⟩
     unfold maxLen at hm
     have e1 : IntKind.i64.min = -9223372036854775808 := by decide
     have e2 : IntKind.i64.max = 9223372036854775807 := by decide
     unfold bB
     rw [e1, e2]
     omega
   · cases h
 · -- buildSlice
   rename_i T len parts
   split at h
   · rename_i e i z L he
     obtain ⟨hu, hi, hz, hL, hsz, hby, ig, h0, h1k⟩ := Bp he
     have hzl : L.length = z.cells.size := by simpa using (fJ (B := B) (N := N) ig w).len
     split at h
     · split at h
       · rename_i hp
         cases h
         have hpe : parts.toList = [] := by simpa using hp
         refine ⟨rfl, ?_⟩; refine .inl ⟨.slice (some ⟨w.heap.size, 0, none⟩) 0 0, w.alloc (.cells #[] e), ?_, hw.alloc hL ⟨⟨0, by simp⟩, fun i v hi => by simp at hi⟩, he'.alloc _, Eff.bL _ _ _, fun t e => ?_⟩
         · obtain ⟨parts⟩ := parts
           simp only at hpe
           subst hpe
           simp [execOp, Instr.buildSlice, run_underlying hu, sizeOf, typeInfo, hi, Instr.fill, newRow]
           congr 2
           apply Array.eq_empty_of_size_eq_zero
           simp
         · cases e
           exact ⟨w.heap.size, #[], rfl, hb, blk_alloc_new _ _, by simp, Nat.zero_le _, Nat.zero_le _⟩
       · cases h
     · split at h
       · rename_i hp
         cases h
         rw [List.all_eq_true] at hp
         obtain ⟨out, e1, e2⟩ := G9 (w := w) (B := B) (N := N) (place := fun k => some (k * i.size, i.size)) (L := L) ((parts.map fun (k, x) => (k, a.eval x)).toList) z.cells (fJ ig w) (fun p hp' => by
           simp only [Array.toList_map, List.mem_map] at hp'
           obtain ⟨⟨k, x⟩, hm, rfl⟩ := hp'
           have hq := hp (k, x) hm
           simp only [xw] at hq
           split at hq
           · rename_i off n kk h1 h2
             simp only [Bool.and_eq_true, decide_eq_true_eq] at hq
             cases k with
             | succ k => simp at h1
             | zero =>
               simp at h1
               obtain ⟨rfl, rfl⟩ := h1
               obtain ⟨t, ht, h3⟩ := Option.bind_eq_some_iff.1 h2
               exact ⟨0, kk.cells, by simp [hsz, hq.1], hq.2, (oz hBb h3 (dF x t ht)).cells⟩
           · cases hq)
         have hol : out.size = L.length := by simpa using e2.len.symm
         refine ⟨rfl, ?_⟩; refine .inl ⟨.slice (some ⟨w.heap.size, 0, none⟩) 1 1, w.alloc (.cells out e), ?_, ?_, he'.alloc _, Eff.bL _ _ _, fun t e => ?_⟩
         · have hbig : ¬ (16777216 < i.size) := by omega
           have hne : ¬ (i.size = 0) := by omega
           have hrg : (Array.range i.size).map (fun k => z.cells[k % z.cells.size]!) = z.cells := by
             apply Array.ext_getElem?
             intro k
             rw [Array.getElem?_map, Array.getElem?_range, hsz, hzl]
             split
             · rename_i hk
               rw [Option.map_some, Nat.mod_eq_of_lt hk, getElem!_pos z.cells k hk, Array.getElem?_eq_getElem hk]
             · rename_i hk
               rw [Array.getElem?_eq_none (by omega)]; rfl
           have e1' := e1
           rw [← hrg] at e1'
           simp only [Array.toList_map] at e1'
           simp [execOp, Instr.buildSlice, run_underlying hu, sizeOf, typeInfo, hi, hbig, hne, zeroValue, hz, newRow]
           simp [hrg] at e1' ⊢
           rw [e1']
           rfl
         · exact (hw.mono (Nat.le_add_right N 1)).alloc hL ((by simpa using aT.one e2 : aT w B N L out).mono (Eff.refl (fun _ _ _ => False) w) (Nat.le_add_right N 1))
         · cases e
           exact ⟨w.heap.size, out, rfl, hb, blk_alloc_new _ _, by rw [Nat.one_mul]; exact hol, by omega, Nat.le_refl _⟩
       · cases h
     · cases h
   · cases h
 · -- append
   rename_i x y T T'
   split at h
   · rename_i eT
     subst eT
     split at h
     · rename_i e i z L s t hee hx hy
       obtain ⟨hu, hi, hz, hL, hsz, hby, ig, h0, h1k⟩ := Bp hee
       cases hap : Lx kd E e L s t with
       | none => rw [hap] at h; cases h
       | some r' =>
         rw [hap] at h
         obtain ⟨u, m, D'⟩ := r'
         cases h
         obtain ⟨v, w', hr, gD, g1, g2, g3⟩ := aiJ (ty := ty) hap hu hi hz hsz hby ig hL h0 hBb hb hw he' hlim (dF x s hx) (dF y t hy)
         refine ⟨gD, ?_⟩; refine .inl ⟨v, w', ?_, g1, g2, g3⟩
         simp [execOp, resolve, invoke, builtin, hr]
     · cases h
   · cases h
 · -- max
   rename_i x y oO
   split at h
   · rename_i s t hx hy
     split at h
     · rename_i k l h1 h2
       split at h
       · rename_i ekl
         subst ekl
         have qf := dF x _ hx
         have hvy := dF y _ hy
         obtain ⟨m, e1, hm⟩ := iX h1 qf
         obtain ⟨n, e2, hn⟩ := iX h2 hvy
         have hrun : (execOp a.eval ⟨dst, .call ⟨.builtin .max, ⟨[x, y]⟩, oO⟩, ty, pos, after, guard⟩).run P w = .ok (.value (.int k (if n > m then n else m))) w := by
           simp [execOp, resolve, invoke, builtin, Builtin.max_, Builtin.max2, e1, e2]
         cases h
         refine ⟨rfl, ?_⟩; refine .inl ⟨_, w, hrun, eF hw he' ?_⟩
         split
         · rename_i hp
           simp only [Bool.or_eq_true] at hp
           refine ⟨_, rfl, by split <;> assumption, ?_⟩
           rcases hp with hp | hp
           · obtain ⟨k', m', e, hpp⟩ := Di hp qf
             rw [e1] at e; cases e
             split <;> omega
           · obtain ⟨k', m', e, hpp⟩ := Di hp hvy
             rw [e2] at e; cases e
             split <;> omega
         · exact ⟨_, rfl, by split <;> assumption⟩
       · cases h
     · cases h
   · cases h
 · cases h
def F4 (kd : Kd) (od : Od) : Op → Option ((Nat × Nat × Nat) × AT)
 | .store T x y => match od [] x, od [] y, (od [] y).bind (zX kd) with
   | some (.ptr U q (.par i)), some t, some (.c _) => some ((i, U, q), t)
   | some (.ptr U q (.par i)), some _, some (.ak _ ks) => some ((i, U, q), .hd ks)
   | _, _, _ => none
 | _ => none
theorem dL.cons {H : Hm} {e : (Nat × Nat × Nat) × AT} (h : dL kd cx w B N H) (he : ng kd cx w B N e) : dL kd cx w B N (e :: H) := by
 intro i T o t ht
 obtain ⟨⟨j, U, q⟩, u⟩ := e
 simp only [Hm.at] at ht
 cases hb : (Nat.beq j i && Nat.beq U T && Nat.beq q o) with
 | true =>
   rw [hb] at ht
   cases ht
   simp only [Bool.and_eq_true] at hb
   obtain ⟨⟨h1, h2⟩, h3⟩ := hb
   rw [← Nat.eq_of_beq_eq_true h1, ← Nat.eq_of_beq_eq_true h2, ← Nat.eq_of_beq_eq_true h3]
   exact he
 | false => rw [hb] at ht; exact h i T o t ht
theorem zT {b : Nat} {T : TypeId} {f : Nat × Nat} : ∀ (vs : List Value) (i : Nat) (w : World) (c : Array Value), w.heap[b]? = some (.cells c T f) → ∃ c', (w.setCells b i vs).heap[b]? = some (.cells c' T f) ∧ ∀ j, j < i → c'[j]? = c[j]?
 | [], i, w, c, h => ⟨c, h, fun _ _ => rfl⟩
 | v :: r, i, w, c, h => by
   obtain ⟨c', h1, h2⟩ := zT r (i + 1) (w.setCell ⟨b, i, none⟩ v) _ (aR h i v)
   refine ⟨c', h1, fun j hj => ?_⟩
   rw [h2 j (by omega), Array.getElem?_setIfInBounds_ne (by omega)]
theorem IG {b i : Nat} {T : TypeId} {f : Nat × Nat} {v : Value} {r : List Value} {c : Array Value} (h : w.heap[b]? = some (.cells c T f)) (hi : i < c.size) : (w.setCells b i (v :: r)).cell? ⟨b, i, none⟩ = some v := by
 obtain ⟨c', h1, h2⟩ := zT r (i + 1) (w.setCell ⟨b, i, none⟩ v) _ (aR h i v)
 have : (w.setCells b i (v :: r)) = (w.setCell ⟨b, i, none⟩ v).setCells b (i + 1) r := rfl
 rw [this, aa h1, h2 i (by omega), Array.getElem?_setIfInBounds_self_of_lt hi]
theorem Kw {ev : Ev} {H : Hm} {D : List EI} {a : Act} {o : Oper} {r : Option AT} {inc : Nat} (h : q9 P kd ev FT E H od o.op = some (r, inc, D)) (gH : ∀ f s, FT f = some s → au P f ∧ TC P kd cx.sh B G f s) (hev : rA ev cx G) (hH : dL kd cx w B N H)
   (hod : ∀ K x t, od K x = some t → (∀ q ∈ K, a.eval (.tmp q.1) = .bool q.2) → bD kd cx w B N t (a.eval x))
   (hw : WT kd.sig B N w) (he' : Eff (dC B kd cx E) w0 w) (hb : cx.base ≤ w.heap.size) (hBb : B ≤ cx.base) (hG : G w) (hlim : N + inc ≤ 68719476736) :
   D.all (lU kd E) = true ∧ nL P a o w (fun v w' => Left kd cx E D B w0 w r (N + inc) v w' ∧ ∀ e, F4 kd od o.op = some e → ng kd cx w' B (N + inc) e) := by
 cases hu : F4 kd od o.op with
 | none =>
   obtain ⟨h1, h2⟩ := adV h gH hev hH hod hw he' hb hBb hG hlim
   exact ⟨h1, h2.mono fun v w' hl => ⟨hl, fun e he => by cases he⟩⟩
 | some en =>
   obtain ⟨dst, op, ty, pos, after, guard⟩ := o
   simp only at h hu
   unfold F4 at hu
   split at hu
   · rename_i T x y
     split at hu
     · rename_i U q i t ck hx hy hk
       cases hu
       have dF : ∀ x t, od [] x = some t → bD kd cx w B N t (a.eval x) := fun x t hx => hod [] x t hx (by simp)
       simp only [q9, hx, hy, Option.bind_some] at h
       split at h
       · rename_i U' q' g' k heq hvk
         cases heq
         split at h
         · rename_i hc
           simp only [Bool.and_eq_true, decide_eq_true_eq] at hc
           cases h
           have hyv := oz hBb hvk (dF y t hy)
           obtain ⟨w', e, g1, g2, b, r, hxp, hw'⟩ := tF (P := P) (T := T) hw (dF x _ hx) hyv hc.1.1 hc.1.2 rfl
           refine ⟨hc.2, .inr (.inl ⟨w', by simp [execOp, e], ⟨g1, he'.trans (g2.mono fun k T j _ hcc => rY hc.2 hcc), g2, fun t e => by cases e⟩, fun en' hen => ?_⟩)⟩
           cases hen
           obtain ⟨b', r', e1, h5, h6, h7, h8⟩ := dF x _ hx
           rw [hxp] at e1
           simp only [Value.pointer.injEq, Option.some.injEq, Addr.mk.injEq, and_true] at e1
           obtain ⟨rfl, hoff⟩ := e1
           refine ⟨by rw [h7]; exact h8, h5, by rw [h7]; exact h6.mono g2, a.eval y, ?_, (dF y t hy).mono g2 (Nat.le_add_right _ _)⟩
           rw [h7]
           simp only
           have hone : (a.eval y).cells = #[a.eval y] := by
             cases k with
             | agg L =>
               rw [hy] at hk
               simp only [Option.bind_some] at hk
               rw [hk] at hvk
               cases hvk
             | ak L ks =>
               rw [hy] at hk
               simp only [Option.bind_some] at hk
               rw [hk] at hvk
               cases hvk
             | bk b =>
               rw [hy] at hk
               simp only [Option.bind_some] at hk
               rw [hk] at hvk
               cases hvk
             | c ck' =>
               cases ck' with
               | int k => obtain ⟨n, e, _⟩ := hyv; rw [e]; rfl
               | bool => obtain ⟨n, e⟩ := hyv; rw [e]; rfl
               | sl E s => obtain ⟨n, xs, _, hl, ⟨e, _⟩ | ⟨b, cap, cur, e, _⟩⟩ := hyv <;> (rw [e]; rfl)
               | ptr T s => obtain ⟨b, i, c, e, _⟩ := hyv; rw [e]; rfl
               | np => obtain ⟨a, e⟩ := hyv; rw [e]; rfl
           rw [hw', hone, ← hoff]
           obtain ⟨c, -, hcb, hcs⟩ := h6
           show (w.setCell ⟨b, r * kd.sz U + q, none⟩ (a.eval y)).cell? _ = _
           rw [aa (aR hcb _ _), Array.getElem?_setIfInBounds_self_of_lt]
           rw [hoff]
           rw [Nat.add_mul] at hcs
           omega
         · cases h
       · cases h
     · rename_i U q i t0 L' ks hx hy hk
       cases hu
       have dF : ∀ x t, od [] x = some t → bD kd cx w B N t (a.eval x) := fun x t hx => hod [] x t hx (by simp)
       simp only [q9, hx, hy, Option.bind_some] at h
       rw [hy] at hk
       simp only [Option.bind_some] at hk
       rw [hk] at h
       simp only at h
       split at h
       · rename_i hc
         simp only [Bool.and_eq_true, decide_eq_true_eq] at hc
         cases h
         have hyv := oz hBb hk (dF y _ hy)
         obtain ⟨w', e, g1, g2, b, r, hxp, hw'⟩ := tF (P := P) (T := T) hw (dF x _ hx) hyv hc.1.1 hc.1.2 rfl
         refine ⟨hc.2, .inr (.inl ⟨w', by simp [execOp, e], ⟨g1, he'.trans (g2.mono fun k T j _ hcc => rY hc.2 hcc), g2, fun t e => by cases e⟩, fun en' hen => ?_⟩)⟩
         cases hen
         obtain ⟨b', r', e1, h5, h6, h7, h8⟩ := dF x _ hx
         rw [hxp] at e1
         simp only [Value.pointer.injEq, Option.some.injEq, Addr.mk.injEq, and_true] at e1
         obtain ⟨rfl, hoff⟩ := e1
         obtain ⟨cs, hcs, -, n, hn, hh⟩ := hyv
         obtain ⟨v0, l0, rfl⟩ : ∃ v0 l0, cs = v0 :: l0 := by
           cases cs with
           | nil => simp at hh
           | cons v0 l0 => exact ⟨v0, l0, rfl⟩
         refine ⟨by rw [h7]; exact h8, h5, by rw [h7]; exact h6.mono g2, v0, ?_, n, hn, by simpa using hh⟩
         rw [h7]
         simp only
         rw [hw', hcs, ← hoff]
         obtain ⟨c, -, hcb, hcs'⟩ := h6
         refine IG hcb ?_
         rw [hoff]
         rw [Nat.add_mul] at hcs'
         omega
       · cases h
     · cases hu
   · cases hu
def jI (kd : Kd) (FT : FuncId → Option aj) (od : Od) : Op → Hm
 | .call ⟨.value (.func f), args, _⟩ => Ic od FT f args
 | op => (F4 kd od op).toList
theorem dL.append {H : Hm} : ∀ {U : Hm}, dL kd cx w B N H → (∀ e ∈ U, ng kd cx w B N e) → dL kd cx w B N (U ++ H)
 | [], h, _ => h
 | e :: U, h, he => (dL.append h fun e' h' => he e' (List.mem_cons_of_mem _ h')).cons (he e (by simp))
theorem yY {ev : Ev} {H : Hm} {D : List EI} {a : Act} {o : Oper} {r : Option AT} {inc : Nat} (h : q9 P kd ev FT E H od o.op = some (r, inc, D)) (gH : ∀ f s, FT f = some s → au P f ∧ TC P kd cx.sh B G f s) (hev : rA ev cx G) (hH : dL kd cx w B N H)
   (hod : ∀ K x t, od K x = some t → (∀ q ∈ K, a.eval (.tmp q.1) = .bool q.2) → bD kd cx w B N t (a.eval x))
   (hw : WT kd.sig B N w) (he' : Eff (dC B kd cx E) w0 w) (hb : cx.base ≤ w.heap.size) (hBb : B ≤ cx.base) (hG : G w) (hlim : N + inc ≤ 68719476736) :
   D.all (lU kd E) = true ∧ nL P a o w (fun v w' => Left kd cx E D B w0 w r (N + inc) v w' ∧ ∀ e ∈ jI kd FT od o.op, ng kd cx w' B (N + inc) e) := by
 by_cases hc : ∃ f args oO, o.op = .call ⟨.value (.func f), args, oO⟩
 · obtain ⟨f, args, oO, e⟩ := hc
   obtain ⟨dst, op, ty, pos, after, guard⟩ := o
   simp only at e
   subst e
   exact Uf h gH hH (fun x t hx => hod [] x t hx (by simp)) hw he' hb hBb hG hlim
 · obtain ⟨h1, h2⟩ := Kw h gH hev hH hod hw he' hb hBb hG hlim
   refine ⟨h1, h2.mono fun v w' hl => ⟨hl.1, fun e he => ?_⟩⟩
   unfold jI at he
   split at he
   · rename_i f args oO heq
     exact absurd ⟨f, args, oO, heq⟩ hc
   · exact hl.2 e (Option.mem_toList.1 he)
end Go.Proofs.YtncnepmgmphanaaGreatDoor
