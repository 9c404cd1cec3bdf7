/- A checker of the types of a function's code, third part: what a function is owed and owes; every operation. Plain; no condition. -/
import Derived.Test.YtncnepmgmphanaaGreatDoorMg03
import Derived.Laws.Tables
set_option linter.unusedVariables false
set_option linter.unusedSimpArgs false
set_option linter.unusedSectionVars false
namespace Go.Proofs.YtncnepmgmphanaaGreatDoor
open Go.RowKit
def l8 (kd : Kd) (ps : List AT) (args : Array Value) (i : Nat) : Nat × Nat :=
 match ps[i]?, args[i]? with
 | some (.ptr T _ _), some (.pointer (some a)) => (a.block, a.off / kd.sz T)
 | _, _ => (0, 0)
structure Sh where
 pe : Nat
 el : Nat → Value
 vals : Nat → Value
def Cx.sh (cx : Cx) : Sh := ⟨cx.pe, cx.el, cx.vals⟩
def bQ (kd : Kd) (sh : Sh) (s : aj) (args : Array Value) (w : World) : Cx := ⟨w.heap.size, sh.pe, sh.el, sh.vals, l8 kd s.ps args⟩
def Hm.at : Hm → Nat × Nat × Nat → Option AT
 | [], _ => none
 | ((i, T, o), t) :: H, (j, U, q) => cond (Nat.beq i j && Nat.beq T U && Nat.beq o q) (some t) (Hm.at H (j, U, q))
def dL (kd : Kd) (cx : Cx) (w : World) (B N : Nat) (H : Hm) : Prop :=
 ∀ i T o t, H.at (i, T, o) = some t → (cx.ps i).1 < cx.base ∧ o < kd.sz T ∧ eO kd w B T (cx.ps i).1 (cx.ps i).2 ∧ ∃ v, w.cell? ⟨(cx.ps i).1, (cx.ps i).2 * kd.sz T + o, none⟩ = some v ∧ bD kd cx w B N t v
def nD (D : List EI) (T o : Nat) : Bool := D.any fun
 | .par _ U q => Nat.beq U T && Nat.beq q o
 | .ty U q => Nat.beq U T && Nat.beq q o
def Hm.cut (H : Hm) (D : List EI) : Hm := H.filter fun p => !nD D p.1.2.1 p.1.2.2
def TC (P : Program) (kd : Kd) (sh : Sh) (B : Nat) (G : World → Prop) (f : FuncId) (s : aj) : Prop :=
 ∀ (N : Nat) (w : World) (args : Array Value), args.size = s.ps.length → B ≤ w.heap.size → N + s.inc ≤ 68719476736 → WT kd.sig B N w → G w →
   (∀ (i : Nat) (t : AT), s.ps[i]? = some t → ∃ v, args[i]? = some v ∧ bD kd (bQ kd sh s args w) w B N t v) →
   dL kd (bQ kd sh s args w) w B N s.pre →
   Calls P f args w fun e w' => ∃ v, e = .returned v ∧ WT kd.sig B (N + s.inc) w' ∧ Eff (dC B kd (bQ kd sh s args w) s.aS) w w' ∧ bD kd (bQ kd sh s args w) w' B (N + s.inc) s.res v ∧ dL kd (bQ kd sh s args w) w' B (N + s.inc) s.post
def au (P : Program) (f : FuncId) : Prop := ∃ fn, P.funcs[f]? = some fn ∧ (fn.name == "runtime.NumGoroutine") = false ∧ fn.body.isNone = false
def jl : AT → Bool
 | .v _ | .hd _ | .Be _ | .qc _ _ _ | .wW _ | .wY _ | .wN _ | .pos _ | .sm _ | .aN _ _ | .kb _ | .fB _ | .val _ | .ne _ _ | .bX _ | .ptr _ _ .any => true
 | _ => false
def WQ (kd : Kd) (i : Nat) (formal actual : AT) : Bool :=
 match formal with
 | .ptr T o (.par j) => decide (i = j) && (match actual with | .ptr T' o' _ => decide (T = T') && decide (o = o') | _ => false)
 | .ptr T o .env => (match actual with | .ptr T' o' .env => decide (T = T') && decide (o = o') | _ => false)
 | .sm k => (match actual with | .sm l => decide (k = l) | .aN l n => decide (k = l) && decide (0 < n) && decide (n ≤ 63) | _ => false)
 | .fB o => decide (actual = .fB o)
 | .aN k n => decide (actual = .aN k n)
 | .ne k n => decide (actual = .ne k n)
 | .v k => toSub kd actual k
 | _ => false
abbrev Od := List (Nat × Bool) → Operand → Option AT
def tC (kd : Kd) (od : Od) (ps : List AT) (args : Array Operand) : Bool :=
 decide (args.size = ps.length) && (List.range ps.length).all fun i => match ps[i]?, args[i]? with
   | some f, some x => (match od [] x with | some t => WQ kd i f t | none => false)
   | _, _ => false
def sD (kd : Kd) (od : Od) (ps : List AT) (args : Array Operand) : EI → Bool
 | .ty _ _ => true
 | .par i T o => match ps[i]?, args[i]? with
   | some (.ptr T' _ _), some x => decide (T = T') && decide (o < kd.sz T) && (match od [] x with | some (.ptr _ _ _) => true | _ => false)
   | _, _ => false
def jH (od : Od) (args : Array Operand) : EI → List EI
 | .ty T o => [.ty T o]
 | .par i T o => match args[i]? with
   | some x => (match od [] x with | some (.ptr _ _ g) => rW g T o | _ => [])
   | none => []
def MV (kd : Kd) (t u : AT) : Bool := decide (t = u) || (match u with | .v k => toSub kd t k | _ => false)
def vW (kd : Kd) (od : Od) (H : Hm) (ps : List AT) (args : Array Operand) (e : (Nat × Nat × Nat) × AT) : Bool :=
 match ps[e.1.1]?, args[e.1.1]? with
 | some (.ptr T _ _), some x => (match od [] x with
   | some (.ptr T' _ (.par m)) => decide (T = T') && decide (e.1.2.1 = T) && jl e.2 && (match H.at (m, T, e.1.2.2) with | some t => MV kd t e.2 | none => false)
   | _ => false)
 | _, _ => false
def xw (P : Program) (kd : Kd) (od : Od) (places : List (Nat × Nat)) (L : List CK) (p : Nat × Operand) : Bool :=
 match places[p.1]?, (od [] p.2).bind (zX kd) with
 | some (off, n), some k => decide (n = k.cells.length) && pq L off k.cells
 | _, _ => false
def placesOf (P : Program) (fields : Array Field) : Option (List (Nat × Nat)) := fields.toList.mapM fun f => (P.info? f.type).map fun i => (f.offset, i.size)
def Gf (P : Program) (kd : Kd) (T : TypeId) : Option (TypeId × TypeInfo × Value × List CK) :=
 match P.underlying T with
 | some (.slice e) => match kd.sig e, P.info? e with
   | some L, some i => match i.zero with
     | some z => if decide (i.size = L.length) && Nat.ble i.bytes 1024 && eZ L z.cells.toList && decide (0 < L.length) && decide (L.length ≤ 1000) then some (e, i, z, L) else none
     | none => none
   | _, _ => none
 | _ => none
def Lx (kd : Kd) (E : List EI) (e : TypeId) (L : List CK) : AT → AT → Option (AT × Nat × List EI)
 | .v (.c (.sl e1 s1)), .rE e2 s2 m => if decide (e1 = e) && decide (s1 = L.length) && decide (e2 = e) && decide (s2 = L.length) && decide (0 < m) && (List.range L.length).all (fun o => E.contains (.ty e o)) then some (.v (.c (.sl e L.length)), m, (List.range L.length).map fun o => .ty e o) else none
 | .own e1 s1, .rE e2 s2 m => if decide (e1 = e) && decide (s1 = L.length) && decide (e2 = e) && decide (s2 = L.length) && decide (0 < m) then some (.oL e L.length, m, []) else none
 | .rE e1 s1 _, .rE e2 s2 m => if decide (e1 = e) && decide (s1 = L.length) && decide (e2 = e) && decide (s2 = L.length) && decide (0 < m) then some (.oL e L.length, m, []) else none
 | .oL e1 s1, .rE e2 s2 m => if decide (e1 = e) && decide (s1 = L.length) && decide (e2 = e) && decide (s2 = L.length) && decide (0 < m) then some (.oL e L.length, m, []) else none
 | .rE e1 s1 0, t => if decide (e1 = e) && decide (s1 = L.length) && decide (zX kd t = some (.c (.sl e L.length))) then some (.own e L.length, 0, []) else none
 | _, _ => none
abbrev Ev := Nat × List Nat
def Hd : Option Value → Option Int
 | some (.int .i64 n) => some n
 | some (.bool b) => some (if b then 1 else 0)
 | _ => none
def NS : Option AT → Option Int
 | some (.aN .i64 n) => some n
 | some (.kb b) => some (if b then 1 else 0)
 | _ => none
def Fu (places : List (Nat × Nat)) (p : Nat × Operand) : Bool := match places[p.1]? with
 | some (off, _) => Nat.blt 0 off
 | none => false
def Gw (od : Od) (places : List (Nat × Nat)) (z : Value) (parts : List (Nat × Operand)) : Option Int :=
 if parts.all (Fu places) then Hd z.cells[0]? else match parts with
   | (0, x) :: rest => if rest.all (Fu places) && decide (places[0]? = some (0, 1)) then NS (od [] x) else none
   | _ => none
def Gh (kd : Kd) (ev : Ev) (H : Hm) (U q : Nat) (g : FU) (k : VK) : Option AT :=
 match g, k with
 | .par i, .c ck => match H.at (i, U, q) with
   | some t => some t
   | none => zQ kd (.c ck)
 | .env, .c (.sl E s) => if Nat.beq U ev.1 && ev.2.contains q then some (.JB q E s) else some (.v (.c (.sl E s)))
 | .env, .c (.int .i64) => if Nat.beq U ev.1 && ev.2.contains q then some (.AZ q) else some (.v (.c (.int .i64)))
 | _, k => zQ kd k
def afQ : Option AT → AT
 | some (.JB o _ _) => .Be o
 | some (.qc j _ _) => .wW j
 | _ => .v (.c (.int .i64))
def q9 (P : Program) (kd : Kd) (ev : Ev) (FT : FuncId → Option aj) (E : List EI) (H : Hm) (od : Od) : Op → Option (Option AT × Nat × List EI)
 | .move x => (od [] x).map fun t => (some t, 0, [])
 | .assign x => match od [] x, x with
   | some t, _ => some (some t, 0, [])
   | none, .const _ => some (none, 0, [])
   | _, _ => none
 | .pick (.tmp g) x y => match od [] (.tmp g) with
   | some (.kb true) => (od [(g, true)] x).map fun t => (some t, 0, [])
   | some (.kb false) => (od [(g, false)] y).map fun t => (some t, 0, [])
   | some (.v (.c .bool)) => match od [(g, true)] x, od [(g, false)] y with
     | some t, some u => (uR t u).map fun t => (some t, 0, [])
     | _, _ => none
   | _ => none
 | .alloc T => match kd T, (P.info? T).bind (·.zero) with
   | some k, some z => if eZ k.cells z.cells.toList && decide (0 < kd.sz T) then some (some (.ptr T 0 .new), 0, []) else none
   | _, _ => none
 | .box T x => match kd T, od [] x with
   | some k, some t => if toSub kd t k && decide (0 < kd.sz T) then some (some (.ptr T 0 .new), 0, []) else none
   | _, _ => none
 | .build T parts => match kd T, (P.info? T).bind (·.zero), P.underlying T with
   | some (.agg L), some z, some (.struct fields) => match placesOf P fields with
     | some places => if eZ L z.cells.toList && parts.toList.all (xw P kd od places L) then some (some (.v (match Gw od places z parts.toList with | some n => .ak L [n] | none => .agg L)), 0, []) else none
     | none => none
   | _, _, _ => none
 | .load T x => match od [] x, kd T with
   | some (.ptr U q g), some k => if pq ((kd.sig U).getD []) q k.cells && pF P T k then (Gh kd ev H U q g k).map fun t => (some t, 0, []) else none
   | _, _ => none
 | .store T x y => match od [] x, (od [] y).bind (zX kd) with
   | some (.ptr U q g), some k => if pq ((kd.sig U).getD []) q k.cells && decide ((P.info? T).map (·.size) = some k.cells.length) && ((List.range k.cells.length).flatMap fun j => rW g U (q + j)).all (lU kd E) then some (none, 0, (List.range k.cells.length).flatMap fun j => rW g U (q + j)) else none
   | _, _ => none
 | .nilCheck x => match od [] x with
   | some (.ptr U q g) => some (some (.ptr U q g), 0, [])
   | _ => none
 | .binOp op T x y U => match od [] x, od [] y with
   | some s, some t => (Ll op s t).map fun t => (some t, 0, [])
   | _, _ => none
 | .unOp op T x => match od [] x with
   | some s => (Xb op s).map fun t => (some t, 0, [])
   | _ => none
 | .convert S T x => match (od [] x).bind iT, P.underlying S, P.underlying T with
   | some _, some _, some (.int k) => some (some (.v (.c (.int k))), 0, [])
   | _, _, _ => none
 | .fieldAddr S x f => match od [] x, P.underlying S with
   | some (.ptr U q g), some (.struct fields) => match fields[f]? with
     | some fd => match (P.info? fd.type).map (·.size) with
       | some n => if decide (n ≠ 0) && decide (q + fd.offset < kd.sz U) then some (some (.ptr U (q + fd.offset) g), 0, []) else none
       | none => none
     | none => none
   | _, _ => none
 | .indexAddr T x i => match od [] x, od [] i, P.underlying T with
   | some (.JB o e s), some (.fB o'), some (.slice e') => if decide (o = o') && decide (e = e') && decide (s = kd.sz e) && decide (0 < s) && decide ((P.info? e).map (·.size) = some s) then some (some (.ptr e 0 .any), 0, []) else none
   | _, _, _ => none
 | .slice T x none (some y) none => match od [] x, od [] y, P.underlying T with
   | some (.qc j e s), some (.wY j'), some (.slice e') => if decide (j = j') && decide (e = e') && (P.info? e).isSome then some (some (.v (.c (.sl e s))), 0, []) else none
   | _, _, _ => none
 | .extract x i => match od [] x with
   | some (.bX l) => match l[i]? with
     | some k => (zQ kd k).map fun t => (some t, 0, [])
     | none => none
   | _ => none
 | .call ⟨.value (.func f), args, _⟩ => match FT f with
   | some s => if tC kd od s.ps args && s.aS.all (sD kd od s.ps args) && (s.aS.flatMap (jH od args)).all (lU kd E) && jl s.res && s.pre.all (vW kd od H s.ps args) then some (some s.res, s.inc, s.aS.flatMap (jH od args)) else none
   | none => none
 | .call ⟨.builtin .len, ⟨[x]⟩, ⟨[T]⟩⟩ => match (od [] x).bind (zX kd), P.underlying T with
   | some (.c (.sl _ _)), some (.slice _) => some (some (afQ (od [] x)), 0, [])
   | _, _ => none
 | .buildSlice T len parts => match Gf P kd T with
   | some (e, i, z, L) => match len with
     | 0 => if parts.toList.isEmpty then some (some (.rE e L.length 0), 0, []) else none
     | 1 => if parts.toList.all (xw P kd od [(0, L.length)] L) then some (some (.rE e L.length 1), 1, []) else none
     | _ => none
   | none => none
 | .call ⟨.builtin .append, ⟨[x, y]⟩, ⟨[T, T']⟩⟩ => if T = T' then match Gf P kd T, od [] x, od [] y with
   | some (e, i, z, L), some s, some t => (Lx kd E e L s t).map fun r => (some r.1, r.2.1, r.2.2)
   | _, _, _ => none else none
 | .call ⟨.builtin .max, ⟨[x, y]⟩, _⟩ => match od [] x, od [] y with
   | some s, some t => match iT s, iT t with
     | some k, some l => if k = l then some (some (if EJ s || EJ t then .pos k else .v (.c (.int k))), 0, []) else none
     | _, _ => none
   | _, _ => none
 | _ => none
variable {P : Program} {kd : Kd} {cx : Cx} {w w' w0 : World} {B N : Nat} {E : List EI} {FT : FuncId → Option aj} {od : Od} {G : World → Prop}
theorem bJ.set {L : List CK} {l : List Value} (h : bJ w B N L l) {i : Nat} {k : CK} {v : Value} (hk : L[i]? = some k) (hv : aU w B N k v) : bJ w B N L (l.set i v) := by
 induction L generalizing l i with
 | nil => cases l with
   | nil => trivial
   | cons a b => exact h.elim
 | cons k' L ih => cases l with
   | nil => exact h.elim
   | cons a b => cases i with
     | zero => simp at hk; subst hk; exact ⟨hv, h.2⟩
     | succ i => exact ⟨h.1, ih h.2 (by simpa using hk)⟩
theorem bJ.sets {L : List CK} {off : Nat} : ∀ (vs : List Value) (ks : List CK) (j : Nat) (cs : Array Value), bJ w B N L cs.toList → bJ w B N ks vs → (∀ q k, ks[q]? = some k → L[off + j + q]? = some k) →
   bJ w B N L ((vs.zipIdx j).foldl (fun cs (c, j) => cs.setIfInBounds (off + j) c) cs).toList
 | [], _, _, cs, h, _, _ => h
 | v :: r, [], j, cs, h, ha, hk => ha.elim
 | v :: r, k :: ks, j, cs, h, ha, hk => by
   simp only [List.zipIdx_cons, List.foldl_cons]
   refine bJ.sets r ks (j + 1) (cs.setIfInBounds (off + j) v) ?_ ha.2 fun q k' hq => ?_
   · rw [Array.toList_setIfInBounds]
     exact h.set (hk 0 k rfl) ha.1
   · have := hk (q + 1) k' (by simpa using hq)
     rwa [show off + j + (q + 1) = off + (j + 1) + q by omega] at this
theorem G9 {place : Nat → Option (Nat × Nat)} {L : List CK} : ∀ (parts : List (Nat × Value)) (cells : Array Value), bJ w B N L cells.toList →
   (∀ p ∈ parts, ∃ (off : Nat) (ks : List CK), place p.1 = some (off, ks.length) ∧ pq L off ks = true ∧ bJ w B N ks p.2.cells.toList) → ∃ out, Instr.fill place cells parts = some out ∧ bJ w B N L out.toList
 | [], cells, h, _ => ⟨cells, rfl, h⟩
 | (i, v) :: rest, cells, h, hp => by
   obtain ⟨off, ks, h1, h2, h3⟩ := hp (i, v) (by simp)
   obtain ⟨g1, g2⟩ := oH h2
   have hl : v.cells.size = ks.length := by have := h3.len; simpa using this.symm
   have hL : L.length = cells.size := by have := h.len; simpa using this
   obtain ⟨out, e, ho⟩ := G9 rest (v.cells.zipIdx.foldl (fun cs (c, j) => cs.setIfInBounds (off + j) c) cells) (by
     have := bJ.sets (off := off) v.cells.toList ks 0 cells h h3 (fun q k hq => by rw [Nat.add_zero]; exact g2 q k hq)
     rw [← Array.foldl_toList, Array.toList_zipIdx]
     exact this) (fun p hp' => hp p (List.mem_cons_of_mem _ hp'))
   refine ⟨out, ?_, ho⟩
   unfold Instr.fill
   simp only [h1]
   rw [if_neg (by simp [hl]; omega)]
   exact e
theorem FD {off : Nat} (h : 0 < off) : ∀ (vs : List Value) (j : Nat) (cs : Array Value), ((vs.zipIdx j).foldl (fun cs (c, j) => cs.setIfInBounds (off + j) c) cs)[0]? = cs[0]?
 | [], _, cs => rfl
 | v :: r, j, cs => by
   simp only [List.zipIdx_cons, List.foldl_cons]
   rw [FD h r (j + 1), Array.getElem?_setIfInBounds_ne (by omega)]
theorem vP {place : Nat → Option (Nat × Nat)} : ∀ (parts : List (Nat × Value)) (cells out : Array Value), Instr.fill place cells parts = some out → (∀ p ∈ parts, ∃ off n, place p.1 = some (off, n) ∧ 0 < off) → out[0]? = cells[0]?
 | [], cells, out, h, _ => by cases h; rfl
 | (i, v) :: rest, cells, out, h, hp => by
   obtain ⟨off, n, h1, h2⟩ := hp (i, v) (by simp)
   unfold Instr.fill at h
   simp only [h1] at h
   split at h
   · cases h
   · rw [vP rest _ out h fun p hp' => hp p (List.mem_cons_of_mem _ hp'), ← Array.foldl_toList, Array.toList_zipIdx]
     exact FD h2 _ _ _
theorem VW {place : Nat → Option (Nat × Nat)} {v : Value} {rest : List (Nat × Value)} {cells out : Array Value} (h : Instr.fill place cells ((0, v) :: rest) = some out) (h0 : place 0 = some (0, 1)) (hv : v.cells = #[v]) (hc : 0 < cells.size) (hp : ∀ p ∈ rest, ∃ off n, place p.1 = some (off, n) ∧ 0 < off) : out[0]? = some v := by
 unfold Instr.fill at h
 simp only [h0] at h
 split at h
 · cases h
 · rw [vP rest _ out h hp, hv]
   simp [hc]
theorem JX {places : List (Nat × Nat)} {p : Nat × Operand} (h : Fu places p = true) : ∃ off n, places[p.1]? = some (off, n) ∧ 0 < off := by
 unfold Fu at h
 split at h
 · rename_i off n e
   exact ⟨off, n, e, by simp only [Nat.blt] at h; exact Nat.le_of_ble_eq_true h⟩
 · cases h
theorem Vx {v : Option Value} {n : Int} (h : Hd v = some n) : v = some (.int .i64 n) ∨ v = some (.bool (decide (n = 1))) := by
 unfold Hd at h
 split at h
 · cases h; exact .inl rfl
 · rename_i b
   cases h
   cases b <;> exact .inr rfl
 · cases h
theorem aaD {t : Option AT} {n : Int} {v : Value} (h : NS t = some n) (hv : ∀ u, t = some u → bD kd cx w B N u v) : v.cells = #[v] ∧ (v = .int .i64 n ∨ v = .bool (decide (n = 1))) := by
 unfold NS at h
 split at h
 · cases h; have := (hv _ rfl).1; subst this; exact ⟨rfl, .inl rfl⟩
 · rename_i b
   cases h
   have e : v = .bool b := hv _ rfl
   subst e
   refine ⟨rfl, .inr ?_⟩
   cases b <;> rfl
 · cases h
theorem acf {places : List (Nat × Nat)} {z : Value} {parts : Array (Nat × Operand)} {a : Act} {n : Int} {out : Array Value} (h : Gw od places z parts.toList = some n) (dF : ∀ x t, od [] x = some t → bD kd cx w B N t (a.eval x)) (hz : 0 < z.cells.size)
   (e1 : Instr.fill (fun i => places.toArray[i]?) z.cells ((parts.map fun (i, x) => (i, a.eval x)).toList) = some out) : out[0]? = some (.int .i64 n) ∨ out[0]? = some (.bool (decide (n = 1))) := by
 unfold Gw at h
 rw [Array.toList_map] at e1
 split at h
 · rename_i hall
   rw [List.all_eq_true] at hall
   rw [vP _ _ _ e1 fun p hp => by
     obtain ⟨q, hq, rfl⟩ := List.mem_map.1 hp
     obtain ⟨off, m, e, ho⟩ := JX (hall q hq)
     exact ⟨off, m, by simpa using e, ho⟩]
   exact Vx h
 · split at h
   · rename_i x rest heq
     split at h
     · rename_i hc
       simp only [Bool.and_eq_true, List.all_eq_true, decide_eq_true_eq] at hc
       rw [heq, List.map_cons] at e1
       obtain ⟨g1, g2⟩ := aaD (kd := kd) (cx := cx) (w := w) (B := B) (N := N) (v := a.eval x) h fun u hu => dF x u hu
       have g3 := VW e1 (by simpa using hc.2) g1 hz fun p hp => by
         obtain ⟨q, hq, rfl⟩ := List.mem_map.1 hp
         obtain ⟨off, m, e, ho⟩ := JX (hc.1 q hq)
         exact ⟨off, m, by simpa using e, ho⟩
       rw [g3]
       rcases g2 with g2 | g2 <;> rw [g2]
       · exact .inl rfl
       · exact .inr rfl
     · cases h
   · cases h
theorem gZ {t : AT} {v : Value} {rH : Cx} (hsh : rH.sh = cx.sh) (h : jl t = true) (hv : bD kd rH w B N t v) : bD kd cx w B N t v := by
 have hel : rH.el = cx.el := congrArg Sh.el hsh
 have hvs : rH.vals = cx.vals := congrArg Sh.vals hsh
 cases t with
 | v k => exact hv
 | pos k => exact hv
 | ptr T o g => cases g with
   | par i => cases h
   | new => cases h
   | env => cases h
   | any => obtain ⟨b, r, e, h1, h2, -⟩ := hv; exact ⟨b, r, e, h1, h2, trivial⟩
 | bX l => exact hv
 | sm k => exact hv
 | aN k n => exact hv
 | kb b => exact hv
 | fB o => simp only [bD] at hv ⊢; rw [hel] at hv; exact hv
 | ne k n => exact hv
 | oL E s => cases h
 | hd ks => exact hv
 | qc j E s => simp only [bD] at hv ⊢; rw [hvs] at hv; exact hv
 | wW j => simp only [bD] at hv ⊢; rw [hvs] at hv; exact hv
 | wY j => simp only [bD] at hv ⊢; rw [hvs] at hv; exact hv
 | wN o => simp only [bD] at hv ⊢; rw [hel] at hv; exact hv
 | AZ o => cases h
 | cnt o => cases h
 | xc o => cases h
 | FN o => cases h
 | Be o => simp only [bD] at hv ⊢; rw [hel] at hv; exact hv
 | val j => simp only [bD] at hv ⊢; rw [hvs] at hv; exact hv
 | JB o E s => cases h
 | own E s => cases h
 | rE E s m => cases h
theorem AQ {t u : AT} {v : Value} (hBb : B ≤ cx.base) (h : MV kd t u = true) (hv : bD kd cx w B N t v) : bD kd cx w B N u v := by
 simp only [MV, Bool.or_eq_true, decide_eq_true_eq] at h
 rcases h with rfl | h
 · exact hv
 · split at h
   · exact nX hBb h hv
   · cases h
theorem Pp {D : List EI} {g : FU} {T o b r : Nat} (h : ∀ e ∈ rW g T o, e ∈ D) (ho : o < kd.sz T) (hg : tY cx g b r) (jm : B ≤ b) : dC B kd cx D b T (r * kd.sz T + o) := by
 have hm : (r * kd.sz T + o) % kd.sz T = o := by rw [Nat.add_comm, Nat.add_mul_mod_self_right, Nat.mod_eq_of_lt ho]
 cases g with
 | new => exact .inl hg
 | par i => exact .inr (.inl ⟨i, o, h _ (by simp [rW]), by rw [hg.1], by rw [hg.1], jm⟩)
 | env => exact .inr (.inr ⟨o, h _ (by simp [rW]), hm, jm⟩)
 | any => exact .inr (.inr ⟨o, h _ (by simp [rW]), hm, jm⟩)
theorem rY {D : List EI} (h : D.all (lU kd E) = true) {k T j : Nat} (hc : dC B kd cx D k T j) : dC B kd cx E k T j := by
 rw [List.all_eq_true] at h
 rcases hc with hc | ⟨i, o, hm, rfl, rfl, jm⟩ | ⟨o, hm, rfl, jm⟩
 · exact .inl hc
 · have := h _ hm
   simp only [lU, Bool.or_eq_true, Bool.and_eq_true, decide_eq_true_eq, List.contains_iff_mem] at this
   obtain ⟨h1 | h1, h2⟩ := this
   · exact .inr (.inl ⟨i, o, h1, rfl, rfl, jm⟩)
   · exact .inr (.inr ⟨o, h1, by rw [Nat.add_comm, Nat.add_mul_mod_self_right, Nat.mod_eq_of_lt h2], jm⟩)
 · have := h _ hm
   simp only [lU, List.contains_iff_mem] at this
   exact .inr (.inr ⟨_, this, rfl, jm⟩)
def Left (kd : Kd) (cx : Cx) (E D : List EI) (B : Nat) (w0 w : World) (r : Option AT) (N : Nat) (v : Value) (w' : World) : Prop :=
 WT kd.sig B N w' ∧ Eff (dC B kd cx E) w0 w' ∧ Eff (dC B kd cx D) w w' ∧ ∀ t, r = some t → bD kd cx w' B N t v
theorem eF {r : AT} {v : Value} (hw : WT kd.sig B N w) (he : Eff (dC B kd cx E) w0 w) (hv : bD kd cx w B N r v) : Left kd cx E [] B w0 w (some r) (N + 0) v w :=
 ⟨hw, he, Eff.refl _ _, fun t e => by cases e; exact hv⟩
theorem Kd.qK {T : TypeId} {L : List CK} (h : kd.sig T = some L) : kd.sz T = L.length := by unfold Kd.sz; rw [h]; rfl
theorem Kd.uV {T : TypeId} {k : VK} (h : kd T = some k) : kd.sig T = some k.cells := by unfold Kd.sig; rw [h]; rfl
theorem Nu {T : TypeId} {L : List CK} {cells : List Value} (hT : kd.sig T = some L) (h0 : 0 < kd.sz T) (hb : cx.base ≤ w.heap.size) (hB : B ≤ w.heap.size) (hw : WT kd.sig B N w) (he : Eff (dC B kd cx E) w0 w) (hv : bJ w B N L cells) :
   Left kd cx E [] B w0 w (some (.ptr T 0 .new)) (N + 0) (.pointer (some ⟨w.heap.size, 0, none⟩)) (w.alloc (.cells cells.toArray T)) := by
 have hl := hv.len
 refine ⟨hw.alloc hT (aT.one hv), he.alloc _, Eff.bL _ _ _, fun t e => ?_⟩
 cases e
 exact ⟨w.heap.size, 0, by simp, h0, ⟨cells.toArray, hB, blk_alloc_new _ _, by rw [Kd.qK hT]; simp; omega⟩, hb⟩
theorem mQ {r s o : Nat} (h : o < s) : (r * s + o) / s = r := by rw [Nat.add_comm, Nat.add_mul_div_right _ _ (by omega), Nat.div_eq_of_lt h, Nat.zero_add]
theorem JU {sh : Sh} {s : aj} {args : Array Operand} {a : Act} (hps : ∀ (i : Nat) (t : AT), s.ps[i]? = some t → ∃ v, (args.map a.eval)[i]? = some v ∧ bD kd (bQ kd sh s (args.map a.eval) w) w B N t v) (hod : ∀ x t, od [] x = some t → bD kd cx w B N t (a.eval x))
   (hE : s.aS.all (sD kd od s.ps args) = true) {k : Nat} {c : Array Value} {T : TypeId} {f : Nat × Nat} {j : Nat} (hk : w.heap[k]? = some (.cells c T f)) (hc : dC B kd (bQ kd sh s (args.map a.eval) w) s.aS k T j) : dC B kd cx (s.aS.flatMap (jH od args)) k T j := by
 rw [List.all_eq_true] at hE
 rcases hc with hc | ⟨i, o, hm, rfl, rfl, jm⟩ | ⟨o, hm, hj⟩
 · have := aK hk
   simp only [bQ] at hc
   omega
 · have hx := hE _ hm
   simp only [sD] at hx
   split at hx
   · rename_i T' o' g' x h1 h2
     simp only [Bool.and_eq_true, decide_eq_true_eq] at hx
     obtain ⟨⟨rfl, ho⟩, hx⟩ := hx
     split at hx
     · rename_i T2 o2 g h3
       have hsub : ∀ e ∈ rW g T o, e ∈ s.aS.flatMap (jH od args) := fun e he => List.mem_flatMap.2 ⟨_, hm, by simp only [jH, h2, h3]; exact he⟩
       obtain ⟨v, hv1, hv2⟩ := hps i _ h1
       rw [Array.getElem?_map, h2] at hv1
       simp only [Option.map_some, Option.some.injEq] at hv1
       obtain ⟨b2, r2, e2, h5, h6, h7⟩ := hod x _ h3
       obtain ⟨b, r, e1, h8, ⟨c', -, h9, -⟩, -⟩ := hv2
       rw [hv1] at e2
       rw [e1] at e2
       simp only [Value.pointer.injEq, Option.some.injEq, Addr.mk.injEq, and_true] at e2
       obtain ⟨rfl, hoff⟩ := e2
       have akQ : l8 kd s.ps (args.map a.eval) i = (b, r) := by
         simp only [l8, h1, Array.getElem?_map, h2, Option.map_some, hv1, e1]
         rw [mQ h8]
       simp only [bQ] at hk ⊢
       rw [akQ] at hk ⊢
       simp only at hk ⊢
       obtain ⟨c2, hB2, h10, -⟩ := h6
       rw [h9] at h10
       cases h10
       have : r = r2 := by
         have e3 : (r * kd.sz T + o') / kd.sz T = (r2 * kd.sz T + o2) / kd.sz T := by rw [hoff]
         rwa [mQ h8, mQ h5] at e3
       subst this
       exact Pp hsub ho h7 hB2
     · cases hx
   · cases hx
 · exact .inr (.inr ⟨o, List.mem_flatMap.2 ⟨_, hm, by simp [jH]⟩, hj⟩)
theorem Hm.at_mem : ∀ {H : Hm} {i T o : Nat} {t : AT}, H.at (i, T, o) = some t → ((i, T, o), t) ∈ H
 | [], _, _, _, _, h => by cases h
 | ((j, U, q), u) :: H, i, T, o, t, h => by
   simp only [Hm.at] at h
   cases hb : (Nat.beq j i && Nat.beq U T && Nat.beq q o) with
   | true =>
     rw [hb] at h
     cases h
     simp only [Bool.and_eq_true] at hb
     obtain ⟨⟨h1, h2⟩, h3⟩ := hb
     rw [Nat.eq_of_beq_eq_true h1, Nat.eq_of_beq_eq_true h2, Nat.eq_of_beq_eq_true h3]
     simp
   | false => rw [hb] at h; exact List.mem_cons_of_mem _ (Hm.at_mem h)
theorem Hm.sS {D : List EI} : ∀ {H : Hm} {i T o : Nat} {t : AT}, (H.cut D).at (i, T, o) = some t → H.at (i, T, o) = some t ∧ nD D T o = false
 | [], _, _, _, _, h => by cases h
 | ((j, U, q), u) :: H, i, T, o, t, h => by
   have ih := @Hm.sS D H i T o t
   unfold Hm.cut at h ih
   simp only [List.filter_cons] at h
   by_cases hk : nD D U q = true
   · simp only [hk, Bool.not_true, Bool.false_eq_true, if_false] at h
     obtain ⟨h1, h2⟩ := ih h
     refine ⟨?_, h2⟩
     simp only [Hm.at]
     cases hb : (Nat.beq j i && Nat.beq U T && Nat.beq q o) with
     | true =>
       simp only [Bool.and_eq_true] at hb
       rw [Nat.eq_of_beq_eq_true hb.1.2, Nat.eq_of_beq_eq_true hb.2, h2] at hk
       cases hk
     | false => exact h1
   · simp only [hk, Bool.not_false, if_true] at h
     simp only [Hm.at] at h ⊢
     cases hb : (Nat.beq j i && Nat.beq U T && Nat.beq q o) with
     | true =>
       rw [hb] at h
       simp only [Bool.and_eq_true] at hb
       rw [← Nat.eq_of_beq_eq_true hb.1.2, ← Nat.eq_of_beq_eq_true hb.2]
       exact ⟨h, by simpa using hk⟩
     | false => rw [hb] at h; exact ih h
theorem dL.step {H : Hm} {D : List EI} {N' : Nat} (h : dL kd cx w B N H) (hD : D.all (lU kd E) = true) (hE : Eff (dC B kd cx D) w w') (hN : N ≤ N') (hk : ∀ i T o t, H.at (i, T, o) = some t → nD D T o = false) : dL kd cx w' B N' H := by
 intro i T o t ht
 obtain ⟨h1, h2, h3, v, h4, h5⟩ := h i T o t ht
 refine ⟨h1, h2, h3.mono hE, v, ?_, h5.mono hE hN⟩
 obtain ⟨c, -, hc, -⟩ := h3
 obtain ⟨c', e1, -, e2⟩ := hE.cells _ _ _ _ hc
 rw [aa hc] at h4
 rw [aa e1, e2 _ ?_, h4]
 have hkk := hk i T o t ht
 unfold nD at hkk
 rw [List.any_eq_false] at hkk
 rintro (hb | ⟨i', o', hm, -, hj, -⟩ | ⟨o', hm, hj, -⟩)
 · omega
 · have := hkk _ hm
   simp only [Bool.and_eq_true, not_and, Bool.not_eq_true] at this
   have hoo : o' = o := by
     have hlt : o' < kd.sz T := by
       rw [List.all_eq_true] at hD
       have := hD _ hm
       simp only [lU, Bool.and_eq_true, decide_eq_true_eq] at this
       exact this.2
     · have e3 : ((cx.ps i).2 * kd.sz T + o) % kd.sz T = ((cx.ps i').2 * kd.sz T + o') % kd.sz T := by rw [hj]
       rw [Nat.add_comm, Nat.add_mul_mod_self_right, Nat.mod_eq_of_lt h2, Nat.add_comm, Nat.add_mul_mod_self_right, Nat.mod_eq_of_lt hlt] at e3
       exact e3.symm
   subst hoo
   have h6 := this (by simp)
   simp at h6
 · have := hkk _ hm
   rw [Nat.add_comm, Nat.add_mul_mod_self_right, Nat.mod_eq_of_lt h2] at hj
   subst hj
   simp at this
theorem dL.cut {H : Hm} {D : List EI} {N' : Nat} (h : dL kd cx w B N H) (hD : D.all (lU kd E) = true) (hE : Eff (dC B kd cx D) w w') (hN : N ≤ N') : dL kd cx w' B N' (H.cut D) :=
 dL.step (fun i T o t ht => h i T o t (Hm.sS ht).1) hD hE hN (fun i T o t ht => (Hm.sS ht).2)
end Go.Proofs.YtncnepmgmphanaaGreatDoor
