/- Typed memory: from a block on, every block of a listed type holds cells of its type's kinds; what a call may have changed, cell by cell. Plain; no condition. -/
import Derived.Test.YtncnepmgmphanaaGreatDoorMg00
import Derived.Laws.AppendOwnNone
import Derived.Deep.MidRow
set_option linter.unusedVariables false
set_option linter.unusedSimpArgs false
set_option linter.unusedSectionVars false
namespace Go.Proofs.YtncnepmgmphanaaGreatDoor
open Go.RowKit
inductive CK where
  | int (k : IntKind)
  | bool
  | sl (E s : Nat)
  | ptr (T s : Nat)
  /-- Any pointer. -/
  | np
deriving DecidableEq
abbrev Sig := TypeId → Option (List CK)
def inK (k : IntKind) (n : Int) : Prop := k.min ≤ n ∧ n ≤ k.max
def SlOK (w : World) (B N E s : Nat) (v : Value) : Prop := ∃ n xs, n ≤ N ∧ w.ownsRow B E s v n xs
def PtrOK (w : World) (B T s : Nat) (v : Value) : Prop := ∃ b i c, v = .pointer (some ⟨b, i * s, none⟩) ∧ B ≤ b ∧ w.heap[b]? = some (.cells c T (0, 0)) ∧ (i + 1) * s ≤ c.size
def CellOK (w : World) (B N : Nat) : CK → Value → Prop
  | .int k, v => ∃ n, v = .int k n ∧ inK k n
  | .bool, v => ∃ b, v = .bool b
  | .sl E s, v => SlOK w B N E s v
  | .ptr T s, v => PtrOK w B T s v
  | .np, v => ∃ a, v = .pointer a
def WT (sig : Sig) (B N : Nat) (w : World) : Prop :=
  ∀ k c T f L, B ≤ k → w.heap[k]? = some (.cells c T f) → sig T = some L → f = (0, 0) ∧ (∃ n, c.size = n * L.length) ∧ ∀ i v, c[i]? = some v → ∃ ck, L[i % L.length]? = some ck ∧ CellOK w B N ck v
structure Eff (Ch : Nat → TypeId → Nat → Prop) (w w' : World) : Prop where
  os : w'.os = w.os
  tape : w'.tape = w.tape
  output : w'.output = w.output
  size : w.heap.size ≤ w'.heap.size
  cells : ∀ (k : Nat) (c : Array Value) (T : TypeId) (f : Nat × Nat), w.heap[k]? = some (.cells c T f) → ∃ c', w'.heap[k]? = some (.cells c' T f) ∧ c'.size = c.size ∧ ∀ j, ¬ Ch k T j → c'[j]? = c[j]?
  other : ∀ (k : Nat) (o : Obj), w.heap[k]? = some o → (∀ c T f, o ≠ Obj.cells c T f) → w'.heap[k]? = some o
variable {Ch Ch' : Nat → TypeId → Nat → Prop} {w w' w2 : World} {B N N' : Nat} {sig : Sig}
theorem Eff.refl (Ch : Nat → TypeId → Nat → Prop) (w : World) : Eff Ch w w :=
  ⟨rfl, rfl, rfl, Nat.le_refl _, fun k c T f h => ⟨c, h, rfl, fun _ _ => rfl⟩, fun _ _ h _ => h⟩
theorem Eff.trans (h : Eff Ch w w') (g : Eff Ch w' w2) : Eff Ch w w2 :=
  ⟨g.os.trans h.os, g.tape.trans h.tape, g.output.trans h.output, Nat.le_trans h.size g.size, fun k c T f hk => by
    obtain ⟨c1, h1, s1, e1⟩ := h.cells k c T f hk
    obtain ⟨c2, h2, s2, e2⟩ := g.cells k c1 T f h1
    exact ⟨c2, h2, s2.trans s1, fun j hj => (e2 j hj).trans (e1 j hj)⟩, fun k o hk ho => g.other k o (h.other k o hk ho) ho⟩
theorem Eff.mono (h : Eff Ch w w') (hc : ∀ k T j, k < w.heap.size → Ch k T j → Ch' k T j) : Eff Ch' w w' :=
  ⟨h.os, h.tape, h.output, h.size, fun k c T f hk => by
    obtain ⟨c1, h1, s1, e1⟩ := h.cells k c T f hk
    exact ⟨c1, h1, s1, fun j hj => e1 j fun hx => hj (hc k T j (lt_of_blk hk) hx)⟩, h.other⟩
theorem Eff.drew (h : Eff Ch w w') : Eff Ch w w'.drew := ⟨h.os, h.tape, h.output, h.size, h.cells, h.other⟩
theorem Eff.drewN (h : Eff Ch w w') (n : Nat) : Eff Ch w (w'.drewN n) := ⟨h.os, h.tape, h.output, h.size, h.cells, h.other⟩
theorem Eff.alloc1 (Ch : Nat → TypeId → Nat → Prop) (w : World) (o : Obj) : Eff Ch w (w.alloc o) :=
  ⟨rfl, rfl, rfl, by simp, fun k c T f hk => ⟨c, by rw [blk_alloc_old (lt_of_blk hk)]; exact hk, rfl, fun _ _ => rfl⟩, fun k o' hk _ => by rw [blk_alloc_old (lt_of_blk hk)]; exact hk⟩
theorem Eff.alloc (h : Eff Ch w w') (o : Obj) : Eff Ch w (w'.alloc o) := h.trans (Eff.alloc1 Ch w' o)
theorem Eff.set1 {p : Nat} {i : Nat} {v : Value} (hc : ∀ T, Ch p T i) : Eff Ch w (w.setCell ⟨p, i, none⟩ v) := by
  refine ⟨rfl, rfl, rfl, by simp [World.setCell], fun k c T f hk => ?_, fun k o hk ho => ?_⟩
  · by_cases e : k = p
    · subst e
      refine ⟨_, blk_setCell hk i v, by simp, fun j hj => ?_⟩
      have : i ≠ j := fun e => hj (e ▸ hc T)
      simp [this]
    · exact ⟨c, by rw [blk_setCell_ne e]; exact hk, rfl, fun _ _ => rfl⟩
  · by_cases e : k = p
    · subst e
      simp only [World.setCell, Array.getElem?_modify, ↓reduceIte, hk, Option.map_some]
    · rw [blk_setCell_ne e]; exact hk
theorem Eff.cell (h : Eff Ch w w') {p i : Nat} {v : Value} (hv : w.cell? ⟨p, i, none⟩ = some v) (hn : ∀ T, ¬ Ch p T i) : w'.cell? ⟨p, i, none⟩ = some v := by
  unfold World.cell? at hv
  split at hv
  · rename_i c T f hk
    obtain ⟨c', h1, -, e1⟩ := h.cells _ _ _ _ hk
    simp only [Option.isSome_none, Bool.false_eq_true, if_false] at hv
    rw [cell_blk h1, e1 i (hn T)]; exact hv
  · cases hv
theorem Eff.blk (h : Eff Ch w w') {p : Nat} {o : Obj} (hv : w.heap[p]? = some o) (hn : ∀ T j, ¬ Ch p T j) : w'.heap[p]? = some o := by
  by_cases hc : ∃ c T f, o = Obj.cells c T f
  · obtain ⟨c, T, f, rfl⟩ := hc
    obtain ⟨c', h1, s1, e1⟩ := h.cells _ _ _ _ hv
    rw [h1, show c' = c from Array.ext_getElem? fun j => e1 j (hn T j)]
  · exact h.other p o hv fun c T f e => hc ⟨c, T, f, e⟩
theorem ownsRow_shape {E s n : Nat} {v : Value} {xs : List Value} (h : w.ownsRow B E s v n xs) (g : Eff Ch w w') : ∃ ys, w'.ownsRow B E s v n ys := by
  obtain ⟨hl, ⟨rfl, rfl⟩ | ⟨b, cap, cur, rfl, hb, hh, hn, hm, hs, ht⟩⟩ := h
  · exact ⟨xs, hl, .inl ⟨rfl, rfl⟩⟩
  · obtain ⟨c', h1, s1, -⟩ := g.cells _ _ _ _ hh
    refine ⟨c'.toList.take (n * s), ?_, .inr ⟨b, cap, c', rfl, hb, h1, hn, hm, s1.trans hs, rfl⟩⟩
    have := Nat.mul_le_mul_right s hn
    rw [List.length_take, Array.length_toList]; omega
theorem CellOK.mono {ck : CK} {v : Value} (h : CellOK w B N ck v) (g : Eff Ch w w') (hN : N ≤ N') : CellOK w' B N' ck v := by
  cases ck with
  | int k => exact h
  | bool => exact h
  | sl E s =>
    obtain ⟨n, xs, hn, ho⟩ := h
    obtain ⟨ys, hy⟩ := ownsRow_shape ho g
    exact ⟨n, ys, by omega, hy⟩
  | ptr T s =>
    obtain ⟨b, i, c, rfl, hb, hh, hs⟩ := h
    obtain ⟨c', h1, s1, -⟩ := g.cells _ _ _ _ hh
    exact ⟨b, i, c', rfl, hb, h1, by omega⟩
  | np => exact h
theorem WT.mono (h : WT sig B N w) (hN : N ≤ N') : WT sig B N' w := fun k c T f L hk hh hL => by
  obtain ⟨h1, h2, h3⟩ := h k c T f L hk hh hL
  exact ⟨h1, h2, fun i v hi => by obtain ⟨ck, e, o⟩ := h3 i v hi; exact ⟨ck, e, o.mono (Eff.refl (fun _ _ _ => False) w) hN⟩⟩
theorem WT.drew (h : WT sig B N w) : WT sig B N w.drew := fun k c T f L hk hh hL => by
  obtain ⟨h1, h2, h3⟩ := h k c T f L hk hh hL
  exact ⟨h1, h2, fun i v hi => by obtain ⟨ck, e, o⟩ := h3 i v hi; exact ⟨ck, e, o.mono ((Eff.refl (fun _ _ _ => False) w).drew) (Nat.le_refl _)⟩⟩
theorem WT.drewN (h : WT sig B N w) (n : Nat) : WT sig B N (w.drewN n) := fun k c T f L hk hh hL => by
  obtain ⟨h1, h2, h3⟩ := h k c T f L hk hh hL
  exact ⟨h1, h2, fun i v hi => by obtain ⟨ck, e, o⟩ := h3 i v hi; exact ⟨ck, e, o.mono ((Eff.refl (fun _ _ _ => False) w).drewN n) (Nat.le_refl _)⟩⟩
def RowsOK (w : World) (B N : Nat) (L : List CK) (c : Array Value) : Prop :=
  (∃ n, c.size = n * L.length) ∧ ∀ i v, c[i]? = some v → ∃ ck, L[i % L.length]? = some ck ∧ CellOK w B N ck v
def AllOK (w : World) (B N : Nat) : List CK → List Value → Prop
  | [], [] => True
  | k :: L, v :: l => CellOK w B N k v ∧ AllOK w B N L l
  | _, _ => False
theorem AllOK.len {L : List CK} {l : List Value} (h : AllOK w B N L l) : L.length = l.length := by
  induction L generalizing l with
  | nil => cases l with
    | nil => rfl
    | cons a b => exact h.elim
  | cons k L ih => cases l with
    | nil => exact h.elim
    | cons a b => simp only [List.length_cons, ih h.2]
theorem AllOK.get {L : List CK} {l : List Value} (h : AllOK w B N L l) {i : Nat} {v : Value} (hv : l[i]? = some v) : ∃ ck, L[i]? = some ck ∧ CellOK w B N ck v := by
  induction L generalizing l i with
  | nil => cases l with
    | nil => simp at hv
    | cons a b => exact h.elim
  | cons k L ih => cases l with
    | nil => exact h.elim
    | cons a b => cases i with
      | zero => simp at hv; subst hv; exact ⟨k, rfl, h.1⟩
      | succ i => simp at hv; obtain ⟨ck, e, o⟩ := ih h.2 hv; exact ⟨ck, by simpa using e, o⟩
theorem RowsOK.one {L : List CK} {l : List Value} (h : AllOK w B N L l) : RowsOK w B N L l.toArray := by
  have hl : L.length = l.length := h.len
  refine ⟨⟨1, by simp [hl]⟩, fun i v hi => ?_⟩
  rw [List.getElem?_toArray] at hi
  have hi1 := (List.getElem?_eq_some_iff.1 hi).1
  rw [Nat.mod_eq_of_lt (by omega)]
  exact h.get hi
theorem WT.alloc_any (h : WT sig B N w) {o : Obj} (ho : ∀ c T f L, o = Obj.cells c T f → sig T = some L → f = (0, 0) ∧ RowsOK (w.alloc o) B N L c) : WT sig B N (w.alloc o) := by
  intro k c T f L hk hh hL
  by_cases e : k < w.heap.size
  · rw [blk_alloc_old e] at hh
    obtain ⟨h1, h2, h3⟩ := h k c T f L hk hh hL
    exact ⟨h1, h2, fun i v hi => by obtain ⟨ck, e, o⟩ := h3 i v hi; exact ⟨ck, e, o.mono (Eff.alloc1 (fun _ _ _ => False) w _) (Nat.le_refl _)⟩⟩
  · have e2 : k = w.heap.size := by have := lt_of_blk hh; simp at this; omega
    subst e2
    rw [blk_alloc_new] at hh
    exact ho c T f L (by injection hh) hL
theorem WT.alloc (h : WT sig B N w) {c : Array Value} {T : TypeId} {L : List CK} (hT : sig T = some L) (hr : RowsOK w B N L c) : WT sig B N (w.alloc (.cells c T)) :=
  h.alloc_any fun c' T' f L' e hL => by
    cases e
    rw [hT] at hL
    cases hL
    exact ⟨rfl, hr.1, fun i v hi => by obtain ⟨ck, e, o⟩ := hr.2 i v hi; exact ⟨ck, e, o.mono (Eff.alloc1 (fun _ _ _ => False) w _) (Nat.le_refl _)⟩⟩
theorem WT.alloc_no (h : WT sig B N w) {c : Array Value} {T : TypeId} (hT : sig T = none) : WT sig B N (w.alloc (.cells c T)) :=
  h.alloc_any fun c' T' f L' e hL => by
    cases e
    rw [hT] at hL
    cases hL
theorem WT.set_any (h : WT sig B N w) {b : Nat} {w' : World} (hE : Eff Ch w w') (hsz : w'.heap.size = w.heap.size) (hO : ∀ k, k ≠ b → w'.heap[k]? = w.heap[k]?) (hb : ∀ c T f L, B ≤ b → w'.heap[b]? = some (.cells c T f) → sig T = some L → f = (0, 0) ∧ RowsOK w' B N L c) : WT sig B N w' := by
  intro k c T f L hk hh hL
  by_cases e : k = b
  · subst e
    exact hb c T f L hk hh hL
  · rw [hO k e] at hh
    obtain ⟨h1, h2, h3⟩ := h k c T f L hk hh hL
    exact ⟨h1, h2, fun i v hi => by obtain ⟨ck, e, o⟩ := h3 i v hi; exact ⟨ck, e, o.mono hE (Nat.le_refl _)⟩⟩
theorem WT.set (h : WT sig B N w) {b i : Nat} {c : Array Value} {T : TypeId} {L : List CK} {ck : CK} {v : Value} (hb : w.heap[b]? = some (.cells c T (0, 0))) (hT : sig T = some L) (hck : L[i % L.length]? = some ck) (hv : CellOK w B N ck v) : WT sig B N (w.setCell ⟨b, i, none⟩ v) := by
  have hE : Eff (fun _ _ _ => True) w (w.setCell ⟨b, i, none⟩ v) := Eff.set1 fun _ => trivial
  refine h.set_any hE (by simp [World.setCell]) (b := b) (fun k hk => blk_setCell_ne hk v) fun c' T' f' L' hB hh hL => ?_
  rw [blk_setCell hb] at hh
  cases hh
  rw [hT] at hL
  cases hL
  obtain ⟨h1, h2, h3⟩ := h b c T (0, 0) L hB hb hT
  refine ⟨rfl, by simpa using h2, fun j u hj => ?_⟩
  rw [Array.getElem?_setIfInBounds] at hj
  split at hj
  · rename_i e
    subst e
    split at hj
    · cases hj
      exact ⟨ck, hck, hv.mono hE (Nat.le_refl _)⟩
    · cases hj
  · obtain ⟨ck, e, o⟩ := h3 j u hj
    exact ⟨ck, e, o.mono hE (Nat.le_refl _)⟩
theorem WT.cell (h : WT sig B N w) {b i : Nat} {c : Array Value} {T : TypeId} {f : Nat × Nat} {L : List CK} {ck : CK} (hB : B ≤ b) (hb : w.heap[b]? = some (.cells c T f)) (hT : sig T = some L) (hi : i < c.size) (hck : L[i % L.length]? = some ck) :
    ∃ v, w.cell? ⟨b, i, none⟩ = some v ∧ CellOK w B N ck v := by
  obtain ⟨-, -, h3⟩ := h b c T f L hB hb hT
  obtain ⟨ck', e, o⟩ := h3 i c[i] (Array.getElem?_eq_getElem hi)
  rw [hck] at e
  cases e
  exact ⟨c[i], by rw [cell_blk hb, Array.getElem?_eq_getElem hi], o⟩
end Go.Proofs.YtncnepmgmphanaaGreatDoor

namespace Go.Proofs.YtncnepmgmphanaaGreatDoor
open Go.RowKit
inductive VK where
  | c (k : CK)
  | agg (L : List CK)
  | ak (L : List CK) (ks : List Int)
  | bk (b : Bool)
deriving DecidableEq
def VK.cells : VK → List CK
  | .c k => [k]
  | .agg L => L
  | .ak L _ => L
  | .bk _ => [.bool]
abbrev Kd := TypeId → Option VK
def Kd.sig (kd : Kd) : Sig := fun T => (kd T).map VK.cells
def Kd.sz (kd : Kd) (T : TypeId) : Nat := ((kd.sig T).getD []).length
inductive Org where
  | par (i : Nat)
  | new
  | env
  | any
deriving DecidableEq
inductive AT where
  | v (k : VK)
  | pos (k : IntKind)
  | ptr (T o : Nat) (g : Org)
  | tup (l : List VK)
  | own (E s : Nat)
  | sln (E s m : Nat)
  | sm (k : IntKind)
  | kon (k : IntKind) (n : Int)
  | kb (b : Bool)
  | esl (o E s : Nat)
  | ixe (o : Nat)
  | val (j : Nat)
  | ne (k : IntKind) (n : Int)
  | ownp (E s : Nat)
  | hd (ks : List Int)
  | eln (o : Nat)
  | oob (o : Nat)
  | vsl (j E s : Nat)
  | vln (j : Nat)
  | vlm (j : Nat)
  | elp (o : Nat)
  | cnt (o : Nat)
  | cns (o : Nat)
  | cne (o : Nat)
deriving DecidableEq
structure Cx where
  base : Nat
  pe : Nat
  el : Nat → Value
  vals : Nat → Value
  ps : Nat → Nat × Nat
variable {w w' w2 : World} {B N N' : Nat} {kd : Kd} {cx : Cx} {Ch Ch' : Nat → TypeId → Nat → Prop}
def headOK (ks : List Int) (cs : List Value) : Prop := ∃ n ∈ ks, cs[0]? = some (.int .i64 n) ∨ cs[0]? = some (.bool (decide (n = 1)))
def VKok (w : World) (B N : Nat) : VK → Value → Prop
  | .c k, v => CellOK w B N k v
  | .agg L, v => ∃ cs : List Value, v = .agg cs.toArray ∧ AllOK w B N L cs
  | .ak L ks, v => ∃ cs : List Value, v = .agg cs.toArray ∧ AllOK w B N L cs ∧ headOK ks cs
  | .bk b, v => v = .bool b
def RowIn (kd : Kd) (w : World) (B T b r : Nat) : Prop := ∃ c : Array Value, B ≤ b ∧ w.heap[b]? = some (.cells c T (0, 0)) ∧ (r + 1) * kd.sz T ≤ c.size
def OrgOK (cx : Cx) : Org → Nat → Nat → Prop
  | .par i, b, r => cx.ps i = (b, r) ∧ b < cx.base
  | .new, b, _ => cx.base ≤ b
  | .env, b, r => b = cx.pe ∧ r = 0
  | .any, _, _ => True
def AllV (w : World) (B N : Nat) : List VK → List Value → Prop
  | [], [] => True
  | k :: L, v :: l => VKok w B N k v ∧ AllV w B N L l
  | _, _ => False
def slLen : Value → Nat
  | .slice _ n _ => n
  | _ => 0
def ATok (kd : Kd) (cx : Cx) (w : World) (B N : Nat) : AT → Value → Prop
  | .v k, v => VKok w B N k v
  | .pos k, v => ∃ n, v = .int k n ∧ inK k n ∧ 0 < n
  | .ptr T o g, v => ∃ b r, v = .pointer (some ⟨b, r * kd.sz T + o, none⟩) ∧ o < kd.sz T ∧ RowIn kd w B T b r ∧ OrgOK cx g b r
  | .tup l, v => ∃ xs : List Value, v = .tuple xs.toArray ∧ AllV w B N l xs
  | .own E s, v => CellOK w cx.base N (.sl E s) v
  | .sm k, v => ∃ n, v = .int k n ∧ inK k n ∧ 0 < n ∧ n ≤ 63
  | .kon k n, v => v = .int k n ∧ inK k n
  | .kb b, v => v = .bool b
  | .esl o E s, v => v = cx.el o ∧ CellOK w B N (.sl E s) v
  | .ixe o, v => ∃ z : Nat, v = .int .i64 z ∧ z < slLen (cx.el o) ∧ z ≤ 68719476736
  | .val j, v => v = cx.vals j
  | .ne k n, v => ∃ m, v = .int k m ∧ inK k m ∧ m ≠ n
  | .ownp E s, v => CellOK w cx.base N (.sl E s) v ∧ 0 < slLen v
  | .vsl j E s, v => v = cx.vals j ∧ CellOK w B N (.sl E s) v ∧ 0 < slLen v
  | .vln j, v => ∃ n : Nat, v = .int .i64 ((n : Int) + 1) ∧ slLen (cx.vals j) = n + 1 ∧ n ≤ 68719476736
  | .vlm j, v => ∃ n : Nat, v = .int .i64 (n : Int) ∧ slLen (cx.vals j) = n + 1 ∧ n ≤ 68719476736
  | .oob o, v => ∃ x, v = .int .i64 x ∧ inK .i64 x ∧ (slLen (cx.el o) : Int) ≤ x
  | .elp o, v => v = cx.el o ∧ ∃ n, v = .int .i64 n ∧ inK .i64 n ∧ 0 < n
  | .cnt o, v => ∃ x W, v = .int .i64 x ∧ cx.vals 8 = v ∧ cx.el o = .int .i64 W ∧ x < W ∧ inK .i64 x ∧ inK .i64 W
  | .cns o, v => ∃ x W, v = .int .i64 (x + 1) ∧ cx.vals 8 = .int .i64 x ∧ cx.el o = .int .i64 W ∧ x < W ∧ inK .i64 x ∧ inK .i64 W
  | .cne o, v => ∃ x W, v = .int .i64 x ∧ cx.el o = .int .i64 W ∧ ¬ x < W ∧ inK .i64 x
  | .eln o, v => v = .int .i64 (slLen (cx.el o)) ∧ slLen (cx.el o) ≤ 68719476736
  | .hd ks, v => ∃ n ∈ ks, v = .int .i64 n ∨ v = .bool (decide (n = 1))
  | .sln E s m, v => ∃ b c, v = .slice (some ⟨b, 0, none⟩) m m ∧ cx.base ≤ b ∧ w.heap[b]? = some (.cells c E (0, 0)) ∧ c.size = m * s ∧ m ≤ N ∧ m ≤ 1
theorem AllOK.mono {L : List CK} {l : List Value} (h : AllOK w B N L l) (g : Eff Ch w w') (hN : N ≤ N') : AllOK w' B N' L l := by
  induction L generalizing l with
  | nil => cases l with
    | nil => trivial
    | cons a b => exact h.elim
  | cons k L ih => cases l with
    | nil => exact h.elim
    | cons a b => exact ⟨h.1.mono g hN, ih h.2⟩
theorem AllOK.of_get {L : List CK} {l : List Value} (hl : L.length = l.length) (h : ∀ (i : Nat) (v : Value), l[i]? = some v → ∃ ck, L[i]? = some ck ∧ CellOK w B N ck v) : AllOK w B N L l := by
  induction L generalizing l with
  | nil => cases l with
    | nil => trivial
    | cons a b => simp at hl
  | cons k L ih => cases l with
    | nil => simp at hl
    | cons a b =>
      refine ⟨?_, ih (by simpa using hl) fun i v hv => ?_⟩
      · obtain ⟨ck, e, o⟩ := h 0 a rfl
        simp at e
        subst e
        exact o
      · obtain ⟨ck, e, o⟩ := h (i + 1) v (by simpa using hv)
        exact ⟨ck, by simpa using e, o⟩
theorem VKok.mono {k : VK} {v : Value} (h : VKok w B N k v) (g : Eff Ch w w') (hN : N ≤ N') : VKok w' B N' k v := by
  cases k with
  | c k => exact CellOK.mono h g hN
  | agg L => obtain ⟨cs, rfl, ho⟩ := h; exact ⟨cs, rfl, ho.mono g hN⟩
  | ak L ks => obtain ⟨cs, rfl, ho, hh⟩ := h; exact ⟨cs, rfl, ho.mono g hN, hh⟩
  | bk b => exact h
theorem AllV.mono {L : List VK} {l : List Value} (h : AllV w B N L l) (g : Eff Ch w w') (hN : N ≤ N') : AllV w' B N' L l := by
  induction L generalizing l with
  | nil => cases l with
    | nil => trivial
    | cons a b => exact h.elim
  | cons k L ih => cases l with
    | nil => exact h.elim
    | cons a b => exact ⟨h.1.mono g hN, ih h.2⟩
theorem RowIn.mono {T b r : Nat} (h : RowIn kd w B T b r) (g : Eff Ch w w') : RowIn kd w' B T b r := by
  obtain ⟨c, h1, h2, h3⟩ := h
  obtain ⟨c', e1, e2, -⟩ := g.cells _ _ _ _ h2
  exact ⟨c', h1, e1, by omega⟩
theorem ATok.mono {t : AT} {v : Value} (h : ATok kd cx w B N t v) (g : Eff Ch w w') (hN : N ≤ N') : ATok kd cx w' B N' t v := by
  cases t with
  | v k => exact VKok.mono h g hN
  | pos k => exact h
  | ptr T o q => obtain ⟨b, r, e, h1, h2, h3⟩ := h; exact ⟨b, r, e, h1, h2.mono g, h3⟩
  | tup l => obtain ⟨xs, e, ho⟩ := h; exact ⟨xs, e, ho.mono g hN⟩
  | sm k => exact h
  | kon k n => exact h
  | kb b => exact h
  | esl o E s => exact ⟨h.1, CellOK.mono h.2 g hN⟩
  | ixe o => exact h
  | val j => exact h
  | ne k n => exact h
  | ownp E s => exact ⟨CellOK.mono h.1 g hN, h.2⟩
  | hd ks => exact h
  | eln o => exact h
  | oob o => exact h
  | vsl j E s => exact ⟨h.1, CellOK.mono h.2.1 g hN, h.2.2⟩
  | vln j => exact h
  | vlm j => exact h
  | elp o => exact h
  | cnt o => exact h
  | cns o => exact h
  | cne o => exact h
  | own E s => exact CellOK.mono (show CellOK w cx.base N (.sl E s) v from h) g hN
  | sln E s m =>
    obtain ⟨b, c, e, h1, h2, h3, h4, h5⟩ := h
    obtain ⟨c', e1, e2, -⟩ := g.cells _ _ _ _ h2
    exact ⟨b, c', e, h1, e1, e2.trans h3, by omega, h5⟩
theorem VKok.cells {k : VK} {v : Value} (h : VKok w B N k v) : AllOK w B N k.cells v.cells.toList := by
  cases k with
  | c k =>
    have : v.cells = #[v] := by
      cases k with
      | int k => obtain ⟨n, rfl, _⟩ := h; rfl
      | bool => obtain ⟨n, rfl⟩ := h; rfl
      | sl E s =>
        obtain ⟨n, xs, _, hl, ⟨rfl, _⟩ | ⟨b, cap, cur, rfl, _⟩⟩ := h <;> rfl
      | ptr T s => obtain ⟨b, i, c, rfl, _⟩ := h; rfl
      | np => obtain ⟨a, rfl⟩ := h; rfl
    rw [this]
    exact ⟨h, trivial⟩
  | agg L => obtain ⟨cs, rfl, ho⟩ := h; simpa [VK.cells, Value.cells] using ho
  | ak L ks => obtain ⟨cs, rfl, ho, -⟩ := h; simpa [VK.cells, Value.cells] using ho
  | bk b =>
    have e : v = .bool b := h
    subst e
    exact ⟨⟨b, rfl⟩, trivial⟩
theorem CellOK.one {k : CK} {v : Value} (h : CellOK w B N k v) : v.oneCell' = true := by
  cases k with
  | int k => obtain ⟨n, rfl, _⟩ := h; rfl
  | bool => obtain ⟨n, rfl⟩ := h; rfl
  | sl E s => obtain ⟨n, xs, _, hl, ⟨rfl, _⟩ | ⟨b, cap, cur, rfl, _⟩⟩ := h <;> rfl
  | ptr T s => obtain ⟨b, i, c, rfl, _⟩ := h; rfl
  | np => obtain ⟨a, rfl⟩ := h; rfl
theorem AllOK.one {L : List CK} {l : List Value} (h : AllOK w B N L l) : ∀ v ∈ l, v.oneCell' = true := fun v hv => by
  obtain ⟨i, hi⟩ := List.mem_iff_getElem?.1 hv
  obtain ⟨ck, -, o⟩ := h.get hi
  exact o.one
theorem Eff.monoT (h : Eff Ch w w') (hc : ∀ k c T f j, w.heap[k]? = some (.cells c T f) → Ch k T j → Ch' k T j) : Eff Ch' w w' :=
  ⟨h.os, h.tape, h.output, h.size, fun k c T f hk => by
    obtain ⟨c1, h1, s1, e1⟩ := h.cells k c T f hk
    exact ⟨c1, h1, s1, fun j hj => e1 j fun hx => hj (hc k c T f j hk hx)⟩, h.other⟩
theorem Eff.setT (h : Eff Ch w w') {p i : Nat} {v : Value} {c : Array Value} {T : TypeId} {f : Nat × Nat} (hb : w'.heap[p]? = some (.cells c T f)) (hc : Ch p T i ∨ w.heap.size ≤ p) : Eff Ch w (w'.setCell ⟨p, i, none⟩ v) := by
  refine ⟨h.os, h.tape, h.output, by simpa [World.setCell] using h.size, fun k c0 T0 f0 hk => ?_, fun k o hk ho => ?_⟩
  · obtain ⟨c1, h1, s1, e1⟩ := h.cells _ _ _ _ hk
    by_cases e : k = p
    · subst e
      rw [hb] at h1
      cases h1
      refine ⟨_, blk_setCell hb i v, by simpa using s1, fun j hj => ?_⟩
      have : i ≠ j := fun e => by
        subst e
        rcases hc with hc | hc
        · exact hj hc
        · have := lt_of_blk hk; omega
      rw [Array.getElem?_setIfInBounds_ne this]
      exact e1 j hj
    · exact ⟨c1, by rw [blk_setCell_ne e]; exact h1, s1, e1⟩
  · have h1 := h.other k o hk ho
    by_cases e : k = p
    · subst e
      rw [hb] at h1
      exact absurd (Option.some.inj h1).symm (ho c T f)
    · rw [blk_setCell_ne e]; exact h1
theorem Eff.setsT {p : Nat} {T : TypeId} {f : Nat × Nat} : ∀ (vs : List Value) (i : Nat) (w' : World) (c : Array Value), Eff Ch w w' → w'.heap[p]? = some (.cells c T f) → (∀ j, j < vs.length → Ch p T (i + j) ∨ w.heap.size ≤ p) → Eff Ch w (w'.setCells p i vs)
  | [], _, w', c, h, _, _ => h
  | v :: r, i, w', c, h, hb, hc => by
    refine Eff.setsT r (i + 1) (w'.setCell ⟨p, i, none⟩ v) _ (h.setT hb (by have := hc 0 (by simp); simpa using this)) (blk_setCell hb i v) fun j hj => ?_
    have := hc (j + 1) (by simp; omega)
    rwa [show i + (j + 1) = i + 1 + j by omega] at this
theorem WT.sets {sig : Sig} {T : TypeId} {L : List CK} (hT : sig T = some L) {b : Nat} : ∀ (vs : List Value) (ks : List CK) (i : Nat) (w : World) (c : Array Value), WT sig B N w → w.heap[b]? = some (.cells c T (0, 0)) → AllOK w B N ks vs → (∀ j k, ks[j]? = some k → L[(i + j) % L.length]? = some k) → WT sig B N (w.setCells b i vs)
  | [], _, _, w, c, h, _, _, _ => h
  | v :: r, [], i, w, c, h, hb, ha, hk => ha.elim
  | v :: r, k :: ks, i, w, c, h, hb, ha, hk => by
    refine WT.sets hT r ks (i + 1) (w.setCell ⟨b, i, none⟩ v) _ (h.set hb hT (hk 0 k rfl) ha.1) (blk_setCell hb i v) (ha.2.mono (Eff.set1 (Ch := fun _ _ _ => True) fun _ => trivial) (Nat.le_refl _)) fun j k' hj => ?_
    have := hk (j + 1) k' (by simpa using hj)
    rwa [show i + (j + 1) = i + 1 + j by omega] at this
theorem WT.range {sig : Sig} (h : WT sig B N w) {T : TypeId} {L : List CK} (hT : sig T = some L) {b : Nat} {c : Array Value} {f : Nat × Nat} (hB : B ≤ b) (hb : w.heap[b]? = some (.cells c T f)) {ks : List CK} {i : Nat} (hi : i + ks.length ≤ c.size) (hk : ∀ j k, ks[j]? = some k → L[(i + j) % L.length]? = some k) :
    ∃ cs, AllOK w B N ks cs ∧ w.rangeAt b i cs := by
  obtain ⟨-, -, h3⟩ := h b c T f L hB hb hT
  refine ⟨(c.toList.drop i).take ks.length, AllOK.of_get (by simp; omega) fun j v hv => ?_, fun j v hv => ?_⟩
  · rw [List.getElem?_take] at hv
    split at hv
    · rename_i hj
      rw [List.getElem?_drop, Array.getElem?_toList] at hv
      obtain ⟨ck, e, o⟩ := h3 _ _ hv
      refine ⟨ks[j], List.getElem?_eq_getElem hj, ?_⟩
      have := hk j ks[j] (List.getElem?_eq_getElem hj)
      rw [e] at this
      cases this
      exact o
    · cases hv
  · rw [List.getElem?_take] at hv
    split at hv
    · rw [List.getElem?_drop, Array.getElem?_toList] at hv
      rw [cell_blk hb]; exact hv
    · cases hv
end Go.Proofs.YtncnepmgmphanaaGreatDoor
