/- A checker of the types of a function's code, second part: one operation. Plain; no condition. -/
import Derived.Test.YtncnepmgmphanaaGreatDoorMg02
import Derived.Shelf.Abstract
import Derived.Laws.AppendOwn
import Derived.Laws.AppendOwnNone
set_option linter.unusedVariables false
set_option linter.unusedSimpArgs false
set_option linter.unusedSectionVars false
namespace Go.Proofs.YtncnepmgmphanaaGreatDoor
section
open Go.RowKit
inductive EI where
 | par (i T o : Nat)
 | ty (T o : Nat)
deriving DecidableEq
abbrev Hm := List ((Nat × Nat × Nat) × AT)
structure aj where
 ps : List AT
 res : AT
 aS : List EI
 inc : Nat
 pre : Hm := []
 post : Hm := []
def zX (kd : Kd) : AT → Option VK
 | .v k => some k
 | .pos k => some (.c (.int k))
 | .sm k => some (.c (.int k))
 | .aN k _ => some (.c (.int k))
 | .kb b => some (.bk b)
 | .JB _ E s => some (.c (.sl E s))
 | .fB _ => some (.c (.int .i64))
 | .val _ => none
 | .hd _ => none
 | .Be _ => some (.c (.int .i64))
 | .wN _ => some (.c (.int .i64))
 | .qc _ E s => some (.c (.sl E s))
 | .wW _ => some (.c (.int .i64))
 | .wY _ => some (.c (.int .i64))
 | .AZ _ => some (.c (.int .i64))
 | .cnt _ => some (.c (.int .i64))
 | .xc _ => some (.c (.int .i64))
 | .FN _ => some (.c (.int .i64))
 | .ne k _ => some (.c (.int k))
 | .oL E s => some (.c (.sl E s))
 | .ptr T o _ => if o = 0 then some (.c (.ptr T (kd.sz T))) else none
 | .bX _ => none
 | .own E s => some (.c (.sl E s))
 | .rE E s _ => some (.c (.sl E s))
def zQ (kd : Kd) : VK → Option AT
 | .c (.ptr T s) => if s = kd.sz T ∧ 0 < s then some (.ptr T 0 .any) else none
 | .bk b => some (.kb b)
 | k => some (.v k)
def VK.sub : VK → VK → Bool
 | .ak L a, .ak M b => decide (L = M) && a.all fun n => b.contains n
 | .ak L _, .agg M => decide (L = M)
 | .bk _, .c .bool => true
 | a, b => decide (a = b)
def toSub (kd : Kd) (t : AT) (k : VK) : Bool := match zX kd t with
 | some k' => k'.sub k
 | none => false
def iT : AT → Option IntKind
 | .v (.c (.int k)) => some k
 | .pos k => some k
 | .sm k => some k
 | .aN k _ => some k
 | .fB _ => some .i64
 | .Be _ => some .i64
 | .wN _ => some .i64
 | .wW _ => some .i64
 | .wY _ => some .i64
 | .AZ _ => some .i64
 | .cnt _ => some .i64
 | .xc _ => some .i64
 | .FN _ => some .i64
 | .ne k _ => some k
 | _ => none
def sV : AT → Bool
 | .v (.c .bool) => true
 | .kb _ => true
 | _ => false
def uR (a b : AT) : Option AT :=
 if a = b then some a else match iT a, iT b with
   | some k, some l => if k = l then some (.v (.c (.int k))) else none
   | _, _ => if sV a && sV b then some (.v (.c .bool)) else none
def pq (L : List CK) (o : Nat) (ks : List CK) : Bool := decide (o + ks.length ≤ L.length) && decide ((L.drop o).take ks.length = ks)
def TS : CK → Value → Bool
 | .int k, .int l n => decide (k = l) && decide (k.min ≤ n) && decide (n ≤ k.max)
 | .bool, .bool _ => true
 | .sl _ _, .slice none 0 0 => true
 | .np, .pointer none => true
 | _, _ => false
def eZ : List CK → List Value → Bool
 | [], [] => true
 | k :: L, v :: l => TS k v && eZ L l
 | _, _ => false
def pF (P : Program) (T : TypeId) : VK → Bool
 | .c _ => ((P.underlying T).map TypeDesc.isRow) == some false
 | .agg L => ((P.underlying T).map TypeDesc.isRow) == some true && ((P.info? T).map (·.size)) == some L.length
 | _ => false
def rW : FU → Nat → Nat → List EI
 | .new, _, _ => []
 | .par i, T, o => [.par i T o]
 | .env, T, o => [.ty T o]
 | .any, T, o => [.ty T o]
def lU (kd : Kd) (E : List EI) : EI → Bool
 | .par i T o => (E.contains (.par i T o) || E.contains (.ty T o)) && decide (o < kd.sz T)
 | .ty T o => E.contains (.ty T o)
def dC (B : Nat) (kd : Kd) (cx : Cx) (E : List EI) (k : Nat) (T : TypeId) (j : Nat) : Prop :=
 cx.base ≤ k ∨ (∃ i o, EI.par i T o ∈ E ∧ k = (cx.ps i).1 ∧ j = (cx.ps i).2 * kd.sz T + o ∧ B ≤ k) ∨ (∃ o, EI.ty T o ∈ E ∧ j % kd.sz T = o ∧ B ≤ k)
def MB (op : BinOp) (a b : Int) : Option Bool :=
 match op with
 | .eql => some (a == b)
 | .neq => some (a != b)
 | .lss => some (decide (a < b))
 | .leq => some (decide (a ≤ b))
 | .gtr => some (decide (a > b))
 | .geq => some (decide (a ≥ b))
 | _ => none
def afy (op : BinOp) : AT → AT → Option AT
 | .aN k a, .aN l b => if k = l then (MB op a b).map .kb else none
 | .ne k a, .aN l b => if k = l ∧ a = b then (match op with | .eql => some (.kb false) | .neq => some (.kb true) | _ => none) else none
 | .fB _, .aN .i64 1 => (match op with | .add => some (.pos .i64) | _ => none)
 | .wW j, .aN .i64 1 => (match op with | .sub => some (.wY j) | _ => none)
 | .wN o, .Be p => if o = p then (match op with | .geq => some (.kb true) | _ => none) else none
 | .cnt o, .AZ p => if o = p then (match op with | .lss => some (.kb true) | _ => none) else none
 | .FN o, .AZ p => if o = p then (match op with | .lss => some (.kb false) | _ => none) else none
 | .cnt o, .aN .i64 1 => (match op with | .add => some (.xc o) | _ => none)
 | .fB o, .Be p => if o = p then (match op with | .geq => some (.kb false) | .lss => some (.kb true) | _ => none) else none
 | _, _ => none
def EJ : AT → Bool
 | .pos _ => true
 | .sm _ => true
 | .aN _ n => decide (0 < n)
 | .AZ _ => true
 | _ => false
def Ll (op : BinOp) (s t : AT) : Option AT :=
 match afy op s t, iT s, iT t with
 | some u, _, _ => some u
 | none, s', t' => match s', t' with
 | some k, some l => if k = l then
     match op with
     | .add | .sub | .mul | .and | .or | .xor | .andNot => some (.v (.c (.int k)))
     | .eql | .neq | .lss | .leq | .gtr | .geq => some (.v (.c .bool))
     | .quo | .rem => if EJ t then some (.v (.c (.int k))) else none
     | _ => none
   else none
 | _, _ => none
def Xb (op : UnOp) (s : AT) : Option AT :=
 match op, s with
 | .not, .v (.c .bool) => some (.v (.c .bool))
 | .not, .kb b => some (.kb !b)
 | .neg, s => (iT s).map fun k => .v (.c (.int k))
 | .xor, s => (iT s).map fun k => .v (.c (.int k))
 | _, _ => none
variable {P : Program} {kd : Kd} {cx : Cx} {w w' w0 : World} {B N : Nat}
theorem vg {z : Nat} (h : z ≤ 68719476736) : bB .i64 (z : Int) := by
 have e1 : IntKind.i64.min = -9223372036854775808 := by decide
 have e2 : IntKind.i64.max = 9223372036854775807 := by decide
 unfold bB
 rw [e1, e2]
 omega
theorem aU.lower {E s B' : Nat} {v : Value} (h : aU w B' N (.sl E s) v) (hB : B ≤ B') : aU w B N (.sl E s) v := by
 obtain ⟨n, xs, hn, hl, ⟨rfl, rfl⟩ | ⟨b, cap, cur, rfl, h1, h2⟩⟩ := h
 · exact ⟨0, xs, hn, hl, .inl ⟨rfl, rfl⟩⟩
 · exact ⟨n, xs, hn, hl, .inr ⟨b, cap, cur, rfl, Nat.le_trans hB h1, h2⟩⟩
theorem QJ {E s m : Nat} {v : Value} (h : bD kd cx w B N (.rE E s m) v) : aU w cx.base N (.sl E s) v := by
 obtain ⟨b, c, rfl, h1, h2, h3, h4, h5⟩ := h
 exact ⟨m, c.toList, h4, by simpa using h3, .inr ⟨b, m, c, rfl, h1, h2, Nat.le_refl _, by unfold maxLen; omega, h3, by rw [← h3, ← Array.length_toList]; exact List.take_length⟩⟩
theorem xX {x W : Int} (h : x < W) (h1 : bB .i64 x) (h2 : bB .i64 W) : bB .i64 (x + 1) := by
 unfold bB at *
 omega
theorem aaB {n : Nat} (h : n ≤ 68719476736) : bB .i64 ((n : Int) + 1) := by
 have e1 : IntKind.i64.min = -9223372036854775808 := by decide
 have e2 : IntKind.i64.max = 9223372036854775807 := by decide
 unfold bB
 rw [e1, e2]
 omega
theorem oz {t : AT} {k : VK} {v : Value} (hBb : B ≤ cx.base) (h : zX kd t = some k) (hv : bD kd cx w B N t v) : mI w B N k v := by
 cases t with
 | v k' => cases h; exact hv
 | pos k' => cases h; obtain ⟨n, rfl, h1, _⟩ := hv; exact ⟨n, rfl, h1⟩
 | sm k' => cases h; obtain ⟨n, rfl, h1, _⟩ := hv; exact ⟨n, rfl, h1⟩
 | aN k' n => cases h; exact ⟨n, hv.1, hv.2⟩
 | kb b => cases h; exact hv
 | JB o E s => cases h; exact hv.2
 | fB o => cases h; obtain ⟨z, rfl, h1, h2⟩ := hv; exact ⟨z, rfl, vg h2⟩
 | val j => cases h
 | hd ks => cases h
 | qc j E s => cases h; exact hv.2.1
 | wW j => cases h; obtain ⟨n, rfl, -, h1⟩ := hv; exact ⟨_, rfl, aaB h1⟩
 | wY j => cases h; obtain ⟨n, rfl, -, h1⟩ := hv; exact ⟨_, rfl, vg h1⟩
 | wN o => cases h; obtain ⟨x, rfl, h1, -⟩ := hv; exact ⟨x, rfl, h1⟩
 | AZ o => cases h; obtain ⟨-, n, rfl, h1, -⟩ := hv; exact ⟨n, rfl, h1⟩
 | cnt o => cases h; obtain ⟨x, W, rfl, -, -, -, h1, -⟩ := hv; exact ⟨x, rfl, h1⟩
 | xc o => cases h; obtain ⟨x, W, rfl, -, -, h1, h2, h3⟩ := hv; exact ⟨_, rfl, xX h1 h2 h3⟩
 | FN o => cases h; obtain ⟨x, W, rfl, -, -, h1⟩ := hv; exact ⟨x, rfl, h1⟩
 | Be o => cases h; obtain ⟨rfl, h2⟩ := hv; exact ⟨_, rfl, vg h2⟩
 | ne k' n => cases h; obtain ⟨m, rfl, h1, _⟩ := hv; exact ⟨m, rfl, h1⟩
 | oL E s => cases h; exact aU.lower hv.1 hBb
 | ptr T o g =>
   simp only [zX] at h
   split at h
   · rename_i e
     subst e
     cases h
     obtain ⟨b, r, rfl, -, ⟨c, h1, h2, h3⟩, -⟩ := hv
     exact ⟨b, r, c, rfl, h1, h2, h3⟩
   · cases h
 | bX l => cases h
 | own E s => cases h; exact aU.lower hv hBb
 | rE E s m => cases h; exact aU.lower (QJ hv) hBb
theorem Jg {k : VK} {t : AT} {v : Value} (h : zQ kd k = some t) (hv : mI w B N k v) : bD kd cx w B N t v := by
 cases k with
 | agg L => cases h; exact hv
 | ak L ks => cases h; exact hv
 | bk b => cases h; exact hv
 | c k =>
   cases k with
   | int k => cases h; exact hv
   | bool => cases h; exact hv
   | sl E s => cases h; exact hv
   | ptr T s =>
     simp only [zQ] at h
     split at h
     · rename_i e
       cases h
       obtain ⟨b, i, c, rfl, h1, h2, h3⟩ := hv
       exact ⟨b, i, by rw [Nat.add_zero, e.1], by omega, ⟨c, h1, h2, by rw [← e.1]; exact h3⟩, trivial⟩
     · cases h
   | np => cases h; exact hv
theorem VK.aie {k u : VK} {v : Value} (h : k.sub u = true) (hv : mI w B N k v) : mI w B N u v := by
 unfold VK.sub at h
 split at h
 · simp only [Bool.and_eq_true, decide_eq_true_eq, List.all_eq_true] at h
   obtain ⟨rfl, h2⟩ := h
   obtain ⟨cs, rfl, ho, n, hn, hh⟩ := hv
   exact ⟨cs, rfl, ho, n, by simpa using h2 n hn, hh⟩
 · simp only [decide_eq_true_eq] at h
   obtain rfl := h
   obtain ⟨cs, rfl, ho, -⟩ := hv
   exact ⟨cs, rfl, ho⟩
 · exact ⟨_, hv⟩
 · simp only [decide_eq_true_eq] at h
   obtain rfl := h
   exact hv
theorem nX {t : AT} {k : VK} {v : Value} (hBb : B ≤ cx.base) (h : toSub kd t k = true) (hv : bD kd cx w B N t v) : mI w B N k v := by
 unfold toSub at h
 split at h
 · rename_i k' hk
   exact VK.aie h (oz hBb hk hv)
 · cases h
theorem iX {t : AT} {k : IntKind} {v : Value} (h : iT t = some k) (hv : bD kd cx w B N t v) : ∃ n, v = .int k n ∧ bB k n := by
 unfold iT at h
 split at h
 · cases h; exact hv
 · cases h; obtain ⟨n, e, h1, _⟩ := hv; exact ⟨n, e, h1⟩
 · cases h; obtain ⟨n, e, h1, _⟩ := hv; exact ⟨n, e, h1⟩
 · cases h; exact ⟨_, hv.1, hv.2⟩
 · cases h; obtain ⟨z, e, h1, h2⟩ := hv; exact ⟨z, e, vg h2⟩
 · cases h; obtain ⟨e, h2⟩ := hv; exact ⟨_, e, vg h2⟩
 · cases h; obtain ⟨x, rfl, h1, -⟩ := hv; exact ⟨x, rfl, h1⟩
 · cases h; obtain ⟨n, rfl, -, h1⟩ := hv; exact ⟨_, rfl, aaB h1⟩
 · cases h; obtain ⟨n, rfl, -, h1⟩ := hv; exact ⟨_, rfl, vg h1⟩
 · cases h; obtain ⟨-, n, rfl, h1, -⟩ := hv; exact ⟨n, rfl, h1⟩
 · cases h; obtain ⟨x, W, rfl, -, -, -, h1, -⟩ := hv; exact ⟨x, rfl, h1⟩
 · cases h; obtain ⟨x, W, rfl, -, -, h1, h2, h3⟩ := hv; exact ⟨_, rfl, xX h1 h2 h3⟩
 · cases h; obtain ⟨x, W, rfl, -, -, h1⟩ := hv; exact ⟨x, rfl, h1⟩
 · cases h; obtain ⟨m, e, h1, _⟩ := hv; exact ⟨m, e, h1⟩
 · cases h
theorem zW {t : AT} {v : Value} (h : sV t = true) (hv : bD kd cx w B N t v) : ∃ b, v = .bool b := by
 unfold sV at h
 split at h
 · exact hv
 · exact ⟨_, hv⟩
 · cases h
theorem Di {t : AT} {v : Value} (h : EJ t = true) (hv : bD kd cx w B N t v) : ∃ k n, v = .int k n ∧ 0 < n := by
 unfold EJ at h
 split at h
 · obtain ⟨n, e, -, hp⟩ := hv; exact ⟨_, n, e, hp⟩
 · obtain ⟨n, e, -, hp, -⟩ := hv; exact ⟨_, n, e, hp⟩
 · exact ⟨_, _, hv.1, by simpa using h⟩
 · obtain ⟨-, n, e, -, h1⟩ := hv; exact ⟨_, n, e, h1⟩
 · cases h
theorem acZ {a b t : AT} {v : Value} (h : uR a b = some t) (hv : bD kd cx w B N a v) : bD kd cx w B N t v := by
 unfold uR at h
 split at h
 · cases h; exact hv
 · split at h
   · rename_i k l h1 h2
     split at h
     · cases h; exact iX h1 hv
     · cases h
   · split at h
     · rename_i hc
       cases h
       simp only [Bool.and_eq_true] at hc
       exact zW hc.1 hv
     · cases h
theorem adp {a b t : AT} {v : Value} (h : uR a b = some t) (hv : bD kd cx w B N b v) : bD kd cx w B N t v := by
 unfold uR at h
 split at h
 · rename_i e
   subst e
   cases h; exact hv
 · split at h
   · rename_i k l h1 h2
     split at h
     · rename_i e; subst e; cases h; exact iX h2 hv
     · cases h
   · split at h
     · rename_i hc
       cases h
       simp only [Bool.and_eq_true] at hc
       exact zW hc.2 hv
     · cases h
theorem oH {L ks : List CK} {o : Nat} (h : pq L o ks = true) : o + ks.length ≤ L.length ∧ ∀ j k, ks[j]? = some k → L[o + j]? = some k := by
 simp only [pq, Bool.and_eq_true, decide_eq_true_eq] at h
 refine ⟨h.1, fun j k hk => ?_⟩
 rw [← h.2, List.getElem?_take] at hk
 split at hk
 · rw [List.getElem?_drop] at hk; exact hk
 · cases hk
theorem fJ : ∀ {L : List CK} {l : List Value}, eZ L l = true → ∀ w, bJ w B N L l
 | [], [], _, _ => trivial
 | [], _ :: _, h, _ => by cases h
 | _ :: _, [], h, _ => by cases h
 | k :: L, v :: l, h, w => by
   simp only [eZ, Bool.and_eq_true] at h
   refine ⟨?_, fJ h.2 w⟩
   have h1 := h.1
   unfold TS at h1
   split at h1
   · rename_i k l n
     simp only [Bool.and_eq_true, decide_eq_true_eq] at h1
     obtain ⟨⟨rfl, h2⟩, h3⟩ := h1
     exact ⟨n, rfl, h2, h3⟩
   · exact ⟨_, rfl⟩
   · exact ⟨0, [], Nat.zero_le _, World.ownsRow_nil _ _ _ _⟩
   · exact ⟨_, rfl⟩
   · cases h1
theorem gP (k : IntKind) (n : Int) : bB k (k.wrap n) := by
 unfold bB
 cases k <;> simp [IntKind.wrap, IntKind.min, IntKind.max, IntKind.signed, IntKind.bits] <;> (try split) <;> omega
theorem acA {k : IntKind} {x y : Int} (h : bB k x) : bB k (x.tmod y) := by
 have h0 : k.min ≤ 0 ∧ 0 ≤ k.max := by cases k <;> decide
 have h1 : (x.tmod y).natAbs ≤ x.natAbs := by rw [Int.natAbs_tmod]; exact Nat.mod_le _ _
 unfold bB at *
 rcases Int.le_total 0 x with hx | hx
 · have := Int.tmod_nonneg y hx
   omega
 · have : (-x).tmod y = -(x.tmod y) := Int.neg_tmod x y
   have h2 := Int.tmod_nonneg y (show 0 ≤ -x by omega)
   omega
def nL (P : Program) (a : Act) (o : Oper) (w : World) (R : Value → World → Prop) : Prop :=
 (∃ v w', (execOp a.eval o).run P w = .ok (.value v) w' ∧ R v w') ∨ (∃ w', (execOp a.eval o).run P w = .ok .skip w' ∧ R undef w') ∨
   (∃ f args w1, (execOp a.eval o).run P w = .ok (.enter f args) w1 ∧ Calls P f args w1 fun e w' => ∃ v, e = .returned v ∧ R v w')
theorem nL.wp {a : Act} {o : Oper} {R : Value → World → Prop} {K : Act → World → Prop} {Q : Exit → Act → World → Prop} (h : nL P a o w R) (hK : ∀ v w', R v w' → K (a.put o.dst v) w') : o.wp P a w K Q := by
 unfold Oper.wp
 rcases h with ⟨v, w', e, hr⟩ | ⟨w', e, hr⟩ | ⟨f, args, w1, e, hc⟩
 · rw [e]; exact hK _ _ hr
 · rw [e]; exact hK _ _ hr
 · rw [e]
   refine hc.mono ?_
   rintro _ w' ⟨v, rfl, hr⟩
   exact hK _ _ hr
theorem nL.mono {a : Act} {o : Oper} {R R' : Value → World → Prop} (h : nL P a o w R) (hK : ∀ v w', R v w' → R' v w') : nL P a o w R' := by
 rcases h with ⟨v, w', e, hr⟩ | ⟨w', e, hr⟩ | ⟨f, args, w1, e, hc⟩
 · exact .inl ⟨v, w', e, hK _ _ hr⟩
 · exact .inr (.inl ⟨w', e, hK _ _ hr⟩)
 · exact .inr (.inr ⟨f, args, w1, e, hc.mono (by rintro _ w' ⟨v, rfl, hr⟩; exact ⟨v, rfl, hK _ _ hr⟩)⟩)
theorem Yg {op : BinOp} {s t u : AT} {T : TypeId} {x y : Operand} {a b : Value} (h : Ll op s t = some u) (ha : bD kd cx w B N s a) (hb : bD kd cx w B N t b) :
   ∃ v, (do eqGuard op T x y a b; binOp op T a b : Sem Value).run P w = .ok v w ∧ bD kd cx w B N u v := by
 unfold Ll at h
 split at h
 · rename_i u' hk
   cases h
   unfold afy at hk
   split at hk
   · rename_i k a' l b'
     split at hk
     · rename_i e
       subst e
       obtain ⟨rfl, hm⟩ := ha
       obtain ⟨rfl, hn⟩ := hb
       cases hc : MB op a' b' with
       | none => rw [hc] at hk; cases hk
       | some r =>
         rw [hc] at hk
         cases hk
         cases op <;> simp only [MB] at hc <;> first
           | (cases hc; done)
           | (cases hc; refine ⟨.bool _, ?_, rfl⟩; simp [eqGuard, binOp, Op.intCmp])
     · cases hk
   · rename_i k a' l b'
     split at hk
     · rename_i e
       obtain ⟨rfl, rfl⟩ := e
       obtain ⟨m, rfl, hm, hne⟩ := ha
       obtain ⟨rfl, hn⟩ := hb
       split at hk
       · cases hk
         refine ⟨.bool false, ?_, rfl⟩
         simp [eqGuard, binOp, Op.intCmp, hne]
       · cases hk
         refine ⟨.bool true, ?_, rfl⟩
         simp [eqGuard, binOp, Op.intCmp, hne]
       · cases hk
     · cases hk
   · rename_i q
     obtain ⟨z, rfl, h1, h2⟩ := ha
     obtain ⟨rfl, hn⟩ := hb
     split at hk
     · cases hk
       have e1 : IntKind.i64.wrap ((z : Int) + 1) = (z : Int) + 1 := by simp only [IntKind.wrap, IntKind.signed, IntKind.bits]; simp; omega
       refine ⟨.int .i64 ((z : Int) + 1), by simp [eqGuard, binOp, Op.intArith, e1], _, rfl, ?_, by omega⟩
       have e1 : IntKind.i64.min = -9223372036854775808 := by decide
       have e2 : IntKind.i64.max = 9223372036854775807 := by decide
       unfold bB
       rw [e1, e2]
       omega
     · cases hk
   · rename_i q
     obtain ⟨n, rfl, h1, h2⟩ := ha
     obtain ⟨rfl, hn⟩ := hb
     split at hk
     · cases hk
       have e1 : IntKind.i64.wrap (n : Int) = (n : Int) := by simp only [IntKind.wrap, IntKind.signed, IntKind.bits]; simp; omega
       exact ⟨.int .i64 (n : Int), by simp [eqGuard, binOp, Op.intArith, e1], n, rfl, h1, h2⟩
     · cases hk
   · rename_i q p
     split at hk
     · rename_i e
       subst e
       obtain ⟨x, rfl, -, h1⟩ := ha
       obtain ⟨rfl, h3⟩ := hb
       split at hk
       · cases hk
         refine ⟨.bool true, ?_, rfl⟩
         simp [eqGuard, binOp, Op.intCmp]
         omega
       · cases hk
     · cases hk
   · rename_i q p
     split at hk
     · rename_i e
       subst e
       obtain ⟨x, W, rfl, h1, h2, h3, -⟩ := ha
       obtain ⟨h4, n, rfl, -⟩ := hb
       rw [h2] at h4
       cases h4
       split at hk
       · cases hk
         refine ⟨.bool true, ?_, rfl⟩
         simp [eqGuard, binOp, Op.intCmp, h3]
       · cases hk
     · cases hk
   · rename_i q p
     split at hk
     · rename_i e
       subst e
       obtain ⟨x, W, rfl, h2, h3, -⟩ := ha
       obtain ⟨h4, n, rfl, -⟩ := hb
       rw [h2] at h4
       cases h4
       split at hk
       · cases hk
         refine ⟨.bool false, ?_, rfl⟩
         simp [eqGuard, binOp, Op.intCmp]
         omega
       · cases hk
     · cases hk
   · rename_i q
     obtain ⟨x, W, rfl, h1, h2, h3, h5, h6⟩ := ha
     obtain ⟨rfl, hn⟩ := hb
     split at hk
     · cases hk
       have h7 := xX h3 h5 h6
       have e1 : IntKind.i64.wrap (x + 1) = x + 1 := by
         have e1 : IntKind.i64.min = -9223372036854775808 := by decide
         have e2 : IntKind.i64.max = 9223372036854775807 := by decide
         unfold bB at h7
         rw [e1, e2] at h7
         simp only [IntKind.wrap, IntKind.signed, IntKind.bits]; simp; omega
       exact ⟨.int .i64 (x + 1), by simp [eqGuard, binOp, Op.intArith, e1], x, W, rfl, h1, h2, h3, h5, h6⟩
     · cases hk
   · rename_i q p
     split at hk
     · rename_i e
       subst e
       obtain ⟨z, rfl, h1, h2⟩ := ha
       obtain ⟨rfl, h3⟩ := hb
       split at hk
       · cases hk
         refine ⟨.bool false, ?_, rfl⟩
         simp [eqGuard, binOp, Op.intCmp]
         omega
       · cases hk
         refine ⟨.bool true, ?_, rfl⟩
         simp [eqGuard, binOp, Op.intCmp]
         omega
       · cases hk
     · cases hk
   · cases hk
 · split at h
   · rename_i k l h1 h2
     split at h
     · rename_i e
       subst e
       obtain ⟨m, rfl, hm⟩ := iX h1 ha
       obtain ⟨n, rfl, hn⟩ := iX h2 hb
       cases op <;> simp only [] at h <;> first
         | (cases h; done)
         | (cases h; exact ⟨_, by simp [eqGuard, binOp, Op.intArith, Op.intCmp, Op.intBits]; rfl, _, rfl, gP _ _⟩)
         | (cases h; exact ⟨_, by simp [eqGuard, binOp, Op.intArith, Op.intCmp, Op.intBits]; rfl, _, rfl⟩)
         | (split at h
            · rename_i hp'
              cases h
              obtain ⟨k', n', e, hp⟩ := Di hp' hb
              cases e
              have hn0 : n ≠ 0 := by omega
              first
                | exact ⟨_, by simp [eqGuard, binOp, Op.intDiv, hn0]; rfl, _, rfl, gP _ _⟩
                | exact ⟨_, by simp [eqGuard, binOp, Op.intDiv, hn0]; rfl, _, rfl, acA hm⟩
            · cases h)
     · cases h
   · cases h
theorem aev {op : UnOp} {s u : AT} {a : Value} (h : Xb op s = some u) (ha : bD kd cx w B N s a) : ∃ v, (Op.unary op a).run P w = .ok v w ∧ bD kd cx w B N u v := by
 unfold Xb at h
 split at h
 · cases h
   obtain ⟨b, rfl⟩ := ha
   exact ⟨_, rfl, _, rfl⟩
 · cases h
   cases ha
   exact ⟨_, rfl, rfl⟩
 · cases hk : iT s with
   | none => rw [hk] at h; cases h
   | some k =>
     rw [hk] at h
     cases h
     obtain ⟨m, rfl, hm⟩ := iX hk ha
     exact ⟨_, rfl, _, rfl, gP _ _⟩
 · cases hk : iT s with
   | none => rw [hk] at h; cases h
   | some k =>
     rw [hk] at h
     cases h
     obtain ⟨m, rfl, hm⟩ := iX hk ha
     exact ⟨_, rfl, _, rfl, gP _ _⟩
 · cases h
end
section
open Go.RowKit
variable {P : Program} {kd : Kd} {w w' : World} {B B0 N N' X M : Nat} {L : List CK}
theorem aT.mono {c : Array Value} {Ch : Nat → TypeId → Nat → Prop} (h : aT w B N L c) (g : Eff Ch w w') (hN : N ≤ N') : aT w' B N' L c :=
 ⟨h.1, fun i v hi => by obtain ⟨ck, e, o⟩ := h.2 i v hi; exact ⟨ck, e, o.mono g hN⟩⟩
theorem aT.app {a b : Array Value} (h : aT w B N L a) (g : aT w B N L b) : aT w B N L (a ++ b) := by
 obtain ⟨⟨n, hn⟩, h2⟩ := h
 obtain ⟨⟨m, hm⟩, g2⟩ := g
 refine ⟨⟨n + m, by rw [Array.size_append, hn, hm, Nat.add_mul]⟩, fun i v hi => ?_⟩
 rw [Array.getElem?_append] at hi
 split at hi
 · exact h2 i v hi
 · rename_i hge
   obtain ⟨ck, e, o⟩ := g2 _ v hi
   refine ⟨ck, ?_, o⟩
   rw [hn] at e
   have : i % L.length = (i - n * L.length) % L.length := by
     have h3 : i = (i - n * L.length) + n * L.length := by omega
     conv => lhs; rw [h3]
     rw [Nat.add_mul_mod_self_right]
   rw [this]; exact e
theorem aT.zeros {z : Array Value} (h : eZ L z.toList = true) (w : World) (k : Nat) : aT w B N L (Builtin.zeroCells z k) := by
 have ha := fJ (B := B) (N := N) h w
 have hl : L.length = z.size := by simpa using ha.len
 refine ⟨⟨k, by rw [size_zeroCells, hl]⟩, fun i v hi => ?_⟩
 unfold Builtin.zeroCells at hi
 rw [Array.getElem?_map, Array.getElem?_range] at hi
 split at hi
 · rename_i hlt
   simp only [Option.map_some, Option.some.injEq] at hi
   have hz : 0 < z.size := by
     rcases Nat.eq_zero_or_pos z.size with h0 | h0
     · rw [h0] at hlt; simp at hlt
     · exact h0
   have hm : i % z.size < z.size := Nat.mod_lt _ hz
   rw [getElem!_pos z _ hm] at hi
   rw [hl]
   exact ha.get (i := i % z.size) (v := v) (by rw [Array.getElem?_toList, Array.getElem?_eq_getElem hm, hi])
 · cases hi
theorem aT.take {c : Array Value} (h : aT w B N L c) {n : Nat} (hn : n * L.length ≤ c.size) : aT w B N L (c.toList.take (n * L.length)).toArray := by
 refine ⟨⟨n, by simp; omega⟩, fun i v hi => ?_⟩
 simp only [List.getElem?_toArray, List.getElem?_take] at hi
 split at hi
 · rw [Array.getElem?_toList] at hi; exact h.2 i v hi
 · cases hi
theorem aT.drop {c : Array Value} (h : aT w B N L c) {n : Nat} : aT w B N L (c.toList.drop (n * L.length)).toArray := by
 obtain ⟨⟨m, hm⟩, h2⟩ := h
 refine ⟨⟨m - n, by simp [hm, Nat.sub_mul]⟩, fun i v hi => ?_⟩
 simp only [List.getElem?_toArray, List.getElem?_drop, Array.getElem?_toList] at hi
 obtain ⟨ck, e, o⟩ := h2 _ v hi
 refine ⟨ck, ?_, o⟩
 rwa [Nat.add_comm, Nat.add_mul_mod_self_right] at e
theorem WT.rows {sig : Ml} (h : WT sig B N w) {b : Nat} {c : Array Value} {T : TypeId} {f : Nat × Nat} (hT : sig T = some L) (hB : B ≤ b) (hb : w.heap[b]? = some (.cells c T f)) : aT w B N L c := by
 obtain ⟨-, h2, h3⟩ := h b c T f L hB hb hT
 exact ⟨h2, h3⟩
theorem jE {g : Nat} {cur cs : Array Value} {T : TypeId} {f : Nat × Nat} (h : w.heap[g]? = some (.cells cur T f)) : (w.setRow g cs).heap[g]? = some (.cells cs T f) := by
 simp [World.setRow, Array.getElem?_modify, h]
theorem qZ {g k : Nat} {cs : Array Value} (h : k ≠ g) : (w.setRow g cs).heap[k]? = w.heap[k]? := by
 simp [World.setRow, Array.getElem?_modify, Ne.symm h]
theorem F5 {g : Nat} {cur cs : Array Value} {T : TypeId} (h : w.heap[g]? = some (.cells cur T (0, 0))) (hs : cs.size = cur.size) : Eff (fun k U _ => k = g ∧ U = T) w (w.setRow g cs) := by
 refine ⟨rfl, rfl, rfl, by simp [World.setRow], fun k c U f hk => ?_, fun k o hk ho => ?_⟩
 · by_cases e : k = g
   · subst e
     rw [h] at hk
     cases hk
     exact ⟨cs, jE h, hs, fun j hj => absurd ⟨rfl, rfl⟩ hj⟩
   · exact ⟨c, by rw [qZ e]; exact hk, rfl, fun _ _ => rfl⟩
 · by_cases e : k = g
   · subst e
     rw [h] at hk
     cases hk
     exact absurd rfl (ho _ _ _)
   · rw [qZ e]; exact hk
theorem nI {T ty e : TypeId} {i : TypeInfo} {z : Value} (ht : P.underlying T = some (.slice e)) (hi : P.info? e = some i) (hz : i.zero = some z) (hs : i.size = L.length) (hby : i.bytes ≤ 1024) (ig : eZ L z.cells.toList = true)
   (hL : kd.sig e = some L) (hw : WT kd.sig B N w) (hB0 : B ≤ B0) (hBw : B0 ≤ w.heap.size) {x : Value} (hx : pY w B0 X e L.length x) {a : Addr} {m c : Nat} {news : List Value} (hn : aT w B N L news.toArray) (hl : news.length = m * L.length)
   (hc : ∀ j u, news[j]? = some u → w.cell? (a.add j) = some u) (hX : X + m ≤ M) (hNM : N ≤ M) (hN : M ≤ 68719476736) (hm : x = .slice none 0 0 → 0 < m) :
   ∃ v w', (Builtin.append_ #[T, T] ty #[x, .slice (some a) m c]).run P w = .ok v w' ∧ WT kd.sig B M w' ∧ pY w' B0 M e L.length v ∧ Eff (fun k U _ => B0 ≤ k ∧ U = e) w w' ∧ bO v = bO x + m := by
 have h1 : ∀ u ∈ news, u.oneCell' = true := fun u hu => by
   obtain ⟨j, hj⟩ := List.mem_iff_getElem?.1 hu
   obtain ⟨ck, -, o⟩ := hn.2 j u (by simpa using hj)
   exact o.one
 have hnew : ∀ (l : List Value) (n : Nat) (cap : Nat), aT w B N L l.toArray → l.length = n * L.length → n ≤ cap → cap ≤ maxLen → n ≤ M →
     WT kd.sig B M (w.drew.alloc (.cells (l.toArray ++ Builtin.zeroCells z.cells (cap - n)) e)) ∧ pY (w.drew.alloc (.cells (l.toArray ++ Builtin.zeroCells z.cells (cap - n)) e)) B0 M e L.length (.slice (some ⟨w.heap.size, 0, none⟩) n cap) ∧ Eff (fun k U _ => B0 ≤ k ∧ U = e) w (w.drew.alloc (.cells (l.toArray ++ Builtin.zeroCells z.cells (cap - n)) e)) := fun l n cap hr hll hnc hcm hnN => by
   have hE0 : Eff (fun _ _ _ => False) w (w.drew.alloc (.cells (l.toArray ++ Builtin.zeroCells z.cells (cap - n)) e)) := (Eff.refl _ _).drew.alloc _
   have hzl : L.length = z.cells.size := by simpa using (fJ (B := B) (N := N) ig w).len
   refine ⟨WT.alloc ((hw.mono (hNM)).drew) hL ?_, ⟨n, l, hnN, ?_, .inr ⟨w.heap.size, cap, _, rfl, hBw, blk_alloc_new w.drew _, hnc, hcm, ?_, ?_⟩⟩, hE0.mono fun _ _ _ _ h => h.elim⟩
   · have := hr.app (aT.zeros ig w (cap - n))
     exact this.mono ((Eff.refl (fun _ _ _ => False) w).drew) (hNM)
   · exact hll
   · simp only [Array.size_append, List.size_toArray, size_zeroCells, hll, ← hzl]
     rw [← Nat.add_mul]; congr 1; omega
   · simp [hll.symm]
 obtain ⟨n, xs, hnN, hxl, ⟨rfl, rfl⟩ | ⟨g, cap, cur, rfl, hg0, hg, hnc, hcm, hcs, htk⟩⟩ := hx
 · have hm0 := hm rfl
   have hr := run_append_nil (P := P) w T ty e i z ht hi hz a m c news (by rw [hs]; exact hl) hc hm0 (by omega) (by
     have : m * i.bytes ≤ 68719476736 * 1024 := Nat.mul_le_mul (by omega) hby
     omega)
   obtain ⟨e1, e2, e3⟩ := hnew news m (grownCap w m 0 e) hn hl (grownCap_ge w m 0 e) (grownCap_le_maxLen w m 0 e (by unfold maxLen; omega)) (by omega)
   exact ⟨_, _, hr, e1, e2, e3, by simp [bO]⟩
 · have hrow := hw.rows hL (Nat.le_trans hB0 hg0) hg
   have YZ : n * L.length ≤ cur.size := by rw [hcs]; exact Nat.mul_le_mul_right _ hnc
   by_cases hroom : n + m ≤ cap
   · have hfit : n * L.length + news.length ≤ cur.size := by rw [hl, hcs, ← Nat.add_mul]; exact Nat.mul_le_mul_right _ hroom
     have hr := run_append_room (P := P) w T ty e i ht hi g n cap cur hg a m c news (by rw [hs]; exact hl) hc h1 hroom (by rw [hs]; exact hfit)
     rw [hs] at hr
     have hsz : (cur.toList.take (n * L.length) ++ news ++ cur.toList.drop (n * L.length + news.length)).toArray.size = cur.size := by
       simp only [List.size_toArray, List.length_append, List.length_take, List.length_drop, Array.length_toList]; omega
     have hE := F5 hg hsz
     refine ⟨_, _, hr, (hw.Ao hE (by simp [World.setRow]) (b := g) (fun k hk => qZ hk) fun c' T' f' L' hB hh YF => ?_).mono (hNM), ⟨n + m, xs ++ news, by omega, by rw [List.length_append, hxl, hl, Nat.add_mul], .inr ⟨g, cap, _, rfl, hg0, jE hg, hroom, hcm, hsz.trans hcs, ?_⟩⟩, hE.mono fun k U j _ h => by obtain ⟨rfl, rfl⟩ := h; exact ⟨hg0, rfl⟩, rfl⟩
     · rw [jE hg] at hh
       cases hh
       rw [hL] at YF
       cases YF
       refine ⟨rfl, aT.mono ?_ hE (Nat.le_refl _)⟩
       have hdrop : aT w B N L (cur.toList.drop (n * L.length + news.length)).toArray := by rw [hl, ← Nat.add_mul]; exact hrow.drop (n := n + m)
       have h3 := ((hrow.take YZ).app hn).app hdrop
       simpa using h3
     · simp only [Nat.add_mul, ← hl]
       rw [List.take_append_of_le_length (by simp; omega), List.take_of_length_le (by simp; omega), htk]
   · have holds : ∀ j u, xs[j]? = some u → w.cell? ((⟨g, 0, none⟩ : Addr).add j) = some u := fun j u hu => by
       rw [Go.WideShapes.add_plain, Nat.zero_add, aa hg]
       rw [← htk, List.getElem?_take] at hu
       split at hu
       · rwa [Array.getElem?_toList] at hu
       · cases hu
     have adF : (n + m) * i.bytes ≤ 140737488355328 := by
       have : (n + m) * i.bytes ≤ 68719476736 * 1024 := Nat.mul_le_mul (by omega) hby
       omega
     have hr := run_append_grow (P := P) w T ty e i z ht hi hz ⟨g, 0, none⟩ n cap xs (by rw [hs]; exact hxl) holds a m c news (by rw [hs]; exact hl) hc (by omega) (by omega) (growslice_fits (by omega) adF)
     have hxr : aT w B N L xs.toArray := by rw [← htk]; exact hrow.take YZ
     obtain ⟨e1, e2, e3⟩ := hnew (xs ++ news) (n + m) (grownCap w (n + m) cap e) (by simpa using hxr.app hn) (by rw [List.length_append, hxl, hl, Nat.add_mul]) (grownCap_ge w _ cap e) (grownCap_le_maxLen w _ cap e (by unfold maxLen; omega)) (by omega)
     rw [← List.append_toArray] at e1 e2 e3
     exact ⟨_, _, hr, e1, e2, e3, rfl⟩
end
end Go.Proofs.YtncnepmgmphanaaGreatDoor
