/- From a walk to a given statement whose row lists the variables of the library that chapter 07 reads, and on to the tied card. No condition beside what the row lists. -/
import Derived.Test.YtncnepmgmphanaaGreatDoorMg00
import Derived.Test.YtncnepmgmphanaaGreatDoorMg01
import Derived.Test.YtncnepmgmphanaaGreatDoorTie
import Derived.Test.YtncnepmgmphanaaGreatDoorCards
import Derived.SevenTiedAt
import Derived.LaidMore
import Derived.Lib.LaidTab
import Derived.Stop.Joined
import Derived.Stop.LaidErr
import Derived.Shelf.Vars
import Derived.Laws.AppendOwnNone
import Derived.Deep.MidRow
set_option linter.unusedVariables false
set_option linter.unusedSimpArgs false
set_option linter.unusedSectionVars false
namespace Go.Proofs.YtncnepmgmphanaaGreatDoor
section
open Go.ChangeShapes Go.WideShapes Go.ChangeAt Go.RowKit
def pV : List (String × DataW Unit) := [("math/bits.deBruijn32tab", Rows.laid_math_bits_deBruijn32tab), ("math/bits.deBruijn64tab", Rows.laid_math_bits_deBruijn64tab), ("internal/strconv.uint64pow10", Rows.laid_internal_strconv_uint64pow10), ("unicode/utf8.acceptRanges", Rows.laid_unicode_utf8_acceptRanges), ("strconv.ErrRange", Rows.laid_strconv_ErrRange), ("strconv.ErrSyntax", Rows.laid_strconv_ErrSyntax), ("unicode/utf8.first", Rows.laid_unicode_utf8_first)]
theorem afZ : "*" ++ "errors.errorString" = "*errors.errorString" := by decide
theorem aiK (u : TypeId) (h : Tryz.prog.typeName? 3 u = some "*errors.errorString") : u = 212 :=
 typeName_ptr_named (nm := "errors.errorString") (by rw [afZ]; kernel_rfl) (by kernel_rfl) (by decide) u (by rw [afZ]; exact h)
theorem OO : Tryz.prog.cellsOf 214 = 1 := by kernel_rfl
theorem P9 : Tryz.prog.cellsOf 9 = 1 := by kernel_rfl
theorem Sr {W : World} (h : laidMetH Tryz.prog pV W) (hsh : W.ShapedOpen Tryz.prog) : jc W := by
 have h' : laidMet Tryz.prog pV W := h
 have h2 : laidMet Tryz.prog (("internal/strconv.uint64pow10", Lib.tabData .u64 Lib.pow10Tab) :: pV.drop 3) W := h'.tail.tail
 have hR : laidMet Tryz.prog (("strconv.ErrRange", .iface "*errors.errorString" (.ptr (.agg [.lit (.string [118, 97, 108, 117, 101, 32, 111, 117, 116, 32, 111, 102, 32, 114, 97, 110, 103, 101])]))) :: pV.drop 5) W := h'.tail.tail.tail.tail
 have hS : laidMet Tryz.prog (("strconv.ErrSyntax", .iface "*errors.errorString" (.ptr (.agg [.lit (.string [105, 110, 118, 97, 108, 105, 100, 32, 115, 121, 110, 116, 97, 120])]))) :: pV.drop 6) W := h'.tail.tail.tail.tail.tail
 have gR : Tryz.prog.globalNamed "strconv.ErrRange" = some 2 := by kernel_rfl
 have gS : Tryz.prog.globalNamed "strconv.ErrSyntax" = some 1 := by kernel_rfl
 obtain ⟨a0, s0, hv0, -, -, -⟩ := laid_sentinel hR gR (by kernel_rfl) Tryz.underlying77 aiK Tryz.underlying212 Tryz.underlying214 rfl rfl Tryz.underlying9 OO P9
 obtain ⟨a1, s1, hv1, -, -, -⟩ := laid_sentinel hS gS (by kernel_rfl) Tryz.underlying77 aiK Tryz.underlying212 Tryz.underlying214 rfl rfl Tryz.underlying9 OO P9
 refine ⟨?_, ?_, ⟨_, _, by have h0 := World.var?_cell gS hv1 0; simpa using h0⟩, ⟨_, _, by have h0 := World.var?_cell gR hv0 0; simpa using h0⟩⟩
 · exact Go.Proofs.cell_of_shapedOpen_int (zero := #[.int .i64 0]) (t := 3) hsh (of_decide_eq_true (by kernel_rfl)) (by kernel_rfl) rfl (by kernel_rfl) (by kernel_rfl) Tryz.underlying3
 · exact Lib.tabIs_of_head (g := 3) (by kernel_rfl) (by kernel_rfl) Tryz.underlying207 Tryz.underlying59 (by kernel_rfl) (by kernel_rfl) h2
theorem KO {P : Program} {ts : Array TypeId} (h : ts.toList.all (fun t => !P.wantsStandIn t) = true) : ∀ (j : Nat) (t : TypeId), ts[j]? = some t → P.wantsStandIn t = false := by
 intro j t ht
 have := List.all_eq_true.1 h t (by rw [← Array.getElem?_toList] at ht; exact List.mem_of_getElem? ht)
 simpa using this
section
variable {H : Type} {enc : TypeId × Value → H}
theorem Si {a : Assume} {C : Checked} {os : Os} {f : FuncId} {fn : Func} {s : ChangeSpec} {conds : List PathCond} {apart fresh handsOn again : Bool} {X : World → Array Value → Prop}
   (hX : ∀ (w w' : World) (args : Array Value), w.heap = w'.heap → X w args → X w' args)
   (own : ownKnob C.prog.godebug = none) (started : os.Started) (noInit : C.prog.inits.idxOf? f = none) (hfn : C.prog.funcs[f]? = some fn)
   (witness : ∃ (w : World) (tape : Tape) (i : Input), w.os = os ∧ (w.forCall tape i).Shaped C.prog ∧ i.vars = [] ∧ Input.okWide C.prog (w.forCall tape i) .any w.heap.size f i ∧
     ((s.pre enc C.prog fn conds apart (w.forCall tape i).memory i.args ∧ X (w.forCall tape i).memory i.args) ∧ sizedMet enc C.prog fn (OpenSpec.ofChange s) apart (w.forCall tape i).memory i.args) ∧ a.holds C.prog (lone (Frame.enter C.prog f i.args .normal) [] (w.forCall tape i)))
   (contract : ∀ (W : World) (base : Nat) (args : Array Value) (ds gs : List (DataW H)) (before : List MemPlace),
     (∀ (j : Nat) t v, fn.params[j]? = some t → args[j]? = some v → Value.okWide C.prog W .any base t v) →
     DataW.Whole enc C.prog fn.params.toList s.vars apart W args.toList ds gs before →
     X W args → W.ShapedOpen C.prog →
     Calls C.prog f args W fun e W' => ∃ v, e = .returned v ∧ s.post enc C.prog fn apart fresh handsOn again W args v W') :
   ReturnsInHanded a C os f .any (fun w args => (s.pre enc C.prog fn conds apart w args ∧ X w args) ∧ sizedMet enc C.prog fn (OpenSpec.ofChange s) apart w args) (s.post enc C.prog fn apart fresh handsOn again) := by
 refine returnsInHanded_of_calls own started noInit witness ?_
 intro w tape i _ hsh _ hok hpre _
 obtain ⟨_, _, _, fn', hfn', _, _, _, _, hval⟩ := hok
 have e : fn' = fn := Option.some.inj (hfn'.symm.trans hfn)
 subst e
 obtain ⟨⟨⟨ds, gs, before, hw, _⟩, hx⟩, _⟩ := hpre
 have hw' := DataW.Whole.of_heap (w' := w.forCall tape i) (by rfl) hw
 refine (contract (w.forCall tape i) w.heap.size i.args ds gs before hval hw' (hX _ _ _ (by rfl) hx) hsh).mono fun e W' ⟨v, he, hp⟩ => ?_
 subst he
 exact ChangeSpec.post_blind hp
def Pm (F : FuncId) (f : Func) : Prop :=
 ∀ (H : Type) (enc : TypeId × Value → H) (W : World) (base : Nat) (args : Array Value) (ds : List (DataW H)) (ps : List MemPlace),
   (∀ (j : Nat) t v, f.params[j]? = some t → args[j]? = some v → Value.okWide Tryz.prog W .any base t v) →
   DataW.TrodAll enc Tryz.prog W 0 (fun _ => true) true f.params.toList args.toList ds ps →
   jc W →
   Calls Tryz.prog F args W fun e W' => e = .returned (.bool true) ∧ Only [] W W'
set_option maxRecDepth 100000 in
theorem OI {F : FuncId} {f : Func} {s : ChangeSpec} {os : Os} (started : os.Started) (noInit : Tryz.prog.inits.idxOf? F = none) (hf : Tryz.prog.funcs[F]? = some f) (hv : s.vars = [])
   (witness : ∃ (w : World) (tape : Tape) (i : Input), w.os = os ∧ (w.forCall tape i).Shaped Tryz.prog ∧ i.vars = [] ∧ Input.okWide Tryz.prog (w.forCall tape i) .any w.heap.size F i ∧
     ((s.pre enc Tryz.prog f [] false (w.forCall tape i).memory i.args ∧ laidMetH Tryz.prog pV (w.forCall tape i).memory) ∧ sizedMet enc Tryz.prog f (OpenSpec.ofChange s) false (w.forCall tape i).memory i.args) ∧ ({} : Assume).holds Tryz.prog (lone (Frame.enter Tryz.prog F i.args .normal) [] (w.forCall tape i)))
   (hres : f.resultTypes = #[4]) (hread : ∀ t ∈ f.params.toList, Tryz.prog.readableRec t = true ∧ t < Tryz.prog.types.size)
   (hspec : ∀ ds : List (DataW H), ds.length = f.params.toList.length → (s.fn H ds).results = [.lit (.bool true)] ∧ (s.fn H ds).args = ds ∧ (s.fn H ds).vars = [])
   (walk : Pm F f) :
   ReturnsInHanded {} Tryz.checked os F .any (fun w args => (s.pre enc Tryz.prog f [] false w args ∧ laidMetH Tryz.prog pV w) ∧ sizedMet enc Tryz.prog f (OpenSpec.ofChange s) false w args) (s.post enc Tryz.prog f false true false false) := by
 refine Si (C := Tryz.checked) (X := fun w _ => laidMetH Tryz.prog pV w) (fun _ _ _ hh h => h.of_heap hh) own started noInit hf witness ?_
 intro W base args ds gs before hval0 hW hL hsh
 have hW' := hW
 obtain ⟨p, q, hA, hV, rfl, _, _⟩ := hW
 rw [hv] at hV
 obtain ⟨rfl, rfl⟩ := trodVars_none hV
 simp only [List.append_nil] at hW'
 have hlt : ∀ x ∈ p, x.block < W.heap.size := fun x hx => by simpa using hW'.lt x hx
 refine (walk H enc W base args ds p hval0 hA (Sr hL hsh)).mono fun e W' ⟨he, ho⟩ => ?_
 subst he
 have hb := ho.below (by simp)
 obtain ⟨h1, h2, h3⟩ := hspec ds (trodAll_length hA)
 refine ⟨_, rfl, ds, [], p, [], p, [], hW', ?_, ?_, ?_, hb.frame _, fun h => by cases h⟩
 · rw [List.append_nil, h1, hres]
   exact trodAll_cons_mk (shut_bool Tryz.underlying4 _) trodAll_mk0
 · rw [List.append_nil, h2]
   exact KY laidOut hb hA hread hlt
 · rw [List.append_nil, h3, hv]
   exact rfl
end
end
section
open Go.RowKit
inductive CK where
 | int (k : IntKind)
 | bool
 | sl (E s : Nat)
 | ptr (T s : Nat)
 /-- Any pointer. -/
 | np
deriving DecidableEq
abbrev Ml := TypeId → Option (List CK)
def bB (k : IntKind) (n : Int) : Prop := k.min ≤ n ∧ n ≤ k.max
def pY (w : World) (B N E s : Nat) (v : Value) : Prop := ∃ n xs, n ≤ N ∧ w.ownsRow B E s v n xs
def ajn (w : World) (B T s : Nat) (v : Value) : Prop := ∃ b i c, v = .pointer (some ⟨b, i * s, none⟩) ∧ B ≤ b ∧ w.heap[b]? = some (.cells c T (0, 0)) ∧ (i + 1) * s ≤ c.size
def aU (w : World) (B N : Nat) : CK → Value → Prop
 | .int k, v => ∃ n, v = .int k n ∧ bB k n
 | .bool, v => ∃ b, v = .bool b
 | .sl E s, v => pY w B N E s v
 | .ptr T s, v => ajn w B T s v
 | .np, v => ∃ a, v = .pointer a
def WT (sig : Ml) (B N : Nat) (w : World) : Prop :=
 ∀ k c T f L, B ≤ k → w.heap[k]? = some (.cells c T f) → sig T = some L → f = (0, 0) ∧ (∃ n, c.size = n * L.length) ∧ ∀ i v, c[i]? = some v → ∃ ck, L[i % L.length]? = some ck ∧ aU w B N ck v
structure Eff (Ch : Nat → TypeId → Nat → Prop) (w w' : World) : Prop where
 os : w'.os = w.os
 tape : w'.tape = w.tape
 output : w'.output = w.output
 size : w.heap.size ≤ w'.heap.size
 cells : ∀ (k : Nat) (c : Array Value) (T : TypeId) (f : Nat × Nat), w.heap[k]? = some (.cells c T f) → ∃ c', w'.heap[k]? = some (.cells c' T f) ∧ c'.size = c.size ∧ ∀ j, ¬ Ch k T j → c'[j]? = c[j]?
 other : ∀ (k : Nat) (o : Obj), w.heap[k]? = some o → (∀ c T f, o ≠ Obj.cells c T f) → w'.heap[k]? = some o
variable {Ch oW : Nat → TypeId → Nat → Prop} {w w' w2 : World} {B N N' : Nat} {sig : Ml}
theorem Eff.refl (Ch : Nat → TypeId → Nat → Prop) (w : World) : Eff Ch w w :=
 ⟨rfl, rfl, rfl, Nat.le_refl _, fun k c T f h => ⟨c, h, rfl, fun _ _ => rfl⟩, fun _ _ h _ => h⟩
theorem Eff.trans (h : Eff Ch w w') (g : Eff Ch w' w2) : Eff Ch w w2 :=
 ⟨g.os.trans h.os, g.tape.trans h.tape, g.output.trans h.output, Nat.le_trans h.size g.size, fun k c T f hk => by
   obtain ⟨c1, h1, s1, e1⟩ := h.cells k c T f hk
   obtain ⟨c2, h2, s2, e2⟩ := g.cells k c1 T f h1
   exact ⟨c2, h2, s2.trans s1, fun j hj => (e2 j hj).trans (e1 j hj)⟩, fun k o hk ho => g.other k o (h.other k o hk ho) ho⟩
theorem Eff.mono (h : Eff Ch w w') (hc : ∀ k T j, k < w.heap.size → Ch k T j → oW k T j) : Eff oW w w' :=
 ⟨h.os, h.tape, h.output, h.size, fun k c T f hk => by
   obtain ⟨c1, h1, s1, e1⟩ := h.cells k c T f hk
   exact ⟨c1, h1, s1, fun j hj => e1 j fun hx => hj (hc k T j (aK hk) hx)⟩, h.other⟩
theorem Eff.drew (h : Eff Ch w w') : Eff Ch w w'.drew := ⟨h.os, h.tape, h.output, h.size, h.cells, h.other⟩
theorem Eff.drewN (h : Eff Ch w w') (n : Nat) : Eff Ch w (w'.drewN n) := ⟨h.os, h.tape, h.output, h.size, h.cells, h.other⟩
theorem Eff.bL (Ch : Nat → TypeId → Nat → Prop) (w : World) (o : Obj) : Eff Ch w (w.alloc o) :=
 ⟨rfl, rfl, rfl, by simp, fun k c T f hk => ⟨c, by rw [cO (aK hk)]; exact hk, rfl, fun _ _ => rfl⟩, fun k o' hk _ => by rw [cO (aK hk)]; exact hk⟩
theorem Eff.alloc (h : Eff Ch w w') (o : Obj) : Eff Ch w (w'.alloc o) := h.trans (Eff.bL Ch w' o)
theorem Eff.set1 {p : Nat} {i : Nat} {v : Value} (hc : ∀ T, Ch p T i) : Eff Ch w (w.setCell ⟨p, i, none⟩ v) := by
 refine ⟨rfl, rfl, rfl, by simp [World.setCell], fun k c T f hk => ?_, fun k o hk ho => ?_⟩
 · by_cases e : k = p
   · subst e
     refine ⟨_, aR hk i v, by simp, fun j hj => ?_⟩
     have : i ≠ j := fun e => hj (e ▸ hc T)
     simp [this]
   · exact ⟨c, by rw [bM e]; exact hk, rfl, fun _ _ => rfl⟩
 · by_cases e : k = p
   · subst e
     simp only [World.setCell, Array.getElem?_modify, ↓reduceIte, hk, Option.map_some]
   · rw [bM e]; exact hk
theorem Eff.cell (h : Eff Ch w w') {p i : Nat} {v : Value} (hv : w.cell? ⟨p, i, none⟩ = some v) (hn : ∀ T, ¬ Ch p T i) : w'.cell? ⟨p, i, none⟩ = some v := by
 unfold World.cell? at hv
 split at hv
 · rename_i c T f hk
   obtain ⟨c', h1, -, e1⟩ := h.cells _ _ _ _ hk
   simp only [Option.isSome_none, Bool.false_eq_true, if_false] at hv
   rw [aa h1, e1 i (hn T)]; exact hv
 · cases hv
theorem Eff.blk (h : Eff Ch w w') {p : Nat} {o : Obj} (hv : w.heap[p]? = some o) (hn : ∀ T j, ¬ Ch p T j) : w'.heap[p]? = some o := by
 by_cases hc : ∃ c T f, o = Obj.cells c T f
 · obtain ⟨c, T, f, rfl⟩ := hc
   obtain ⟨c', h1, s1, e1⟩ := h.cells _ _ _ _ hv
   rw [h1, show c' = c from Array.ext_getElem? fun j => e1 j (hn T j)]
 · exact h.other p o hv fun c T f e => hc ⟨c, T, f, e⟩
theorem La {E s n : Nat} {v : Value} {xs : List Value} (h : w.ownsRow B E s v n xs) (g : Eff Ch w w') : ∃ ys, w'.ownsRow B E s v n ys := by
 obtain ⟨hl, ⟨rfl, rfl⟩ | ⟨b, cap, cur, rfl, hb, hh, hn, hm, hs, ht⟩⟩ := h
 · exact ⟨xs, hl, .inl ⟨rfl, rfl⟩⟩
 · obtain ⟨c', h1, s1, -⟩ := g.cells _ _ _ _ hh
   refine ⟨c'.toList.take (n * s), ?_, .inr ⟨b, cap, c', rfl, hb, h1, hn, hm, s1.trans hs, rfl⟩⟩
   have := Nat.mul_le_mul_right s hn
   rw [List.length_take, Array.length_toList]; omega
theorem aU.mono {ck : CK} {v : Value} (h : aU w B N ck v) (g : Eff Ch w w') (hN : N ≤ N') : aU w' B N' ck v := by
 cases ck with
 | int k => exact h
 | bool => exact h
 | sl E s =>
   obtain ⟨n, xs, hn, ho⟩ := h
   obtain ⟨ys, hy⟩ := La ho g
   exact ⟨n, ys, by omega, hy⟩
 | ptr T s =>
   obtain ⟨b, i, c, rfl, hb, hh, hs⟩ := h
   obtain ⟨c', h1, s1, -⟩ := g.cells _ _ _ _ hh
   exact ⟨b, i, c', rfl, hb, h1, by omega⟩
 | np => exact h
theorem WT.mono (h : WT sig B N w) (hN : N ≤ N') : WT sig B N' w := fun k c T f L hk hh hL => by
 obtain ⟨h1, h2, h3⟩ := h k c T f L hk hh hL
 exact ⟨h1, h2, fun i v hi => by obtain ⟨ck, e, o⟩ := h3 i v hi; exact ⟨ck, e, o.mono (Eff.refl (fun _ _ _ => False) w) hN⟩⟩
theorem WT.drew (h : WT sig B N w) : WT sig B N w.drew := fun k c T f L hk hh hL => by
 obtain ⟨h1, h2, h3⟩ := h k c T f L hk hh hL
 exact ⟨h1, h2, fun i v hi => by obtain ⟨ck, e, o⟩ := h3 i v hi; exact ⟨ck, e, o.mono ((Eff.refl (fun _ _ _ => False) w).drew) (Nat.le_refl _)⟩⟩
theorem WT.drewN (h : WT sig B N w) (n : Nat) : WT sig B N (w.drewN n) := fun k c T f L hk hh hL => by
 obtain ⟨h1, h2, h3⟩ := h k c T f L hk hh hL
 exact ⟨h1, h2, fun i v hi => by obtain ⟨ck, e, o⟩ := h3 i v hi; exact ⟨ck, e, o.mono ((Eff.refl (fun _ _ _ => False) w).drewN n) (Nat.le_refl _)⟩⟩
def aT (w : World) (B N : Nat) (L : List CK) (c : Array Value) : Prop :=
 (∃ n, c.size = n * L.length) ∧ ∀ i v, c[i]? = some v → ∃ ck, L[i % L.length]? = some ck ∧ aU w B N ck v
def bJ (w : World) (B N : Nat) : List CK → List Value → Prop
 | [], [] => True
 | k :: L, v :: l => aU w B N k v ∧ bJ w B N L l
 | _, _ => False
theorem bJ.len {L : List CK} {l : List Value} (h : bJ w B N L l) : L.length = l.length := by
 induction L generalizing l with
 | nil => cases l with
   | nil => rfl
   | cons a b => exact h.elim
 | cons k L ih => cases l with
   | nil => exact h.elim
   | cons a b => simp only [List.length_cons, ih h.2]
theorem bJ.get {L : List CK} {l : List Value} (h : bJ w B N L l) {i : Nat} {v : Value} (hv : l[i]? = some v) : ∃ ck, L[i]? = some ck ∧ aU w B N ck v := by
 induction L generalizing l i with
 | nil => cases l with
   | nil => simp at hv
   | cons a b => exact h.elim
 | cons k L ih => cases l with
   | nil => exact h.elim
   | cons a b => cases i with
     | zero => simp at hv; subst hv; exact ⟨k, rfl, h.1⟩
     | succ i => simp at hv; obtain ⟨ck, e, o⟩ := ih h.2 hv; exact ⟨ck, by simpa using e, o⟩
theorem aT.one {L : List CK} {l : List Value} (h : bJ w B N L l) : aT w B N L l.toArray := by
 have hl : L.length = l.length := h.len
 refine ⟨⟨1, by simp [hl]⟩, fun i v hi => ?_⟩
 rw [List.getElem?_toArray] at hi
 have hi1 := (List.getElem?_eq_some_iff.1 hi).1
 rw [Nat.mod_eq_of_lt (by omega)]
 exact h.get hi
theorem WT.JL (h : WT sig B N w) {o : Obj} (ho : ∀ c T f L, o = Obj.cells c T f → sig T = some L → f = (0, 0) ∧ aT (w.alloc o) B N L c) : WT sig B N (w.alloc o) := by
 intro k c T f L hk hh hL
 by_cases e : k < w.heap.size
 · rw [cO e] at hh
   obtain ⟨h1, h2, h3⟩ := h k c T f L hk hh hL
   exact ⟨h1, h2, fun i v hi => by obtain ⟨ck, e, o⟩ := h3 i v hi; exact ⟨ck, e, o.mono (Eff.bL (fun _ _ _ => False) w _) (Nat.le_refl _)⟩⟩
 · have e2 : k = w.heap.size := by have := aK hh; simp at this; omega
   subst e2
   rw [blk_alloc_new] at hh
   exact ho c T f L (by injection hh) hL
theorem WT.alloc (h : WT sig B N w) {c : Array Value} {T : TypeId} {L : List CK} (hT : sig T = some L) (hr : aT w B N L c) : WT sig B N (w.alloc (.cells c T)) :=
 h.JL fun c' T' f L' e hL => by
   cases e
   rw [hT] at hL
   cases hL
   exact ⟨rfl, hr.1, fun i v hi => by obtain ⟨ck, e, o⟩ := hr.2 i v hi; exact ⟨ck, e, o.mono (Eff.bL (fun _ _ _ => False) w _) (Nat.le_refl _)⟩⟩
theorem WT.adx (h : WT sig B N w) {c : Array Value} {T : TypeId} (hT : sig T = none) : WT sig B N (w.alloc (.cells c T)) :=
 h.JL fun c' T' f L' e hL => by
   cases e
   rw [hT] at hL
   cases hL
theorem WT.Ao (h : WT sig B N w) {b : Nat} {w' : World} (hE : Eff Ch w w') (hsz : w'.heap.size = w.heap.size) (hO : ∀ k, k ≠ b → w'.heap[k]? = w.heap[k]?) (hb : ∀ c T f L, B ≤ b → w'.heap[b]? = some (.cells c T f) → sig T = some L → f = (0, 0) ∧ aT w' B N L c) : WT sig B N w' := by
 intro k c T f L hk hh hL
 by_cases e : k = b
 · subst e
   exact hb c T f L hk hh hL
 · rw [hO k e] at hh
   obtain ⟨h1, h2, h3⟩ := h k c T f L hk hh hL
   exact ⟨h1, h2, fun i v hi => by obtain ⟨ck, e, o⟩ := h3 i v hi; exact ⟨ck, e, o.mono hE (Nat.le_refl _)⟩⟩
theorem WT.set (h : WT sig B N w) {b i : Nat} {c : Array Value} {T : TypeId} {L : List CK} {ck : CK} {v : Value} (hb : w.heap[b]? = some (.cells c T (0, 0))) (hT : sig T = some L) (hck : L[i % L.length]? = some ck) (hv : aU w B N ck v) : WT sig B N (w.setCell ⟨b, i, none⟩ v) := by
 have hE : Eff (fun _ _ _ => True) w (w.setCell ⟨b, i, none⟩ v) := Eff.set1 fun _ => trivial
 refine h.Ao hE (by simp [World.setCell]) (b := b) (fun k hk => bM hk v) fun c' T' f' L' hB hh hL => ?_
 rw [aR hb] at hh
 cases hh
 rw [hT] at hL
 cases hL
 obtain ⟨h1, h2, h3⟩ := h b c T (0, 0) L hB hb hT
 refine ⟨rfl, by simpa using h2, fun j u hj => ?_⟩
 rw [Array.getElem?_setIfInBounds] at hj
 split at hj
 · rename_i e
   subst e
   split at hj
   · cases hj
     exact ⟨ck, hck, hv.mono hE (Nat.le_refl _)⟩
   · cases hj
 · obtain ⟨ck, e, o⟩ := h3 j u hj
   exact ⟨ck, e, o.mono hE (Nat.le_refl _)⟩
theorem WT.cell (h : WT sig B N w) {b i : Nat} {c : Array Value} {T : TypeId} {f : Nat × Nat} {L : List CK} {ck : CK} (hB : B ≤ b) (hb : w.heap[b]? = some (.cells c T f)) (hT : sig T = some L) (hi : i < c.size) (hck : L[i % L.length]? = some ck) :
   ∃ v, w.cell? ⟨b, i, none⟩ = some v ∧ aU w B N ck v := by
 obtain ⟨-, -, h3⟩ := h b c T f L hB hb hT
 obtain ⟨ck', e, o⟩ := h3 i c[i] (Array.getElem?_eq_getElem hi)
 rw [hck] at e
 cases e
 exact ⟨c[i], by rw [aa hb, Array.getElem?_eq_getElem hi], o⟩
end
section
open Go.RowKit
inductive VK where
 | c (k : CK)
 | agg (L : List CK)
 | ak (L : List CK) (ks : List Int)
 | bk (b : Bool)
deriving DecidableEq
def VK.cells : VK → List CK
 | .c k => [k]
 | .agg L => L
 | .ak L _ => L
 | .bk _ => [.bool]
abbrev Kd := TypeId → Option VK
def Kd.sig (kd : Kd) : Ml := fun T => (kd T).map VK.cells
def Kd.sz (kd : Kd) (T : TypeId) : Nat := ((kd.sig T).getD []).length
inductive FU where
 | par (i : Nat)
 | new
 | env
 | any
deriving DecidableEq
inductive AT where
 | v (k : VK)
 | pos (k : IntKind)
 | ptr (T o : Nat) (g : FU)
 | bX (l : List VK)
 | own (E s : Nat)
 | rE (E s m : Nat)
 | sm (k : IntKind)
 | aN (k : IntKind) (n : Int)
 | kb (b : Bool)
 | JB (o E s : Nat)
 | fB (o : Nat)
 | val (j : Nat)
 | ne (k : IntKind) (n : Int)
 | oL (E s : Nat)
 | hd (ks : List Int)
 | Be (o : Nat)
 | wN (o : Nat)
 | qc (j E s : Nat)
 | wW (j : Nat)
 | wY (j : Nat)
 | AZ (o : Nat)
 | cnt (o : Nat)
 | xc (o : Nat)
 | FN (o : Nat)
deriving DecidableEq
structure Cx where
 base : Nat
 pe : Nat
 el : Nat → Value
 vals : Nat → Value
 ps : Nat → Nat × Nat
variable {w w' w2 : World} {B N N' : Nat} {kd : Kd} {cx : Cx} {Ch oW : Nat → TypeId → Nat → Prop}
def ahz (ks : List Int) (cs : List Value) : Prop := ∃ n ∈ ks, cs[0]? = some (.int .i64 n) ∨ cs[0]? = some (.bool (decide (n = 1)))
def mI (w : World) (B N : Nat) : VK → Value → Prop
 | .c k, v => aU w B N k v
 | .agg L, v => ∃ cs : List Value, v = .agg cs.toArray ∧ bJ w B N L cs
 | .ak L ks, v => ∃ cs : List Value, v = .agg cs.toArray ∧ bJ w B N L cs ∧ ahz ks cs
 | .bk b, v => v = .bool b
def eO (kd : Kd) (w : World) (B T b r : Nat) : Prop := ∃ c : Array Value, B ≤ b ∧ w.heap[b]? = some (.cells c T (0, 0)) ∧ (r + 1) * kd.sz T ≤ c.size
def tY (cx : Cx) : FU → Nat → Nat → Prop
 | .par i, b, r => cx.ps i = (b, r) ∧ b < cx.base
 | .new, b, _ => cx.base ≤ b
 | .env, b, r => b = cx.pe ∧ r = 0
 | .any, _, _ => True
def vL (w : World) (B N : Nat) : List VK → List Value → Prop
 | [], [] => True
 | k :: L, v :: l => mI w B N k v ∧ vL w B N L l
 | _, _ => False
def bO : Value → Nat
 | .slice _ n _ => n
 | _ => 0
def bD (kd : Kd) (cx : Cx) (w : World) (B N : Nat) : AT → Value → Prop
 | .v k, v => mI w B N k v
 | .pos k, v => ∃ n, v = .int k n ∧ bB k n ∧ 0 < n
 | .ptr T o g, v => ∃ b r, v = .pointer (some ⟨b, r * kd.sz T + o, none⟩) ∧ o < kd.sz T ∧ eO kd w B T b r ∧ tY cx g b r
 | .bX l, v => ∃ xs : List Value, v = .tuple xs.toArray ∧ vL w B N l xs
 | .own E s, v => aU w cx.base N (.sl E s) v
 | .sm k, v => ∃ n, v = .int k n ∧ bB k n ∧ 0 < n ∧ n ≤ 63
 | .aN k n, v => v = .int k n ∧ bB k n
 | .kb b, v => v = .bool b
 | .JB o E s, v => v = cx.el o ∧ aU w B N (.sl E s) v
 | .fB o, v => ∃ z : Nat, v = .int .i64 z ∧ z < bO (cx.el o) ∧ z ≤ 68719476736
 | .val j, v => v = cx.vals j
 | .ne k n, v => ∃ m, v = .int k m ∧ bB k m ∧ m ≠ n
 | .oL E s, v => aU w cx.base N (.sl E s) v ∧ 0 < bO v
 | .qc j E s, v => v = cx.vals j ∧ aU w B N (.sl E s) v ∧ 0 < bO v
 | .wW j, v => ∃ n : Nat, v = .int .i64 ((n : Int) + 1) ∧ bO (cx.vals j) = n + 1 ∧ n ≤ 68719476736
 | .wY j, v => ∃ n : Nat, v = .int .i64 (n : Int) ∧ bO (cx.vals j) = n + 1 ∧ n ≤ 68719476736
 | .wN o, v => ∃ x, v = .int .i64 x ∧ bB .i64 x ∧ (bO (cx.el o) : Int) ≤ x
 | .AZ o, v => v = cx.el o ∧ ∃ n, v = .int .i64 n ∧ bB .i64 n ∧ 0 < n
 | .cnt o, v => ∃ x W, v = .int .i64 x ∧ cx.vals 8 = v ∧ cx.el o = .int .i64 W ∧ x < W ∧ bB .i64 x ∧ bB .i64 W
 | .xc o, v => ∃ x W, v = .int .i64 (x + 1) ∧ cx.vals 8 = .int .i64 x ∧ cx.el o = .int .i64 W ∧ x < W ∧ bB .i64 x ∧ bB .i64 W
 | .FN o, v => ∃ x W, v = .int .i64 x ∧ cx.el o = .int .i64 W ∧ ¬ x < W ∧ bB .i64 x
 | .Be o, v => v = .int .i64 (bO (cx.el o)) ∧ bO (cx.el o) ≤ 68719476736
 | .hd ks, v => ∃ n ∈ ks, v = .int .i64 n ∨ v = .bool (decide (n = 1))
 | .rE E s m, v => ∃ b c, v = .slice (some ⟨b, 0, none⟩) m m ∧ cx.base ≤ b ∧ w.heap[b]? = some (.cells c E (0, 0)) ∧ c.size = m * s ∧ m ≤ N ∧ m ≤ 1
theorem bJ.mono {L : List CK} {l : List Value} (h : bJ w B N L l) (g : Eff Ch w w') (hN : N ≤ N') : bJ w' B N' L l := by
 induction L generalizing l with
 | nil => cases l with
   | nil => trivial
   | cons a b => exact h.elim
 | cons k L ih => cases l with
   | nil => exact h.elim
   | cons a b => exact ⟨h.1.mono g hN, ih h.2⟩
theorem bJ.Nt {L : List CK} {l : List Value} (hl : L.length = l.length) (h : ∀ (i : Nat) (v : Value), l[i]? = some v → ∃ ck, L[i]? = some ck ∧ aU w B N ck v) : bJ w B N L l := by
 induction L generalizing l with
 | nil => cases l with
   | nil => trivial
   | cons a b => simp at hl
 | cons k L ih => cases l with
   | nil => simp at hl
   | cons a b =>
     refine ⟨?_, ih (by simpa using hl) fun i v hv => ?_⟩
     · obtain ⟨ck, e, o⟩ := h 0 a rfl
       simp at e
       subst e
       exact o
     · obtain ⟨ck, e, o⟩ := h (i + 1) v (by simpa using hv)
       exact ⟨ck, by simpa using e, o⟩
theorem mI.mono {k : VK} {v : Value} (h : mI w B N k v) (g : Eff Ch w w') (hN : N ≤ N') : mI w' B N' k v := by
 cases k with
 | c k => exact aU.mono h g hN
 | agg L => obtain ⟨cs, rfl, ho⟩ := h; exact ⟨cs, rfl, ho.mono g hN⟩
 | ak L ks => obtain ⟨cs, rfl, ho, hh⟩ := h; exact ⟨cs, rfl, ho.mono g hN, hh⟩
 | bk b => exact h
theorem vL.mono {L : List VK} {l : List Value} (h : vL w B N L l) (g : Eff Ch w w') (hN : N ≤ N') : vL w' B N' L l := by
 induction L generalizing l with
 | nil => cases l with
   | nil => trivial
   | cons a b => exact h.elim
 | cons k L ih => cases l with
   | nil => exact h.elim
   | cons a b => exact ⟨h.1.mono g hN, ih h.2⟩
theorem eO.mono {T b r : Nat} (h : eO kd w B T b r) (g : Eff Ch w w') : eO kd w' B T b r := by
 obtain ⟨c, h1, h2, h3⟩ := h
 obtain ⟨c', e1, e2, -⟩ := g.cells _ _ _ _ h2
 exact ⟨c', h1, e1, by omega⟩
theorem bD.mono {t : AT} {v : Value} (h : bD kd cx w B N t v) (g : Eff Ch w w') (hN : N ≤ N') : bD kd cx w' B N' t v := by
 cases t with
 | v k => exact mI.mono h g hN
 | pos k => exact h
 | ptr T o q => obtain ⟨b, r, e, h1, h2, h3⟩ := h; exact ⟨b, r, e, h1, h2.mono g, h3⟩
 | bX l => obtain ⟨xs, e, ho⟩ := h; exact ⟨xs, e, ho.mono g hN⟩
 | sm k => exact h
 | aN k n => exact h
 | kb b => exact h
 | JB o E s => exact ⟨h.1, aU.mono h.2 g hN⟩
 | fB o => exact h
 | val j => exact h
 | ne k n => exact h
 | oL E s => exact ⟨aU.mono h.1 g hN, h.2⟩
 | hd ks => exact h
 | Be o => exact h
 | wN o => exact h
 | qc j E s => exact ⟨h.1, aU.mono h.2.1 g hN, h.2.2⟩
 | wW j => exact h
 | wY j => exact h
 | AZ o => exact h
 | cnt o => exact h
 | xc o => exact h
 | FN o => exact h
 | own E s => exact aU.mono (show aU w cx.base N (.sl E s) v from h) g hN
 | rE E s m =>
   obtain ⟨b, c, e, h1, h2, h3, h4, h5⟩ := h
   obtain ⟨c', e1, e2, -⟩ := g.cells _ _ _ _ h2
   exact ⟨b, c', e, h1, e1, e2.trans h3, by omega, h5⟩
theorem mI.cells {k : VK} {v : Value} (h : mI w B N k v) : bJ w B N k.cells v.cells.toList := by
 cases k with
 | c k =>
   have : v.cells = #[v] := by
     cases k with
     | int k => obtain ⟨n, rfl, _⟩ := h; rfl
     | bool => obtain ⟨n, rfl⟩ := h; rfl
     | sl E s =>
       obtain ⟨n, xs, _, hl, ⟨rfl, _⟩ | ⟨b, cap, cur, rfl, _⟩⟩ := h <;> rfl
     | ptr T s => obtain ⟨b, i, c, rfl, _⟩ := h; rfl
     | np => obtain ⟨a, rfl⟩ := h; rfl
   rw [this]
   exact ⟨h, trivial⟩
 | agg L => obtain ⟨cs, rfl, ho⟩ := h; simpa [VK.cells, Value.cells] using ho
 | ak L ks => obtain ⟨cs, rfl, ho, -⟩ := h; simpa [VK.cells, Value.cells] using ho
 | bk b =>
   have e : v = .bool b := h
   subst e
   exact ⟨⟨b, rfl⟩, trivial⟩
theorem aU.one {k : CK} {v : Value} (h : aU w B N k v) : v.oneCell' = true := by
 cases k with
 | int k => obtain ⟨n, rfl, _⟩ := h; rfl
 | bool => obtain ⟨n, rfl⟩ := h; rfl
 | sl E s => obtain ⟨n, xs, _, hl, ⟨rfl, _⟩ | ⟨b, cap, cur, rfl, _⟩⟩ := h <;> rfl
 | ptr T s => obtain ⟨b, i, c, rfl, _⟩ := h; rfl
 | np => obtain ⟨a, rfl⟩ := h; rfl
theorem bJ.one {L : List CK} {l : List Value} (h : bJ w B N L l) : ∀ v ∈ l, v.oneCell' = true := fun v hv => by
 obtain ⟨i, hi⟩ := List.mem_iff_getElem?.1 hv
 obtain ⟨ck, -, o⟩ := h.get hi
 exact o.one
theorem Eff.iI (h : Eff Ch w w') (hc : ∀ k c T f j, w.heap[k]? = some (.cells c T f) → Ch k T j → oW k T j) : Eff oW w w' :=
 ⟨h.os, h.tape, h.output, h.size, fun k c T f hk => by
   obtain ⟨c1, h1, s1, e1⟩ := h.cells k c T f hk
   exact ⟨c1, h1, s1, fun j hj => e1 j fun hx => hj (hc k c T f j hk hx)⟩, h.other⟩
theorem Eff.dK (h : Eff Ch w w') {p i : Nat} {v : Value} {c : Array Value} {T : TypeId} {f : Nat × Nat} (hb : w'.heap[p]? = some (.cells c T f)) (hc : Ch p T i ∨ w.heap.size ≤ p) : Eff Ch w (w'.setCell ⟨p, i, none⟩ v) := by
 refine ⟨h.os, h.tape, h.output, by simpa [World.setCell] using h.size, fun k c0 T0 f0 hk => ?_, fun k o hk ho => ?_⟩
 · obtain ⟨c1, h1, s1, e1⟩ := h.cells _ _ _ _ hk
   by_cases e : k = p
   · subst e
     rw [hb] at h1
     cases h1
     refine ⟨_, aR hb i v, by simpa using s1, fun j hj => ?_⟩
     have : i ≠ j := fun e => by
       subst e
       rcases hc with hc | hc
       · exact hj hc
       · have := aK hk; omega
     rw [Array.getElem?_setIfInBounds_ne this]
     exact e1 j hj
   · exact ⟨c1, by rw [bM e]; exact h1, s1, e1⟩
 · have h1 := h.other k o hk ho
   by_cases e : k = p
   · subst e
     rw [hb] at h1
     exact absurd (Option.some.inj h1).symm (ho c T f)
   · rw [bM e]; exact h1
theorem Eff.wK {p : Nat} {T : TypeId} {f : Nat × Nat} : ∀ (vs : List Value) (i : Nat) (w' : World) (c : Array Value), Eff Ch w w' → w'.heap[p]? = some (.cells c T f) → (∀ j, j < vs.length → Ch p T (i + j) ∨ w.heap.size ≤ p) → Eff Ch w (w'.setCells p i vs)
 | [], _, w', c, h, _, _ => h
 | v :: r, i, w', c, h, hb, hc => by
   refine Eff.wK r (i + 1) (w'.setCell ⟨p, i, none⟩ v) _ (h.dK hb (by have := hc 0 (by simp); simpa using this)) (aR hb i v) fun j hj => ?_
   have := hc (j + 1) (by simp; omega)
   rwa [show i + (j + 1) = i + 1 + j by omega] at this
theorem WT.sets {sig : Ml} {T : TypeId} {L : List CK} (hT : sig T = some L) {b : Nat} : ∀ (vs : List Value) (ks : List CK) (i : Nat) (w : World) (c : Array Value), WT sig B N w → w.heap[b]? = some (.cells c T (0, 0)) → bJ w B N ks vs → (∀ j k, ks[j]? = some k → L[(i + j) % L.length]? = some k) → WT sig B N (w.setCells b i vs)
 | [], _, _, w, c, h, _, _, _ => h
 | v :: r, [], i, w, c, h, hb, ha, hk => ha.elim
 | v :: r, k :: ks, i, w, c, h, hb, ha, hk => by
   refine WT.sets hT r ks (i + 1) (w.setCell ⟨b, i, none⟩ v) _ (h.set hb hT (hk 0 k rfl) ha.1) (aR hb i v) (ha.2.mono (Eff.set1 (Ch := fun _ _ _ => True) fun _ => trivial) (Nat.le_refl _)) fun j k' hj => ?_
   have := hk (j + 1) k' (by simpa using hj)
   rwa [show i + (j + 1) = i + 1 + j by omega] at this
theorem WT.range {sig : Ml} (h : WT sig B N w) {T : TypeId} {L : List CK} (hT : sig T = some L) {b : Nat} {c : Array Value} {f : Nat × Nat} (hB : B ≤ b) (hb : w.heap[b]? = some (.cells c T f)) {ks : List CK} {i : Nat} (hi : i + ks.length ≤ c.size) (hk : ∀ j k, ks[j]? = some k → L[(i + j) % L.length]? = some k) :
   ∃ cs, bJ w B N ks cs ∧ w.rangeAt b i cs := by
 obtain ⟨-, -, h3⟩ := h b c T f L hB hb hT
 refine ⟨(c.toList.drop i).take ks.length, bJ.Nt (by simp; omega) fun j v hv => ?_, fun j v hv => ?_⟩
 · rw [List.getElem?_take] at hv
   split at hv
   · rename_i hj
     rw [List.getElem?_drop, Array.getElem?_toList] at hv
     obtain ⟨ck, e, o⟩ := h3 _ _ hv
     refine ⟨ks[j], List.getElem?_eq_getElem hj, ?_⟩
     have := hk j ks[j] (List.getElem?_eq_getElem hj)
     rw [e] at this
     cases this
     exact o
   · cases hv
 · rw [List.getElem?_take] at hv
   split at hv
   · rw [List.getElem?_drop, Array.getElem?_toList] at hv
     rw [aa hb]; exact hv
   · cases hv
end
end Go.Proofs.YtncnepmgmphanaaGreatDoor
