/- From a walk to a given statement whose row lists the variables of the library that chapter 07 reads, and on to the tied card. No condition beside what the row lists. -/
import Derived.Test.YtncnepmgmphanaaGreatDoorMg00
import Derived.Test.YtncnepmgmphanaaGreatDoorMg01
import Derived.Test.YtncnepmgmphanaaGreatDoorTie
import Derived.Test.YtncnepmgmphanaaGreatDoorCards
import Derived.SevenTiedAt
import Derived.LaidMore
import Derived.Lib.LaidTab
import Derived.Stop.Joined
import Derived.Stop.LaidErr
import Derived.Shelf.Vars
import Derived.Laws.AppendOwnNone
set_option linter.unusedVariables false
set_option linter.unusedSimpArgs false
set_option linter.unusedSectionVars false
namespace Go.Proofs.YtncnepmgmphanaaGreatDoor
open Go.ChangeShapes Go.WideShapes Go.ChangeAt Go.RowKit
def laidE : List (String × DataW Unit) := [("math/bits.deBruijn32tab", Rows.laid_math_bits_deBruijn32tab), ("math/bits.deBruijn64tab", Rows.laid_math_bits_deBruijn64tab), ("internal/strconv.uint64pow10", Rows.laid_internal_strconv_uint64pow10), ("unicode/utf8.acceptRanges", Rows.laid_unicode_utf8_acceptRanges), ("strconv.ErrRange", Rows.laid_strconv_ErrRange), ("strconv.ErrSyntax", Rows.laid_strconv_ErrSyntax), ("unicode/utf8.first", Rows.laid_unicode_utf8_first)]
theorem starE : "*" ++ "errors.errorString" = "*errors.errorString" := by decide
theorem rowE (u : TypeId) (h : Tryz.prog.typeName? 3 u = some "*errors.errorString") : u = 212 :=
  typeName_ptr_named (nm := "errors.errorString") (by rw [starE]; kernel_rfl) (by kernel_rfl) (by decide) u (by rw [starE]; exact h)
theorem cellsErr : Tryz.prog.cellsOf 214 = 1 := by kernel_rfl
theorem cellsStr : Tryz.prog.cellsOf 9 = 1 := by kernel_rfl
theorem lib_of_laid {W : World} (h : laidMetH Tryz.prog laidE W) (hsh : W.ShapedOpen Tryz.prog) : LibAt W := by
  have h' : laidMet Tryz.prog laidE W := h
  have h2 : laidMet Tryz.prog (("internal/strconv.uint64pow10", Lib.tabData .u64 Lib.pow10Tab) :: laidE.drop 3) W := h'.tail.tail
  have hR : laidMet Tryz.prog (("strconv.ErrRange", .iface "*errors.errorString" (.ptr (.agg [.lit (.string [118, 97, 108, 117, 101, 32, 111, 117, 116, 32, 111, 102, 32, 114, 97, 110, 103, 101])]))) :: laidE.drop 5) W := h'.tail.tail.tail.tail
  have hS : laidMet Tryz.prog (("strconv.ErrSyntax", .iface "*errors.errorString" (.ptr (.agg [.lit (.string [105, 110, 118, 97, 108, 105, 100, 32, 115, 121, 110, 116, 97, 120])]))) :: laidE.drop 6) W := h'.tail.tail.tail.tail.tail
  have gR : Tryz.prog.globalNamed "strconv.ErrRange" = some 2 := by kernel_rfl
  have gS : Tryz.prog.globalNamed "strconv.ErrSyntax" = some 1 := by kernel_rfl
  obtain ⟨a0, s0, hv0, -, -, -⟩ := laid_sentinel hR gR (by kernel_rfl) Tryz.underlying77 rowE Tryz.underlying212 Tryz.underlying214 rfl rfl Tryz.underlying9 cellsErr cellsStr
  obtain ⟨a1, s1, hv1, -, -, -⟩ := laid_sentinel hS gS (by kernel_rfl) Tryz.underlying77 rowE Tryz.underlying212 Tryz.underlying214 rfl rfl Tryz.underlying9 cellsErr cellsStr
  refine ⟨?_, ?_, ⟨_, _, by have h0 := World.var?_cell gS hv1 0; simpa using h0⟩, ⟨_, _, by have h0 := World.var?_cell gR hv0 0; simpa using h0⟩⟩
  · exact Go.Proofs.cell_of_shapedOpen_int (zero := #[.int .i64 0]) (t := 3) hsh (of_decide_eq_true (by kernel_rfl)) (by kernel_rfl) rfl (by kernel_rfl) (by kernel_rfl) Tryz.underlying3
  · exact Lib.tabIs_of_head (g := 3) (by kernel_rfl) (by kernel_rfl) Tryz.underlying207 Tryz.underlying59 (by kernel_rfl) (by kernel_rfl) h2
theorem standIns_none {P : Program} {ts : Array TypeId} (h : ts.toList.all (fun t => !P.wantsStandIn t) = true) : ∀ (j : Nat) (t : TypeId), ts[j]? = some t → P.wantsStandIn t = false := by
  intro j t ht
  have := List.all_eq_true.1 h t (by rw [← Array.getElem?_toList] at ht; exact List.mem_of_getElem? ht)
  simpa using this
section
variable {H : Type} {enc : TypeId × Value → H}
theorem wrap_shaped {a : Assume} {C : Checked} {os : Os} {f : FuncId} {fn : Func} {s : ChangeSpec} {conds : List PathCond} {apart fresh handsOn again : Bool} {X : World → Array Value → Prop}
    (hX : ∀ (w w' : World) (args : Array Value), w.heap = w'.heap → X w args → X w' args)
    (own : ownKnob C.prog.godebug = none) (started : os.Started) (noInit : C.prog.inits.idxOf? f = none) (hfn : C.prog.funcs[f]? = some fn)
    (witness : ∃ (w : World) (tape : Tape) (i : Input), w.os = os ∧ (w.forCall tape i).Shaped C.prog ∧ i.vars = [] ∧ Input.okWide C.prog (w.forCall tape i) .any w.heap.size f i ∧
      ((s.pre enc C.prog fn conds apart (w.forCall tape i).memory i.args ∧ X (w.forCall tape i).memory i.args) ∧ sizedMet enc C.prog fn (OpenSpec.ofChange s) apart (w.forCall tape i).memory i.args) ∧ a.holds C.prog (lone (Frame.enter C.prog f i.args .normal) [] (w.forCall tape i)))
    (contract : ∀ (W : World) (base : Nat) (args : Array Value) (ds gs : List (DataW H)) (before : List MemPlace),
      (∀ (j : Nat) t v, fn.params[j]? = some t → args[j]? = some v → Value.okWide C.prog W .any base t v) →
      DataW.Whole enc C.prog fn.params.toList s.vars apart W args.toList ds gs before →
      X W args → W.ShapedOpen C.prog →
      Calls C.prog f args W fun e W' => ∃ v, e = .returned v ∧ s.post enc C.prog fn apart fresh handsOn again W args v W') :
    ReturnsInHanded a C os f .any (fun w args => (s.pre enc C.prog fn conds apart w args ∧ X w args) ∧ sizedMet enc C.prog fn (OpenSpec.ofChange s) apart w args) (s.post enc C.prog fn apart fresh handsOn again) := by
  refine returnsInHanded_of_calls own started noInit witness ?_
  intro w tape i _ hsh _ hok hpre _
  obtain ⟨_, _, _, fn', hfn', _, _, _, _, hval⟩ := hok
  have e : fn' = fn := Option.some.inj (hfn'.symm.trans hfn)
  subst e
  obtain ⟨⟨⟨ds, gs, before, hw, _⟩, hx⟩, _⟩ := hpre
  have hw' := DataW.Whole.of_heap (w' := w.forCall tape i) (by rfl) hw
  refine (contract (w.forCall tape i) w.heap.size i.args ds gs before hval hw' (hX _ _ _ (by rfl) hx) hsh).mono fun e W' ⟨v, he, hp⟩ => ?_
  subst he
  exact ChangeSpec.post_blind hp
def LawWalkE (F : FuncId) (f : Func) : Prop :=
  ∀ (H : Type) (enc : TypeId × Value → H) (W : World) (base : Nat) (args : Array Value) (ds : List (DataW H)) (ps : List MemPlace),
    (∀ (j : Nat) t v, f.params[j]? = some t → args[j]? = some v → Value.okWide Tryz.prog W .any base t v) →
    DataW.TrodAll enc Tryz.prog W 0 (fun _ => true) true f.params.toList args.toList ds ps →
    LibAt W →
    Calls Tryz.prog F args W fun e W' => e = .returned (.bool true) ∧ Only [] W W'
set_option maxRecDepth 100000 in
theorem law_lifted_E {F : FuncId} {f : Func} {s : ChangeSpec} {os : Os} (started : os.Started) (noInit : Tryz.prog.inits.idxOf? F = none) (hf : Tryz.prog.funcs[F]? = some f) (hv : s.vars = [])
    (witness : ∃ (w : World) (tape : Tape) (i : Input), w.os = os ∧ (w.forCall tape i).Shaped Tryz.prog ∧ i.vars = [] ∧ Input.okWide Tryz.prog (w.forCall tape i) .any w.heap.size F i ∧
      ((s.pre enc Tryz.prog f [] false (w.forCall tape i).memory i.args ∧ laidMetH Tryz.prog laidE (w.forCall tape i).memory) ∧ sizedMet enc Tryz.prog f (OpenSpec.ofChange s) false (w.forCall tape i).memory i.args) ∧ ({} : Assume).holds Tryz.prog (lone (Frame.enter Tryz.prog F i.args .normal) [] (w.forCall tape i)))
    (hres : f.resultTypes = #[4]) (hread : ∀ t ∈ f.params.toList, Tryz.prog.readableRec t = true ∧ t < Tryz.prog.types.size)
    (hspec : ∀ ds : List (DataW H), ds.length = f.params.toList.length → (s.fn H ds).results = [.lit (.bool true)] ∧ (s.fn H ds).args = ds ∧ (s.fn H ds).vars = [])
    (walk : LawWalkE F f) :
    ReturnsInHanded {} Tryz.checked os F .any (fun w args => (s.pre enc Tryz.prog f [] false w args ∧ laidMetH Tryz.prog laidE w) ∧ sizedMet enc Tryz.prog f (OpenSpec.ofChange s) false w args) (s.post enc Tryz.prog f false true false false) := by
  refine wrap_shaped (C := Tryz.checked) (X := fun w _ => laidMetH Tryz.prog laidE w) (fun _ _ _ hh h => h.of_heap hh) own started noInit hf witness ?_
  intro W base args ds gs before hval0 hW hL hsh
  have hW' := hW
  obtain ⟨p, q, hA, hV, rfl, _, _⟩ := hW
  rw [hv] at hV
  obtain ⟨rfl, rfl⟩ := trodVars_none hV
  simp only [List.append_nil] at hW'
  have hlt : ∀ x ∈ p, x.block < W.heap.size := fun x hx => by simpa using hW'.lt x hx
  refine (walk H enc W base args ds p hval0 hA (lib_of_laid hL hsh)).mono fun e W' ⟨he, ho⟩ => ?_
  subst he
  have hb := ho.below (by simp)
  obtain ⟨h1, h2, h3⟩ := hspec ds (trodAll_length hA)
  refine ⟨_, rfl, ds, [], p, [], p, [], hW', ?_, ?_, ?_, hb.frame _, fun h => by cases h⟩
  · rw [List.append_nil, h1, hres]
    exact trodAll_cons_mk (shut_bool Tryz.underlying4 _) trodAll_mk0
  · rw [List.append_nil, h2]
    exact trodAll_below laidOut hb hA hread hlt
  · rw [List.append_nil, h3, hv]
    exact rfl
end
end Go.Proofs.YtncnepmgmphanaaGreatDoor

namespace Go.Proofs.YtncnepmgmphanaaGreatDoor
open Go.RowKit
inductive CK where
  | int (k : IntKind)
  | bool
  | sl (E s : Nat)
  | ptr (T s : Nat)
  /-- Any pointer. -/
  | np
deriving DecidableEq
abbrev Sig := TypeId → Option (List CK)
def inK (k : IntKind) (n : Int) : Prop := k.min ≤ n ∧ n ≤ k.max
def SlOK (w : World) (B N E s : Nat) (v : Value) : Prop := ∃ n xs, n ≤ N ∧ w.ownsRow B E s v n xs
def PtrOK (w : World) (B T s : Nat) (v : Value) : Prop := ∃ b i c, v = .pointer (some ⟨b, i * s, none⟩) ∧ B ≤ b ∧ w.heap[b]? = some (.cells c T (0, 0)) ∧ (i + 1) * s ≤ c.size
def CellOK (w : World) (B N : Nat) : CK → Value → Prop
  | .int k, v => ∃ n, v = .int k n ∧ inK k n
  | .bool, v => ∃ b, v = .bool b
  | .sl E s, v => SlOK w B N E s v
  | .ptr T s, v => PtrOK w B T s v
  | .np, v => ∃ a, v = .pointer a
def WT (sig : Sig) (B N : Nat) (w : World) : Prop :=
  ∀ k c T f L, B ≤ k → w.heap[k]? = some (.cells c T f) → sig T = some L → f = (0, 0) ∧ (∃ n, c.size = n * L.length) ∧ ∀ i v, c[i]? = some v → ∃ ck, L[i % L.length]? = some ck ∧ CellOK w B N ck v
structure Eff (Ch : Nat → TypeId → Nat → Prop) (w w' : World) : Prop where
  os : w'.os = w.os
  tape : w'.tape = w.tape
  output : w'.output = w.output
  size : w.heap.size ≤ w'.heap.size
  cells : ∀ (k : Nat) (c : Array Value) (T : TypeId) (f : Nat × Nat), w.heap[k]? = some (.cells c T f) → ∃ c', w'.heap[k]? = some (.cells c' T f) ∧ c'.size = c.size ∧ ∀ j, ¬ Ch k T j → c'[j]? = c[j]?
  other : ∀ (k : Nat) (o : Obj), w.heap[k]? = some o → (∀ c T f, o ≠ Obj.cells c T f) → w'.heap[k]? = some o
variable {Ch Ch' : Nat → TypeId → Nat → Prop} {w w' w2 : World} {B N N' : Nat} {sig : Sig}
theorem Eff.refl (Ch : Nat → TypeId → Nat → Prop) (w : World) : Eff Ch w w :=
  ⟨rfl, rfl, rfl, Nat.le_refl _, fun k c T f h => ⟨c, h, rfl, fun _ _ => rfl⟩, fun _ _ h _ => h⟩
theorem Eff.trans (h : Eff Ch w w') (g : Eff Ch w' w2) : Eff Ch w w2 :=
  ⟨g.os.trans h.os, g.tape.trans h.tape, g.output.trans h.output, Nat.le_trans h.size g.size, fun k c T f hk => by
    obtain ⟨c1, h1, s1, e1⟩ := h.cells k c T f hk
    obtain ⟨c2, h2, s2, e2⟩ := g.cells k c1 T f h1
    exact ⟨c2, h2, s2.trans s1, fun j hj => (e2 j hj).trans (e1 j hj)⟩, fun k o hk ho => g.other k o (h.other k o hk ho) ho⟩
theorem Eff.mono (h : Eff Ch w w') (hc : ∀ k T j, k < w.heap.size → Ch k T j → Ch' k T j) : Eff Ch' w w' :=
  ⟨h.os, h.tape, h.output, h.size, fun k c T f hk => by
    obtain ⟨c1, h1, s1, e1⟩ := h.cells k c T f hk
    exact ⟨c1, h1, s1, fun j hj => e1 j fun hx => hj (hc k T j (lt_of_blk hk) hx)⟩, h.other⟩
theorem Eff.drew (h : Eff Ch w w') : Eff Ch w w'.drew := ⟨h.os, h.tape, h.output, h.size, h.cells, h.other⟩
theorem Eff.drewN (h : Eff Ch w w') (n : Nat) : Eff Ch w (w'.drewN n) := ⟨h.os, h.tape, h.output, h.size, h.cells, h.other⟩
theorem Eff.alloc1 (Ch : Nat → TypeId → Nat → Prop) (w : World) (o : Obj) : Eff Ch w (w.alloc o) :=
  ⟨rfl, rfl, rfl, by simp, fun k c T f hk => ⟨c, by rw [blk_alloc_old (lt_of_blk hk)]; exact hk, rfl, fun _ _ => rfl⟩, fun k o' hk _ => by rw [blk_alloc_old (lt_of_blk hk)]; exact hk⟩
theorem Eff.alloc (h : Eff Ch w w') (o : Obj) : Eff Ch w (w'.alloc o) := h.trans (Eff.alloc1 Ch w' o)
theorem Eff.set1 {p : Nat} {i : Nat} {v : Value} (hc : ∀ T, Ch p T i) : Eff Ch w (w.setCell ⟨p, i, none⟩ v) := by
  refine ⟨rfl, rfl, rfl, by simp [World.setCell], fun k c T f hk => ?_, fun k o hk ho => ?_⟩
  · by_cases e : k = p
    · subst e
      refine ⟨_, blk_setCell hk i v, by simp, fun j hj => ?_⟩
      have : i ≠ j := fun e => hj (e ▸ hc T)
      simp [this]
    · exact ⟨c, by rw [blk_setCell_ne e]; exact hk, rfl, fun _ _ => rfl⟩
  · by_cases e : k = p
    · subst e
      simp only [World.setCell, Array.getElem?_modify, ↓reduceIte, hk, Option.map_some]
    · rw [blk_setCell_ne e]; exact hk
theorem Eff.cell (h : Eff Ch w w') {p i : Nat} {v : Value} (hv : w.cell? ⟨p, i, none⟩ = some v) (hn : ∀ T, ¬ Ch p T i) : w'.cell? ⟨p, i, none⟩ = some v := by
  unfold World.cell? at hv
  split at hv
  · rename_i c T f hk
    obtain ⟨c', h1, -, e1⟩ := h.cells _ _ _ _ hk
    simp only [Option.isSome_none, Bool.false_eq_true, if_false] at hv
    rw [cell_blk h1, e1 i (hn T)]; exact hv
  · cases hv
theorem Eff.blk (h : Eff Ch w w') {p : Nat} {o : Obj} (hv : w.heap[p]? = some o) (hn : ∀ T j, ¬ Ch p T j) : w'.heap[p]? = some o := by
  by_cases hc : ∃ c T f, o = Obj.cells c T f
  · obtain ⟨c, T, f, rfl⟩ := hc
    obtain ⟨c', h1, s1, e1⟩ := h.cells _ _ _ _ hv
    rw [h1, show c' = c from Array.ext_getElem? fun j => e1 j (hn T j)]
  · exact h.other p o hv fun c T f e => hc ⟨c, T, f, e⟩
theorem ownsRow_shape {E s n : Nat} {v : Value} {xs : List Value} (h : w.ownsRow B E s v n xs) (g : Eff Ch w w') : ∃ ys, w'.ownsRow B E s v n ys := by
  obtain ⟨hl, ⟨rfl, rfl⟩ | ⟨b, cap, cur, rfl, hb, hh, hn, hm, hs, ht⟩⟩ := h
  · exact ⟨xs, hl, .inl ⟨rfl, rfl⟩⟩
  · obtain ⟨c', h1, s1, -⟩ := g.cells _ _ _ _ hh
    refine ⟨c'.toList.take (n * s), ?_, .inr ⟨b, cap, c', rfl, hb, h1, hn, hm, s1.trans hs, rfl⟩⟩
    have := Nat.mul_le_mul_right s hn
    rw [List.length_take, Array.length_toList]; omega
theorem CellOK.mono {ck : CK} {v : Value} (h : CellOK w B N ck v) (g : Eff Ch w w') (hN : N ≤ N') : CellOK w' B N' ck v := by
  cases ck with
  | int k => exact h
  | bool => exact h
  | sl E s =>
    obtain ⟨n, xs, hn, ho⟩ := h
    obtain ⟨ys, hy⟩ := ownsRow_shape ho g
    exact ⟨n, ys, by omega, hy⟩
  | ptr T s =>
    obtain ⟨b, i, c, rfl, hb, hh, hs⟩ := h
    obtain ⟨c', h1, s1, -⟩ := g.cells _ _ _ _ hh
    exact ⟨b, i, c', rfl, hb, h1, by omega⟩
  | np => exact h
theorem WT.mono (h : WT sig B N w) (hN : N ≤ N') : WT sig B N' w := fun k c T f L hk hh hL => by
  obtain ⟨h1, h2, h3⟩ := h k c T f L hk hh hL
  exact ⟨h1, h2, fun i v hi => by obtain ⟨ck, e, o⟩ := h3 i v hi; exact ⟨ck, e, o.mono (Eff.refl (fun _ _ _ => False) w) hN⟩⟩
theorem WT.drew (h : WT sig B N w) : WT sig B N w.drew := fun k c T f L hk hh hL => by
  obtain ⟨h1, h2, h3⟩ := h k c T f L hk hh hL
  exact ⟨h1, h2, fun i v hi => by obtain ⟨ck, e, o⟩ := h3 i v hi; exact ⟨ck, e, o.mono ((Eff.refl (fun _ _ _ => False) w).drew) (Nat.le_refl _)⟩⟩
theorem WT.drewN (h : WT sig B N w) (n : Nat) : WT sig B N (w.drewN n) := fun k c T f L hk hh hL => by
  obtain ⟨h1, h2, h3⟩ := h k c T f L hk hh hL
  exact ⟨h1, h2, fun i v hi => by obtain ⟨ck, e, o⟩ := h3 i v hi; exact ⟨ck, e, o.mono ((Eff.refl (fun _ _ _ => False) w).drewN n) (Nat.le_refl _)⟩⟩
def RowsOK (w : World) (B N : Nat) (L : List CK) (c : Array Value) : Prop :=
  (∃ n, c.size = n * L.length) ∧ ∀ i v, c[i]? = some v → ∃ ck, L[i % L.length]? = some ck ∧ CellOK w B N ck v
def AllOK (w : World) (B N : Nat) : List CK → List Value → Prop
  | [], [] => True
  | k :: L, v :: l => CellOK w B N k v ∧ AllOK w B N L l
  | _, _ => False
theorem AllOK.len {L : List CK} {l : List Value} (h : AllOK w B N L l) : L.length = l.length := by
  induction L generalizing l with
  | nil => cases l with
    | nil => rfl
    | cons a b => exact h.elim
  | cons k L ih => cases l with
    | nil => exact h.elim
    | cons a b => simp only [List.length_cons, ih h.2]
theorem AllOK.get {L : List CK} {l : List Value} (h : AllOK w B N L l) {i : Nat} {v : Value} (hv : l[i]? = some v) : ∃ ck, L[i]? = some ck ∧ CellOK w B N ck v := by
  induction L generalizing l i with
  | nil => cases l with
    | nil => simp at hv
    | cons a b => exact h.elim
  | cons k L ih => cases l with
    | nil => exact h.elim
    | cons a b => cases i with
      | zero => simp at hv; subst hv; exact ⟨k, rfl, h.1⟩
      | succ i => simp at hv; obtain ⟨ck, e, o⟩ := ih h.2 hv; exact ⟨ck, by simpa using e, o⟩
theorem RowsOK.one {L : List CK} {l : List Value} (h : AllOK w B N L l) : RowsOK w B N L l.toArray := by
  have hl : L.length = l.length := h.len
  refine ⟨⟨1, by simp [hl]⟩, fun i v hi => ?_⟩
  rw [List.getElem?_toArray] at hi
  have hi1 := (List.getElem?_eq_some_iff.1 hi).1
  rw [Nat.mod_eq_of_lt (by omega)]
  exact h.get hi
theorem WT.alloc_any (h : WT sig B N w) {o : Obj} (ho : ∀ c T f L, o = Obj.cells c T f → sig T = some L → f = (0, 0) ∧ RowsOK (w.alloc o) B N L c) : WT sig B N (w.alloc o) := by
  intro k c T f L hk hh hL
  by_cases e : k < w.heap.size
  · rw [blk_alloc_old e] at hh
    obtain ⟨h1, h2, h3⟩ := h k c T f L hk hh hL
    exact ⟨h1, h2, fun i v hi => by obtain ⟨ck, e, o⟩ := h3 i v hi; exact ⟨ck, e, o.mono (Eff.alloc1 (fun _ _ _ => False) w _) (Nat.le_refl _)⟩⟩
  · have e2 : k = w.heap.size := by have := lt_of_blk hh; simp at this; omega
    subst e2
    rw [blk_alloc_new] at hh
    exact ho c T f L (by injection hh) hL
theorem WT.alloc (h : WT sig B N w) {c : Array Value} {T : TypeId} {L : List CK} (hT : sig T = some L) (hr : RowsOK w B N L c) : WT sig B N (w.alloc (.cells c T)) :=
  h.alloc_any fun c' T' f L' e hL => by
    cases e
    rw [hT] at hL
    cases hL
    exact ⟨rfl, hr.1, fun i v hi => by obtain ⟨ck, e, o⟩ := hr.2 i v hi; exact ⟨ck, e, o.mono (Eff.alloc1 (fun _ _ _ => False) w _) (Nat.le_refl _)⟩⟩
theorem WT.alloc_no (h : WT sig B N w) {c : Array Value} {T : TypeId} (hT : sig T = none) : WT sig B N (w.alloc (.cells c T)) :=
  h.alloc_any fun c' T' f L' e hL => by
    cases e
    rw [hT] at hL
    cases hL
theorem WT.set_any (h : WT sig B N w) {b : Nat} {w' : World} (hE : Eff Ch w w') (hsz : w'.heap.size = w.heap.size) (hO : ∀ k, k ≠ b → w'.heap[k]? = w.heap[k]?) (hb : ∀ c T f L, B ≤ b → w'.heap[b]? = some (.cells c T f) → sig T = some L → f = (0, 0) ∧ RowsOK w' B N L c) : WT sig B N w' := by
  intro k c T f L hk hh hL
  by_cases e : k = b
  · subst e
    exact hb c T f L hk hh hL
  · rw [hO k e] at hh
    obtain ⟨h1, h2, h3⟩ := h k c T f L hk hh hL
    exact ⟨h1, h2, fun i v hi => by obtain ⟨ck, e, o⟩ := h3 i v hi; exact ⟨ck, e, o.mono hE (Nat.le_refl _)⟩⟩
theorem WT.set (h : WT sig B N w) {b i : Nat} {c : Array Value} {T : TypeId} {L : List CK} {ck : CK} {v : Value} (hb : w.heap[b]? = some (.cells c T (0, 0))) (hT : sig T = some L) (hck : L[i % L.length]? = some ck) (hv : CellOK w B N ck v) : WT sig B N (w.setCell ⟨b, i, none⟩ v) := by
  have hE : Eff (fun _ _ _ => True) w (w.setCell ⟨b, i, none⟩ v) := Eff.set1 fun _ => trivial
  refine h.set_any hE (by simp [World.setCell]) (b := b) (fun k hk => blk_setCell_ne hk v) fun c' T' f' L' hB hh hL => ?_
  rw [blk_setCell hb] at hh
  cases hh
  rw [hT] at hL
  cases hL
  obtain ⟨h1, h2, h3⟩ := h b c T (0, 0) L hB hb hT
  refine ⟨rfl, by simpa using h2, fun j u hj => ?_⟩
  rw [Array.getElem?_setIfInBounds] at hj
  split at hj
  · rename_i e
    subst e
    split at hj
    · cases hj
      exact ⟨ck, hck, hv.mono hE (Nat.le_refl _)⟩
    · cases hj
  · obtain ⟨ck, e, o⟩ := h3 j u hj
    exact ⟨ck, e, o.mono hE (Nat.le_refl _)⟩
theorem WT.cell (h : WT sig B N w) {b i : Nat} {c : Array Value} {T : TypeId} {f : Nat × Nat} {L : List CK} {ck : CK} (hB : B ≤ b) (hb : w.heap[b]? = some (.cells c T f)) (hT : sig T = some L) (hi : i < c.size) (hck : L[i % L.length]? = some ck) :
    ∃ v, w.cell? ⟨b, i, none⟩ = some v ∧ CellOK w B N ck v := by
  obtain ⟨-, -, h3⟩ := h b c T f L hB hb hT
  obtain ⟨ck', e, o⟩ := h3 i c[i] (Array.getElem?_eq_getElem hi)
  rw [hck] at e
  cases e
  exact ⟨c[i], by rw [cell_blk hb, Array.getElem?_eq_getElem hi], o⟩
end Go.Proofs.YtncnepmgmphanaaGreatDoor
