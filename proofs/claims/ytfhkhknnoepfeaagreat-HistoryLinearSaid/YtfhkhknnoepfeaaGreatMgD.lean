/- Play, walked: the game is made, the machines act, what is left is done. -/
import Derived.Test.YtfhkhknnoepfeaaGreatHistWalk
namespace Go.Proofs.YtfhkhknnoepfeaaGreat
open Go.RowKit
set_option linter.unusedVariables false

/-- How much a pick adds. -/
theorem gstep_cb {q : Q4} {g : Gm} {a : Nat} (h : g.mem.count ≤ g.pick ∧ g.ops.length ≤ g.pick) : (gstep q g a).mem.count ≤ (gstep q g a).pick ∧ (gstep q g a).ops.length ≤ (gstep q g a).pick := by
  have st : ∀ (g : Gm) (k : K) (o : HOp), g.mem.count ≤ g.pick ∧ g.ops.length ≤ g.pick → (g.stepped a k o).mem.count ≤ (g.stepped a k o).pick ∧ (g.stepped a k o).ops.length ≤ (g.stepped a k o).pick := fun g k o h => by
    have h1 := (stepK_count k g.mem).2
    rw [stepped_mem, stepped_pick]
    refine ⟨by omega, ?_⟩
    cases ho : (stepK k g.mem).1.over with
    | true => rw [(stepped_done ho).1]; simp; omega
    | false => rw [(stepped_more ho).1]; omega
  have hs := gstep_is q g a
  generalize gstep q g a = g' at hs ⊢
  cases hs with
  | idle h1 h2 => simp only; omega
  | more k o h1 => exact st g k o h
  | begin x r h1 h2 => exact st _ _ _ h

section
variable {w0 : World} {B n c gb en m bc ck rb : Nat} {abs : Nat → Nat} {rv : Value} {g : Gm} {w : World}

/-- The game lies in w, somehow. -/
def GWx (w0 : World) (B n c gb en m bc ck rb : Nat) (abs : Nat → Nat) (rv : Value) (g : Gm) (w : World) : Prop := ∃ ps os avs opsV, GW w0 B n c gb en m bc ck rb abs ps os avs opsV rv g w

theorem pick_any {a : Nat} (H : GWx w0 B n c gb en m bc ck rb abs rv g w) (D : GD w0 B n gb en m bc ck rb abs) (ha : a < n) (hx : GX c g) (hc : c ≤ 1000000) (hp : g.pick ≤ 1000000) (hcb : g.mem.count ≤ g.pick ∧ g.ops.length ≤ g.pick) :
    Calls Tryz.prog 18 #[.pointer (some ⟨gb, 0, none⟩), .pointer (some ⟨abs a, 0, none⟩)] w fun e w' => e = .returned (.tuple #[]) ∧ GWx w0 B n c gb en m bc ck rb abs rv (gstep (q0 c) g a) w' := by
  obtain ⟨ps, os, avs, opsV, H⟩ := H
  have hs := gstep_is (q0 c) g a
  generalize gstep (q0 c) g a = g' at hs ⊢
  cases hs with
  | idle h1 h2 => exact pick_idle H D ha h1 h2 hp
  | more k o h1 => exact pick_more H D ha h1 (hx.live a k o h1) hp (by omega) (by omega)
  | begin x r h1 h2 =>
    have hn : (newK (q0 c) x).over = false ∧ (newK (q0 c) x).kind ≤ 2 := by
      unfold newK
      split
      · exact ⟨rfl, by simp [newPush]⟩
      · split
        · exact ⟨rfl, by simp [newPop]⟩
        · exact ⟨rfl, by simp [newSteal]⟩
    exact pick_begin H D ha h1 h2 rfl rfl rfl ⟨hn.1, newK_ok hc, hn.2⟩ hp (by show g.mem.count ≤ _; omega) (by show g.ops.length ≤ _; omega)
end

theorem infoPtr : (Tryz.prog.info? 54).map (fun i => (i.zero, i.size, i.bytes)) = some (some (.pointer none), 1, 8) := by kernel_rfl

/-- 'append(v, x)' of a pointer to an actor, v the call's own. -/
theorem wpList_append_ptr (w : World) {ops : Array Oper} {rest : List Oper} {o : Oper} {a : Act} {Q : Exit → Act → World → Prop} (hw : Region.wanted o (yielded ops a.tmps) = true) (s x : Operand)
    (ho : o.op = .call { callee := .builtin .append, args := #[s, x], argTypes := #[51, 51] })
    (base : Nat) (v : Value) (l : List Value) (hs : a.eval s = v) (hown : w.ownsRow base 54 1 v l.length l) (b : Nat) (y : Addr) (hx : a.eval x = .slice (some ⟨b, 0, none⟩) 1 1) (hnews : w.cell? ⟨b, 0, none⟩ = some (.pointer (some y)))
    (hlen : l.length ≤ 1000000) (hbase : base ≤ w.heap.size)
    (h : ∀ v' w', w'.ownsRow base 54 1 v' (l ++ [Value.pointer (some y)]).length (l ++ [Value.pointer (some y)]) → w.grownBy w' v.ownBlock → wpList Tryz.prog ops Q rest (a.put o.dst v') w') : wpList Tryz.prog ops Q (o :: rest) a w := by
  obtain ⟨i0, hi, hz0, hz1, hz2⟩ := info_parts infoPtr
  refine wpList_append_cells w hw s x 51 ho base 54 i0 (.pointer none) 1 8 Tryz.underlying51 hi hz0 hz1 hz2 rfl (by decide) v l.length l hs hown (some ⟨b, 0, none⟩) 1 1 [Value.pointer (some y)] hx (by simp) (by simp)
    (fun ad' e j u hu => by
      cases e
      match j, hu with
      | 0, hu =>
        simp only [List.getElem?_cons_zero, Option.some.injEq] at hu
        subst hu
        rw [Go.WideShapes.add_plain]
        exact hnews) (by simp [Value.oneCell']) (by unfold maxLen; omega) (by omega) hbase ?_
  intro v' w' h4 h5 h6
  exact h v' w' (by rw [List.length_append]; exact h4) h5

/-- The game while it is made: the first k actors are there. -/
structure BL (w0 : World) (c gb en m bc ck k : Nat) (acts : Nat → List (Int × Int)) (abs : Nat → Nat) (avs : Nat → Value) (rv : Value) (w : World) : Prop where
  E : EnvAt w en m bc ck ⟨zerosN (2 + c), 0, 0, 0, 0, 0⟩ 0
  lo : w0.heap.size ≤ m ∧ w0.heap.size ≤ bc ∧ w0.heap.size ≤ gb
  G : w.heap[gb]? = some (gameO en c rv 0 (.slice none 0 0))
  A : ∀ a, a < k → w0.heap.size ≤ abs a ∧ w.heap[abs a]? = some (actO a (avs a) .nilIface HOp.zero)
  V : ∀ a, a < k → w.ownsRow w0.heap.size 44 2 (avs a) (acts a).length (flatA (acts a))
  inj : ∀ a b, a < k → b < k → abs a = abs b → a = b
  R : w.ownsRow w0.heap.size 54 1 rv ((List.range k).map fun a => Value.pointer (some ⟨abs a, 0, none⟩)).length ((List.range k).map fun a => Value.pointer (some ⟨abs a, 0, none⟩))
  F : Only [] w0 w

theorem typ_ne {w : World} {x y : Nat} {a1 a2 : Array Value} {T1 T2 : TypeId} {f1 f2 : Nat × Nat} (h1 : w.heap[x]? = some (.cells a1 T1 f1)) (h2 : w.heap[y]? = some (.cells a2 T2 f2)) (h : T1 ≠ T2) : x ≠ y := by
  intro e
  subst e
  rw [h1] at h2
  simp at h2
  exact h h2.2.1
theorem row_blk {w : World} {base : Nat} {T : TypeId} {sz : Nat} {v : Value} {n : Nat} {xs : List Value} (h : w.ownsRow base T sz v n xs) : ∀ q, v.ownBlock = some q → base ≤ q ∧ ∃ arr, w.heap[q]? = some (.cells arr T (0, 0)) := by
  intro q hq
  obtain ⟨h1, ⟨rfl, _⟩ | ⟨g, cap, cur, rfl, hg, hh, r⟩⟩ := h
  · cases hq
  · cases hq; exact ⟨hg, cur, hh⟩
theorem mem_row {w : World} {m bc : Nat} {s : MS} (h : MemAt w m bc s) (hp : 0 < s.cells.length) : ∃ arr, w.heap[bc]? = some (.cells arr 105 (0, 0)) := by
  obtain ⟨v, a, ⟨ad, cap, e1, e2, e3, e4⟩, c, d⟩ := h
  obtain ⟨_, arr, h5, _⟩ := e4 (by simpa using hp)
  exact ⟨arr, h5⟩

/-- Another actor. -/
theorem BL.next {w0 w w1 w5 wf : World} {c gb en m bc ck k : Nat} {acts : Nat → List (Int × Int)} {abs : Nat → Nat} {avs : Nat → Value} {rv av rv' : Value} {wA : World} {p : Nat} (h : BL w0 c gb en m bc ck k acts abs avs rv w) (o1 : Only [] w w1) (hv : w1.ownsRow w.heap.size 44 2 av (acts k).length (flatA (acts k)))
    (hp : w1.heap.size = p) (oA : Only [] (w1.alloc (actO k av .nilIface HOp.zero)) wA) (hg : wA.grownBy w5 rv.ownBlock)
    (hR : w5.ownsRow w0.heap.size 54 1 rv' ((List.range k).map (fun a => Value.pointer (some ⟨abs a, 0, none⟩)) ++ [Value.pointer (some ⟨p, 0, none⟩)]).length ((List.range k).map (fun a => Value.pointer (some ⟨abs a, 0, none⟩)) ++ [Value.pointer (some ⟨p, 0, none⟩)]))
    (hwf : wf = w5.setCell ⟨gb, 5, none⟩ rv') : BL w0 c gb en m bc ck (k + 1) acts (upd abs k p) (upd avs k av) rv' wf := by
  have o5 : Only (rv.ownBlock.toList) wA w5 := (Only.refl _ _).grown hg (fun q hq => .inl (by rw [hq]; simp))
  have o2 : Only [] w wA := (o1.then0 ((Only.refl _ _).alloc _)).then0 oA
  have hrow := row_blk h.R
  have nR : ∀ {b : Nat} {arr : Array Value} {T : TypeId} {f : Nat × Nat}, w.heap[b]? = some (.cells arr T f) → T ≠ 54 → b ∉ rv.ownBlock.toList := fun {b} {arr} {T} {f} hb hT hm => by
    cases e : rv.ownBlock with
    | none => rw [e] at hm; cases hm
    | some q =>
      rw [e] at hm
      simp at hm
      obtain ⟨_, arr2, h2⟩ := hrow q e
      exact typ_ne hb h2 hT hm
  have o6 : Only [gb] w5 wf := by rw [hwf]; exact (Only.refl _ _).setCell (by simp) _
  obtain ⟨mv, hm1, hm2, hm3, hm4⟩ := h.E.mm
  obtain ⟨arrc, hbc⟩ := mem_row h.E.mm (by simp [zerosN]; omega)
  have hGm : gb ≠ m := typ_ne (show w.heap[gb]? = some (.cells _ _ _) from h.G) (show w.heap[m]? = some (.cells _ _ _) from hm1) (by decide)
  have hGc : gb ≠ bc := typ_ne (show w.heap[gb]? = some (.cells _ _ _) from h.G) hbc (by decide)
  have hGe : gb ≠ en := typ_ne (show w.heap[gb]? = some (.cells _ _ _) from h.G) (show w.heap[en]? = some (.cells _ _ _) from h.E.e) (by decide)
  have hGk : gb ≠ ck := typ_ne (show w.heap[gb]? = some (.cells _ _ _) from h.G) (show w.heap[ck]? = some (.cells _ _ _) from h.E.c) (by decide)
  have E5 : EnvAt w5 en m bc ck ⟨zerosN (2 + c), 0, 0, 0, 0, 0⟩ 0 := (h.E.keep0 o2).keep o5 (nR (show w.heap[en]? = some (.cells _ _ _) from h.E.e) (by decide)) (nR (show w.heap[m]? = some (.cells _ _ _) from hm1) (by decide)) (nR hbc (by decide)) (nR (show w.heap[ck]? = some (.cells _ _ _) from h.E.c) (by decide))
  have hpA : wA.heap[p]? = some (actO k av .nilIface HOp.zero) := by
    rw [← hp]; exact oA.keep (blk_alloc_new _ _) (by simp)
  have hrlt : ∀ q, rv.ownBlock = some q → q < w.heap.size := fun q hq => by obtain ⟨_, arr, h2⟩ := hrow q hq; exact lt_of_blk h2
  have hpn : p ∉ rv.ownBlock.toList := fun hm => by
    cases e : rv.ownBlock with
    | none => rw [e] at hm; cases hm
    | some q => rw [e] at hm; simp at hm; have := hrlt q e; have := o1.size; omega
  have hp5 := o5.keep hpA hpn
  have hlow : ∀ a, a < k → abs a < w.heap.size := fun a ha => lt_of_blk (h.A a ha).2
  have hgl := lt_of_blk h.G
  have hos := o1.size
  have hf := h.F.size
  refine ⟨E5.keep o6 (by simp; omega) (by simp; omega) (by simp; omega) (by simp; omega), h.lo, ?_, fun a ha => ?_, fun a ha => ?_, fun a b ha hb e => ?_, ?_, ?_⟩
  · have hG5 := o5.keep (o2.keep h.G (by simp)) (nR (show w.heap[gb]? = some (.cells _ _ _) from h.G) (by decide))
    rw [hwf]
    have e := blk_setCell (show w5.heap[gb]? = some (.cells _ _ _) from hG5) 5 rv'
    simp only [List.setIfInBounds_toArray, List.set_cons_zero, List.set_cons_succ] at e
    exact e
  · by_cases g0 : a = k
    · subst g0
      rw [upd_same, upd_same]
      exact ⟨by omega, o6.keep hp5 (by simp; omega)⟩
    · rw [upd_ne g0, upd_ne g0]
      have hA := h.A a (by omega)
      refine ⟨hA.1, o6.keep (o5.keep (o2.keep hA.2 (by simp)) (nR (show w.heap[abs a]? = some (.cells _ _ _) from hA.2) (by decide))) ?_⟩
      have := typ_ne (show w.heap[abs a]? = some (.cells _ _ _) from hA.2) (show w.heap[gb]? = some (.cells _ _ _) from h.G) (by decide)
      simp; omega
  · have rowk : ∀ {v : Value} {len : Nat} {xs : List Value}, wA.ownsRow w0.heap.size 44 2 v len xs → (∀ q, v.ownBlock = some q → q ∉ rv.ownBlock.toList ∧ q ≠ gb) → wf.ownsRow w0.heap.size 44 2 v len xs := fun hr hq => owns_keepS (owns_keepS hr o5 (fun b hb => (hq b hb).1)) o6 (fun b hb => by have := (hq b hb).2; simp; omega)
    by_cases g0 : a = k
    · subst g0
      rw [upd_same]
      refine rowk (owns_mono (owns_keep (owns_keep hv ((Only.refl _ _).alloc _)) oA) hf) (fun q hq => ?_)
      have h1 := (row_blk hv q hq).1
      refine ⟨fun hm => ?_, by omega⟩
      cases e : rv.ownBlock with
      | none => rw [e] at hm; cases hm
      | some q2 => rw [e] at hm; simp at hm; have := hrlt q2 e; omega
    · rw [upd_ne g0]
      have hV := h.V a (by omega)
      refine rowk (owns_keep hV o2) (fun q hq => ?_)
      obtain ⟨_, arr, h2⟩ := row_blk hV q hq
      exact ⟨nR h2 (by decide), typ_ne h2 (show w.heap[gb]? = some (.cells _ _ _) from h.G) (by decide)⟩
  · by_cases g1 : a = k
    · by_cases g2 : b = k
      · omega
      · subst g1
        rw [upd_same, upd_ne g2] at e
        have := hlow b (by omega)
        omega
    · by_cases g2 : b = k
      · subst g2
        rw [upd_same, upd_ne g1] at e
        have := hlow a (by omega)
        omega
      · rw [upd_ne g1, upd_ne g2] at e
        exact h.inj a b (by omega) (by omega) e
  · have e1 : (List.range (k + 1)).map (fun a => Value.pointer (some ⟨upd abs k p a, 0, none⟩)) = (List.range k).map (fun a => Value.pointer (some ⟨abs a, 0, none⟩)) ++ [Value.pointer (some ⟨p, 0, none⟩)] := by
      rw [List.range_succ, List.map_append, List.map_singleton, upd_same]
      congr 1
      refine List.map_congr_left fun a ha => ?_
      rw [List.mem_range] at ha
      rw [upd_ne (by omega)]
    rw [e1]
    refine owns_keepS hR o6 (fun b hb => ?_)
    obtain ⟨_, arr, h2⟩ := row_blk hR b hb
    have hG5 := o5.keep (o2.keep h.G (by simp)) (nR (show w.heap[gb]? = some (.cells _ _ _) from h.G) (by decide))
    have := typ_ne h2 (show w5.heap[gb]? = some (.cells _ _ _) from hG5) (by decide)
    simp; omega
  · exact ((h.F.then0 o2).trans o5 (fun q hq => .inr (by
      cases e : rv.ownBlock with
      | none => rw [e] at hq; cases hq
      | some q2 => rw [e] at hq; simp at hq; have := (hrow q2 e).1; omega))).trans o6 (fun q hq => .inr (by simp at hq; have := h.lo; omega))
end Go.Proofs.YtfhkhknnoepfeaaGreat

/- Play, walked whole. -/
namespace Go.Proofs.YtfhkhknnoepfeaaGreat
open Go.RowKit
set_option linter.unusedVariables false

/-- The made game. -/
theorem BL.start {w0 w : World} {c gb en m bc ck n : Nat} {acts : Nat → List (Int × Int)} {abs : Nat → Nat} {avs : Nat → Value} {rv : Value} (h : BL w0 c gb en m bc ck n acts abs avs rv w) (hn : 1 ≤ n) :
    ∃ rb, GD w0 w.heap.size n gb en m bc ck rb abs ∧ GWx w0 w.heap.size n c gb en m bc ck rb abs rv (gstart c acts) w := by
  obtain ⟨mv, hm1, hm2, hm3, hm4⟩ := h.E.mm
  obtain ⟨arrc, hbc⟩ := mem_row h.E.mm (by simp [zerosN]; omega)
  obtain ⟨hl, ⟨rfl, h0⟩ | ⟨rb, cap, cur, rfl, hrb, hh, hcn, hcm, hs, ht⟩⟩ := h.R
  · simp at h0; omega
  have G := h.G
  have tG : w.heap[gb]? = some (.cells _ 53 (0, 0)) := G
  have tE : w.heap[en]? = some (.cells _ 99 (0, 0)) := h.E.e
  have tC : w.heap[ck]? = some (.cells _ 129 (0, 0)) := h.E.c
  have tM : w.heap[m]? = some (.cells _ 127 (0, 0)) := hm1
  have tA : ∀ a, a < n → w.heap[abs a]? = some (.cells #[.int .i64 a, avs a, .nilIface, .int .i64 0, .int .i64 0, .int .i64 0, .int .i64 0, .int .i64 0, .int .i64 0] 59 (0, 0)) := fun a ha => (h.A a ha).2
  refine ⟨rb, ⟨⟨h.lo.2.2, h.lo.1, h.lo.2.1⟩, ⟨lt_of_blk tG, lt_of_blk tE, lt_of_blk tM, lt_of_blk hbc, lt_of_blk tC, lt_of_blk hh⟩, ⟨typ_ne tG tE (by decide), typ_ne tG tM (by decide), typ_ne tG hbc (by decide), typ_ne tG tC (by decide), typ_ne tG hh (by decide)⟩, ⟨typ_ne hh tM (by decide), typ_ne hh hbc (by decide)⟩,
    fun a ha => ⟨(h.A a ha).1, lt_of_blk (tA a ha), typ_ne (tA a ha) tG (by decide), typ_ne (tA a ha) tE (by decide), typ_ne (tA a ha) tM (by decide), typ_ne (tA a ha) hbc (by decide), typ_ne (tA a ha) tC (by decide), typ_ne (tA a ha) hh (by decide)⟩, h.inj⟩,
    fun _ => 0, fun _ => HOp.zero, avs, .slice none 0 0, ⟨h.E, G, fun a ha => (h.A a ha).2, fun a ha => acts_owns (h.V a ha) rfl, fun a ha b off k cap e => ?_, (fun a ha k o e => by cases e), (fun a b _ _ e => absurd rfl e), ⟨rfl, .inl ⟨rfl, rfl⟩⟩, ⟨cap, cur, by simp, by simpa using hcn, hh, fun a ha => ?_⟩, h.F, Nat.le_refl _⟩⟩
  · obtain ⟨hb1, arr, hb2⟩ := row_blk (h.V a ha) b (by rw [e]; rfl)
    exact ⟨lt_of_blk hb2, typ_ne hb2 tG (by decide), typ_ne hb2 tM (by decide), typ_ne hb2 hbc (by decide), fun a' ha' => typ_ne hb2 (tA a' ha') (by decide)⟩
  · simp only [List.length_map, List.length_range, Nat.mul_one] at ht
    have h6 : (cur.toList.take n)[a]? = some (Value.pointer (some ⟨abs a, 0, none⟩)) := by rw [ht]; simp [ha]
    rw [List.getElem?_take] at h6
    simpa [ha] using h6

theorem gpicks_cb {q : Q4} : ∀ (l : List Nat) {g : Gm}, g.mem.count ≤ g.pick ∧ g.ops.length ≤ g.pick → (gpicks q g l).mem.count ≤ (gpicks q g l).pick ∧ (gpicks q g l).ops.length ≤ (gpicks q g l).pick
  | [], _, h => h
  | a :: r, _, h => gpicks_cb r (gstep_cb h)
theorem gdrain_cb {q : Q4} {a : Nat} : ∀ (n : Nat) {g : Gm}, g.mem.count ≤ g.pick ∧ g.ops.length ≤ g.pick → (gdrain q a n g).mem.count ≤ (gdrain q a n g).pick ∧ (gdrain q a n g).ops.length ≤ (gdrain q a n g).pick
  | 0, _, h => h
  | n + 1, g, h => by
    rw [gdrain]
    split
    · exact h
    · exact gdrain_cb n (gstep_cb h)
theorem gall_cb {q : Q4} {g : Gm} (h : g.mem.count ≤ g.pick ∧ g.ops.length ≤ g.pick) : ∀ k, (gall q g k).mem.count ≤ (gall q g k).pick ∧ (gall q g k).ops.length ≤ (gall q g k).pick
  | 0 => h
  | k + 1 => gdrain_cb _ (gall_cb h k)
theorem gpicks_snoc {q : Q4} : ∀ (l : List Nat) (a : Nat) (g : Gm), gpicks q g (l ++ [a]) = gstep q (gpicks q g l) a
  | [], _, _ => rfl
  | b :: r, a, g => gpicks_snoc r a (gstep q g b)

/-- The machine that a pick names. -/
def modN (n : Nat) (p : Int) : Nat := (p % (n : Int)).toNat
theorem modN_lt {n : Nat} (h : 1 ≤ n) (p : Int) : modN n p < n := by
  have h1 := Int.emod_nonneg p (show (n : Int) ≠ 0 by omega)
  have h2 := Int.emod_lt_of_pos p (show 0 < (n : Int) by omega)
  unfold modN; omega
theorem modN_int {n : Nat} (h : 1 ≤ n) (p : Int) : ((modN n p : Nat) : Int) = p % n := by
  have h1 := Int.emod_nonneg p (show (n : Int) ≠ 0 by omega)
  unfold modN; omega

theorem mod_any (w : World) (p : Int) (n : Nat) (hn : 1 ≤ n) (hb : n ≤ 1000000) :
    Calls Tryz.prog 19 #[.int .i64 p, .int .i64 n] w fun e w' => e = .returned (.int .i64 (modN n p)) ∧ w = w' := by
  have h1 := Int.emod_nonneg p (show (n : Int) ≠ 0 by omega)
  have h2 := Int.emod_lt_of_pos p (show 0 < (n : Int) by omega)
  have e := Lib.hid (modN_int hn p)
  obtain ⟨t, ht⟩ : ∃ t, t = p.tmod n := ⟨_, rfl⟩
  have hT := Lib.hid (show p % (n : Int) = if t < 0 then t + n else t from by
    have hna : ((n : Int).natAbs : Int) = n := by omega
    by_cases hd : 0 ≤ p ∨ (n : Int) ∣ p
    · have e1 : t = p % n := by rw [ht, Int.tmod_eq_emod, if_pos hd]; omega
      rw [if_neg (by omega), e1]
    · have e1 : t = p % n - n := by rw [ht, Int.tmod_eq_emod, if_neg hd, hna]
      rw [if_pos (by omega)]; omega)
  have ht1 : -(n : Int) ≤ t ∧ t < n := by
    have := hT.out
    split at this <;> omega
  have hz : ((n : Int) == 0) = false := by simp; omega
  by_cases hneg : t < 0
  · have hT2 := hT.out
    rw [if_pos hneg] at hT2
    have E : Hid ((modN n p : Int) = t + n) := Lib.hid (by rw [e.out, hT2])
    have hw1 : IntKind.i64.wrap (t + n) = t + n := IntWalk.i64_in _ (by omega)
    have hw2 : IntKind.i64.wrap t = t := IntWalk.i64_in _ (by omega)
    clear hT2 e hT h1 h2
    go_enter Tryz.func19, Tryz.ntmps19
    go_wp2_with fail
    all_goals (go_ret; exact ⟨ret_int (by have := E.out; first | omega | (rw [this]; omega)), rfl⟩)
  · have hT2 := hT.out
    rw [if_neg hneg] at hT2
    have E : Hid ((modN n p : Int) = t) := Lib.hid (by rw [e.out, hT2])
    have hw2 : IntKind.i64.wrap t = t := IntWalk.i64_in _ (by omega)
    clear hT2 e hT h1 h2
    go_enter Tryz.func19, Tryz.ntmps19
    go_wp2_with fail
    all_goals (go_ret; exact ⟨ret_int (by have := E.out; first | omega | (rw [this]; omega)), rfl⟩)
end Go.Proofs.YtfhkhknnoepfeaaGreat
