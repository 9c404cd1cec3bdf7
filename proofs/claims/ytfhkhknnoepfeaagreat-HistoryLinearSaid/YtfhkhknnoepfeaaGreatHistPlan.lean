/- The plans of the chapter's laws, walked. -/
import Derived.Test.YtfhkhknnoepfeaaGreatHistPlay3
import Derived.Test.YtfhkhknnoepfeaaGreatRowBlk
import Derived.Test.YtfhkhknnoepfeaaGreatDqKeep
namespace Go.Proofs.YtfhkhknnoepfeaaGreat
open Go.RowKit
set_option linter.unusedVariables false

theorem infoActs : (Tryz.prog.info? 40).map (fun i => (i.zero, i.size, i.bytes)) = some (some (.slice none 0 0), 1, 24) := by kernel_rfl

/-- What element i of the numbers adds to a plan. -/
def planSt (m : Nat) (raw : List Int) (i : Nat) (pl : Nat → List (Int × Int)) : Nat → List (Int × Int) :=
  if 0 < numZ raw i (m + 2) ∧ numZ raw i (m + 2) < m then upd pl (numZ raw i (m + 2)).toNat (pl (numZ raw i (m + 2)).toNat ++ [(2, 0)])
  else if (raw.getD i 0).tmod 3 = 0 then upd pl 0 (pl 0 ++ [(1, 0)])
  else upd pl 0 (pl 0 ++ [(0, (raw.getD i 0).tmod 4)])
def planF (m : Nat) (raw : List Int) : Nat → Nat → List (Int × Int)
  | 0 => fun _ => []
  | k + 1 => planSt m raw (k + 1) (planF m raw k)

/-- Rows of acts, each a block of its own. -/
structure PR (w0 w : World) (ob B m : Nat) (pl : Nat → List (Int × Int)) (vs : Nat → Value) : Prop where
  R : w.heap[ob]? = some (.cells ((List.range m).map vs).toArray 40 (0, 0))
  V : ∀ i, i < m → w.ownsRow B 44 2 (vs i) (pl i).length (flatA (pl i))
  D : ∀ i j, i < m → j < m → i ≠ j → ∀ q, (vs i).ownBlock = some q → (vs j).ownBlock ≠ some q
  F : Only [] w0 w
  hb : w0.heap.size ≤ ob ∧ ob < B ∧ B ≤ w.heap.size

theorem rows_set {m i : Nat} {vs : Nat → Value} {v : Value} (hi : i < m) : ((List.range m).map vs).toArray.setIfInBounds i v = ((List.range m).map (upd vs i v)).toArray := by
  apply Array.ext
  · simp
  · intro j h1 h2
    have h1 : j < m := by simpa using h1
    rw [Array.getElem_setIfInBounds (by simpa using h1)]
    by_cases e : i = j
    · subst e; simp [upd_same]
    · rw [if_neg e]
      simp only [List.getElem_toArray, List.getElem_map, List.getElem_range]
      rw [upd_ne (show j ≠ i from fun h => e h.symm)]
theorem PR.cell {w0 w : World} {ob B m : Nat} {pl : Nat → List (Int × Int)} {vs : Nat → Value} (h : PR w0 w ob B m pl vs) {i : Nat} (hi : i < m) : w.cell? ⟨ob, i, none⟩ = some (vs i) := by
  rw [cell_blk h.R]; simp [hi]
theorem PR.keep {w0 w w' : World} {ob B m : Nat} {pl : Nat → List (Int × Int)} {vs : Nat → Value} (h : PR w0 w ob B m pl vs) (o : Only [] w w') : PR w0 w' ob B m pl vs :=
  ⟨o.keep h.R (by simp), fun i hi => owns_keep (h.V i hi) o, h.D, h.F.then0 o, h.hb.1, h.hb.2.1, Nat.le_trans h.hb.2.2 o.size⟩

theorem PR.mid {w0 w w1 w2 : World} {ob B m : Nat} {pl : Nat → List (Int × Int)} {vs : Nat → Value} (h : PR w0 w ob B m pl vs) (o : Only [] w w1) {i : Nat} (hi : i < m) (hg : w1.grownBy w2 (vs i).ownBlock) :
    w2.heap[ob]? = some (.cells ((List.range m).map vs).toArray 40 (0, 0)) := by
  have h1 := h.keep o
  have hob : some ob ≠ (vs i).ownBlock := fun e => by
    have := owns_lt (h1.V i hi) ob e.symm
    have := h.hb.2.1; omega
  have o2 : Only (vs i).ownBlock.toList w1 w2 := (Only.refl _ _).grown hg (fun q hq => .inl (by rw [hq]; simp))
  exact o2.keep h1.R (by
    intro hm
    cases e : (vs i).ownBlock with
    | none => rw [e] at hm; cases hm
    | some q => rw [e] at hm; simp at hm; rw [e] at hob; exact hob (by rw [hm]))
theorem PR.app {w0 w w1 w2 : World} {ob B m : Nat} {pl : Nat → List (Int × Int)} {vs : Nat → Value} (h : PR w0 w ob B m pl vs) (o : Only [] w w1) {i : Nat} (hi : i < m) {y : Int × Int} {v' : Value}
    (hown : w2.ownsRow B 44 2 v' (pl i ++ [y]).length (flatA (pl i ++ [y]))) (hg : w1.grownBy w2 (vs i).ownBlock) (hbk : ∀ q, v'.ownBlock = some q → (vs i).ownBlock = some q ∨ w1.heap.size ≤ q) :
    PR w0 (w2.setCell ⟨ob, i, none⟩ v') ob B m (upd pl i (pl i ++ [y])) (upd vs i v') := by
  have h1 := h.keep o
  have R2 := h.mid o hi hg
  have hobl := lt_of_blk R2
  refine ⟨?_, fun j hj => ?_, fun j k hj hk hne q hq => ?_, ?_, h.hb.1, h.hb.2.1, ?_⟩
  · rw [blk_setCell R2, rows_set hi]
  · have keepS : ∀ {v : Value} {n : Nat} {xs : List Value}, w2.ownsRow B 44 2 v n xs → (w2.setCell ⟨ob, i, none⟩ v').ownsRow B 44 2 v n xs := fun hx => ownsRow_setCell_below hx h.hb.2.1 _
    by_cases e : j = i
    · subst e; rw [upd_same, upd_same]; exact keepS hown
    · rw [upd_ne e, upd_ne e]
      refine keepS ((h1.V j hj).kept hg ?_)
      cases e2 : (vs j).ownBlock with
      | none => exact .inl rfl
      | some q => exact .inr (fun e3 => h1.D j i hj hi e q e2 e3.symm)
  · by_cases e : j = i
    · subst e
      rw [upd_same] at hq
      rw [upd_ne (show k ≠ j from fun e => hne e.symm)]
      rcases hbk q hq with g | g
      · exact h1.D j k hj hk hne q g
      · intro e4
        have := owns_lt (h1.V k hk) q e4
        omega
    · rw [upd_ne e] at hq
      by_cases e5 : k = i
      · subst e5
        rw [upd_same]
        intro e4
        rcases hbk q e4 with g | g
        · exact h1.D k j hk hj (fun e => hne e.symm) q g hq
        · have := owns_lt (h1.V j hj) q hq
          omega
      · rw [upd_ne e5]; exact h1.D j k hj hk hne q hq
  · refine ((h1.F.grown hg (fun q hq => ?_)).setCell (.inr h.hb.1) _)
    have := owns_lt (h1.V i hi) q hq
    exact .inr (by have := h.hb.1; have := h.hb.2.1; omega)
  · show B ≤ (w2.setCell _ _).heap.size
    have h3 := hg.size
    have h4 := h1.hb.2.2
    simp only [World.setCell, Array.size_modify]
    omega

/-- 'append(v, x)' of an act, v the call's own, its block told. -/
theorem wp_append_act2 {w : World} {o : Oper} {a : Act} {K : Act → World → Prop} {Q : Exit → Act → World → Prop} (s x : Operand)
    (ho : o.op = .call { callee := .builtin .append, args := #[s, x], argTypes := #[40, 40] })
    (base : Nat) (v : Value) (l : List (Int × Int)) (hs : a.eval s = v) (hown : w.ownsRow base 44 2 v l.length (flatA l)) (ad : Addr) (y : Int × Int) (hx : a.eval x = .slice (some ad) 1 1) (hnews : ∀ j u, (flatA [y])[j]? = some u → w.cell? (ad.add j) = some u)
    (hlen : l.length ≤ 1000000) (hbase : base ≤ w.heap.size)
    (h : ∀ v' w', w'.ownsRow base 44 2 v' (l ++ [y]).length (flatA (l ++ [y])) → w.grownBy w' v.ownBlock → (∀ q, v'.ownBlock = some q → v.ownBlock = some q ∨ w.heap.size ≤ q) → K (a.put o.dst v') w') : o.wp Tryz.prog a w K Q := by
  obtain ⟨i0, hi, hz0, hz1, hz2⟩ := info_parts infoAct
  exact wp_append_blk s x 40 ho base 44 i0 (.agg #[.int .i64 0, .int .i64 0]) 2 16 Tryz.underlying40 hi hz0 hz1 hz2 rfl (by decide) v l.length (flatA l) hs hown ad 1 1 (flatA [y]) hx (by rw [flatA_len]; simp) hnews (flatA_one [y]) (by unfold maxLen; omega) (by omega) hbase
    (fun v' w' h4 h5 h6 => h v' w' (by rw [flatA_app, List.length_append]; exact h4) h5 h6)
theorem wpList_append_act2 (w : World) {ops : Array Oper} {rest : List Oper} {o : Oper} {a : Act} {Q : Exit → Act → World → Prop} (hw : Region.wanted o (yielded ops a.tmps) = true) (s x : Operand)
    (ho : o.op = .call { callee := .builtin .append, args := #[s, x], argTypes := #[40, 40] })
    (base : Nat) (v : Value) (l : List (Int × Int)) (hs : a.eval s = v) (hown : w.ownsRow base 44 2 v l.length (flatA l)) (ad : Addr) (y : Int × Int) (hx : a.eval x = .slice (some ad) 1 1) (hnews : ∀ j u, (flatA [y])[j]? = some u → w.cell? (ad.add j) = some u)
    (hlen : l.length ≤ 1000000) (hbase : base ≤ w.heap.size)
    (h : ∀ v' w', w'.ownsRow base 44 2 v' (l ++ [y]).length (flatA (l ++ [y])) → w.grownBy w' v.ownBlock → (∀ q, v'.ownBlock = some q → v.ownBlock = some q ∨ w.heap.size ≤ q) → wpList Tryz.prog ops Q rest (a.put o.dst v') w') : wpList Tryz.prog ops Q (o :: rest) a w :=
  BigFrame.wpList_want hw fun _ hK => wp_append_act2 s x ho base v l hs hown ad y hx hnews hlen hbase fun v' w' h2 h3 h4 => hK _ _ (h v' w' h2 h3 h4)
theorem step_append_act2 (w : World) {ops : Array Oper} {o : Oper} {a : Act} {K : Act → World → Prop} {Q : Exit → Act → World → Prop} {E : Prop} (hw : Region.wanted o (yielded ops a.tmps) = true) (s x : Operand)
    (ho : o.op = .call { callee := .builtin .append, args := #[s, x], argTypes := #[40, 40] })
    (base : Nat) (v : Value) (l : List (Int × Int)) (hs : a.eval s = v) (hown : w.ownsRow base 44 2 v l.length (flatA l)) (ad : Addr) (y : Int × Int) (hx : a.eval x = .slice (some ad) 1 1) (hnews : ∀ j u, (flatA [y])[j]? = some u → w.cell? (ad.add j) = some u)
    (hlen : l.length ≤ 1000000) (hbase : base ≤ w.heap.size)
    (h : ∀ v' w', w'.ownsRow base 44 2 v' (l ++ [y]).length (flatA (l ++ [y])) → w.grownBy w' v.ownBlock → (∀ q, v'.ownBlock = some q → v.ownBlock = some q ∨ w.heap.size ≤ q) → K (a.put o.dst v') w') :
    if Region.wanted o (yielded ops a.tmps) = true then Oper.wp Tryz.prog o a w K Q else E := by
  rw [if_pos hw]; exact wp_append_act2 s x ho base v l hs hown ad y hx hnews hlen hbase h

theorem plan_len (m : Nat) (raw : List Int) (hm : 1 ≤ m) : ∀ k i, (planF m raw k i).length ≤ k
  | 0, i => by simp [planF]
  | k + 1, i => by
    have h := fun j => plan_len m raw hm k j
    rw [planF]
    unfold planSt
    split
    · by_cases e : i = (numZ raw (k + 1) (m + 2)).toNat
      · rw [← e, upd_same]; have := h i; simp; omega
      · rw [upd_ne e]; have := h i; omega
    · split
      · by_cases e : i = 0
        · rw [e, upd_same]; have := h 0; simp; omega
        · rw [upd_ne e]; have := h i; omega
      · by_cases e : i = 0
        · rw [e, upd_same]; have := h 0; simp; omega
        · rw [upd_ne e]; have := h i; omega
end Go.Proofs.YtfhkhknnoepfeaaGreat
