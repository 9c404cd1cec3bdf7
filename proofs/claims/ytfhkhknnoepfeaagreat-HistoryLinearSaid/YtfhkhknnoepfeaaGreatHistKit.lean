/- Slices of acts and of operations in memory; appending to them; the acts that a machine can perform, walked. -/
import Derived.Test.YtfhkhknnoepfeaaGreatMgA
import Derived.Test.YtfhkhknnoepfeaaGreatMgB
import Derived.WalkSpells
import Derived.BigRegion
import Derived.Laws.AppendOwnNone
import Derived.Deep.RegionHeld3
namespace Go.Proofs.YtfhkhknnoepfeaaGreat
open Go.RowKit
set_option linter.unusedVariables false

/-- 'append(v, xs...)', v the call's own, xs any slice, nil too. -/
theorem wpList_append_cells {P : Program} (w : World) {ops : Array Oper} {rest : List Oper} {o : Oper} {a : Act} {Q : Exit → Act → World → Prop} (hw : Region.wanted o (yielded ops a.tmps) = true) (s x : Operand) (t : TypeId)
    (ho : o.op = .call { callee := .builtin .append, args := #[s, x], argTypes := #[t, t] })
    (base : Nat) (e : TypeId) (i : TypeInfo) (z : Value) (size bytes : Nat) (ht : P.underlying t = some (.slice e)) (hi : P.info? e = some i) (hz : i.zero = some z)
    (hsize : i.size = size) (hby : i.bytes = bytes) (hzs : z.cells.size = size) (hsz : 0 < size)
    (v : Value) (n : Nat) (xs : List Value) (hs : a.eval s = v) (hown : w.ownsRow base e size v n xs)
    (ao : Option Addr) (m c : Nat) (news : List Value) (hx : a.eval x = .slice ao m c) (hnone : ao = none → m = 0 ∧ c = 0) (hl : news.length = m * size) (hnews : ∀ ad, ao = some ad → ∀ j u, news[j]? = some u → w.cell? (ad.add j) = some u) (h1 : ∀ u ∈ news, u.oneCell' = true)
    (h63 : n + m ≤ maxLen) (hbytes : (n + m) * bytes ≤ 140737488355328) (hbase : base ≤ w.heap.size)
    (h : ∀ v' w', w'.ownsRow base e size v' (n + m) (xs ++ news) → w.grownBy w' v.ownBlock → (v' = .slice none 0 0 ↔ v = .slice none 0 0 ∧ m = 0) → wpList P ops Q rest (a.put o.dst v') w') : wpList P ops Q (o :: rest) a w := by
  cases ao with
  | some ad => exact BigFrame.wpList_want hw fun _ hK => wp_append_own w s x t ho base e i z size bytes ht hi hz hsize hby hzs hsz v n xs hs hown ad m c news hx hl (hnews ad rfl) h1 h63 hbytes hbase fun v' w' h2 h3 h4 => hK _ _ (h v' w' h2 h3 h4)
  | none =>
    obtain ⟨rfl, rfl⟩ := hnone rfl
    have e1 : news = [] := by simpa using hl
    subst e1
    refine BigFrame.wpList_want hw fun K hK => ?_
    have hrun := run_append_owned_none (P := P) (w := w) base t o.type e i size ht hi v n xs hown
    unfold Oper.wp
    simp [execOp, ho, resolve, invoke, builtin, hs, hx, hrun, Result.andThen]
    exact hK _ _ (h v w (by simpa using hown) ⟨rfl, rfl, rfl, Nat.le_refl _, fun _ _ _ => rfl⟩ (by simp))

theorem infoAct : (Tryz.prog.info? 44).map (fun i => (i.zero, i.size, i.bytes)) = some (some (.agg #[.int .i64 0, .int .i64 0]), 2, 16) := by kernel_rfl
theorem infoOp : (Tryz.prog.info? 36).map (fun i => (i.zero, i.size, i.bytes)) = some (some HOp.zero.v, 6, 48) := by kernel_rfl

/-- The cells of acts, of operations. -/
def flatA : List (Int × Int) → List Value
  | [] => []
  | x :: r => .int .i64 x.1 :: .int .i64 x.2 :: flatA r
def flatO : List HOp → List Value
  | [] => []
  | o :: r => .int .i64 o.kind :: .int .i64 o.mach :: .int .i64 o.frm :: .int .i64 o.to :: .int .i64 o.code :: .int .i64 o.value :: flatO r
theorem flatA_len : ∀ l, (flatA l).length = l.length * 2
  | [] => rfl
  | _ :: r => by simp [flatA, flatA_len r]; omega
theorem flatO_len : ∀ l, (flatO l).length = l.length * 6
  | [] => rfl
  | _ :: r => by simp [flatO, flatO_len r]; omega
theorem flatA_app : ∀ l r, flatA (l ++ r) = flatA l ++ flatA r
  | [], _ => rfl
  | x :: l, r => by simp [flatA, flatA_app l r]
theorem flatO_app : ∀ l r, flatO (l ++ r) = flatO l ++ flatO r
  | [], _ => rfl
  | x :: l, r => by simp [flatO, flatO_app l r]
theorem flatA_one : ∀ l, ∀ u ∈ flatA l, u.oneCell' = true
  | [], u, h => by cases h
  | x :: r, u, h => by
    simp only [flatA, List.mem_cons] at h
    rcases h with rfl | rfl | h
    · rfl
    · rfl
    · exact flatA_one r u h
theorem flatO_one : ∀ l, ∀ u ∈ flatO l, u.oneCell' = true
  | [], u, h => by cases h
  | x :: r, u, h => by
    simp only [flatO, List.mem_cons] at h
    rcases h with rfl | rfl | rfl | rfl | rfl | rfl | h
    all_goals first | rfl | exact flatO_one r u h
theorem flatA_at : ∀ (l : List (Int × Int)) (i : Nat), i < l.length → (flatA l)[i * 2]? = some (.int .i64 (l.getD i (0, 0)).1) ∧ (flatA l)[i * 2 + 1]? = some (.int .i64 (l.getD i (0, 0)).2)
  | [], i, h => by cases h
  | x :: r, 0, _ => by simp [flatA]
  | x :: r, i + 1, h => by
    have := flatA_at r i (by simpa using h)
    rw [show (i + 1) * 2 = i * 2 + 1 + 1 by omega]
    simpa [flatA] using this
theorem flatO_at : ∀ (l : List HOp) (i : Nat), i < l.length → (flatO l)[i * 6]? = some (.int .i64 (l.getD i HOp.zero).kind) ∧ (flatO l)[i * 6 + 1]? = some (.int .i64 (l.getD i HOp.zero).mach) ∧ (flatO l)[i * 6 + 2]? = some (.int .i64 (l.getD i HOp.zero).frm) ∧
    (flatO l)[i * 6 + 3]? = some (.int .i64 (l.getD i HOp.zero).to) ∧ (flatO l)[i * 6 + 4]? = some (.int .i64 (l.getD i HOp.zero).code) ∧ (flatO l)[i * 6 + 5]? = some (.int .i64 (l.getD i HOp.zero).value)
  | [], i, h => by cases h
  | x :: r, 0, _ => by simp [flatO]
  | x :: r, i + 1, h => by
    have := flatO_at r i (by simpa using h)
    rw [show (i + 1) * 6 = i * 6 + 1 + 1 + 1 + 1 + 1 + 1 by omega]
    simpa [flatO] using this

/-- v is a slice of acts. -/
def ActsAt (w : World) (v : Value) (l : List (Int × Int)) : Prop := ∃ ao cap, v = .slice ao l.length cap ∧ CellsAt w ao (flatA l) ∧ (ao = none → cap = 0) ∧ l.length ≤ cap
theorem ActsAt.keep {S : List Nat} {w w' : World} {v : Value} {l : List (Int × Int)} (h : ActsAt w v l) (o : Only S w w') (hn : ∀ b off n cap, v = .slice (some ⟨b, off, none⟩) n cap → 0 < l.length → b ∉ S) : ActsAt w' v l := by
  obtain ⟨ao, cap, rfl, h1, h2, h3⟩ := h
  refine ⟨ao, cap, rfl, fun hp => ?_, h2, h3⟩
  obtain ⟨b, off, rfl, hc⟩ := h1 hp
  rw [flatA_len] at hp
  exact ⟨b, off, rfl, fun j hj => o.keepCell (hc j hj) (hn b off _ _ rfl (by omega))⟩
theorem ActsAt.keep0 {w w' : World} {v : Value} {l : List (Int × Int)} (h : ActsAt w v l) (o : Only [] w w') : ActsAt w' v l := h.keep o (by simp)
theorem acts_owns {w : World} {base : Nat} {T : TypeId} {v : Value} {l : List (Int × Int)} {n : Nat} (h : w.ownsRow base T 2 v n (flatA l)) (hn : n = l.length) : ActsAt w v l := by
  subst hn
  obtain ⟨hl, ⟨rfl, hn⟩ | ⟨g, cap, cur, rfl, hb, hh, hn, hc, hs, ht⟩⟩ := h
  · have : l = [] := List.eq_nil_of_length_eq_zero hn
    subst this
    exact ⟨none, 0, rfl, CellsAt.nil _ _, fun _ => rfl, Nat.le_refl _⟩
  · rw [flatA_len] at hl
    refine ⟨some ⟨g, 0, none⟩, cap, rfl, (fun hp => ⟨g, 0, rfl, fun j hj => ?_⟩), (fun e => by cases e), hn⟩
    rw [cell_blk hh, Nat.zero_add]
    rw [flatA_len] at hj
    have h6 : (cur.toList.take (l.length * 2))[j]? = some (flatA l)[j] := by rw [ht]; exact List.getElem?_eq_getElem (by rw [flatA_len]; omega)
    rw [List.getElem?_take] at h6
    have hjn : j < l.length * 2 := by omega
    simpa [hjn] using h6
/-- An owned slice of operations, read. -/
theorem ops_owns {w : World} {base : Nat} {T : TypeId} {v : Value} {l : List HOp} {n : Nat} (h : w.ownsRow base T 6 v n (flatO l)) (hn : n = l.length) : OL w v l := by
  subst hn
  obtain ⟨hl, ⟨rfl, hn⟩ | ⟨g, cap, cur, rfl, hb, hh, hn, hc, hs, ht⟩⟩ := h
  · exact ⟨none, 0, by rw [hn], by omega, fun hp => by omega⟩
  · rw [flatO_len] at hl
    refine ⟨some ⟨g, 0, none⟩, cap, rfl, hn, fun hp => ⟨g, 0, rfl, fun i hi => ?_⟩⟩
    have go : ∀ j u, j < l.length * 6 → (flatO l)[j]? = some u → w.cell? ⟨g, 0 + j, none⟩ = some u := fun j u hj e => by
      rw [cell_blk hh, Nat.zero_add]
      have h6 : (cur.toList.take (l.length * 6))[j]? = some u := by rw [ht]; exact e
      rw [List.getElem?_take] at h6
      simpa [hj] using h6
    obtain ⟨e0, e1, e2, e3, e4, e5⟩ := flatO_at l i hi
    exact ⟨go _ _ (by omega) e0, go _ _ (by omega) e1, go _ _ (by omega) e2, go _ _ (by omega) e3, go _ _ (by omega) e4, go _ _ (by omega) e5⟩

theorem owns_mono {w : World} {base base' : Nat} {T : TypeId} {sz : Nat} {v : Value} {n : Nat} {xs : List Value} (h : w.ownsRow base T sz v n xs) (hb : base' ≤ base) : w.ownsRow base' T sz v n xs := by
  obtain ⟨h1, h2 | ⟨g, cap, cur, e, hg, r⟩⟩ := h
  · exact ⟨h1, .inl h2⟩
  · exact ⟨h1, .inr ⟨g, cap, cur, e, Nat.le_trans hb hg, r⟩⟩
theorem owns_keepS {S : List Nat} {w w' : World} {base : Nat} {T : TypeId} {sz : Nat} {v : Value} {n : Nat} {xs : List Value} (h : w.ownsRow base T sz v n xs) (ho : Only S w w') (hS : ∀ b, v.ownBlock = some b → b ∉ S) : w'.ownsRow base T sz v n xs := by
  obtain ⟨h1, h2 | ⟨g, cap, cur, e, hg, hh, r⟩⟩ := h
  · exact ⟨h1, .inl h2⟩
  · exact ⟨h1, .inr ⟨g, cap, cur, e, hg, ho.keep hh (hS g (by rw [e]; rfl)), r⟩⟩
theorem owns_keep {w w' : World} {base : Nat} {T : TypeId} {sz : Nat} {v : Value} {n : Nat} {xs : List Value} (h : w.ownsRow base T sz v n xs) (ho : Only [] w w') : w'.ownsRow base T sz v n xs := owns_keepS h ho (by simp)

theorem owns_lt {w : World} {base : Nat} {T : TypeId} {sz : Nat} {v : Value} {n : Nat} {xs : List Value} (h : w.ownsRow base T sz v n xs) : ∀ q, v.ownBlock = some q → base ≤ q ∧ q < w.heap.size := by
  intro q hq
  obtain ⟨h1, ⟨rfl, _⟩ | ⟨g, cap, cur, rfl, hg, hh, r⟩⟩ := h
  · cases hq
  · cases hq; exact ⟨hg, lt_of_blk hh⟩

/-- Can machine n perform an act? -/
def ableB (n : Int) (x : Int × Int) : Bool := (decide (n = 0) && (decide (x.1 = 0) || decide (x.1 = 1))) || (decide (0 < n) && decide (x.1 = 2))

theorem cells_newA {w : World} {b : Nat} {T : TypeId} (x y : Int) (hb : b = w.heap.size) : ∀ j u, [Value.int .i64 x, Value.int .i64 y][j]? = some u → (w.alloc (.cells #[.int .i64 x, .int .i64 y] T)).cell? ((⟨b, 0, none⟩ : Addr).add j) = some u := by
  intro j u h
  subst hb
  have hn := blk_alloc_new w (.cells #[.int .i64 x, .int .i64 y] T)
  rw [Go.WideShapes.add_plain, cell_blk hn, Nat.zero_add]
  match j, h with
  | 0, h => simpa using h
  | 1, h => simpa using h

theorem take_filter_succ {α : Type} (p : α → Bool) (l : List α) (k : Nat) (z : α) (h : k < l.length) : (l.take (k + 1)).filter p = (l.take k).filter p ++ (if p (l.getD k z) then [l.getD k z] else []) := by
  rw [List.take_succ_eq_append_getElem h, List.filter_append]
  have : l.getD k z = l[k] := by rw [List.getD_eq_getElem?_getD, List.getElem?_eq_getElem h]; rfl
  rw [this]
  simp [List.filter_cons]

/-- 'append(v, x)' of an act, v the call's own. -/
theorem wpList_append_act (w : World) {ops : Array Oper} {rest : List Oper} {o : Oper} {a : Act} {Q : Exit → Act → World → Prop} (hw : Region.wanted o (yielded ops a.tmps) = true) (s x : Operand)
    (ho : o.op = .call { callee := .builtin .append, args := #[s, x], argTypes := #[40, 40] })
    (base : Nat) (v : Value) (l : List (Int × Int)) (hs : a.eval s = v) (hown : w.ownsRow base 44 2 v l.length (flatA l)) (ad : Addr) (y : Int × Int) (hx : a.eval x = .slice (some ad) 1 1) (hnews : ∀ j u, (flatA [y])[j]? = some u → w.cell? (ad.add j) = some u)
    (hlen : l.length ≤ 1000000) (hbase : base ≤ w.heap.size)
    (h : ∀ v' w', w'.ownsRow base 44 2 v' (l ++ [y]).length (flatA (l ++ [y])) → w.grownBy w' v.ownBlock → wpList Tryz.prog ops Q rest (a.put o.dst v') w') : wpList Tryz.prog ops Q (o :: rest) a w := by
  obtain ⟨i0, hi, hz0, hz1, hz2⟩ := info_parts infoAct
  refine wpList_append_cells w hw s x 40 ho base 44 i0 (.agg #[.int .i64 0, .int .i64 0]) 2 16 Tryz.underlying40 hi hz0 hz1 hz2 rfl (by decide) v l.length (flatA l) hs hown (some ad) 1 1 (flatA [y]) hx (by simp) (by rw [flatA_len]; simp)
    (fun ad' e => by cases e; exact hnews) (flatA_one [y]) (by unfold maxLen; omega) (by omega) hbase ?_
  intro v' w' h4 h5 h6
  exact h v' w' (by rw [flatA_app, List.length_append]; exact h4) h5

set_option maxRecDepth 100000 in
set_option maxHeartbeats 1000000 in
theorem able_any (w : World) (v : Value) (l : List (Int × Int)) (num : Int) (hv : ActsAt w v l) (hl : l.length ≤ 1000) :
    Calls Tryz.prog 17 #[.int .i64 num, v] w fun e w' => ∃ v', e = .returned v' ∧ w'.ownsRow w.heap.size 44 2 v' (l.filter (ableB num)).length (flatA (l.filter (ableB num))) ∧ Only [] w w' := by
  obtain ⟨ao, cap, rfl, hc, h2, h3⟩ := hv
  obtain ⟨n, hn⟩ : ∃ n, n = l.length := ⟨_, rfl⟩
  obtain ⟨i0, hi, hz0, hz1, hz2⟩ := info_parts infoAct
  rw [← hn] at hl h3 ⊢
  have HN := Lib.hid hn
  have HC := Lib.hid hc
  have HAB : Hid (∀ x, ableB num x = ((decide (num = 0) && (decide (x.1 = 0) || decide (x.1 = 1))) || (decide (0 < num) && decide (x.1 = 2)))) := Lib.hid fun _ => rfl
  obtain ⟨F, hF⟩ : ∃ F : Nat → List (Int × Int), F = fun k => (l.take k).filter (ableB num) := ⟨_, rfl⟩
  have HF := Lib.hid hF
  have HFn : Hid (F n = l.filter (ableB num)) := Lib.hid (by rw [hF, hn]; simp)
  have HFl : Hid (∀ k, (F k).length ≤ k) := Lib.hid (fun k => by rw [hF]; refine Nat.le_trans (List.length_filter_le _ _) ?_; rw [List.length_take]; omega)
  have HFs : Hid (∀ k, k < n → F (k + 1) = F k ++ (if ableB num (l.getD k (0, 0)) then [l.getD k (0, 0)] else [])) := Lib.hid (fun k hk => by rw [hF]; exact take_filter_succ _ _ _ _ (by omega))
  rw [← HFn.out]
  clear hc hn hF
  by_cases h0 : num = 0
  · subst h0
    go_enter Tryz.func17, Tryz.ntmps17
    go_wp2_with fail
    go_loopw [5, 10] (fun v i wr => ∃ k : Nat, k ≤ n ∧ i = .int .i64 k ∧ wr.ownsRow w.heap.size 44 2 v (F k).length (flatA (F k)) ∧ Only [] w wr) (fun _ i _ => n - (intOf i).toNat)
    case atStart =>
      have e : F 0 = [] := by rw [HF.out]; rfl
      exact ⟨0, Nat.zero_le _, rfl, by rw [e]; exact ⟨rfl, .inl ⟨rfl, rfl⟩⟩, Only.refl _ _⟩
    case round =>
      obtain ⟨k, hk, rfl, hown, hP⟩ := hrel
      have P := Lib.hid hP
      have W := Lib.hid hown
      by_cases hlt : k < n
      · obtain ⟨b, off, rfl, hcs⟩ := HC.out (by rw [flatA_len]; have := HN.out; omega)
        obtain ⟨e1, e2⟩ := flatA_at l k (by have := HN.out; omega)
        obtain ⟨x, hx⟩ : ∃ x, x = l.getD k (0, 0) := ⟨_, rfl⟩
        have HS := HFs.out k hlt
        rw [← hx] at e1 e2 HS
        obtain ⟨q1, hq1⟩ := List.getElem?_eq_some_iff.1 e1
        obtain ⟨q2, hq2⟩ := List.getElem?_eq_some_iff.1 e2
        have c0 : wr.cell? ⟨b, off + k * 2, none⟩ = some (.int .i64 x.1) := P.out.keepCell (by have := hcs (k * 2) q1; rw [hq1] at this; exact this) (by simp)
        have c1 : wr.cell? ⟨b, off + k * 2 + 1, none⟩ = some (.int .i64 x.2) := P.out.keepCell (by have := hcs (k * 2 + 1) q2; rw [hq2] at this; exact this) (by simp)
        obtain ⟨xk, xv⟩ := x
        have HB := HAB.out (xk, xv)
        simp only at c0 c1 HB
        have HSS := Lib.hid HS
        have HBB := Lib.hid HB
        have hs0 := P.out.size
        have hfl := HFl.out k
        clear e1 e2 q1 hq1 q2 hq2 hcs hown hP HS HB hx
        go_wp2_with (at_builtin; first | (refine wpList_append_act _ rfl _ _ rfl w.heap.size _ (F k) rfl (owns_keep W.out (((Only.refl _ _).alloc _).alloc _)) ⟨wr.heap.size + 1, 0, none⟩ (0, xv) rfl (cells_newA 0 xv (by simp)) (by omega) (by simp; omega) ?_) | (refine wpList_append_act _ rfl _ _ rfl w.heap.size _ (F k) rfl (owns_keep W.out (((Only.refl _ _).alloc _).alloc _)) ⟨wr.heap.size + 1, 0, none⟩ (1, xv) rfl (cells_newA 1 xv (by simp)) (by omega) (by simp; omega) ?_) | (refine wpList_append_act _ rfl _ _ rfl w.heap.size _ (F k) rfl (owns_keep W.out (((Only.refl _ _).alloc _).alloc _)) ⟨wr.heap.size + 1, 0, none⟩ (2, xv) rfl (cells_newA 2 xv (by simp)) (by omega) (by simp; omega) ?_) | (refine wpList_append_act _ rfl _ _ rfl w.heap.size _ (F k) rfl (owns_keep W.out (((Only.refl _ _).alloc _).alloc _)) ⟨wr.heap.size + 1, 0, none⟩ (xk, xv) rfl (cells_newA xk xv (by simp)) (by omega) (by simp; omega) ?_))
        all_goals first
          | (intro v' w2 hown2 hgrow
             have P2 : Hid (Only [] w w2) := Lib.hid (((P.out.alloc _).alloc _).grown hgrow (fun q hq => .inr (owns_lt W.out q hq).1))
             have W2 : Hid (w2.ownsRow w.heap.size 44 2 v' (F (k + 1)).length (flatA (F (k + 1)))) := Lib.hid (by rw [HSS.out, if_pos (show ableB 0 (xk, xv) = true from by rw [HBB.out]; first | (simp; omega) | (simp at *; omega) | simp_all)]; rw [List.length_append]; first | exact hown2 | (rw [show xk = 0 from by omega]; exact hown2) | (rw [show xk = 1 from by omega]; exact hown2) | (rw [show xk = 2 from by omega]; exact hown2))
             clear hown2 hgrow
             go_wp2_with fail
             go_roundw
             case rel => exact ⟨k + 1, by omega, by go_num, W2.out, P2.out⟩
             case measure => simp [intOf]; omega)
          | (have W2 : Hid (wr.ownsRow w.heap.size 44 2 _ (F (k + 1)).length (flatA (F (k + 1)))) := Lib.hid (by rw [HSS.out, if_neg (show ¬ ableB 0 (xk, xv) = true from by rw [HBB.out]; first | (simp; omega) | (simp at *; omega) | simp_all), List.append_nil]; exact W.out)
             go_roundw
             case rel => exact ⟨k + 1, by omega, by go_num, owns_keep W2.out ((Only.refl _ _).alloc _), P.out.alloc _⟩
             case measure => simp [intOf]; omega)
      · obtain rfl : k = n := by omega
        clear hown hP
        go_wp2_with fail
        go_ret
        exact ⟨_, rfl, W.out, P.out⟩
  · have _h := h0
    go_enter Tryz.func17, Tryz.ntmps17
    go_wp2_with fail
    go_loopw [5, 10] (fun v i wr => ∃ k : Nat, k ≤ n ∧ i = .int .i64 k ∧ wr.ownsRow w.heap.size 44 2 v (F k).length (flatA (F k)) ∧ Only [] w wr) (fun _ i _ => n - (intOf i).toNat)
    case atStart =>
      have e : F 0 = [] := by rw [HF.out]; rfl
      exact ⟨0, Nat.zero_le _, rfl, by rw [e]; exact ⟨rfl, .inl ⟨rfl, rfl⟩⟩, Only.refl _ _⟩
    case round =>
      obtain ⟨k, hk, rfl, hown, hP⟩ := hrel
      have P := Lib.hid hP
      have W := Lib.hid hown
      by_cases hlt : k < n
      · obtain ⟨b, off, rfl, hcs⟩ := HC.out (by rw [flatA_len]; have := HN.out; omega)
        obtain ⟨e1, e2⟩ := flatA_at l k (by have := HN.out; omega)
        obtain ⟨x, hx⟩ : ∃ x, x = l.getD k (0, 0) := ⟨_, rfl⟩
        have HS := HFs.out k hlt
        rw [← hx] at e1 e2 HS
        obtain ⟨q1, hq1⟩ := List.getElem?_eq_some_iff.1 e1
        obtain ⟨q2, hq2⟩ := List.getElem?_eq_some_iff.1 e2
        have c0 : wr.cell? ⟨b, off + k * 2, none⟩ = some (.int .i64 x.1) := P.out.keepCell (by have := hcs (k * 2) q1; rw [hq1] at this; exact this) (by simp)
        have c1 : wr.cell? ⟨b, off + k * 2 + 1, none⟩ = some (.int .i64 x.2) := P.out.keepCell (by have := hcs (k * 2 + 1) q2; rw [hq2] at this; exact this) (by simp)
        obtain ⟨xk, xv⟩ := x
        have HB := HAB.out (xk, xv)
        simp only at c0 c1 HB
        have HSS := Lib.hid HS
        have HBB := Lib.hid HB
        have hs0 := P.out.size
        have hfl := HFl.out k
        clear e1 e2 q1 hq1 q2 hq2 hcs hown hP HS HB hx
        go_wp2_with (at_builtin; first | (refine wpList_append_act _ rfl _ _ rfl w.heap.size _ (F k) rfl (owns_keep W.out (((Only.refl _ _).alloc _).alloc _)) ⟨wr.heap.size + 1, 0, none⟩ (0, xv) rfl (cells_newA 0 xv (by simp)) (by omega) (by simp; omega) ?_) | (refine wpList_append_act _ rfl _ _ rfl w.heap.size _ (F k) rfl (owns_keep W.out (((Only.refl _ _).alloc _).alloc _)) ⟨wr.heap.size + 1, 0, none⟩ (1, xv) rfl (cells_newA 1 xv (by simp)) (by omega) (by simp; omega) ?_) | (refine wpList_append_act _ rfl _ _ rfl w.heap.size _ (F k) rfl (owns_keep W.out (((Only.refl _ _).alloc _).alloc _)) ⟨wr.heap.size + 1, 0, none⟩ (2, xv) rfl (cells_newA 2 xv (by simp)) (by omega) (by simp; omega) ?_) | (refine wpList_append_act _ rfl _ _ rfl w.heap.size _ (F k) rfl (owns_keep W.out (((Only.refl _ _).alloc _).alloc _)) ⟨wr.heap.size + 1, 0, none⟩ (xk, xv) rfl (cells_newA xk xv (by simp)) (by omega) (by simp; omega) ?_))
        all_goals first
          | (intro v' w2 hown2 hgrow
             have P2 : Hid (Only [] w w2) := Lib.hid (((P.out.alloc _).alloc _).grown hgrow (fun q hq => .inr (owns_lt W.out q hq).1))
             have W2 : Hid (w2.ownsRow w.heap.size 44 2 v' (F (k + 1)).length (flatA (F (k + 1)))) := Lib.hid (by rw [HSS.out, if_pos (show ableB num (xk, xv) = true from by rw [HBB.out]; first | (simp; omega) | (simp at *; omega) | simp_all)]; rw [List.length_append]; first | exact hown2 | (rw [show xk = 0 from by omega]; exact hown2) | (rw [show xk = 1 from by omega]; exact hown2) | (rw [show xk = 2 from by omega]; exact hown2))
             clear hown2 hgrow
             go_wp2_with fail
             go_roundw
             case rel => exact ⟨k + 1, by omega, by go_num, W2.out, P2.out⟩
             case measure => simp [intOf]; omega)
          | (have W2 : Hid (wr.ownsRow w.heap.size 44 2 _ (F (k + 1)).length (flatA (F (k + 1)))) := Lib.hid (by rw [HSS.out, if_neg (show ¬ ableB num (xk, xv) = true from by rw [HBB.out]; first | (simp; omega) | (simp at *; omega) | simp_all), List.append_nil]; exact W.out)
             go_roundw
             case rel => exact ⟨k + 1, by omega, by go_num, owns_keep W2.out ((Only.refl _ _).alloc _), P.out.alloc _⟩
             case measure => simp [intOf]; omega)
      · obtain rfl : k = n := by omega
        clear hown hP
        go_wp2_with fail
        go_ret
        exact ⟨_, rfl, W.out, P.out⟩
end Go.Proofs.YtfhkhknnoepfeaaGreat
