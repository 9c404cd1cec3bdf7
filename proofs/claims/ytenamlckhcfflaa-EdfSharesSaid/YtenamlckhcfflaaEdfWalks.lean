/- What the functions of package edf and of its reference compute. -/
import Derived.Test.YtenamlckhcfflaaRows
import Derived.Test.YtenamlckhcfflaaKit
import Derived.Test.YtenamlckhcfflaaEdfPlain
import Derived.WalkSpells
import Derived.Deep.QuietTactic
import Derived.BigQuiet
import Derived.Laws.AppendOwnNone
namespace Go.Proofs.Ytenamlckhcfflaa
open Go.RowKit
set_option linter.unusedVariables false

theorem info64 : (Try.prog.info? 23).map (fun i => (i.zero, i.size, i.bytes)) = some (some (.int .u64 0), 1, 8) := by kernel_rfl

theorem owns_mono {w : World} {base base' : Nat} {T : TypeId} {sz : Nat} {v : Value} {n : Nat} {xs : List Value} (h : w.ownsRow base T sz v n xs) (hb : base' ≤ base) : w.ownsRow base' T sz v n xs := by
  obtain ⟨h1, h2 | ⟨g, cap, cur, e, hg, r⟩⟩ := h
  · exact ⟨h1, .inl h2⟩
  · exact ⟨h1, .inr ⟨g, cap, cur, e, Nat.le_trans hb hg, r⟩⟩

theorem owns_keep {w w' : World} {base : Nat} {T : TypeId} {sz : Nat} {v : Value} {n : Nat} {xs : List Value} (h : w.ownsRow base T sz v n xs) (ho : Only [] w w') : w'.ownsRow base T sz v n xs := by
  obtain ⟨h1, h2 | ⟨g, cap, cur, e, hg, hh, r⟩⟩ := h
  · exact ⟨h1, .inl h2⟩
  · exact ⟨h1, .inr ⟨g, cap, cur, e, hg, ho.keep hh (by simp), r⟩⟩

theorem owns_shape {w : World} {base : Nat} {T : TypeId} {sz : Nat} {v : Value} {n : Nat} {xs : List Value} (h : w.ownsRow base T sz v n xs) (hv : v ≠ .slice none 0 0) :
    ∃ g cap, v = .slice (some ⟨g, 0, none⟩) n cap ∧ base ≤ g ∧ g < w.heap.size ∧ n ≤ cap ∧ cap ≤ 9223372036854775807 := by
  obtain ⟨hl, h | ⟨g, cap, cur, rfl, hb, hh, hn, hc, hs, ht⟩⟩ := h
  · exact absurd h.1 hv
  · exact ⟨g, cap, rfl, hb, lt_of_blk hh, hn, by unfold maxLen at hc; omega⟩

/-- An element of an owned row of words. -/
theorem owns_at {w : World} {base : Nat} {T : TypeId} {g n cap : Nat} {l : List Int} (h : w.ownsRow base T 1 (.slice (some ⟨g, 0, none⟩) n cap) n (l.map (.int .u64))) (hl : l.length = n) (j : Nat) (hj : j < n) :
    w.cell? ⟨g, j, none⟩ = some (.int .u64 (l.getD j 0)) := by
  rw [h.cellAt j (by omega)]
  simp [List.getD, List.getElem?_eq_getElem (show j < l.length by omega)]

theorem owns_set {w : World} {base : Nat} {T : TypeId} {g n cap : Nat} {l : List Int} (h : w.ownsRow base T 1 (.slice (some ⟨g, 0, none⟩) n cap) n (l.map (.int .u64))) (j : Nat) (x : Int) :
    (w.setCell ⟨g, j, none⟩ (.int .u64 x)).ownsRow base T 1 (.slice (some ⟨g, 0, none⟩) n cap) n ((l.set j x).map (.int .u64)) := by
  rw [List.map_set]
  exact (h.stored j _).1

theorem owns_drewN {w : World} {base : Nat} {T : TypeId} {sz : Nat} {v : Value} {n : Nat} {xs : List Value} (h : w.ownsRow base T sz v n xs) (q : Nat) : (w.drewN q).ownsRow base T sz v n xs := h

theorem oneCell_u64 (xs : List Int) : ∀ u ∈ xs.map (Value.int .u64), u.oneCell' = true := by
  intro u hu; simp at hu; obtain ⟨z, _, rfl⟩ := hu; rfl

/-- An owned slice, read. -/
theorem owns_cells {w : World} {base : Nat} {T : TypeId} {v : Value} {n : Nat} {xs : List Value} (h : w.ownsRow base T 1 v n xs) :
    ∃ ao cap, v = .slice ao xs.length cap ∧ n = xs.length ∧ CellsAt w ao xs ∧ (ao = none → xs = [] ∧ cap = 0) := by
  obtain ⟨hl, ⟨rfl, rfl⟩ | ⟨g, cap, cur, rfl, hb, hh, hn, hc, hs, ht⟩⟩ := h
  · have : xs = [] := by simpa using hl
    subst this
    exact ⟨none, 0, rfl, rfl, CellsAt.nil _ _, fun _ => ⟨rfl, rfl⟩⟩
  · simp only [Nat.mul_one] at hl ht
    refine ⟨some ⟨g, 0, none⟩, cap, by rw [hl], hl.symm, fun hp => ⟨g, 0, rfl, fun j hj => ?_⟩, fun e => by cases e⟩
    rw [cell_blk hh, Nat.zero_add]
    have h6 : (cur.toList.take n)[j]? = some xs[j] := by rw [ht]; exact List.getElem?_eq_getElem hj
    rw [List.getElem?_take] at h6
    have hjn : j < n := by omega
    simpa [hjn] using h6

/-- 'append(v, xs...)', v the call's own, xs any slice, nil too. -/
theorem wpList_append_cells {P : Program} (w : World) {ops : Array Oper} {rest : List Oper} {o : Oper} {a : Act} {Q : Exit → Act → World → Prop} (hgd : o.guard = none) (s x : Operand) (t : TypeId)
    (ho : o.op = .call { callee := .builtin .append, args := #[s, x], argTypes := #[t, t] })
    (base : Nat) (e : TypeId) (i : TypeInfo) (z : Value) (size bytes : Nat) (ht : P.underlying t = some (.slice e)) (hi : P.info? e = some i) (hz : i.zero = some z)
    (hsize : i.size = size) (hby : i.bytes = bytes) (hzs : z.cells.size = size) (hsz : 0 < size)
    (v : Value) (n : Nat) (xs : List Value) (hs : a.eval s = v) (hown : w.ownsRow base e size v n xs)
    (ao : Option Addr) (m c : Nat) (news : List Value) (hx : a.eval x = .slice ao m c) (hnone : ao = none → m = 0 ∧ c = 0) (hl : news.length = m * size) (hnews : ∀ ad, ao = some ad → ∀ j u, news[j]? = some u → w.cell? (ad.add j) = some u) (h1 : ∀ u ∈ news, u.oneCell' = true)
    (h63 : n + m ≤ maxLen) (hbytes : (n + m) * bytes ≤ 140737488355328) (hbase : base ≤ w.heap.size)
    (h : ∀ v' w', w'.ownsRow base e size v' (n + m) (xs ++ news) → w.grownBy w' v.ownBlock → (v' = .slice none 0 0 ↔ v = .slice none 0 0 ∧ m = 0) → wpList P ops Q rest (a.put o.dst v') w') : wpList P ops Q (o :: rest) a w := by
  cases ao with
  | some ad => exact wpList_append_own w hgd s x t ho base e i z size bytes ht hi hz hsize hby hzs hsz v n xs hs hown ad m c news hx hl (hnews ad rfl) h1 h63 hbytes hbase h
  | none =>
    obtain ⟨rfl, rfl⟩ := hnone rfl
    have e1 : news = [] := by simpa using hl
    subst e1
    exact wpList_append_own_none hgd s x t ho base e i size ht hi v n xs hs hown hx (h v w (by simpa using hown) ⟨rfl, rfl, rfl, Nat.le_refl _, fun _ _ _ => rfl⟩ (by simp))

/-- slices.Clone of any slice of words. -/
theorem cloneU_any (w : World) (ao : Option Addr) (cap : Nat) (xs : List Int) (h : CellsAt w ao (xs.map (.int .u64))) (hnone : ao = none → xs = [] ∧ cap = 0) (hn : xs.length ≤ 4000000000000) :
    Calls Try.prog 20 #[.slice ao xs.length cap] w fun e w' => ∃ v, e = .returned v ∧ Only [] w w' ∧ w'.ownsRow w.heap.size 23 1 v xs.length (xs.map (.int .u64)) := by
  cases ao with
  | none =>
    obtain ⟨rfl, rfl⟩ := hnone rfl
    have hneq := fun (w : World) => Lib.run_eql_slice_nil (P := Try.prog) w 22 23 none 0 0 0 0 Try.underlying22
    go_enter Try.func20, Try.ntmps20
    go_wp2_with fail
    go_ret
    exact ⟨_, rfl, Only.refl _ _, World.ownsRow_nil _ _ _ _⟩
  | some a =>
    obtain ⟨i0, hi, hz0, hz1, hz2⟩ := info_parts info64
    have HO : Hid ((w.alloc (.cells #[] 23)).ownsRow w.heap.size 23 1 (.slice (some ⟨w.heap.size, 0, none⟩) 0 0) 0 []) := Lib.hid (World.ownsRow_made w #[] 0 (Nat.le_refl _) (by simp) rfl)
    have hneq := fun (w : World) => Lib.run_eql_slice_nil (P := Try.prog) w 22 23 (some a) xs.length cap 0 0 Try.underlying22
    have HN : Hid (∀ j u, (xs.map (Value.int .u64))[j]? = some u → (w.alloc (.cells #[] 23)).cell? (a.add j) = some u) := Lib.hid (h.keep0 ((Only.refl [] w).alloc _)).news
    clear h
    go_enter Try.func20, Try.ntmps20
    go_wp2_with (at_builtin; refine wpList_append_own _ rfl _ _ 22 rfl w.heap.size 23 i0 (.int .u64 0) 1 8 Try.underlying22 hi hz0 hz1 hz2 rfl (by decide) _ _ _ rfl HO.out a xs.length cap (xs.map (.int .u64)) rfl (by simp) HN.out (oneCell_u64 xs) (by unfold maxLen; omega) (by omega) (by simp) ?_)
    intro v' w1 hown' hgrow hnil
    have ho : Only [] w w1 := ((Only.refl [] w).alloc _).grown hgrow (by simp [Value.ownBlock])
    have HW := Lib.hid hown'
    clear hown' hgrow hnil
    go_wp2_with fail
    go_ret
    exact ⟨_, rfl, ho, by simpa using HW.out⟩

set_option maxHeartbeats 400000 in
theorem push_any (w : World) (ao : Option Addr) (cap : Nat) (xs : List Int) (k : Int) (h : CellsAt w ao (xs.map (.int .u64))) (hnone : ao = none → xs = [] ∧ cap = 0) (hn : xs.length ≤ 1000000) :
    Calls Try.prog 11 #[.slice ao xs.length cap, .int .u64 k] w fun e w' => ∃ v, e = .returned v ∧ Only [] w w' ∧ w'.ownsRow w.heap.size 23 1 v (xs.length + 1) ((pushL xs k).map (.int .u64)) := by
  obtain ⟨i0, hi, hz0, hz1, hz2⟩ := info_parts info64
  have A := Lib.hid (cloneU_any w ao cap xs h hnone (by omega))
  clear h hnone
  go_enter Try.func11, Try.ntmps11
  go_wp2_with fail
  refine A.out.mono ?_; rintro e w1 ⟨v, rfl, o1, hown⟩
  have hown1 := Lib.hid (hown.alloc (.cells #[.int .u64 k] 23))
  have hs1 := o1.size
  have O1 := Lib.hid o1
  clear hown o1
  go_wp2_with (at_builtin; refine wpList_append_own _ rfl _ _ 22 rfl w.heap.size 23 i0 (.int .u64 0) 1 8 Try.underlying22 hi hz0 hz1 hz2 rfl (by decide) _ _ _ rfl hown1.out ⟨w1.heap.size, 0, none⟩ 1 1 [.int .u64 k] rfl rfl (cell_one_new _ _ _) (by simp [Value.oneCell']) (by unfold maxLen; omega) (by omega) (by simp; omega) ?_)
  intro v' w2 hown2 hgrow hnil
  have hnil' : v' ≠ .slice none 0 0 := by simpa using hnil
  obtain ⟨g, cp, rfl, hg, hg2, hcp, hcp2⟩ := owns_shape hown2 hnil'
  have P2 := Lib.hid ((O1.out.alloc _).grown hgrow (fun q hq => .inr (hown1.out.lt q hq).1))
  have W2 : Hid (w2.ownsRow w.heap.size 23 1 (.slice (some ⟨g, 0, none⟩) (xs.length + 1) cp) (xs.length + 1) ((xs ++ [k]).map (.int .u64))) := Lib.hid (by simpa using hown2)
  clear hown2 hgrow hnil hnil' hown1 O1 A
  go_wp2_with fail
  obtain ⟨n, hnn⟩ : ∃ n, n = xs.length := ⟨_, rfl⟩
  rw [← hnn] at W2 hn hcp ⊢
  have HN := Lib.hid hnn
  clear hnn
  have hk0 : Hid (k = k) := Lib.hid rfl
  go_loopw [6] (fun i wr => ∃ (f j : Nat) (l : List Int), i = .int .i64 j ∧ j ≤ f ∧ j ≤ n ∧ l.length = n + 1 ∧ upP k f j l = pushL xs k ∧ wr.ownsRow w.heap.size 23 1 (.slice (some ⟨g, 0, none⟩) (n + 1) cp) (n + 1) (l.map (.int .u64)) ∧ Only [] w wr)
    (fun i _ => (intOf i).toNat)
  case atStart => exact ⟨n, n, xs ++ [k], rfl, Nat.le_refl _, Nat.le_refl _, by simp [HN.out], by rw [HN.out]; rfl, W2.out, P2.out⟩
  case round =>
    obtain ⟨f, j, l, rfl, hjf, hjn, hll, hup, hown, hP⟩ := hrel
    have P := Lib.hid hP
    have W := Lib.hid hown
    have HU := Lib.hid hup
    have HLL := Lib.hid hll
    have c0 := fun q (hq : q < n + 1) => owns_at hown hll q hq
    have f0 := hown.frozenAt j
    clear hP hown hup hll P2 W2
    have cj := c0 j (by omega)
    by_cases hj : 0 < j
    · have c1 := c0 ((j - 1) / 2) (by omega)
      have hj2 : (j - 1) / 2 < n + 1 := by omega
      obtain ⟨x, hx⟩ : ∃ x, x = l.getD ((j - 1) / 2) 0 := ⟨_, rfl⟩
      rw [← hx] at c1
      have HX := Lib.hid hx
      clear hx c0
      by_cases hkx : k < x
      · obtain ⟨f', rfl⟩ : ∃ f', f = f' + 1 := ⟨f - 1, by omega⟩
        have hup' : upP k f' ((j - 1) / 2) (l.set j x) = pushL xs k := by
          have := HU.out
          unfold upP at this
          rw [← HX.out, if_pos ⟨hj, hkx⟩] at this
          exact this
        have HU' := Lib.hid hup'
        clear hup'
        go_wp2_with fail
        go_roundw
        case rel => exact ⟨f', (j - 1) / 2, l.set j x, congrArg (Value.int .i64) (by omega), by omega, by omega, by simp [HLL.out], HU'.out, owns_set W.out j x, P.out.setCell (.inr hg) _⟩
        case measure => simp [intOf]; omega
      · have hfin : l.set j k = pushL xs k := by
          have := HU.out
          cases f with
          | zero => exact this
          | succ f => unfold upP at this; rw [← HX.out, if_neg (fun h => hkx h.2)] at this; exact this
        have HF := Lib.hid hfin
        clear hfin
        go_wp2_with fail
        go_ret
        exact ⟨_, rfl, P.out.setCell (.inr hg) _, by rw [← HN.out, ← HF.out]; exact owns_set W.out j k⟩
    · obtain rfl : j = 0 := by omega
      have hfin : l.set 0 k = pushL xs k := by
        have := HU.out
        cases f with
        | zero => exact this
        | succ f => unfold upP at this; rw [if_neg (fun h => hj h.1)] at this; exact this
      have HF := Lib.hid hfin
      clear hfin c0
      go_wp2_with fail
      go_ret
      exact ⟨_, rfl, P.out.setCell (.inr hg) _, by rw [← HN.out, ← HF.out]; exact owns_set W.out 0 k⟩

set_option maxHeartbeats 400000 in
theorem refPush_any (w : World) (ao : Option Addr) (cap : Nat) (xs : List Int) (k : Int) (h : CellsAt w ao (xs.map (.int .u64))) (hnone : ao = none → xs = [] ∧ cap = 0) (hn : xs.length ≤ 1000000) :
    Calls Try.prog 12 #[.slice ao xs.length cap, .int .u64 k] w fun e w' => ∃ v, e = .returned v ∧ Only [] w w' ∧ w'.ownsRow w.heap.size 23 1 v (xs.length + 1) ((pushL xs k).map (.int .u64)) := by
  obtain ⟨i0, hi, hz0, hz1, hz2⟩ := info_parts info64
  have HO : Hid ((w.alloc (.cells #[] 23)).ownsRow w.heap.size 23 1 (.slice (some ⟨w.heap.size, 0, none⟩) 0 0) 0 []) := Lib.hid (World.ownsRow_made w #[] 0 (Nat.le_refl _) (by simp) rfl)
  obtain ⟨n, hnn⟩ : ∃ n, n = xs.length := ⟨_, rfl⟩
  rw [← hnn] at hn ⊢
  have HN := Lib.hid hnn
  have first : ∀ (a : Addr), ao = some a → ∀ j u, (xs.map (Value.int .u64))[j]? = some u → (w.alloc (.cells #[] 23)).cell? (a.add j) = some u := fun a e => by subst e; exact (h.keep0 ((Only.refl [] w).alloc _)).news
  have F := Lib.hid first
  have hn2 : ao = none → n = 0 ∧ cap = 0 := fun e => by have := hnone e; rw [hnn, this.1]; exact ⟨rfl, this.2⟩
  have HN2 := Lib.hid hn2
  clear h first hnn hnone hn2
  go_enter Try.func12, Try.ntmps12
  go_wp2_with (at_builtin; refine wpList_append_cells _ rfl _ _ 22 rfl w.heap.size 23 i0 (.int .u64 0) 1 8 Try.underlying22 hi hz0 hz1 hz2 rfl (by decide) _ _ _ rfl HO.out ao n cap (xs.map (.int .u64)) rfl HN2.out (by simp; exact HN.out.symm) F.out (oneCell_u64 xs) (by unfold maxLen; omega) (by omega) (by simp) ?_)
  intro v1 w1 hown1 hgrow1 hnil1
  have hnil1' : v1 ≠ .slice none 0 0 := by simpa using hnil1
  have hs1 := hgrow1.size
  try simp only [Nat.zero_add, List.nil_append] at hown1
  have O1 := Lib.hid (((Only.refl [] w).alloc _).grown hgrow1 (by simp [Value.ownBlock]))
  have W1 := Lib.hid (hown1.alloc (.cells #[.int .u64 k] 23))
  have hs1' : w.heap.size ≤ w1.heap.size := O1.out.size
  clear hown1 hgrow1 hnil1
  go_wp2_with (at_builtin; refine wpList_append_own _ rfl _ _ 22 rfl w.heap.size 23 i0 (.int .u64 0) 1 8 Try.underlying22 hi hz0 hz1 hz2 rfl (by decide) _ _ _ rfl W1.out ⟨w1.heap.size, 0, none⟩ 1 1 [.int .u64 k] rfl rfl (cell_one_new _ _ _) (by simp [Value.oneCell']) (by unfold maxLen; omega) (by omega) (by simp; omega) ?_)
  intro v' w2 hown2 hgrow hnil
  have hnil' : v' ≠ .slice none 0 0 := by simpa using hnil
  obtain ⟨g, cp, rfl, hg, hg2, hcp, hcp2⟩ := owns_shape hown2 hnil'
  have P2 := Lib.hid ((O1.out.alloc _).grown hgrow (fun q hq => .inr (W1.out.lt q hq).1))
  have W2 : Hid (w2.ownsRow w.heap.size 23 1 (.slice (some ⟨g, 0, none⟩) (n + 1) cp) (n + 1) ((xs ++ [k]).map (.int .u64))) := Lib.hid (by simpa using hown2)
  clear hown2 hgrow hnil hnil' W1 O1 hnil1'
  go_wp2_with fail
  go_loopw [6] (fun i wr => ∃ (f j : Nat) (l : List Int), i = .int .i64 j ∧ j ≤ f ∧ j ≤ n ∧ l.length = n + 1 ∧ upR k f j l = pushL xs k ∧ wr.ownsRow w.heap.size 23 1 (.slice (some ⟨g, 0, none⟩) (n + 1) cp) (n + 1) (l.map (.int .u64)) ∧ Only [] w wr)
    (fun i _ => (intOf i).toNat)
  case atStart => exact ⟨n, n, xs ++ [k], rfl, Nat.le_refl _, Nat.le_refl _, by simp [HN.out], by rw [HN.out]; exact upR_start xs k, W2.out, P2.out⟩
  case round =>
    obtain ⟨f, j, l, rfl, hjf, hjn, hll, hup, hown, hP⟩ := hrel
    have P := Lib.hid hP
    have W := Lib.hid hown
    have HU := Lib.hid hup
    have HLL := Lib.hid hll
    have c0 := fun q (hq : q < n + 1) => owns_at hown hll q hq
    have f0 := hown.frozenAt j
    have f1 := hown.frozenAt ((j - 1) / 2)
    have cj := c0 j (by omega)
    clear hP hown hup hll P2 W2
    by_cases hj : 0 < j
    · have c1 := c0 ((j - 1) / 2) (by omega)
      have hj2 : (j - 1) / 2 < n + 1 := by omega
      have hne : (j - 1) / 2 ≠ j := by omega
      obtain ⟨x, hx⟩ : ∃ x, x = l.getD ((j - 1) / 2) 0 := ⟨_, rfl⟩
      rw [← hx] at c1
      have HX := Lib.hid hx
      clear hx c0
      by_cases hkx : k < x
      · obtain ⟨f', rfl⟩ : ∃ f', f = f' + 1 := ⟨f - 1, by omega⟩
        have hup' : upR k f' ((j - 1) / 2) ((l.set j x).set ((j - 1) / 2) k) = pushL xs k := by
          have := HU.out
          unfold upR at this
          rw [← HX.out, if_pos ⟨hj, hkx⟩] at this
          exact this
        have HU' := Lib.hid hup'
        clear hup'
        go_wp2_with fail
        go_roundw
        case rel => exact ⟨f', (j - 1) / 2, (l.set j x).set ((j - 1) / 2) k, congrArg (Value.int .i64) (by omega), by omega, by omega, by simp [HLL.out], HU'.out, owns_set (owns_set W.out j x) _ k, (P.out.setCell (.inr hg) _).setCell (.inr hg) _⟩
        case measure => simp [intOf]; omega
      · have hfin : l = pushL xs k := by
          have := HU.out
          cases f with
          | zero => exact this
          | succ f => unfold upR at this; rw [← HX.out, if_neg (fun h => hkx h.2)] at this; exact this
        have HF := Lib.hid hfin
        clear hfin
        go_wp2_with fail
        go_ret
        exact ⟨_, rfl, P.out, by rw [← HF.out]; exact W.out⟩
    · obtain rfl : j = 0 := by omega
      have hfin : l = pushL xs k := by
        have := HU.out
        cases f with
        | zero => exact this
        | succ f => unfold upR at this; rw [if_neg (fun h => hj h.1)] at this; exact this
      have HF := Lib.hid hfin
      clear hfin c0
      go_wp2_with fail
      go_ret
      exact ⟨_, rfl, P.out, by rw [← HF.out]; exact W.out⟩
end Go.Proofs.Ytenamlckhcfflaa
