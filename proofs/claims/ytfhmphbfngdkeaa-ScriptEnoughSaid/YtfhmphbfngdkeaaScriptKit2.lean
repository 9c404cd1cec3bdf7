/- Appending entries; numbers out of lists; short lists. No condition. -/
import Derived.Test.YtfhmphbfngdkeaaScriptLaws
namespace Go.Proofs.Ytfhmphbfngdkeaa
open Go.RowKit
set_option linter.unusedVariables false

/-- 'append(v, xs...)', v the call's own, xs any slice, nil too. -/
theorem wpList_append_cells {P : Program} (w : World) {ops : Array Oper} {rest : List Oper} {o : Oper} {a : Act} {Q : Exit → Act → World → Prop} (hw : Region.wanted o (yielded ops a.tmps) = true) (s x : Operand) (t : TypeId)
    (ho : o.op = .call { callee := .builtin .append, args := #[s, x], argTypes := #[t, t] })
    (base : Nat) (e : TypeId) (i : TypeInfo) (z : Value) (size bytes : Nat) (ht : P.underlying t = some (.slice e)) (hi : P.info? e = some i) (hz : i.zero = some z)
    (hsize : i.size = size) (hby : i.bytes = bytes) (hzs : z.cells.size = size) (hsz : 0 < size)
    (v : Value) (n : Nat) (xs : List Value) (hs : a.eval s = v) (hown : w.ownsRow base e size v n xs)
    (ao : Option Addr) (m c : Nat) (news : List Value) (hx : a.eval x = .slice ao m c) (hnone : ao = none → m = 0 ∧ c = 0) (hl : news.length = m * size) (hnews : ∀ ad, ao = some ad → ∀ j u, news[j]? = some u → w.cell? (ad.add j) = some u) (h1 : ∀ u ∈ news, u.oneCell' = true)
    (h63 : n + m ≤ maxLen) (hbytes : (n + m) * bytes ≤ 140737488355328) (hbase : base ≤ w.heap.size)
    (h : ∀ v' w', w'.ownsRow base e size v' (n + m) (xs ++ news) → w.grownBy w' v.ownBlock → (v' = .slice none 0 0 ↔ v = .slice none 0 0 ∧ m = 0) → wpList P ops Q rest (a.put o.dst v') w') : wpList P ops Q (o :: rest) a w := by
  cases ao with
  | some ad => exact BigFrame.wpList_want hw fun _ hK => wp_append_own w s x t ho base e i z size bytes ht hi hz hsize hby hzs hsz v n xs hs hown ad m c news hx hl (hnews ad rfl) h1 h63 hbytes hbase fun v' w' h2 h3 h4 => hK _ _ (h v' w' h2 h3 h4)
  | none =>
    obtain ⟨rfl, rfl⟩ := hnone rfl
    have e1 : news = [] := by simpa using hl
    subst e1
    refine BigFrame.wpList_want hw fun K hK => ?_
    have hrun := run_append_owned_none (P := P) (w := w) base t o.type e i size ht hi v n xs hown
    unfold Oper.wp
    simp [execOp, ho, resolve, invoke, builtin, hs, hx, hrun, Result.andThen]
    exact hK _ _ (h v w (by simpa using hown) ⟨rfl, rfl, rfl, Nat.le_refl _, fun _ _ _ => rfl⟩ (by simp))

theorem flat_oneCell (l : List E) : ∀ u ∈ flat l, u.oneCell' = true := by
  induction l with
  | nil => intro u hu; cases hu
  | cons e l ih =>
    intro u hu
    simp only [flat, List.mem_cons] at hu
    rcases hu with rfl | rfl | hu
    · rfl
    · rfl
    · exact ih u hu

/-- 'append(v, u...)' of entries, v the call's own. -/
theorem wpList_append_en (w : World) {ops : Array Oper} {rest : List Oper} {o : Oper} {a : Act} {Q : Exit → Act → World → Prop} (hw : Region.wanted o (yielded ops a.tmps) = true) (s x : Operand)
    (ho : o.op = .call { callee := .builtin .append, args := #[s, x], argTypes := #[25, 25] })
    (base : Nat) (v : Value) (l : List E) (hs : a.eval s = v) (hown : w.ownsRow base 35 2 v l.length (flat l)) (u : Value) (l2 : List E) (hx : a.eval x = u) (hu : En w u l2)
    (hlen : l.length + l2.length ≤ 1000000) (hbase : base ≤ w.heap.size)
    (h : ∀ v' w', w'.ownsRow base 35 2 v' (l ++ l2).length (flat (l ++ l2)) → w.grownBy w' v.ownBlock → (v' = .slice none 0 0 ↔ v = .slice none 0 0 ∧ l2.length = 0) → wpList Try.prog ops Q rest (a.put o.dst v') w') : wpList Try.prog ops Q (o :: rest) a w := by
  obtain ⟨i0, hi, hz0, hz1, hz2⟩ := info_parts infoE
  obtain ⟨ao, cap, rfl, h1, h2, h3⟩ := hu
  refine wpList_append_cells w hw s x 25 ho base 35 i0 (.agg #[.int .i64 0, .int .i64 0]) 2 16 Try.underlying25 hi hz0 hz1 hz2 rfl (by decide) v l.length (flat l) hs hown ao l2.length cap (flat l2) hx (fun e => by obtain ⟨rfl, hc⟩ := h2 e; exact ⟨rfl, hc⟩) (by rw [flat_length]; omega)
    (fun ad e => by subst e; exact h1.news) (flat_oneCell l2) (by unfold maxLen; omega) (by omega) hbase ?_
  intro v' w' h4 h5 h6
  exact h v' w' (by rw [flat_append, List.length_append]; exact h4) h5 h6

/-- The call's own slice that is not nil, its shape. -/
theorem own_some {w : World} {base : Nat} {v : Value} {l : List E} (h : w.ownsRow base 35 2 v l.length (flat l)) (hv : v ≠ .slice none 0 0) :
    ∃ g cap, v = .slice (some ⟨g, 0, none⟩) l.length cap ∧ base ≤ g ∧ g < w.heap.size ∧ l.length ≤ cap ∧ cap ≤ 9223372036854775807 := lt_of_owned h hv

theorem own_made (w : World) (base : Nat) (hb : base ≤ w.heap.size) : (w.alloc (.cells #[] 35)).ownsRow base 35 2 (.slice (some ⟨w.heap.size, 0, none⟩) 0 0) 0 (flat []) :=
  World.ownsRow_made w #[] 0 hb (by simp) rfl

theorem flat_take (l : List E) (k : Nat) : flat (l.take k) = (flat l).take (2 * k) := by
  induction l generalizing k with
  | nil => simp [flat]
  | cons e l ih =>
    cases k with
    | zero => simp [flat]
    | succ k => rw [show 2 * (k + 1) = 2 * k + 1 + 1 by omega]; simp [flat, ih]
theorem flat_drop (l : List E) (k : Nat) : flat (l.drop k) = (flat l).drop (2 * k) := by
  induction l generalizing k with
  | nil => simp [flat]
  | cons e l ih =>
    cases k with
    | zero => simp [flat]
    | succ k => rw [show 2 * (k + 1) = 2 * k + 1 + 1 by omega]; simp [flat, ih]

/-- Parts of a slice. -/
theorem en_take {w : World} {b off n : Nat} {l : List E} (h : CellsAt w (some ⟨b, off, none⟩) (flat l)) (hn : n = l.length) (k cap' : Nat) (hk : k ≤ n) (hc : k ≤ cap') : En w (.slice (some ⟨b, off, none⟩) k cap') (l.take k) := by
  subst hn
  refine ⟨_, cap', by rw [List.length_take, Nat.min_eq_left hk], fun hp => ?_, (fun e => by cases e), by rw [List.length_take]; omega⟩
  rw [flat_take, List.length_take] at hp
  obtain ⟨b', off', e, hcl⟩ := h (by omega)
  cases e
  refine ⟨b, off, rfl, fun j hj => ?_⟩
  rw [flat_length, List.length_take] at hj
  rw [hcl j (by rw [flat_length]; omega)]
  simp [flat_take]
theorem en_drop {w : World} {b off n : Nat} {l : List E} (h : CellsAt w (some ⟨b, off, none⟩) (flat l)) (hn : n = l.length) (k cap' : Nat) (hk : k ≤ n) (hc : n - k ≤ cap') (o : Nat) (ho : k < n → o = off + k * 2) : En w (.slice (some ⟨b, o, none⟩) (n - k) cap') (l.drop k) := by
  subst hn
  refine ⟨_, cap', by rw [List.length_drop], fun hp => ?_, (fun e => by cases e), by rw [List.length_drop]; omega⟩
  rw [flat_drop, List.length_drop, flat_length] at hp
  obtain ⟨b', off', e, hcl⟩ := h (by rw [flat_length]; omega)
  cases e
  have ho' := ho (by omega)
  subst ho'
  refine ⟨b, _, rfl, fun j hj => ?_⟩
  rw [flat_drop, List.length_drop, flat_length] at hj
  rw [Nat.add_assoc, hcl (k * 2 + j) (by rw [flat_length]; omega)]
  simp [flat_drop, Nat.mul_comm]

/-- A draw modulo n. -/
def drw (d n : Int) : Int := if n < 1 then 0 else d % n
theorem drw_lt {d n : Int} (h : n < 1) : drw d n = 0 := if_pos h
theorem drw_neg {d n : Int} (h : 1 ≤ n) (hm : d.tmod n < 0) : drw d n = d.tmod n + n := by
  unfold drw; rw [if_neg (by omega), Int.tmod_eq_emod]
  rw [Int.tmod_eq_emod] at hm
  have h1 := Int.emod_nonneg d (show n ≠ 0 by omega)
  have h2 := Int.emod_lt_of_pos d (show 0 < n by omega)
  have e : (n.natAbs : Int) = n := by omega
  split at hm
  · omega
  · rw [if_neg (by assumption)]; omega
theorem drw_nonneg {d n : Int} (h : 1 ≤ n) (hm : 0 ≤ d.tmod n) : drw d n = d.tmod n := by
  unfold drw; rw [if_neg (by omega), Int.tmod_eq_emod]
  rw [Int.tmod_eq_emod] at hm
  have h1 := Int.emod_nonneg d (show n ≠ 0 by omega)
  have h2 := Int.emod_lt_of_pos d (show 0 < n by omega)
  have e : (n.natAbs : Int) = n := by omega
  split at hm
  · rw [if_pos (by assumption)]; omega
  · omega
theorem wrap_drw {d n : Int} (h : 1 ≤ n) (hn : n ≤ 9223372036854775807) (hm : d.tmod n < 0) : wrap64 (d.tmod n + n) = d.tmod n + n := by
  have := tmod_lo d h
  unfold wrap64; omega
theorem drw_bd (d n : Int) : 0 ≤ drw d n ∧ (1 ≤ n → drw d n < n) := by
  unfold drw
  split
  · omega
  · exact ⟨Int.emod_nonneg d (by omega), fun _ => Int.emod_lt_of_pos d (by omega)⟩

theorem refDraw_any (n d : Int) (w : World) (hn : n ≤ 9223372036854775807) :
   Calls Try.prog 28 #[.int .i64 d, .int .i64 n] w fun e w' => e = .returned (.int .i64 (drw d n)) ∧ w = w' := by
  have hn' : Hid (n ≤ 9223372036854775807) := hn
  clear hn
  go_enter Try.func28, Try.ntmps28
  go_wp2
  · go_ret
    exact ⟨ret_int (drw_lt (by assumption)).symm, rfl⟩
  · go_ret
    exact ⟨ret_int (by rw [drw_neg (by assumption) (by assumption)]; exact wrap_drw (by assumption) hn'.out (by assumption)), rfl⟩
  · go_ret
    exact ⟨ret_int (drw_nonneg (by assumption) (by assumption)).symm, rfl⟩


/-- v is a slice of numbers. -/
def Ns (w : World) (v : Value) (zs : List Int) : Prop := ∃ ao cap, v = .slice ao zs.length cap ∧ CellsAt w ao (zs.map (.int .i64)) ∧ (ao = none → zs = [] ∧ cap = 0) ∧ zs.length ≤ cap
theorem Ns.keep {w w' : World} {v : Value} {l : List Int} (h : Ns w v l) (o : Only [] w w') : Ns w' v l := by
  obtain ⟨ao, cap, rfl, h1, h2, h3⟩ := h
  exact ⟨ao, cap, rfl, h1.keep0 o, h2, h3⟩
theorem ns_new {w : World} {b n : Nat} {T : TypeId} {f : Nat × Nat} (xs : List Int) (hb : w.heap[b]? = some (.cells (xs.map (Value.int .i64)).toArray T f)) (hn : xs.length = n) : Ns w (.slice (some ⟨b, 0, none⟩) n n) xs := by
  subst hn
  refine ⟨_, _, rfl, fun hp => ⟨b, 0, rfl, fun j hj => ?_⟩, (fun e => by cases e), Nat.le_refl _⟩
  rw [cell_blk hb]
  simp at hj
  simp [hj]

theorem number_any (w : World) (v : Value) (zs : List Int) (i : Nat) (n : Int) (h : Ns w v zs) (hn : n ≤ 9223372036854775807) (hl : zs.length ≤ 1000000) (hi : i ≤ 1000000) :
    Calls Try.prog 16 #[v, .int .i64 i, .int .i64 n] w fun e w' => ∃ r : Int, e = .returned (.int .i64 r) ∧ 0 ≤ r ∧ (1 ≤ n → r < n) ∧ Only [] w w' := by
  obtain ⟨ao, cap, rfl, h1, h2, h3⟩ := h
  obtain ⟨len, hlen⟩ : ∃ len, len = zs.length := ⟨_, rfl⟩
  rw [← hlen] at hl h3 ⊢
  have HL := Lib.hid hlen
  have HN := Lib.hid hn
  by_cases h0 : len = 0
  · subst h0
    clear hn
    go_enter Try.func16, Try.ntmps16
    go_wp2_with fail
    go_ret
    exact ⟨0, rfl, by omega, fun h => by omega, Only.refl _ _⟩
  · obtain ⟨b, off, rfl, hc⟩ := h1.ints (by omega)
    have hml : i % len < len := Nat.mod_lt _ (by omega)
    have c0 := fun (q : Nat) => (show (w.drewN q).cell? _ = _ from hc (i % len) (by omega))
    have d0 := hc (i % len) (by omega)
    have hl0 : ((len : Int) == 0) = false := by simp; omega
    have hlp : 0 < len := by omega
    have e1 : (i : Int) % (len : Int) = ((i % len : Nat) : Int) := by omega
    have e2 : (i : Int) / (len : Int) = ((i / len : Nat) : Int) := by omega
    obtain ⟨x, hx⟩ : ∃ x, x = zs.getD (i % len) 0 := ⟨_, rfl⟩
    rw [← hx] at c0 d0
    obtain ⟨p, hp⟩ : ∃ p, p = i % len := ⟨_, rfl⟩
    obtain ⟨q, hq⟩ : ∃ q, q = i / len := ⟨_, rfl⟩
    have hqi : q ≤ 1000000 := by rw [hq]; exact Nat.le_trans (Nat.div_le_self _ _) hi
    rw [← hp] at c0 d0 hml e1
    rw [← hq] at e2
    obtain ⟨s, hs⟩ : ∃ s, (q : Int) % 7 = s := ⟨_, rfl⟩
    have hs1 : 0 ≤ s := by omega
    have hs2 : s ≤ 6 := by omega
    obtain ⟨t, ht⟩ : ∃ t, 1 + s = t := ⟨_, rfl⟩
    have ht1 : 1 ≤ t := by omega
    have ht2 : t ≤ 7 := by omega
    have ht3 : (t == 0) = false := by simp; omega
    have D : ∀ (d : Int) (w : World), Hid (Calls Try.prog 28 #[.int .i64 d, .int .i64 n] w fun e w' => e = .returned (.int .i64 (drw d n)) ∧ w' = w) := fun d w' => Lib.hid ((refDraw_any n d w' hn).mono fun _ _ h => ⟨h.1, h.2.symm⟩)
    have B := fun (d : Int) => Lib.hid (drw_bd d n)
    clear h1 h2 h3 hc hx hp hq hlen hn HL
    go_enter Try.func16, Try.ntmps16
    go_wp2_with fail
    go_quiet ((go_at_call 28; exact Calls.quiet_of_same (D _ _).out))
    go_wp2_with fail
    go_ret
    exact ⟨_, rfl, (B _).out.1, (B _).out.2, (Only.refl _ _).drewN _⟩
end Go.Proofs.Ytfhmphbfngdkeaa
