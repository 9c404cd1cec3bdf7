/- What Same and Rounds compute. -/
import Derived.Test.YtfhmphbfngdkeaaScriptRef
namespace Go.Proofs.Ytfhmphbfngdkeaa
open Go.RowKit Go.Maps
set_option linter.unusedVariables false

theorem lawInt : Keyed Try.prog 3 := int_keyed Try.underlying3

/-- The map of block b holds just the places of S below k. -/
def SetIs (w : World) (b : Nat) (S : Nat → Bool) (k : Nat) (N : Nat) : Prop :=
  ∃ D : DataW Unit, w.ownsMap Try.prog 3 (plainElem Try.prog 4) b N D ∧ Maps.Tidy D ∧ Maps.size D = cntF S k ∧ ∀ p : Nat, p < k → Maps.has D (.int .i64 p) = S p

theorem keyLit (z : Int) : WideAt.IsKeyLit (.int .i64 z) := trivial

theorem setIs_put {D : DataW Unit} {S : Nat → Bool} {k p : Nat} (hp : p < k) (h1 : Maps.Tidy D) (h2 : Maps.size D = cntF S k) (h3 : ∀ p : Nat, p < k → Maps.has D (.int .i64 p) = S p) (d : DataW Unit) :
    Maps.Tidy (D.put (.int .i64 p) d) ∧ Maps.size (D.put (.int .i64 p) d) = cntF (addF S p) k ∧ ∀ q : Nat, q < k → Maps.has (D.put (.int .i64 p) d) (.int .i64 q) = addF S p q := by
  refine ⟨h1.put (keyLit _) d, ?_, fun q hq => ?_⟩
  · rw [Maps.size_put h1, h3 p hp, cntF_add S p k hp, h2]
    cases S p <;> simp
  · unfold addF
    by_cases e : q = p
    · subst e
      rw [Maps.has_put_same h1.isMap (keyLit _)]
      simp
    · rw [Maps.has_put_other (by simp; omega), h3 q hq]
      have : (q == p) = false := by simpa using e
      rw [this]; rfl

theorem rstep_skip {m : Nat} {s : (Nat → Bool) × Nat} {e : E} (h : placeI e m < 0) : rstep m s e = s := by unfold rstep; rw [if_pos h]

theorem refSame_any (w : World) (ao bo : Option Addr) (c1 c2 : Nat) (l : List E) (h1 : CellsAt w ao (flat l)) (h2 : CellsAt w bo (flat l)) (hn : l.length ≤ 4000000000000) :
    Calls Try.prog 12 #[.slice ao l.length c1, .slice bo l.length c2] w fun e w' => e = .returned (.bool true) ∧ Only [] w w' := by
  obtain ⟨n, hnn⟩ : ∃ n, n = l.length := ⟨_, rfl⟩
  rw [← hnn] at hn ⊢
  have HN := Lib.hid hnn
  have H1 := Lib.hid h1
  have H2 := Lib.hid h2
  clear h1 h2 hnn
  go_enter Try.func12, Try.ntmps12
  go_wp2_with fail
  go_loopw [5] (fun i wr => ∃ k : Nat, k ≤ n ∧ i = .int .i64 k ∧ Only [] w wr) (fun i _ => n - (intOf i).toNat)
  case atStart => exact ⟨0, Nat.zero_le _, rfl, Only.refl _ _⟩
  case round =>
    obtain ⟨k, hk, rfl, ho⟩ := hrel
    by_cases hlt : k < n
    · obtain ⟨b, off, rfl, hc⟩ := cells_entry H1.out (by have := HN.out; omega)
      obtain ⟨b', off', rfl, hc'⟩ := cells_entry H2.out (by have := HN.out; omega)
      have c0 := ho.keepCell (hc k (by have := HN.out; omega)).1 (by simp)
      have c1 := ho.keepCell (hc k (by have := HN.out; omega)).2 (by simp)
      have d0 := ho.keepCell (hc' k (by have := HN.out; omega)).1 (by simp)
      have d1 := ho.keepCell (hc' k (by have := HN.out; omega)).2 (by simp)
      obtain ⟨x, hx⟩ : ∃ x, x = (l.getD k (0, 0)).1 := ⟨_, rfl⟩
      obtain ⟨y, hy⟩ : ∃ y, y = (l.getD k (0, 0)).2 := ⟨_, rfl⟩
      rw [← hx] at c0 d0
      rw [← hy] at c1 d1
      have O := Lib.hid ho
      clear hc hc' hx hy ho
      go_wp2_with fail
      go_quiet (fail)
      go_wp2_with fail
      go_roundw
      case rel => exact ⟨k + 1, by omega, by go_num, O.out.drewN _⟩
      case measure => simp [intOf]; omega
    · go_wp2_with fail
      go_ret
      exact ⟨rfl, ho⟩

theorem same_en (w : World) (v u : Value) (l l' : List E) (h1 : En w v l) (h2 : En w u l') (e : l = l') (hn : l.length ≤ 4000000000000) :
    Calls Try.prog 12 #[v, u] w fun e w' => e = .returned (.bool true) ∧ Only [] w w' := by
  subst e
  obtain ⟨ao, cap, rfl, h1, _, _⟩ := h1
  obtain ⟨bo, cap, rfl, h2, _, _⟩ := h2
  exact refSame_any w ao bo _ _ l h1 h2 hn

theorem rounds_none (w : World) (v : Value) (m : Int) (hm : m < 1) :
    Calls Try.prog 18 #[v, .int .i64 m] w fun e w' => e = .returned (.int .i64 0) ∧ w = w' := by
  go_enter Try.func18, Try.ntmps18
  go_wp2_with fail
  try go_step3
  try go_wp2_with fail
  try rw [Exit.noGoto_ret]
  go_ret
  exact ⟨rfl, rfl⟩

set_option maxRecDepth 100000 in
theorem rounds_some (w : World) (ao : Option Addr) (cap n : Nat) (l : List E) (h : CellsAt w ao (flat l)) (hn : n = l.length) (hn2 : n ≤ 1000000) (m : Nat) (hm : 1 ≤ m) (hm2 : (m : Int) ≤ 9223372036854775807) :
    Calls Try.prog 18 #[.slice ao n cap, .int .i64 m] w fun e w' => e = .returned (.int .i64 (rounds m l)) ∧ Only [] w w' := by
  have HN := Lib.hid hn
  have H := Lib.hid h
  have HM2 := Lib.hid hm2
  have hmm := @run_makeMap Try.prog
  have hm3 : decide ((m : Int) < 1) = false := decide_eq_false (by omega)
  have hm4 : 1 ≤ (m : Int) := by omega
  have h0 : Hid (SetIs (w.alloc (.map #[] 0)) w.heap.size (fun _ => false) (m + 1) 0) := Lib.hid ⟨.map [], World.ownsMap_made _ _ _ _, Maps.tidy_empty, by rw [cntF_none]; rfl, fun p _ => rfl⟩
  clear h hn hm2
  go_enter Try.func18, Try.ntmps18
  go_wp2_with fail
  go_step3
  go_wp2_with fail
  go_step3
  go_wp2_with fail
  go_loopw [6, 15] (fun rv i wr => ∃ (k r : Nat) (S : Nat → Bool), k ≤ n ∧ i = .int .i64 k ∧ rv = .int .i64 r ∧ r ≤ k ∧ (l.take k).foldl (rstep m) (fun _ => false, 0) = (S, r) ∧ SetIs wr w.heap.size S (m + 1) k ∧ Only [] w wr) (fun _ i _ => n - (intOf i).toNat)
  case atStart => exact ⟨0, 0, fun _ => false, Nat.zero_le _, rfl, rfl, Nat.le_refl _, rfl, h0.out, (Only.refl _ _).alloc _⟩
  case round =>
    obtain ⟨k, r, S, hk, rfl, rfl, hrk, hst, hset, hP⟩ := hrel
    have HS := Lib.hid hst
    have HSet := Lib.hid hset
    have P := Lib.hid hP
    clear hst hset h0
    by_cases hlt : k < n
    · obtain ⟨b, off, rfl, hc⟩ := cells_entry H.out (by have := HN.out; omega)
      have c0 := hP.keepCell (hc k (by have := HN.out; omega)).1 (by simp)
      have c1 := hP.keepCell (hc k (by have := HN.out; omega)).2 (by simp)
      have hstep : Hid ((l.take (k + 1)).foldl (rstep m) (fun _ => false, 0) = rstep m (S, r) (l.getD k (0, 0))) := Lib.hid (by
        rw [List.take_succ_eq_append_getElem (by have := HN.out; omega), List.foldl_append, HS.out]
        simp [List.getD, List.getElem?_eq_getElem (show k < l.length by have := HN.out; omega)])
      obtain ⟨e, he⟩ : ∃ e, e = l.getD k (0, 0) := ⟨_, rfl⟩
      rw [← he] at c0 c1 hstep
      clear hc he hP
      obtain ⟨a1, a2⟩ := e
      simp only at c0 c1
      have PL := fun w => Lib.hid (place_any a1 a2 m w HM2.out)
      obtain ⟨pb1, pb2⟩ := placeI_bd (a1, a2) m hm4
      have HSt : Hid (∀ z, z = placeI (a1, a2) m → (z < 0 → rstep m (S, r) (a1, a2) = (S, r)) ∧ (0 ≤ z → (cntF (addF S z.toNat) (m + 1) ≤ m → rstep m (S, r) (a1, a2) = (addF S z.toNat, r)) ∧ (m < cntF (addF S z.toNat) (m + 1) → rstep m (S, r) (a1, a2) = (fun _ => false, r + 1)))) := Lib.hid (by
        rintro z rfl
        unfold rstep
        refine ⟨fun h => by rw [if_pos h], fun h => ⟨fun h2 => ?_, fun h2 => ?_⟩⟩
        · rw [if_neg (by omega), if_pos h2]
        · rw [if_neg (by omega), if_neg (Nat.not_le.2 h2)])
      obtain ⟨p, hp⟩ : ∃ p, p = placeI (a1, a2) m := ⟨_, rfl⟩
      rw [← hp] at PL pb1 pb2
      have HZ := Lib.hid (HSt.out p hp)
      clear hp HSt
      go_wp2_with fail
      refine (PL _).out.mono ?_; rintro e w1 ⟨rfl, o1⟩
      have hs0 := P.out.size
      have hs1 : wr.heap.size ≤ w1.heap.size := Nat.le_trans (by simp) o1.size
      have O1 := Lib.hid (((Only.refl [] wr).alloc (.cells #[.int .i64 a1, .int .i64 a2] 35)).then0 o1)
      have P1 := Lib.hid (P.out.then0 O1.out)
      clear o1 PL
      by_cases hp0 : p < 0
      · have HE := Lib.hid (HZ.out.1 hp0)
        have hset1 : Hid (SetIs w1 w.heap.size S (m + 1) k) := Lib.hid (by
          obtain ⟨D, g1, g2, g3, g4⟩ := HSet.out
          exact ⟨D, g1.kept ⟨O1.out.os, O1.out.tape, O1.out.output, O1.out.size, fun k hk _ => O1.out.block k hk (by simp)⟩ (by simp : some w.heap.size ≠ none), g2, g3, g4⟩)
        clear HZ HSet
        go_wp2_with fail
        go_roundw
        case rel => exact ⟨k + 1, r, S, by omega, by go_num, rfl, by omega, by rw [hstep.out, HE.out], by obtain ⟨D, g1, g⟩ := hset1.out; exact ⟨D, g1.mono (by omega), g⟩, P1.out⟩
        case measure => simp [intOf]; omega
      · obtain ⟨q, rfl⟩ : ∃ q : Nat, p = q := ⟨p.toNat, by omega⟩
        obtain ⟨D, g1, g2, g3, g4⟩ := HSet.out
        have G1 := Lib.hid (g1.kept (row := none) ⟨O1.out.os, O1.out.tape, O1.out.output, O1.out.size, fun k hk _ => O1.out.block k hk (by simp)⟩ (by simp))
        have hkey : keyOf Try.prog 3 (.int .i64 (q : Int)) = some (.int .i64 (q : Int)) := keyOf_int_mk Try.underlying3 (by have := HM2.out; simp [Lit.wf, IntKind.min, IntKind.max, IntKind.signed, IntKind.bits]; omega)
        have G2 := Lib.hid (setIs_put (p := q) (k := m + 1) (by omega) g2 g3 g4 (.lit (.bool true)))
        obtain ⟨c, hcc⟩ : ∃ c, c = cntF (addF S q) (m + 1) := ⟨_, rfl⟩
        rw [← hcc] at G2
        have HC := Lib.hid hcc
        have HZ2 := HZ.out.2 (by omega)
        rw [Int.toNat_natCast, ← hcc] at HZ2
        have HZ3 := Lib.hid HZ2
        clear g1 g2 g3 g4 hcc HZ HZ2 HSet
        go_wp2_with (at_mapUpdate; refine wpList_mapUpdate_own _ rfl _ _ _ 52 rfl 3 4 lawInt Try.underlying52 _ w.heap.size k D rfl G1.out (by unfold maxLen; omega) _ _ _ rfl rfl hkey _ [] (plainElem_bool Try.underlying4 true) ?_)
        intro w2 hown2 hgrow2
        have O2 := Lib.hid (P1.out.grown hgrow2 (fun j hj => by cases hj; exact .inr (Nat.le_refl _)))
        have hown3 := Lib.hid hown2
        have hsz : Maps.size (D.put (.int .i64 (q : Int)) (.lit (.bool true))) = c := G2.out.2.1
        clear hown2 hgrow2
        by_cases hcm : c ≤ m
        · have HE := Lib.hid (HZ3.out.1 hcm)
          go_wp2_with (at_len; refine wpList_len_own _ rfl _ 52 rfl 3 4 Try.underlying52 _ w.heap.size (k + 1) (D.put (.int .i64 (q : Int)) (.lit (.bool true))) rfl hown3.out ?_)
          go_roundw
          case rel => exact ⟨k + 1, r, addF S q, by omega, by go_num, rfl, by omega, by rw [hstep.out, HE.out], ⟨_, hown3.out, G2.out.1, by rw [G2.out.2.1]; exact HC.out, G2.out.2.2⟩, O2.out⟩
          case measure => simp [intOf]; omega
        · have HE := Lib.hid (HZ3.out.2 (by omega))
          have hcm2 : m < c := by omega
          go_wp2_with (first
            | (at_len; refine wpList_len_own _ rfl _ 52 rfl 3 4 Try.underlying52 _ w.heap.size (k + 1) (D.put (.int .i64 (q : Int)) (.lit (.bool true))) rfl hown3.out ?_)
            | (with_reducible refine wpList_clear_own _ rfl _ 52 rfl 3 4 Try.underlying52 _ w.heap.size (k + 1) (D.put (.int .i64 (q : Int)) (.lit (.bool true))) rfl hown3.out ?_; intro w3 hown4 hgrow4))
          go_roundw
          case rel => exact ⟨k + 1, r + 1, fun _ => false, by omega, by go_num, by go_num, by omega, by rw [hstep.out, HE.out], ⟨.map [], hown4.mono (by omega), Maps.tidy_empty, by rw [cntF_none]; rfl, fun p _ => rfl⟩, O2.out.grown hgrow4 (fun j hj => by cases hj; exact .inr (Nat.le_refl _))⟩
          case measure => simp [intOf]; omega
    · obtain rfl : k = n := by omega
      have hfin : Hid (rounds m l = r) := Lib.hid (by
        have := HS.out
        rw [List.take_of_length_le (by have := HN.out; omega)] at this
        unfold rounds; rw [this])
      go_wp2_with fail
      rw [Exit.noGoto_ret]
      go_ret
      exact ⟨ret_int (by rw [hfin.out]), P.out⟩

/-- The rounds of a list, for any number of machines. -/
def roundsI (m : Int) (l : List E) : Nat := if m < 1 then 0 else rounds m.toNat l

theorem rounds_any (w : World) (v : Value) (l : List E) (m : Int) (h : En w v l) (hn : l.length ≤ 1000000) (hm : m ≤ 9223372036854775807) :
    Calls Try.prog 18 #[v, .int .i64 m] w fun e w' => e = .returned (.int .i64 (roundsI m l)) ∧ Only [] w w' := by
  unfold roundsI
  by_cases h1 : m < 1
  · rw [if_pos h1]
    exact (rounds_none w v m h1).mono fun e w' h => ⟨h.1, by rw [← h.2]; exact Only.refl _ _⟩
  · rw [if_neg h1]
    obtain ⟨k, rfl⟩ := Int.eq_ofNat_of_zero_le (show 0 ≤ m by omega)
    obtain ⟨ao, cap, rfl, h2, _, _⟩ := h
    rw [Int.toNat_natCast]
    exact rounds_some w ao cap _ l h2 rfl hn k (by omega) hm
end Go.Proofs.Ytfhmphbfngdkeaa
