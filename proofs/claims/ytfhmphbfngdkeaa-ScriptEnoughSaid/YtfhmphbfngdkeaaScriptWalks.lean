/- What Machine, place, Decode, Same of package script and of its reference compute. -/
import Derived.Test.YtfhmphbfngdkeaaScriptKit
namespace Go.Proofs.Ytfhmphbfngdkeaa
open Go.RowKit
set_option linter.unusedVariables false

theorem emod_neg {d n : Int} (h : 1 ≤ n) (hm : d.tmod n < 0) : d % n = d.tmod n + n := by
  rw [Int.tmod_eq_emod] at hm ⊢
  have h1 := Int.emod_nonneg d (show n ≠ 0 by omega)
  have h2 := Int.emod_lt_of_pos d (show 0 < n by omega)
  split at hm
  · omega
  · rw [if_neg (by assumption)]; omega
theorem emod_nonneg {d n : Int} (h : 1 ≤ n) (hm : 0 ≤ d.tmod n) : d % n = d.tmod n := by
  rw [Int.tmod_eq_emod] at hm ⊢
  have h1 := Int.emod_nonneg d (show n ≠ 0 by omega)
  have h2 := Int.emod_lt_of_pos d (show 0 < n by omega)
  split at hm
  · rw [if_pos (by assumption)]; omega
  · omega
theorem tmod_lo (d : Int) {n : Int} (h : 1 ≤ n) : -n < d.tmod n := by
  rw [Int.tmod_eq_emod]
  have h1 := Int.emod_nonneg d (show n ≠ 0 by omega)
  have h2 := Int.emod_lt_of_pos d (show 0 < n by omega)
  split <;> omega
theorem wrap_emod {d n : Int} (h : 1 ≤ n) (hn : n ≤ 9223372036854775807) (hm : d.tmod n < 0) : wrap64 (d.tmod n + n) = d % n := by
  have := tmod_lo d h
  rw [emod_neg h hm]
  unfold wrap64; omega

theorem machine_any (a b m : Int) (w : World) (hm : m ≤ 9223372036854775807) :
    Calls Try.prog 20 #[.agg #[.int .i64 a, .int .i64 b], .int .i64 m] w fun e w' => e = .returned (.int .i64 (machI (a, b) m)) ∧ Only [] w w' := by
  have HM := Lib.hid hm
  clear hm
  unfold machI
  simp only
  by_cases h0 : a = 0
  · subst h0
    by_cases h1 : m < 1
    · rw [if_neg (by omega)]
      go_enter Try.func20, Try.ntmps20
      go_wp2_with fail
      go_ret
      exact ⟨rfl, (Only.refl _ _).alloc _⟩
    · rw [if_pos (by omega)]
      have hm0 : (m == 0) = false := by simp; omega
      by_cases h2 : b.tmod m < 0
      · have hw := Lib.hid (wrap_emod (by omega) HM.out h2)
        go_enter Try.func20, Try.ntmps20
        go_wp2_with fail
        go_ret
        exact ⟨ret_int hw.out, (Only.refl _ _).alloc _⟩
      · have hw := Lib.hid (emod_nonneg (d := b) (show 1 ≤ m by omega) (by omega))
        go_enter Try.func20, Try.ntmps20
        go_wp2_with fail
        go_ret
        exact ⟨ret_int hw.out.symm, (Only.refl _ _).alloc _⟩
  · rw [if_neg (fun h => h0 h.1)]
    have h1 : (a == 0) = false := by simpa using h0
    have h2 : (a != 0) = true := by simpa using h0
    go_enter Try.func20, Try.ntmps20
    go_wp2_with fail
    go_ret
    exact ⟨rfl, (Only.refl _ _).alloc _⟩

theorem refMachine_any (a b m : Int) (w : World) (hm : m ≤ 9223372036854775807) :
    Calls Try.prog 21 #[.agg #[.int .i64 a, .int .i64 b], .int .i64 m] w fun e w' => e = .returned (.int .i64 (machI (a, b) m)) ∧ Only [] w w' := by
  have HM := Lib.hid hm
  clear hm
  unfold machI
  simp only
  by_cases h0 : a = 0
  · subst h0
    by_cases h1 : m < 1
    · rw [if_neg (by omega)]
      go_enter Try.func21, Try.ntmps21
      go_wp2_with fail
      go_ret
      exact ⟨rfl, (Only.refl _ _).alloc _⟩
    · rw [if_pos (by omega)]
      have hm0 : (m == 0) = false := by simp; omega
      by_cases h2 : b.tmod m < 0
      · have hw := Lib.hid (wrap_emod (by omega) HM.out h2)
        go_enter Try.func21, Try.ntmps21
        go_wp2_with fail
        go_ret
        exact ⟨ret_int hw.out, (Only.refl _ _).alloc _⟩
      · have hw := Lib.hid (emod_nonneg (d := b) (show 1 ≤ m by omega) (by omega))
        go_enter Try.func21, Try.ntmps21
        go_wp2_with fail
        go_ret
        exact ⟨ret_int hw.out.symm, (Only.refl _ _).alloc _⟩
  · rw [if_neg (fun h => h0 h.1)]
    have h1 : (a == 0) = false := by simpa using h0
    have h2 : (a != 0) = true := by simpa using h0
    go_enter Try.func21, Try.ntmps21
    go_wp2_with fail
    go_ret
    exact ⟨rfl, (Only.refl _ _).alloc _⟩

theorem place_any (a b m : Int) (w : World) (hm : m ≤ 9223372036854775807) :
    Calls Try.prog 31 #[.agg #[.int .i64 a, .int .i64 b], .int .i64 m] w fun e w' => e = .returned (.int .i64 (placeI (a, b) m)) ∧ Only [] w w' := by
  have A := fun w => Lib.hid (machine_any a b m w hm)
  unfold placeI
  generalize machI (a, b) m = r at *
  simp only
  clear hm
  by_cases h0 : a = 1
  · subst h0
    rw [if_pos rfl]
    go_enter Try.func31, Try.ntmps31
    go_wp2_with fail
    go_ret
    exact ⟨rfl, (Only.refl _ _).alloc _⟩
  · rw [if_neg h0]
    have h1 : (a == 1) = false := by simpa using h0
    go_enter Try.func31, Try.ntmps31
    go_wp2_with fail
    refine (A _).out.mono ?_; rintro e w1 ⟨rfl, o1⟩
    have O1 := Lib.hid (((Only.refl [] w).alloc _).then0 o1)
    clear o1
    go_wp2_with fail
    go_ret
    exact ⟨rfl, O1.out⟩

theorem plain_any (k : Int) (w : World) :
    Calls Try.prog 27 #[.int .i64 k] w fun e w' => e = .returned (.bool (decide (k = 1 ∨ k = 3))) ∧ w = w' := by
  by_cases h1 : k = 1
  · subst h1
    go_enter Try.func27, Try.ntmps27
    go_wp2_with fail
    go_ret
    exact ⟨rfl, rfl⟩
  · have e1 : (k == 1) = false := by simpa using h1
    by_cases h3 : k = 3
    · subst h3
      go_enter Try.func27, Try.ntmps27
      go_wp2_with fail
      go_ret
      exact ⟨rfl, rfl⟩
    · have e3 : (k == 3) = false := by simpa using h3
      rw [decide_eq_false (by omega)]
      go_enter Try.func27, Try.ntmps27
      go_wp2_with fail
      go_ret
      exact ⟨rfl, rfl⟩

/-- v is a slice of bytes. -/
def By (w : World) (v : Value) (l : List Int) : Prop := ∃ ao cap, v = .slice ao l.length cap ∧ CellsAt w ao (l.map (.int .u8)) ∧ (ao = none → l = [] ∧ cap = 0) ∧ l.length ≤ cap
theorem By.keep {w w' : World} {v : Value} {l : List Int} (h : By w v l) (o : Only [] w w') : By w' v l := by
  obtain ⟨ao, cap, rfl, h1, h2, h3⟩ := h
  exact ⟨ao, cap, rfl, h1.keep0 o, h2, h3⟩

theorem flat_snoc (l : List E) (e : E) : flat l ++ [.int .i64 e.1, .int .i64 e.2] = flat (l ++ [e]) := by rw [flat_append]; rfl

theorem u8_bd {zs : List Int} (h : ∀ z ∈ zs, (Lit.int .u8 z).wf = true) (i : Nat) (hi : i < zs.length) : 0 ≤ zs.getD i 0 ∧ zs.getD i 0 ≤ 255 := by
  have : zs.getD i 0 = zs[i] := by simp [List.getD, List.getElem?_eq_getElem hi]
  rw [this]
  exact wf_u8 (h _ (List.getElem_mem hi))

set_option maxRecDepth 100000 in
theorem decode_any (w : World) (v : Value) (zs : List Int) (h : By w v zs) (hwf : ∀ z ∈ zs, (Lit.int .u8 z).wf = true) (hn : zs.length ≤ 100000) :
    Calls Try.prog 13 #[v] w fun e w' => ∃ v', e = .returned v' ∧ Only [] w w' ∧ w'.ownsRow w.heap.size 35 2 v' (decL zs).length (flat (decL zs)) := by
  obtain ⟨i0, hi, hz0, hz1, hz2⟩ := info_parts infoE
  obtain ⟨ao, cap, rfl, h1, h2, h3⟩ := h
  obtain ⟨n, hnn⟩ : ∃ n, n = zs.length := ⟨_, rfl⟩
  rw [← hnn] at hn h3 ⊢
  have HN := Lib.hid hnn
  have H1 := Lib.hid h1
  have HW := Lib.hid hwf
  clear h1 h2 hnn hwf
  go_enter Try.func13, Try.ntmps13
  go_wp2_with fail
  go_loopw [3, 4] (fun o i wr => ∃ k : Nat, 2 * k ≤ n + 1 ∧ (2 * k ≤ n ∨ k = 0) ∧ i = .int .i64 ((2 * k : Nat) : Int) ∧ wr.ownsRow w.heap.size 35 2 o k (flat (decL (zs.take (2 * k)))) ∧ Only [] w wr) (fun _ i _ => n + 1 - (intOf i).toNat)
  case atStart => exact ⟨0, Nat.zero_le _, .inr rfl, rfl, World.ownsRow_nil _ _ _ _, Only.refl _ _⟩
  case round =>
    obtain ⟨k, hk, hk2, rfl, hown, hP⟩ := hrel
    by_cases hlt : 2 * k + 1 < n
    · obtain ⟨b, off, rfl, hc⟩ := H1.out.ints (by have := HN.out; omega)
      have c0 := hP.keepCell (hc (2 * k) (by have := HN.out; omega)) (by simp)
      have c1 := hP.keepCell (hc (2 * k + 1) (by have := HN.out; omega)) (by simp)
      obtain ⟨x1, x2⟩ := u8_bd HW.out (2 * k) (by have := HN.out; omega)
      obtain ⟨y1, y2⟩ := u8_bd HW.out (2 * k + 1) (by have := HN.out; omega)
      have HD := Lib.hid (decL_step k zs (by have := HN.out; omega))
      obtain ⟨x, hxx⟩ : ∃ x, x = zs.getD (2 * k) 0 := ⟨_, rfl⟩
      obtain ⟨y, hyy⟩ : ∃ y, y = zs.getD (2 * k + 1) 0 := ⟨_, rfl⟩
      rw [← hxx] at c0 HD x1 x2
      rw [← hyy] at c1 HD y1 y2
      have P := Lib.hid hP
      have W := Lib.hid hown
      obtain ⟨ao3, cap3, rfl⟩ := owns_slice hown
      have hlt2 : ((2 * k : Nat) : Int) + 1 < (n : Int) := by omega
      clear hc hxx hyy hown hP
      obtain ⟨j, hj⟩ : ∃ j, j = 2 * k := ⟨_, rfl⟩
      rw [← hj] at c0 c1 hlt hlt2 ⊢
      have HJ := Lib.hid hj
      clear hj hk hk2
      have hjn : j < n := by omega
      have hk5 : k < 65536 := by have := HJ.out; omega
      have hk6 : decide (k < 65536) = true := decide_eq_true hk5
      have hk7 : (k : Int) < 65536 := by omega
      go_wp2_with fail
      have hbw : b < wr.heap.size := lt_of_cell c0
      obtain ⟨q, hq⟩ : ∃ q, x % 4 = q := ⟨_, rfl⟩
      have hq0 : 0 ≤ q := by omega
      have hq1 : q ≤ 3 := by omega
      have HQ := Lib.hid hq
      go_region
      have hk8 : k ≤ 60000 := by have := HJ.out; omega
      clear hk5 hk6 hk7
      have PL := fun w => Lib.hid (plain_any q w)
      by_cases hpl : q = 1 ∨ q = 3
      · simp only [decide_eq_true hpl] at PL
        have HE : Hid (ent x y = (q, 0)) := Lib.hid (by unfold ent; rw [hq, if_pos hpl])
        clear hpl hq
        go_wp2_with fail
        refine (PL _).out.mono ?_; rintro e w1 ⟨rfl, rfl⟩
        go_wp2_with (at_builtin; refine wpList_append_own _ rfl _ _ 25 rfl w.heap.size 35 i0 (.agg #[.int .i64 0, .int .i64 0]) 2 16 Try.underlying25 hi hz0 hz1 hz2 rfl (by decide) (.slice ao3 k cap3) k (flat (decL (zs.take (2 * k)))) rfl ?ho ⟨wr.heap.size + 1, 0, none⟩ 1 1 [.int .i64 q, .int .i64 0] rfl rfl ?hc (oneCell_two _ _ _ _) (by unfold maxLen; omega) (by omega) (by have := P.out.size; simp; omega) ?_)
        case ho => exact owns_keep W.out ((((Only.refl [] wr).alloc _).alloc _).drew)
        case hc => exact cell_two_new _ _ _ _ _ (by simp)
        intro v' w2 hown2 hgrow hnil
        have P2 := Lib.hid ((((P.out.alloc (.cells #[.int .i64 q, .int .i64 0] 35)).alloc (.cells #[.int .i64 q, .int .i64 0] 35)).drew).grown hgrow (fun p hp => .inr (W.out.lt p hp).1))
        have W2 : Hid (w2.ownsRow w.heap.size 35 2 v' (k + 1) (flat (decL (zs.take (2 * (k + 1)))))) := Lib.hid (by rw [HD.out, HE.out, ← flat_snoc]; exact hown2)
        clear hown2 hgrow hnil W P
        go_wp2_with fail
        go_roundw
        case rel => exact ⟨k + 1, by have := HJ.out; omega, .inl (by have := HJ.out; have := HN.out; omega), congrArg (Value.int .i64) (by have := HJ.out; omega), W2.out, P2.out⟩
        case measure => simp [intOf]; have := HJ.out; omega
      · simp only [decide_eq_false hpl] at PL
        have HE : Hid (ent x y = (q, y)) := Lib.hid (by unfold ent; rw [hq, if_neg hpl])
        clear hpl hq
        go_wp2_with fail
        refine (PL _).out.mono ?_; rintro e w1 ⟨rfl, rfl⟩
        go_wp2_with (at_builtin; refine wpList_append_own _ rfl _ _ 25 rfl w.heap.size 35 i0 (.agg #[.int .i64 0, .int .i64 0]) 2 16 Try.underlying25 hi hz0 hz1 hz2 rfl (by decide) (.slice ao3 k cap3) k (flat (decL (zs.take (2 * k)))) rfl ?ho ⟨wr.heap.size + 1, 0, none⟩ 1 1 [.int .i64 q, .int .i64 y] rfl rfl ?hc (oneCell_two _ _ _ _) (by unfold maxLen; omega) (by omega) (by have := P.out.size; simp; omega) ?_)
        case ho => exact owns_keep W.out ((((Only.refl [] wr).alloc _).alloc _).drew)
        case hc => exact cell_two_new _ _ _ _ _ (by simp)
        intro v' w2 hown2 hgrow hnil
        have P2 := Lib.hid ((((P.out.alloc (.cells #[.int .i64 q, .int .i64 y] 35)).alloc (.cells #[.int .i64 q, .int .i64 y] 35)).drew).grown hgrow (fun p hp => .inr (W.out.lt p hp).1))
        have W2 : Hid (w2.ownsRow w.heap.size 35 2 v' (k + 1) (flat (decL (zs.take (2 * (k + 1)))))) := Lib.hid (by rw [HD.out, HE.out, ← flat_snoc]; exact hown2)
        clear hown2 hgrow hnil W P
        go_wp2_with fail
        go_roundw
        case rel => exact ⟨k + 1, by have := HJ.out; omega, .inl (by have := HJ.out; have := HN.out; omega), congrArg (Value.int .i64) (by have := HJ.out; omega), W2.out, P2.out⟩
        case measure => simp [intOf]; have := HJ.out; omega
    · obtain ⟨ao3, cap3, rfl⟩ := owns_slice hown
      have HD := Lib.hid (decL_take zs k (by have := HN.out; omega) (by have := HN.out; omega))
      have hlen := Lib.hid (decL_len (zs.take (2 * k)))
      have hlt2 : ¬ ((2 * k : Nat) : Int) + 1 < (n : Int) := by omega
      have W := Lib.hid hown
      have P := Lib.hid hP
      obtain ⟨j, hj⟩ : ∃ j, j = 2 * k := ⟨_, rfl⟩
      rw [← hj] at hlt hlt2 ⊢
      have HJ := Lib.hid hj
      have hjn : j ≤ n := by omega
      clear hj hk hk2 hown hP
      go_wp2_with fail
      go_ret
      have hw := W.out
      have hk3 : (decL zs).length = k := by rw [← HD.out, hlen.out, List.length_take]; have := HJ.out; have := HN.out; omega
      rw [HD.out] at hw
      exact ⟨_, rfl, P.out, by rw [hk3]; exact hw⟩
end Go.Proofs.Ytfhmphbfngdkeaa
