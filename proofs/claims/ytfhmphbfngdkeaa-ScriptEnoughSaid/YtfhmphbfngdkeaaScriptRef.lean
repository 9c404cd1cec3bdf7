/- What the reference's Decode and Same compute. -/
import Derived.Test.YtfhmphbfngdkeaaScriptWalks
namespace Go.Proofs.Ytfhmphbfngdkeaa
open Go.RowKit
set_option linter.unusedVariables false

set_option maxRecDepth 100000 in
theorem refDecode_any (w : World) (v : Value) (zs : List Int) (h : By w v zs) (hwf : ∀ z ∈ zs, (Lit.int .u8 z).wf = true) (hn : zs.length ≤ 100000) :
    Calls Try.prog 14 #[v] w fun e w' => ∃ v', e = .returned v' ∧ Only [] w w' ∧ w'.ownsRow w.heap.size 35 2 v' (decL zs).length (flat (decL zs)) := by
  obtain ⟨i0, hi, hz0, hz1, hz2⟩ := info_parts infoE
  obtain ⟨ao, cap, rfl, h1, h2, h3⟩ := h
  obtain ⟨n, hnn⟩ : ∃ n, n = zs.length := ⟨_, rfl⟩
  rw [← hnn] at hn h3 ⊢
  have HN := Lib.hid hnn
  have H1 := Lib.hid h1
  have HW := Lib.hid hwf
  clear h1 h2 hnn hwf
  go_enter Try.func14, Try.ntmps14
  go_wp2_with fail
  go_loopw [3, 4] (fun o i wr => ∃ k : Nat, 2 * k ≤ n + 1 ∧ (2 * k ≤ n ∨ k = 0) ∧ i = .int .i64 ((2 * k : Nat) : Int) ∧ wr.ownsRow w.heap.size 35 2 o k (flat (decL (zs.take (2 * k)))) ∧ Only [] w wr) (fun _ i _ => n + 1 - (intOf i).toNat)
  case atStart => exact ⟨0, Nat.zero_le _, .inr rfl, rfl, World.ownsRow_nil _ _ _ _, Only.refl _ _⟩
  case round =>
    obtain ⟨k, hk, hk2, rfl, hown, hP⟩ := hrel
    by_cases hlt : 2 * k + 1 < n
    · obtain ⟨b, off, rfl, hc⟩ := H1.out.ints (by have := HN.out; omega)
      have c0 := hP.keepCell (hc (2 * k) (by have := HN.out; omega)) (by simp)
      have c1 := hP.keepCell (hc (2 * k + 1) (by have := HN.out; omega)) (by simp)
      obtain ⟨x1, x2⟩ := u8_bd HW.out (2 * k) (by have := HN.out; omega)
      obtain ⟨y1, y2⟩ := u8_bd HW.out (2 * k + 1) (by have := HN.out; omega)
      have HD := Lib.hid (decL_step k zs (by have := HN.out; omega))
      obtain ⟨x, hxx⟩ : ∃ x, x = zs.getD (2 * k) 0 := ⟨_, rfl⟩
      obtain ⟨y, hyy⟩ : ∃ y, y = zs.getD (2 * k + 1) 0 := ⟨_, rfl⟩
      rw [← hxx] at c0 HD x1 x2
      rw [← hyy] at c1 HD y1 y2
      have P := Lib.hid hP
      have W := Lib.hid hown
      obtain ⟨ao3, cap3, rfl⟩ := owns_slice hown
      have hlt2 : ((2 * k : Nat) : Int) + 1 < (n : Int) := by omega
      clear hc hxx hyy hown hP
      obtain ⟨j, hj⟩ : ∃ j, j = 2 * k := ⟨_, rfl⟩
      rw [← hj] at c0 c1 hlt hlt2 ⊢
      have HJ := Lib.hid hj
      clear hj hk hk2
      have hjn : j < n := by omega
      have hk5 : k < 65536 := by have := HJ.out; omega
      have hk6 : decide (k < 65536) = true := decide_eq_true hk5
      have hk7 : (k : Int) < 65536 := by omega
      go_wp2_with fail
      have hbw : b < wr.heap.size := lt_of_cell c0
      obtain ⟨q, hq⟩ : ∃ q, x % 4 = q := ⟨_, rfl⟩
      have hq0 : 0 ≤ q := by omega
      have hq1 : q ≤ 3 := by omega
      have HQ := Lib.hid hq
      go_region
      have hk8 : k ≤ 60000 := by have := HJ.out; omega
      clear hk5 hk6 hk7
      by_cases hq1' : q = 1
      · have HE : Hid (ent x y = (q, 0)) := Lib.hid (by unfold ent; rw [hq, if_pos (by omega)])
        subst hq1'
        clear hq
        go_wp2_with (at_builtin; refine wpList_append_own _ rfl _ _ 25 rfl w.heap.size 35 i0 (.agg #[.int .i64 0, .int .i64 0]) 2 16 Try.underlying25 hi hz0 hz1 hz2 rfl (by decide) (.slice ao3 k cap3) k (flat (decL (zs.take (2 * k)))) rfl ?ho ⟨wr.heap.size + 1, 0, none⟩ 1 1 [.int .i64 1, .int .i64 0] rfl rfl ?hc (oneCell_two _ _ _ _) (by unfold maxLen; omega) (by omega) (by have := P.out.size; simp; omega) ?_)
        case ho => exact owns_keep W.out ((((Only.refl [] wr).alloc _).alloc _).drew)
        case hc => exact cell_two_new _ _ _ _ _ (by simp)
        intro v' w2 hown2 hgrow hnil
        have P2 := Lib.hid ((((P.out.alloc (.cells #[.int .i64 1, .int .i64 0] 35)).alloc (.cells #[.int .i64 1, .int .i64 0] 35)).drew).grown hgrow (fun p hp => .inr (W.out.lt p hp).1))
        have W2 : Hid (w2.ownsRow w.heap.size 35 2 v' (k + 1) (flat (decL (zs.take (2 * (k + 1)))))) := Lib.hid (by rw [HD.out, HE.out, ← flat_snoc]; exact hown2)
        clear hown2 hgrow hnil W P
        go_wp2_with fail
        go_roundw
        case rel => exact ⟨k + 1, by have := HJ.out; omega, .inl (by have := HJ.out; have := HN.out; omega), congrArg (Value.int .i64) (by have := HJ.out; omega), W2.out, P2.out⟩
        case measure => simp [intOf]; have := HJ.out; omega
      by_cases hq3 : q = 3
      · have HE : Hid (ent x y = (q, 0)) := Lib.hid (by unfold ent; rw [hq, if_pos (by omega)])
        subst hq3
        clear hq
        go_wp2_with (at_builtin; refine wpList_append_own _ rfl _ _ 25 rfl w.heap.size 35 i0 (.agg #[.int .i64 0, .int .i64 0]) 2 16 Try.underlying25 hi hz0 hz1 hz2 rfl (by decide) (.slice ao3 k cap3) k (flat (decL (zs.take (2 * k)))) rfl ?ho ⟨wr.heap.size + 1, 0, none⟩ 1 1 [.int .i64 3, .int .i64 0] rfl rfl ?hc (oneCell_two _ _ _ _) (by unfold maxLen; omega) (by omega) (by have := P.out.size; simp; omega) ?_)
        case ho => exact owns_keep W.out ((((Only.refl [] wr).alloc _).alloc _).drew)
        case hc => exact cell_two_new _ _ _ _ _ (by simp)
        intro v' w2 hown2 hgrow hnil
        have P2 := Lib.hid ((((P.out.alloc (.cells #[.int .i64 3, .int .i64 0] 35)).alloc (.cells #[.int .i64 3, .int .i64 0] 35)).drew).grown hgrow (fun p hp => .inr (W.out.lt p hp).1))
        have W2 : Hid (w2.ownsRow w.heap.size 35 2 v' (k + 1) (flat (decL (zs.take (2 * (k + 1)))))) := Lib.hid (by rw [HD.out, HE.out, ← flat_snoc]; exact hown2)
        clear hown2 hgrow hnil W P
        go_wp2_with fail
        go_roundw
        case rel => exact ⟨k + 1, by have := HJ.out; omega, .inl (by have := HJ.out; have := HN.out; omega), congrArg (Value.int .i64) (by have := HJ.out; omega), W2.out, P2.out⟩
        case measure => simp [intOf]; have := HJ.out; omega
      · have HE : Hid (ent x y = (q, y)) := Lib.hid (by unfold ent; rw [hq, if_neg (by omega)])
        have e1 : (q == 1) = false := by simpa using hq1'
        have e3 : (q == 3) = false := by simpa using hq3
        clear hq
        go_wp2_with (at_builtin; refine wpList_append_own _ rfl _ _ 25 rfl w.heap.size 35 i0 (.agg #[.int .i64 0, .int .i64 0]) 2 16 Try.underlying25 hi hz0 hz1 hz2 rfl (by decide) (.slice ao3 k cap3) k (flat (decL (zs.take (2 * k)))) rfl ?ho ⟨wr.heap.size + 1, 0, none⟩ 1 1 [.int .i64 q, .int .i64 y] rfl rfl ?hc (oneCell_two _ _ _ _) (by unfold maxLen; omega) (by omega) (by have := P.out.size; simp; omega) ?_)
        case ho => exact owns_keep W.out ((((Only.refl [] wr).alloc _).alloc _).drew)
        case hc => exact cell_two_new _ _ _ _ _ (by simp)
        intro v' w2 hown2 hgrow hnil
        have P2 := Lib.hid ((((P.out.alloc (.cells #[.int .i64 q, .int .i64 y] 35)).alloc (.cells #[.int .i64 q, .int .i64 y] 35)).drew).grown hgrow (fun p hp => .inr (W.out.lt p hp).1))
        have W2 : Hid (w2.ownsRow w.heap.size 35 2 v' (k + 1) (flat (decL (zs.take (2 * (k + 1)))))) := Lib.hid (by rw [HD.out, HE.out, ← flat_snoc]; exact hown2)
        clear hown2 hgrow hnil W P
        go_wp2_with fail
        go_roundw
        case rel => exact ⟨k + 1, by have := HJ.out; omega, .inl (by have := HJ.out; have := HN.out; omega), congrArg (Value.int .i64) (by have := HJ.out; omega), W2.out, P2.out⟩
        case measure => simp [intOf]; have := HJ.out; omega
    · obtain ⟨ao3, cap3, rfl⟩ := owns_slice hown
      have HD := Lib.hid (decL_take zs k (by have := HN.out; omega) (by have := HN.out; omega))
      have hlen := Lib.hid (decL_len (zs.take (2 * k)))
      have hlt2 : ¬ ((2 * k : Nat) : Int) + 1 < (n : Int) := by omega
      have W := Lib.hid hown
      have P := Lib.hid hP
      obtain ⟨j, hj⟩ : ∃ j, j = 2 * k := ⟨_, rfl⟩
      rw [← hj] at hlt hlt2 ⊢
      have HJ := Lib.hid hj
      have hjn : j ≤ n := by omega
      clear hj hk hk2 hown hP
      go_wp2_with fail
      go_ret
      have hw := W.out
      have hk3 : (decL zs).length = k := by rw [← HD.out, hlen.out, List.length_take]; have := HJ.out; have := HN.out; omega
      rw [HD.out] at hw
      exact ⟨_, rfl, P.out, by rw [hk3]; exact hw⟩
end Go.Proofs.Ytfhmphbfngdkeaa
