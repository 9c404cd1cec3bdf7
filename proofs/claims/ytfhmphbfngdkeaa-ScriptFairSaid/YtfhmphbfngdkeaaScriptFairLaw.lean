/- The law ScriptFair of chapter 4: what its code does. -/
import Derived.Test.YtfhmphbfngdkeaaScriptRound2
import Derived.Test.YtfhmphbfngdkeaaScriptFair
import Derived.Test.YtfhmphbfngdkeaaScriptFairR
namespace Go.Proofs.Ytfhmphbfngdkeaa
open Go.RowKit
set_option linter.unusedVariables false

set_option maxRecDepth 100000 in
set_option maxHeartbeats 1600000 in
theorem ScriptFair_big (w : World) (ao : Option Addr) (cap nb : Nat) (lb : nb ≤ 9223372036854775807) (co : Option Addr) (cap2 nc : Nat) (lc : nc ≤ 9223372036854775807) (io : Option Addr) (cap3 ni : Nat) (li : ni ≤ 9223372036854775807) (m kk : Int) (near : Bool)
    (h : ¬ (nb ≤ 400 ∧ ni ≤ 400 ∧ nc ≤ 200)) :
    Calls Try.prog 9 #[.slice ao nb cap, .slice co nc cap2, .slice io ni cap3, .int .i64 m, .int .i64 kk, .bool near] w fun e w' => e = .returned (.bool true) ∧ Only [] w w' := by
  have S := Lib.hid (short_any (w.alloc (.cells #[.slice io ni cap3] 28)) ao nb cap lb w.heap.size 28 (0, 0) [(io, ni, cap3)] 1 rfl (by omega) (blk_alloc_new _ _) (by simp; omega))
  by_cases h2 : nb ≤ 400 ∧ ni ≤ 400
  · rw [show (decide (∀ x ∈ [(io, ni, cap3)], x.2.1 ≤ 400) && decide (nb ≤ 400)) = true by simp; omega] at S
    have h3 : ¬ ((nc : Int) ≤ 200) := by omega
    clear h h2 lb li
    go_enter Try.func9, Try.ntmps9
    go_wp2_with fail
    refine S.out.mono ?_; rintro e w1 ⟨rfl, rfl⟩
    go_wp2_with fail
    go_ret
    exact ⟨rfl, (Only.refl [] w).alloc _⟩
  · rw [show (decide (∀ x ∈ [(io, ni, cap3)], x.2.1 ≤ 400) && decide (nb ≤ 400)) = false by simp; omega] at S
    clear h h2 lb li
    go_enter Try.func9, Try.ntmps9
    go_wp2_with fail
    refine S.out.mono ?_; rintro e w1 ⟨rfl, rfl⟩
    go_wp2_with fail
    go_ret
    exact ⟨rfl, (Only.refl [] w).alloc _⟩

set_option maxRecDepth 100000 in
set_option maxHeartbeats 1600000 in
theorem ScriptFair_far (w : World) (ao : Option Addr) (cap nb : Nat) (co : Option Addr) (cap2 nc : Nat) (io : Option Addr) (cap3 ni : Nat) (m kk : Int) (hm : m ≤ 9223372036854775807) (hkk : kk ≤ 9223372036854775807)
    (hb : nb ≤ 400) (hi : ni ≤ 400) (hc : nc ≤ 200) (L : List E) (HE : Hid (En w (.slice co nc cap2) L)) (eL : Hid (nc = L.length)) (lc : Hid (cap2 ≤ 9223372036854775807)) :
    Calls Try.prog 9 #[.slice ao nb cap, .slice co nc cap2, .slice io ni cap3, .int .i64 m, .int .i64 kk, .bool false] w fun e w' => e = .returned (.bool true) ∧ Only [] w w' := by
  have S := Lib.hid (short_any (w.alloc (.cells #[.slice io ni cap3] 28)) ao nb cap (by omega) w.heap.size 28 (0, 0) [(io, ni, cap3)] 1 rfl (by omega) (blk_alloc_new _ _) (by simp; omega))
  rw [show (decide (∀ x ∈ [(io, ni, cap3)], x.2.1 ≤ 400) && decide (nb ≤ 400)) = true by simp; omega] at S
  have HM := Lib.hid hm
  have HK := Lib.hid hkk
  have h3 : (nc : Int) ≤ 200 := by omega
  clear hm hkk
  go_enter Try.func9, Try.ntmps9
  go_wp2_with fail
  refine S.out.mono ?_; rintro e w1 ⟨rfl, rfl⟩
  go_wp2_with fail
  refine (awake_any _).mono ?_; rintro e w5 ⟨rfl, o5⟩
  have O5 := Lib.hid (((Only.refl [] w).alloc (.cells #[.slice io ni cap3] 28)).then0 o5)
  have X5 := Lib.hid (HE.out.keep O5.out)
  clear o5
  go_wp2_with fail
  refine (fair_any _ _ L m kk X5.out (by rw [← eL.out]; omega) HM.out HK.out).mono ?_; rintro e w6 ⟨rfl, o6⟩
  have O6 := Lib.hid (O5.out.then0 o6)
  have X6 := Lib.hid (X5.out.keep o6)
  clear o6 O5 X5
  go_wp2_with fail
  refine (refFair_any _ _ L m kk X6.out (fun _ _ _ e => by simp at e; have := lc.out; omega) (by rw [← eL.out]; omega) HM.out HK.out).mono ?_; rintro e w7 ⟨rfl, o7⟩
  have O7 := Lib.hid (O6.out.then0 o7)
  clear o7 O6 X6
  go_wp2_with fail
  go_ret
  exact ⟨by simp, O7.out⟩

set_option maxRecDepth 100000 in
set_option maxHeartbeats 1600000 in
theorem ScriptFair_near (w : World) (ao : Option Addr) (cap nb : Nat) (co : Option Addr) (cap2 nc : Nat) (io : Option Addr) (cap3 ni : Nat) (m kk : Int)
    (hb : nb ≤ 400) (hi : ni ≤ 400) (hc : nc ≤ 200) (xb xi : List Int) (Hb : Hid (By w (.slice ao nb cap) xb)) (Hi : Hid (Ns w (.slice io ni cap3) xi)) (eb : Hid (nb = xb.length)) (ei : Hid (ni = xi.length)) (wb : Hid (∀ z ∈ xb, (Lit.int .u8 z).wf = true)) :
    Calls Try.prog 9 #[.slice ao nb cap, .slice co nc cap2, .slice io ni cap3, .int .i64 m, .int .i64 kk, .bool true] w fun e w' => e = .returned (.bool true) ∧ Only [] w w' := by
  have S := Lib.hid (short_any (w.alloc (.cells #[.slice io ni cap3] 28)) ao nb cap (by omega) w.heap.size 28 (0, 0) [(io, ni, cap3)] 1 rfl (by omega) (blk_alloc_new _ _) (by simp; omega))
  rw [show (decide (∀ x ∈ [(io, ni, cap3)], x.2.1 ≤ 400) && decide (nb ≤ 400)) = true by simp; omega] at S
  have h3 : (nc : Int) ≤ 200 := by omega
  go_enter Try.func9, Try.ntmps9
  go_wp2_with fail
  refine S.out.mono ?_; rintro e w1 ⟨rfl, rfl⟩
  go_wp2_with fail
  refine (number_any ((w.alloc (.cells #[.slice io ni cap3] 28)).alloc (.cells #[.int .i64 m] 3)) (.slice (some ⟨w.heap.size + 1, 0, none⟩) 1 1) [m] 0 4 (ns_new [m] (blk_new _ (by simp)) rfl) (by omega) (by simp) (by omega)).mono ?_; rintro e w1 ⟨r, rfl, hr0, hr1, o1⟩
  have hr2 := hr1 (by omega)
  have O1 := Lib.hid ((((Only.refl [] w).alloc (.cells #[.slice io ni cap3] 28)).alloc (.cells #[.int .i64 m] 3)).then0 o1)
  have Hb1 := Lib.hid (Hb.out.keep O1.out)
  have Hi1 := Lib.hid (Hi.out.keep O1.out)
  obtain ⟨k, hk⟩ : ∃ k : Nat, 1 + r = k := ⟨(1 + r).toNat, by omega⟩
  have hk1 : 1 ≤ k := by omega
  have hk2 : k ≤ 4 := by omega
  clear o1 S hr1 hc h3
  go_wp2_with fail
  refine (number_any (w1.alloc (.cells #[.int .i64 kk] 3)) (.slice (some ⟨w1.heap.size, 0, none⟩) 1 1) [kk] 0 24 (ns_new [kk] (blk_alloc_new _ _) rfl) (by omega) (by simp) (by omega)).mono ?_; rintro e w2 ⟨r2, rfl, hr3, hr4, o2⟩
  have hr5 := hr4 (by omega)
  have O2 := Lib.hid ((O1.out.alloc (.cells #[.int .i64 kk] 3)).then0 o2)
  obtain ⟨k2, hk3⟩ : ∃ k2 : Nat, 1 + r2 = k2 := ⟨(1 + r2).toNat, by omega⟩
  have hk4 : k2 ≤ 24 := by omega
  clear o2 hr4 Hb1 Hi1 O1
  go_wp2_with fail
  go_loopw [1, 13] (fun z i wr => ∃ (j : Nat) (Z : List E), j ≤ ni ∧ j ≤ 8 ∧ i = .int .i64 j ∧ wr.ownsRow w.heap.size 35 2 z Z.length (flat Z) ∧ Z.length ≤ 200 + j * 8 ∧ Only [] w wr) (fun _ i _ => ni - (intOf i).toNat)
  case atStart => exact ⟨0, [], Nat.zero_le _, by omega, rfl, World.ownsRow_nil _ _ _ _, by simp, O2.out⟩
  case round =>
    obtain ⟨j, Z, hj, hj8, rfl, hown, hlen, hP⟩ := hrel
    have W := Lib.hid hown
    have P := Lib.hid hP
    have HZ := Lib.hid hlen
    have HI := Lib.hid (Hi.out.keep hP)
    clear hown hlen hP
    by_cases hgo : j < ni ∧ j < 8
    · obtain ⟨hlt, h8⟩ := hgo
      go_wp2_with fail
      rw [show (j : Int) * 3 = ((j * 3 : Nat) : Int) by simp]
      refine (round_any _ _ xi (j * 3) k HI.out (by rw [← ei.out]; omega) (by omega) hk1 (by omega)).mono ?_; rintro e w1 ⟨v1, L, rfl, o1, e1, _, _, hL⟩
      have P1 := Lib.hid (P.out.then0 o1)
      have W1 := Lib.hid (owns_keep W.out o1)
      have E1 := Lib.hid e1.en
      have HL : Hid (L.length ≤ 8) := Lib.hid (by omega)
      clear o1 e1 hL
      go_wp2_with (at_builtin; refine wpList_append_en _ rfl _ _ rfl w.heap.size _ Z rfl W1.out _ L rfl E1.out (by have := HL.out; have := HZ.out; omega) P1.out.size ?_)
      intro v2 w2 hown2 hgrow2 hnil2
      have P2 := Lib.hid (P1.out.grown hgrow2 (fun q hq => .inr (W1.out.lt q hq).1))
      have W2 : Hid (w2.ownsRow w.heap.size 35 2 v2 (Z ++ L).length (flat (Z ++ L))) := Lib.hid (by rw [List.length_append]; exact hown2)
      clear hown2 hgrow2 hnil2
      go_wp2_with fail
      go_roundw
      case rel => exact ⟨j + 1, Z ++ L, by omega, by omega, by go_num, W2.out, by have := HL.out; have := HZ.out; simp; omega, P2.out⟩
      case measure => simp [intOf]; omega
    · have hex : (j < ni ∧ (8 : Int) ≤ (j : Int)) ∨ ¬ j < ni := by omega
      have ZE := Lib.hid (enCap_owns W.out)
      clear hgo
      rcases hex with ⟨hlt, h8⟩ | hlt
      all_goals
        go_wp2_with fail
        refine (awake_any _).mono ?_; rintro e w5 ⟨rfl, o5⟩
        have O5 := Lib.hid (P.out.then0 o5)
        have X5 := Lib.hid (ZE.out.keep o5)
        clear o5
        go_wp2_with fail
        refine (fair_any _ _ Z k k2 X5.out.en (by have := HZ.out; omega) (by omega) (by omega)).mono ?_; rintro e w6 ⟨rfl, o6⟩
        have O6 := Lib.hid (O5.out.then0 o6)
        have X6 := Lib.hid (X5.out.keep o6)
        clear o6 O5 X5
        go_wp2_with fail
        refine (refFair_any _ _ Z k k2 X6.out.en X6.out.cap (by have := HZ.out; omega) (by omega) (by omega)).mono ?_; rintro e w7 ⟨rfl, o7⟩
        have O7 := Lib.hid (O6.out.then0 o7)
        clear o7 O6 X6
        go_wp2_with fail
        go_ret
        exact ⟨by simp, O7.out⟩

theorem ScriptFair_any (w : World) (xb : List Int) (vb : Value) (hb : By w vb xb) (wb : ∀ z ∈ xb, (Lit.int .u8 z).wf = true) (lb : xb.length ≤ 9223372036854775807) (co : Option Addr) (cap2 nc : Nat) (L : List E) (hE : En w (.slice co nc cap2) L) (lc : cap2 ≤ 9223372036854775807)
    (xi : List Int) (vi : Value) (hi : Ns w vi xi) (wi : ∀ z ∈ xi, (Lit.int .i64 z).wf = true) (li : xi.length ≤ 9223372036854775807) (m : Int) (hm : m ≤ 9223372036854775807) (kk : Int) (hkk : kk ≤ 9223372036854775807) (near : Bool) :
    Calls Try.prog 9 #[vb, .slice co nc cap2, vi, .int .i64 m, .int .i64 kk, .bool near] w fun e w' => e = .returned (.bool true) ∧ Only [] w w' := by
  have Hb := Lib.hid hb
  have HE := Lib.hid hE
  have Hi := Lib.hid hi
  obtain ⟨ao, cap, rfl, _⟩ := hb
  obtain ⟨io, cap3, rfl, _⟩ := hi
  obtain ⟨co', cap2', e2, _, _, h4⟩ := hE
  simp at e2
  by_cases h : xb.length ≤ 400 ∧ xi.length ≤ 400 ∧ nc ≤ 200
  · cases near with
    | false => exact ScriptFair_far w ao cap _ co cap2 nc io cap3 _ m kk hm hkk h.1 h.2.1 h.2.2 L HE (Lib.hid e2.2.1) (Lib.hid lc)
    | true => exact ScriptFair_near w ao cap _ co cap2 nc io cap3 _ m kk h.1 h.2.1 h.2.2 xb xi Hb Hi (Lib.hid rfl) (Lib.hid rfl) (Lib.hid wb)
  · exact ScriptFair_big w ao cap _ lb co cap2 nc (by omega) io cap3 _ li m kk near h
end Go.Proofs.Ytfhmphbfngdkeaa
