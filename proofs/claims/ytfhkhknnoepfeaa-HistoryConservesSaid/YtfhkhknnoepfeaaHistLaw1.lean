/- Whatever an owner and thieves do is linearizable: the law walked. -/
import Derived.Test.YtfhkhknnoepfeaaHistPlan3
import Derived.Test.YtfhkhknnoepfeaaHistVals
import Derived.Test.YtfhkhknnoepfeaaHistAwake
namespace Go.Proofs.Ytfhkhknnoepfeaa
open Go.RowKit
set_option linter.unusedVariables false

theorem Played.lin {cap : Int} {ops : List HOp} {k : Nat} (h : Played (capN cap) ops k) (hk : k ≤ 12) (h1 : 1 ≤ cap) (h2 : cap ≤ 64) : linB ops cap = true := by
  have hc : ((capN cap : Nat) : Int) = cap := by unfold capN; omega
  have ho := Orders.ordr HOp.zero h.orders h.formed
  rw [hc] at ho
  unfold linB
  rw [decide_eq_true (show ops.length ≤ 12 by rw [h.len]; exact hk), ho]
  simp only [Bool.true_and, Bool.and_true, List.all_eq_true]
  exact h.formed
theorem planOps_vals {cap : Int} {m : Nat} {raw : List Int} {k : Nat} {picks : List Int} (h : Played (capN cap) (planOps cap m raw k picks) k) : ∀ o ∈ planOps cap m raw k picks, inI o.value := by
  refine gplay_vals h (fun a x hx e => ?_)
  by_cases h0 : a = 0
  · subst h0; have := ((planF_ok m raw k).own x hx).2; unfold inI; omega
  · have := (planF_ok m raw k).thf a (by omega) x hx; omega
theorem getD_vals {l : List HOp} (h : ∀ o ∈ l, inI o.value) : ∀ i, i < l.length → -9223372036854775808 ≤ (l.getD i HOp.zero).value ∧ (l.getD i HOp.zero).value ≤ 9223372036854775807 := by
  intro i hi
  have := h (l.getD i HOp.zero) (by rw [List.getD_eq_getElem?_getD, List.getElem?_eq_getElem hi]; exact List.getElem_mem hi)
  unfold inI at this; omega

set_option maxRecDepth 100000 in
set_option maxHeartbeats 4000000 in
theorem HistoryLinearizable_small (w : World) (cp : Int) (raw : List Int) (v1 : Value) (h1 : Ns w v1 raw) (l1 : raw.length ≤ 400) (picks : List Int) (v2 : Value) (h2 : Ns w v2 picks) (l2 : picks.length ≤ 400) :
    Calls Try.prog 4 #[.int .i64 cp, v1, v2] w fun e w' => e = .returned (.bool true) ∧ Only [] w w' := by
  have H1 := Lib.hid h1
  have H2 := Lib.hid h2
  obtain ⟨ao1, cap1, rfl, -, -, -⟩ := h1
  obtain ⟨ao2, cap2, rfl, hc2, -, -⟩ := h2
  have HC2 := Lib.hid hc2
  obtain ⟨n1, hn1⟩ : ∃ n1, n1 = raw.length := ⟨_, rfl⟩
  obtain ⟨n2, hn2⟩ : ∃ n2, n2 = picks.length := ⟨_, rfl⟩
  obtain ⟨c, hc⟩ : ∃ c : Int, c = numZ [cp] 0 4 := ⟨_, rfl⟩
  have hcb := numZ_bd [cp] 0 (n := 4) (by omega)
  rw [← hc] at hcb
  have CC := Lib.hid hc
  rw [← hn1] at H1 l1 ⊢
  rw [← hn2] at H2 l2 ⊢
  have N1 := Lib.hid hn1
  have N2 := Lib.hid hn2
  have SH := Lib.hid (short_any (w.alloc (.cells #[.slice ao1 n1 cap1, .slice ao2 n2 cap2] 24)) none 0 0 (by omega) w.heap.size 24 (0, 0) [(ao1, n1, cap1), (ao2, n2, cap2)] 2 rfl (by omega) (blk_alloc_new w _) (by simp; omega))
  rw [show (decide (∀ x ∈ [(ao1, n1, cap1), (ao2, n2, cap2)], x.2.1 ≤ 400) && decide (0 ≤ 400)) = true from by simp; omega] at SH
  clear hc hn1 hn2 hc2
  go_enter Try.func4, Try.ntmps4
  go_wp2_with fail
  refine SH.out.mono ?_; rintro e w1 ⟨rfl, rfl⟩
  clear SH
  generalize hw1 : w.alloc (.cells #[.slice ao1 n1 cap1, .slice ao2 n2 cap2] 24) = w1
  have O1 : Hid (Only [] w w1) := Lib.hid (by rw [← hw1]; exact (Only.refl _ _).alloc _)
  clear hw1
  have NM := Lib.hid (number_any (w1.alloc (.cells #[.int .i64 cp] 3)) (.slice (some ⟨w1.heap.size, 0, none⟩) 1 1) [cp] 0 4 (ns_new (T := 3) (f := (0, 0)) [cp] (blk_alloc_new w1 _) rfl) (by omega) (by simp) (by omega))
  rw [← CC.out] at NM
  go_wp2_with fail
  refine NM.out.mono ?_; rintro e w2 ⟨rfl, o2⟩
  have O2 := Lib.hid ((O1.out.alloc (.cells #[.int .i64 cp] 3)).then0 o2)
  clear o2 NM
  have PL := Lib.hid (plan_any w2 (.slice ao1 n1 cap1) raw 10 (by have := H1.out.keep O2.out; exact this) (by rw [← N1.out]; omega) (by omega))
  go_wp2_with fail
  refine PL.out.mono ?_; rintro e w3 ⟨m, ob, B, vs, hm, rfl, hP⟩
  have hnb := numZ_bd raw 0 (n := 3) (by omega)
  have hm2 : 2 ≤ m ∧ m ≤ 4 := by omega
  obtain ⟨S, hS⟩ : ∃ S, S = min (raw.length - 1) 10 := ⟨_, rfl⟩
  rw [← hS] at hP
  have P := Lib.hid hP
  have O3 := Lib.hid (O2.out.then0 hP.F)
  have hS10 : S ≤ 10 := by omega
  have PY := Lib.hid (planPlay_any hP (1 + c) ao2 cap2 picks (HC2.out.keep0 O3.out) (by omega) (by omega) (by omega) (by rw [← N2.out]; omega))
  have PD := Lib.hid (planOps_spec (1 + c) m raw S picks (by omega) (by omega) (by rw [← N2.out]; omega))
  rw [← N2.out] at PY
  have LN := Lib.hid (PD.out.lin (by omega) (by omega) (by omega))
  have VL := Lib.hid (getD_vals (planOps_vals PD.out))
  obtain ⟨ops, hops⟩ : ∃ ops, ops = planOps (1 + c) m raw S picks := ⟨_, rfl⟩
  rw [← hops] at PY PD LN VL
  clear hm hP PL hnb hS hops
  go_wp2_with fail
  refine PY.out.mono ?_; rintro e w4 ⟨ov, rfl, hown, o4⟩
  have OV := Lib.hid (ops_owns hown rfl)
  have O4 := Lib.hid (O3.out.then0 o4)
  clear o4 hown PY
  obtain ⟨oao, ocap, rfl, -⟩ := id OV.out
  have hol : ops.length ≤ 10 := by rw [PD.out.len]; exact hS10
  obtain ⟨on, hon⟩ : ∃ on, on = ops.length := ⟨_, rfl⟩
  have ON := Lib.hid hon
  rw [← hon] at hol OV ⊢
  clear hon
  have AW := Lib.hid (awake_any w4)
  go_wp2_with fail
  refine AW.out.mono ?_; rintro e w5 ⟨rfl, o5⟩
  have O5 := Lib.hid (O4.out.then0 o5)
  have LA := Lib.hid (linear_any w5 (.slice oao on ocap) ops (1 + c) (OV.out.keep o5) VL.out)
  rw [LN.out] at LA
  clear o5 AW
  go_wp2_with fail
  refine LA.out.mono ?_; rintro e w6 ⟨rfl, o6⟩
  have O6 := Lib.hid (O5.out.then0 o6)
  clear o6 LA
  go_wp2_with fail
  go_ret
  exact ⟨rfl, O6.out⟩

set_option maxRecDepth 100000 in
theorem HistoryLinearizable_any (w : World) (cp : Int) (raw : List Int) (v1 : Value) (h1 : Ns w v1 raw) (w1 : ∀ z ∈ raw, (Lit.int .i64 z).wf = true) (l1 : raw.length ≤ 9223372036854775807) (picks : List Int) (v2 : Value) (h2 : Ns w v2 picks) (w2 : ∀ z ∈ picks, (Lit.int .i64 z).wf = true) (l2 : picks.length ≤ 9223372036854775807) :
    Calls Try.prog 4 #[.int .i64 cp, v1, v2] w fun e w' => e = .returned (.bool true) ∧ Only [] w w' := by
  by_cases hs : raw.length ≤ 400 ∧ picks.length ≤ 400
  · exact HistoryLinearizable_small w cp raw v1 h1 hs.1 picks v2 h2 hs.2
  · obtain ⟨ao1, cap1, rfl, -, -, -⟩ := h1
    obtain ⟨ao2, cap2, rfl, -, -, -⟩ := h2
    generalize raw.length = n1 at *
    generalize picks.length = n2 at *
    have SH := Lib.hid (short_any (w.alloc (.cells #[.slice ao1 n1 cap1, .slice ao2 n2 cap2] 24)) none 0 0 (by omega) w.heap.size 24 (0, 0) [(ao1, n1, cap1), (ao2, n2, cap2)] 2 rfl (by omega) (blk_alloc_new w _) (by simp; omega))
    rw [show (decide (∀ x ∈ [(ao1, n1, cap1), (ao2, n2, cap2)], x.2.1 ≤ 400) && decide (0 ≤ 400)) = false from by simp; omega] at SH
    clear hs
    go_enter Try.func4, Try.ntmps4
    go_wp2_with fail
    refine SH.out.mono ?_; rintro e w1 ⟨rfl, rfl⟩
    clear SH
    go_wp2_with fail
    go_ret
    exact ⟨rfl, (Only.refl _ _).alloc _⟩
end Go.Proofs.Ytfhkhknnoepfeaa
