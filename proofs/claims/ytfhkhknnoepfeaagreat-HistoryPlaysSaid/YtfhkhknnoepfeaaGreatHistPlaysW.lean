/- The operations of every plan and every list of picks: the law walked. -/
import Derived.Test.YtfhkhknnoepfeaaGreatHistRefF
import Derived.Test.YtfhkhknnoepfeaaGreatMgF
import Derived.Test.YtfhkhknnoepfeaaGreatHistAwake
namespace Go.Proofs.YtfhkhknnoepfeaaGreat
open Go.RowKit
set_option linter.unusedVariables false

def smallB (pl : List (List (Int × Int))) : Bool := decide (pl.length ≤ 12) && pl.all fun l => decide (l.length ≤ 40)

set_option maxRecDepth 100000 in
set_option maxHeartbeats 1000000 in
theorem small_any (w : World) (v : Value) (pl : List (List (Int × Int))) (h : PlanAt w v pl) (hl : pl.length ≤ 9223372036854775807) :
    Calls Tryz.prog 5 #[v] w fun e w' => e = .returned (.bool (smallB pl)) ∧ Only [] w w' := by
  obtain ⟨ao, cap, rfl, hc, hh⟩ := h
  obtain ⟨n, hn⟩ : ∃ n, n = pl.length := ⟨_, rfl⟩
  rw [← hn] at hl hc hh ⊢
  have HN := Lib.hid hn
  have HH := Lib.hid hh
  clear hn hh
  by_cases h12 : n ≤ 12
  · go_enter Tryz.func5, Tryz.ntmps5
    go_wp2_with fail
    go_loopw [3] (fun iv wr => ∃ i : Nat, i ≤ n ∧ iv = .int .i64 i ∧ Only [] w wr ∧ ∀ j, j < i → (pl.getD j []).length ≤ 40) (fun iv _ => n - (intOf iv).toNat)
    case atStart => exact ⟨0, Nat.zero_le _, rfl, Only.refl _ _, fun j hj => by omega⟩
    case round =>
      obtain ⟨i, hi, rfl, hP, hS⟩ := hrel
      have P := Lib.hid hP
      have SM := Lib.hid hS
      clear hP hS
      by_cases hlt : i < n
      · obtain ⟨b, off, rfl, hr⟩ := HH.out (by omega)
        obtain ⟨vi, hv1, hv2⟩ := hr i hlt
        obtain ⟨vo, vc, rfl, _, _, hvl⟩ := hv2
        obtain ⟨ln, hln⟩ : ∃ ln, ln = (pl.getD i []).length := ⟨_, rfl⟩
        rw [← hln] at hv1
        have c := P.out.keepCell hv1 (by simp)
        have HLN := Lib.hid hln
        clear hr hv1 hvl hln
        by_cases h40 : ln ≤ 40
        · go_wp2_with fail
          go_roundw
          case rel => exact ⟨i + 1, by omega, by go_num, P.out, fun j hj => by
            by_cases e : j = i
            · rw [e, ← HLN.out]; exact h40
            · exact SM.out j (by omega)⟩
          case measure => simp [intOf]; omega
        · have SB : Hid (smallB pl = false) := Lib.hid (by
            unfold smallB
            have : pl.all (fun l => decide (l.length ≤ 40)) = false := by
              rw [List.all_eq_false]
              refine ⟨pl.getD i [], by rw [List.getD_eq_getElem?_getD, List.getElem?_eq_getElem (by have := HN.out; omega)]; exact List.getElem_mem _, ?_⟩
              rw [← HLN.out]; simpa using h40
            rw [this]; simp)
          have h41 : 40 < ln := by omega
          clear h40
          go_wp2_with fail
          go_ret
          exact ⟨by rw [SB.out]; rfl, P.out⟩
      · obtain rfl : n = i := by omega
        have SB : Hid (smallB pl = true) := Lib.hid (by
          unfold smallB
          rw [decide_eq_true (show pl.length ≤ 12 by rw [← HN.out]; exact h12), Bool.true_and, List.all_eq_true]
          intro l hl
          obtain ⟨j, hj, rfl⟩ := List.getElem_of_mem hl
          have := SM.out j (by rw [HN.out]; exact hj)
          rw [List.getD_eq_getElem?_getD, List.getElem?_eq_getElem hj] at this
          simpa using this)
        go_wp2_with fail
        go_ret
        exact ⟨by rw [SB.out]; rfl, P.out⟩
  · have SB : Hid (smallB pl = false) := Lib.hid (by unfold smallB; rw [decide_eq_false (by rw [← HN.out]; exact h12)]; rfl)
    have h13 : 12 < n := by omega
    clear h12
    go_enter Tryz.func5, Tryz.ntmps5
    go_wp2_with fail
    go_ret
    exact ⟨by rw [SB.out]; rfl, Only.refl _ _⟩

set_option maxRecDepth 100000 in
theorem refPlay_nil (w : World) (cap : Int) (ao : Option Addr) (cp : Nat) (pv : Value) : Calls Tryz.prog 12 #[.int .i64 cap, .slice ao 0 cp, pv] w (PlayPost w []) := by
  go_enter Tryz.func12, Tryz.ntmps12
  go_wp2_with fail
  go_ret
  exact ⟨_, rfl, ⟨rfl, .inl ⟨rfl, rfl⟩⟩, Only.refl _ _⟩
set_option maxRecDepth 100000 in
theorem play_nil2 (w : World) (cap : Int) (ao : Option Addr) (cp : Nat) (pv : Value) : Calls Tryz.prog 11 #[.int .i64 cap, .slice ao 0 cp, pv] w (PlayPost w []) := by
  go_enter Tryz.func11, Tryz.ntmps11
  go_wp2_with fail
  go_ret
  exact ⟨_, rfl, ⟨rfl, .inl ⟨rfl, rfl⟩⟩, Only.refl _ _⟩

/-- Both plays of a small plan have the same operations. -/
def BothPlay (w : World) (cap : Int) (v pv : Value) (ops : List HOp) : Prop := ∀ w', Only [] w w' → Calls Tryz.prog 11 #[.int .i64 cap, v, pv] w' (PlayPost w' ops) ∧ Calls Tryz.prog 12 #[.int .i64 cap, v, pv] w' (PlayPost w' ops)
theorem sumL_le {f : Nat → Nat} {b : Nat} : ∀ {n : Nat}, (∀ a, a < n → f a ≤ b) → sumL f n ≤ n * b
  | 0, _ => by simp [sumL]
  | n + 1, h => by have := sumL_le (n := n) (fun a ha => h a (by omega)); have := h n (by omega); rw [sumL, Nat.add_mul]; omega
theorem both_small {w : World} {cap : Int} {v : Value} {pl : List (List (Int × Int))} (h : PlanAt w v pl) (hs : smallB pl = true) (hin : ∀ x ∈ pl.getD 0 [], inI x.2) {ao : Option Addr} {pcap : Nat} {picks : List Int} (hpk : CellsAt w ao (picks.map (.int .i64))) (hnp : picks.length ≤ 1000) :
    ∃ ops : List HOp, ops.length ≤ 100000 ∧ BothPlay w cap v (.slice ao picks.length pcap) ops := by
  unfold smallB at hs
  rw [Bool.and_eq_true, decide_eq_true_eq, List.all_eq_true] at hs
  obtain ⟨h12, h40⟩ := hs
  have hlen : ∀ a, a < pl.length → (pl.getD a []).length ≤ 40 := fun a ha => by
    rw [List.getD_eq_getElem?_getD, List.getElem?_eq_getElem ha]
    simpa using h40 _ (List.getElem_mem ha)
  rcases Nat.eq_zero_or_pos pl.length with h0 | h0
  · obtain ⟨pao, pcp, rfl, _, _⟩ := h
    rw [h0]
    exact ⟨[], by simp, fun w' _ => ⟨play_nil2 w' cap pao pcp _, refPlay_nil w' cap pao pcp _⟩⟩
  · have hpa : ∀ a, a < pl.length → (planActs pl a).length ≤ 40 := fun a ha => Nat.le_trans (List.length_filter_le _ _) (hlen a ha)
    have hsum := sumL_le (f := fun a => (planActs pl a).length) (n := pl.length) hpa
    have hb : picks.length + 10 * sumL (fun a => (planActs pl a).length) pl.length < 900000 := by
      have : pl.length * 40 ≤ 12 * 40 := Nat.mul_le_mul_right _ h12
      omega
    have hi0 : ∀ x ∈ planActs pl 0, inI x.2 := fun x hx => hin x (List.mem_filter.1 hx).1
    refine ⟨gplay (capN cap) pl.length (planActs pl) (picks.map (modN pl.length)), ?_, fun w' o => ⟨play_any w' cap v pl (h.keep0 o) ao pcap picks (hpk.keep0 o) h0 (by omega) (fun a ha => by have := hlen a ha; omega) (by omega) hi0 hb, refPlay_any w' cap v pl (h.keep0 o) ao pcap picks (hpk.keep0 o) h0 (by omega) (fun a ha => by have := hlen a ha; omega) (by omega) hi0 hb⟩⟩
    have hc1 : 1 ≤ capN cap ∧ capN cap ≤ 64 := by unfold capN; omega
    have hsp := gplay_spec (c := capN cap) (n := pl.length) (acts := planActs pl) (picks := picks.map (modN pl.length)) hc1.1 (by omega) h0 (fun x hx => by
      refine ⟨?_, hi0 x hx⟩
      have := (List.mem_filter.1 hx).2
      simp [ableB] at this
      exact this) (fun a ha x hx => by
      have := (List.mem_filter.1 hx).2
      simp [ableB] at this
      omega) (fun a ha => by
      obtain ⟨y, _, rfl⟩ := List.mem_map.1 ha
      exact modN_lt h0 y) (by rw [List.length_map]; exact hb)
    rw [hsp.len]
    omega

set_option maxRecDepth 100000 in
set_option maxHeartbeats 4000000 in
theorem HistoryPlays_far (w : World) (cp : Int) (planV : Value) (pl : List (List (Int × Int))) (hpl : PlanAt w planV pl) (hpb : pl.length ≤ 9223372036854775807) (hin : ∀ x ∈ pl.getD 0 [], inI x.2) (raw : List Int) (v1 : Value) (h1 : Ns w v1 raw) (l1 : raw.length ≤ 400) (picks : List Int) (v2 : Value) (h2 : Ns w v2 picks) (l2 : picks.length ≤ 400) (hsm : smallB pl = true) :
    Calls Tryz.prog 3 #[.int .i64 cp, planV, v1, v2, .bool false] w fun e w' => e = .returned (.bool true) ∧ Only [] w w' := by
  have H1 := Lib.hid h1
  have H2 := Lib.hid h2
  have HPL := Lib.hid hpl
  obtain ⟨pao, pcp, rfl, -, -⟩ := hpl
  obtain ⟨ao1, cap1, rfl, -, -, -⟩ := h1
  obtain ⟨ao2, cap2, rfl, hc2, -, -⟩ := h2
  have HC2 := Lib.hid hc2
  have SMA := Lib.hid (small_any w (.slice pao pl.length pcp) pl HPL.out hpb)
  rw [hsm] at SMA
  obtain ⟨ops, hol, BP0⟩ := both_small (cap := cp) HPL.out hsm hin (pcap := cap2) hc2 (by omega)
  have BP := Lib.hid BP0
  obtain ⟨n1, hn1⟩ : ∃ n1, n1 = raw.length := ⟨_, rfl⟩
  obtain ⟨n2, hn2⟩ : ∃ n2, n2 = picks.length := ⟨_, rfl⟩
  obtain ⟨np, hnp⟩ : ∃ np, np = pl.length := ⟨_, rfl⟩
  rw [← hn1] at H1 l1 ⊢
  rw [← hn2] at H2 l2 BP ⊢
  rw [← hnp] at SMA BP HPL hpb ⊢
  have SH := fun w' => Lib.hid (short_any (w'.alloc (.cells #[.slice ao1 n1 cap1, .slice ao2 n2 cap2] 23)) none 0 0 (by omega) w'.heap.size 23 (0, 0) [(ao1, n1, cap1), (ao2, n2, cap2)] 2 rfl (by omega) (blk_alloc_new w' _) (by simp; omega))
  rw [show (decide (∀ x ∈ [(ao1, n1, cap1), (ao2, n2, cap2)], x.2.1 ≤ 400) && decide (0 ≤ 400)) = true from by simp; omega] at SH
  clear hn1 hn2 hnp hc2 BP0 hin hsm
  go_enter Tryz.func3, Tryz.ntmps3
  go_wp2_with fail
  refine SMA.out.mono ?_; rintro e w1 ⟨rfl, o1⟩
  have O1 := Lib.hid o1
  clear o1 SMA
  go_wp2_with fail
  refine (SH w1).out.mono ?_; rintro e w2 ⟨rfl, rfl⟩
  generalize hw2 : w1.alloc (.cells #[.slice ao1 n1 cap1, .slice ao2 n2 cap2] 23) = w2
  have O2 : Hid (Only [] w w2) := Lib.hid (by rw [← hw2]; exact O1.out.alloc _)
  clear hw2 SH
  have AW := Lib.hid (awake_any w2)
  go_wp2_with fail
  refine AW.out.mono ?_; rintro e wa ⟨rfl, oa⟩
  have OA := Lib.hid (O2.out.then0 oa)
  have PA := Lib.hid (BP.out wa ((O2.out).then0 oa)).1
  clear AW
  go_wp2_with fail
  refine PA.out.mono ?_; rintro e wb ⟨v1, rfl, hown1, ob⟩
  have V1 := Lib.hid (ops_owns hown1 rfl)
  obtain ⟨ao1', cp1', rfl, -⟩ := id V1.out
  have OB := Lib.hid (OA.out.then0 ob)
  have PB := Lib.hid (BP.out wb (((O2.out).then0 oa).then0 ob)).2
  clear oa hown1 PA
  go_wp2_with fail
  refine PB.out.mono ?_; rintro e wc ⟨v2, rfl, hown2, oc⟩
  have V2 := Lib.hid (ops_owns hown2 rfl)
  obtain ⟨ao2', cp2', rfl, -⟩ := id V2.out
  have SMM := Lib.hid (refSameOps_any wc _ _ ops (V1.out.keep oc) V2.out (by omega))
  have OC := Lib.hid (OB.out.then0 oc)
  clear ob oc hown2 PB
  go_wp2_with fail
  refine SMM.out.mono ?_; rintro e wd ⟨rfl, od⟩
  have OD := Lib.hid (OC.out.then0 od)
  clear od SMM
  go_wp2_with fail
  go_ret
  exact ⟨rfl, OD.out⟩

set_option maxRecDepth 100000 in
set_option maxHeartbeats 4000000 in
theorem HistoryPlays_near (w : World) (cp : Int) (planV : Value) (pl : List (List (Int × Int))) (hpl : PlanAt w planV pl) (hpb : pl.length ≤ 9223372036854775807) (raw : List Int) (v1 : Value) (h1 : Ns w v1 raw) (l1 : raw.length ≤ 400) (picks : List Int) (v2 : Value) (h2 : Ns w v2 picks) (l2 : picks.length ≤ 400) (hsm : smallB pl = true) :
    Calls Tryz.prog 3 #[.int .i64 cp, planV, v1, v2, .bool true] w fun e w' => e = .returned (.bool true) ∧ Only [] w w' := by
  have H1 := Lib.hid h1
  have H2 := Lib.hid h2
  have HPL := Lib.hid hpl
  obtain ⟨pao, pcp, rfl, -, -⟩ := hpl
  obtain ⟨ao1, cap1, rfl, -, -, -⟩ := h1
  obtain ⟨ao2, cap2, rfl, hc2, -, -⟩ := h2
  have HC2 := Lib.hid hc2
  have SMA := Lib.hid (small_any w (.slice pao pl.length pcp) pl HPL.out hpb)
  rw [hsm] at SMA
  obtain ⟨n1, hn1⟩ : ∃ n1, n1 = raw.length := ⟨_, rfl⟩
  obtain ⟨n2, hn2⟩ : ∃ n2, n2 = picks.length := ⟨_, rfl⟩
  obtain ⟨np, hnp⟩ : ∃ np, np = pl.length := ⟨_, rfl⟩
  obtain ⟨c, hc⟩ : ∃ c : Int, c = numZ [cp] 0 6 := ⟨_, rfl⟩
  have hcb := numZ_bd [cp] 0 (n := 6) (by omega)
  rw [← hc] at hcb
  have CC := Lib.hid hc
  rw [← hn1] at H1 l1 ⊢
  rw [← hn2] at H2 l2 ⊢
  rw [← hnp] at SMA HPL hpb ⊢
  have N1 := Lib.hid hn1
  have N2 := Lib.hid hn2
  have SH := fun w' => Lib.hid (short_any (w'.alloc (.cells #[.slice ao1 n1 cap1, .slice ao2 n2 cap2] 23)) none 0 0 (by omega) w'.heap.size 23 (0, 0) [(ao1, n1, cap1), (ao2, n2, cap2)] 2 rfl (by omega) (blk_alloc_new w' _) (by simp; omega))
  rw [show (decide (∀ x ∈ [(ao1, n1, cap1), (ao2, n2, cap2)], x.2.1 ≤ 400) && decide (0 ≤ 400)) = true from by simp; omega] at SH
  clear hn1 hn2 hnp hc2 hsm hc
  go_enter Tryz.func3, Tryz.ntmps3
  go_wp2_with fail
  refine SMA.out.mono ?_; rintro e w1 ⟨rfl, o1⟩
  have O1 := Lib.hid o1
  clear o1 SMA
  go_wp2_with fail
  refine (SH w1).out.mono ?_; rintro e w2 ⟨rfl, rfl⟩
  generalize hw2 : w1.alloc (.cells #[.slice ao1 n1 cap1, .slice ao2 n2 cap2] 23) = w2
  have O2 : Hid (Only [] w w2) := Lib.hid (by rw [← hw2]; exact O1.out.alloc _)
  clear hw2 SH
  have PL := Lib.hid (plan_any w2 (.slice ao1 n1 cap1) raw 40 (by have := H1.out.keep O2.out; exact this) (by rw [← N1.out]; omega) (by omega))
  go_wp2_with fail
  refine PL.out.mono ?_; rintro e w3 ⟨m, ob, B, vs, hm, rfl, hP⟩
  have hnb := numZ_bd raw 0 (n := 3) (by omega)
  have hm2 : 2 ≤ m ∧ m ≤ 4 := by omega
  obtain ⟨S, hS⟩ : ∃ S, S = min (raw.length - 1) 40 := ⟨_, rfl⟩
  rw [← hS] at hP
  have hS40 : S ≤ 40 := by omega
  have P := Lib.hid hP
  have O3 := Lib.hid (O2.out.then0 hP.F)
  have hlm : ((List.range m).map (planF m raw S)).length = m := by simp
  have hgm : ∀ i, i < m → ((List.range m).map (planF m raw S)).getD i [] = planF m raw S i := fun i hi => by simp [List.getD_eq_getElem?_getD, hi]
  obtain ⟨ops, hol, BP0⟩ := both_small (cap := c) hP.planAt (by
    unfold smallB
    rw [hlm, decide_eq_true (show m ≤ 12 by omega), Bool.true_and, List.all_eq_true]
    intro l hl
    obtain ⟨i, hi, rfl⟩ := List.mem_map.1 hl
    have := plan_len m raw (by omega) S i
    simp; omega) (fun x hx => by
    rw [hgm 0 (by omega)] at hx
    have := ((planF_ok m raw S).own x hx).2
    unfold inI; omega) (pcap := cap2) (HC2.out.keep0 O3.out) (by rw [← N2.out]; omega)
  have BP := Lib.hid BP0
  rw [← N2.out] at BP
  have NM := Lib.hid (number_any (w3.alloc (.cells #[.int .i64 cp] 3)) (.slice (some ⟨w3.heap.size, 0, none⟩) 1 1) [cp] 0 6 (ns_new (T := 3) (f := (0, 0)) [cp] (blk_alloc_new w3 _) rfl) (by omega) (by simp) (by omega))
  rw [← CC.out] at NM
  clear hm hP PL hnb hS hlm hgm BP0
  go_wp2_with fail
  refine NM.out.mono ?_; rintro e w4 ⟨rfl, o4⟩
  have O34 := Lib.hid (((Only.refl [] w3).alloc (.cells #[.int .i64 cp] 3)).then0 o4)
  have O4 := Lib.hid (O3.out.then0 O34.out)
  clear o4 NM
  have AW := Lib.hid (awake_any w4)
  go_wp2_with fail
  refine AW.out.mono ?_; rintro e wa ⟨rfl, oa⟩
  have OA := Lib.hid (O4.out.then0 oa)
  have PA := Lib.hid (BP.out wa ((O34.out).then0 oa)).1
  clear AW
  go_wp2_with fail
  refine PA.out.mono ?_; rintro e wb ⟨v1, rfl, hown1, ob⟩
  have V1 := Lib.hid (ops_owns hown1 rfl)
  obtain ⟨ao1', cp1', rfl, -⟩ := id V1.out
  have OB := Lib.hid (OA.out.then0 ob)
  have PB := Lib.hid (BP.out wb (((O34.out).then0 oa).then0 ob)).2
  clear oa hown1 PA
  go_wp2_with fail
  refine PB.out.mono ?_; rintro e wc ⟨v2, rfl, hown2, oc⟩
  have V2 := Lib.hid (ops_owns hown2 rfl)
  obtain ⟨ao2', cp2', rfl, -⟩ := id V2.out
  have SMM := Lib.hid (refSameOps_any wc _ _ ops (V1.out.keep oc) V2.out (by omega))
  have OC := Lib.hid (OB.out.then0 oc)
  clear ob oc hown2 PB
  go_wp2_with fail
  refine SMM.out.mono ?_; rintro e wd ⟨rfl, od⟩
  have OD := Lib.hid (OC.out.then0 od)
  clear od SMM
  go_wp2_with fail
  go_ret
  exact ⟨rfl, OD.out⟩

set_option maxRecDepth 100000 in
theorem HistoryPlays_any (w : World) (cp : Int) (planV : Value) (pl : List (List (Int × Int))) (hpl : PlanAt w planV pl) (hpb : pl.length ≤ 9223372036854775807) (hin : ∀ a, ∀ x ∈ pl.getD a [], inI x.1 ∧ inI x.2) (raw : List Int) (v1 : Value) (h1 : Ns w v1 raw) (w1 : ∀ z ∈ raw, (Lit.int .i64 z).wf = true) (l1 : raw.length ≤ 9223372036854775807) (picks : List Int) (v2 : Value) (h2 : Ns w v2 picks) (w2 : ∀ z ∈ picks, (Lit.int .i64 z).wf = true) (l2 : picks.length ≤ 9223372036854775807) (near : Bool) :
    Calls Tryz.prog 3 #[.int .i64 cp, planV, v1, v2, .bool near] w fun e w' => e = .returned (.bool true) ∧ Only [] w w' := by
  cases hsm : smallB pl with
  | true =>
    by_cases hs : raw.length ≤ 400 ∧ picks.length ≤ 400
    · cases near with
      | true => exact HistoryPlays_near w cp planV pl hpl hpb raw v1 h1 hs.1 picks v2 h2 hs.2 hsm
      | false => exact HistoryPlays_far w cp planV pl hpl hpb (fun x hx => (hin 0 x hx).2) raw v1 h1 hs.1 picks v2 h2 hs.2 hsm
    · have HPL := Lib.hid hpl
      obtain ⟨pao, pcp, rfl, -, -⟩ := hpl
      obtain ⟨ao1, cap1, rfl, -, -, -⟩ := h1
      obtain ⟨ao2, cap2, rfl, -, -, -⟩ := h2
      have SMA := Lib.hid (small_any w (.slice pao pl.length pcp) pl HPL.out hpb)
      rw [hsm] at SMA
      generalize raw.length = n1 at *
      generalize picks.length = n2 at *
      generalize pl.length = np at *
      have SH := fun w' => Lib.hid (short_any (w'.alloc (.cells #[.slice ao1 n1 cap1, .slice ao2 n2 cap2] 23)) none 0 0 (by omega) w'.heap.size 23 (0, 0) [(ao1, n1, cap1), (ao2, n2, cap2)] 2 rfl (by omega) (blk_alloc_new w' _) (by simp; omega))
      rw [show (decide (∀ x ∈ [(ao1, n1, cap1), (ao2, n2, cap2)], x.2.1 ≤ 400) && decide (0 ≤ 400)) = false from by simp; omega] at SH
      clear hs hin hsm
      go_enter Tryz.func3, Tryz.ntmps3
      go_wp2_with fail
      refine SMA.out.mono ?_; rintro e w1 ⟨rfl, o1⟩
      have O1 := Lib.hid o1
      clear o1 SMA
      go_wp2_with fail
      refine (SH w1).out.mono ?_; rintro e w2 ⟨rfl, rfl⟩
      clear SH
      go_wp2_with fail
      go_ret
      exact ⟨rfl, O1.out.alloc _⟩
  | false =>
    have HPL := Lib.hid hpl
    obtain ⟨pao, pcp, rfl, -, -⟩ := hpl
    obtain ⟨ao1, cap1, rfl, -, -, -⟩ := h1
    obtain ⟨ao2, cap2, rfl, -, -, -⟩ := h2
    have SMA := Lib.hid (small_any w (.slice pao pl.length pcp) pl HPL.out hpb)
    rw [hsm] at SMA
    clear hin hsm
    go_enter Tryz.func3, Tryz.ntmps3
    go_wp2_with fail
    refine SMA.out.mono ?_; rintro e w1 ⟨rfl, o1⟩
    have O1 := Lib.hid o1
    clear o1 SMA
    go_wp2_with fail
    go_ret
    exact ⟨rfl, O1.out⟩
end Go.Proofs.YtfhkhknnoepfeaaGreat
