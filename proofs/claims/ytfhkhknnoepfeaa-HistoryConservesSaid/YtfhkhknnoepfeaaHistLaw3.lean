/- Each value is taken at most as often as it was pushed, and all operations are performed: the law walked. -/
import Derived.Test.YtfhkhknnoepfeaaHistLaw1
namespace Go.Proofs.Ytfhkhknnoepfeaa
open Go.RowKit
set_option linter.unusedVariables false

/-- How often v is pushed, taken, in the first k operations. -/
def inC (l : List HOp) (v : Int) : Nat → Nat
  | 0 => 0
  | k + 1 => inC l v k + (if (l.getD k HOp.zero).pushes v then 1 else 0)
def outC (l : List HOp) (v : Int) : Nat → Nat
  | 0 => 0
  | k + 1 => outC l v k + (if (l.getD k HOp.zero).takes v then 1 else 0)
theorem inC_eq (l : List HOp) (v : Int) : ∀ k, inC l v k = (List.range k).countP (fun j => (l.getD j HOp.zero).pushes v)
  | 0 => rfl
  | k + 1 => by rw [inC, inC_eq l v k, List.range_succ, List.countP_append, List.countP_singleton]
theorem outC_eq (l : List HOp) (v : Int) : ∀ k, outC l v k = (List.range k).countP (fun j => (l.getD j HOp.zero).takes v)
  | 0 => rfl
  | k + 1 => by rw [outC, outC_eq l v k, List.range_succ, List.countP_append, List.countP_singleton]
theorem inC_le (l : List HOp) (v : Int) : ∀ k, inC l v k ≤ k
  | 0 => Nat.le_refl _
  | k + 1 => by have := inC_le l v k; rw [inC]; split <;> omega
theorem outC_le (l : List HOp) (v : Int) : ∀ k, outC l v k ≤ k
  | 0 => Nat.le_refl _
  | k + 1 => by have := outC_le l v k; rw [outC]; split <;> omega
theorem Played.conserves {c : Nat} {l : List HOp} {k : Nat} (h : Played c l k) (v : Int) : outC l v l.length ≤ inC l v l.length := by
  rw [inC_eq, outC_eq]
  exact ordr_supplied (fun i hi => h.formed _ (by rw [List.getD_eq_getElem?_getD, List.getElem?_eq_getElem hi]; exact List.getElem_mem hi)) (Orders.ordr HOp.zero h.orders h.formed) v

set_option maxRecDepth 100000 in
set_option maxHeartbeats 4000000 in
theorem HistoryConserves_small (w : World) (cp : Int) (raw : List Int) (v1 : Value) (h1 : Ns w v1 raw) (l1 : raw.length ≤ 400) (picks : List Int) (v2 : Value) (h2 : Ns w v2 picks) (l2 : picks.length ≤ 400) :
    Calls Try.prog 5 #[.int .i64 cp, v1, v2] w fun e w' => e = .returned (.bool true) ∧ Only [] w w' := by
  have H1 := Lib.hid h1
  have H2 := Lib.hid h2
  obtain ⟨ao1, cap1, rfl, -, -, -⟩ := h1
  obtain ⟨ao2, cap2, rfl, hc2, -, -⟩ := h2
  have HC2 := Lib.hid hc2
  obtain ⟨n1, hn1⟩ : ∃ n1, n1 = raw.length := ⟨_, rfl⟩
  obtain ⟨n2, hn2⟩ : ∃ n2, n2 = picks.length := ⟨_, rfl⟩
  obtain ⟨c, hc⟩ : ∃ c : Int, c = numZ [cp] 0 8 := ⟨_, rfl⟩
  have hcb := numZ_bd [cp] 0 (n := 8) (by omega)
  rw [← hc] at hcb
  have CC := Lib.hid hc
  rw [← hn1] at H1 l1 ⊢
  rw [← hn2] at H2 l2 ⊢
  have N1 := Lib.hid hn1
  have N2 := Lib.hid hn2
  have SH := Lib.hid (short_any (w.alloc (.cells #[.slice ao1 n1 cap1, .slice ao2 n2 cap2] 24)) none 0 0 (by omega) w.heap.size 24 (0, 0) [(ao1, n1, cap1), (ao2, n2, cap2)] 2 rfl (by omega) (blk_alloc_new w _) (by simp; omega))
  rw [show (decide (∀ x ∈ [(ao1, n1, cap1), (ao2, n2, cap2)], x.2.1 ≤ 400) && decide (0 ≤ 400)) = true from by simp; omega] at SH
  clear hc hn1 hn2 hc2
  go_enter Try.func5, Try.ntmps5
  go_wp2_with fail
  refine SH.out.mono ?_; rintro e w1 ⟨rfl, rfl⟩
  clear SH
  generalize hw1 : w.alloc (.cells #[.slice ao1 n1 cap1, .slice ao2 n2 cap2] 24) = w1
  have O1 : Hid (Only [] w w1) := Lib.hid (by rw [← hw1]; exact (Only.refl _ _).alloc _)
  clear hw1
  have NM := Lib.hid (number_any (w1.alloc (.cells #[.int .i64 cp] 3)) (.slice (some ⟨w1.heap.size, 0, none⟩) 1 1) [cp] 0 8 (ns_new (T := 3) (f := (0, 0)) [cp] (blk_alloc_new w1 _) rfl) (by omega) (by simp) (by omega))
  rw [← CC.out] at NM
  go_wp2_with fail
  refine NM.out.mono ?_; rintro e w2 ⟨rfl, o2⟩
  have O2 := Lib.hid ((O1.out.alloc (.cells #[.int .i64 cp] 3)).then0 o2)
  clear o2 NM
  have PL := Lib.hid (plan_any w2 (.slice ao1 n1 cap1) raw 60 (by have := H1.out.keep O2.out; exact this) (by rw [← N1.out]; omega) (by omega))
  go_wp2_with fail
  refine PL.out.mono ?_; rintro e w3 ⟨m, ob, B, vs, hm, rfl, hP⟩
  have hnb := numZ_bd raw 0 (n := 3) (by omega)
  have hm2 : 2 ≤ m ∧ m ≤ 4 := by omega
  obtain ⟨S, hS⟩ : ∃ S, S = min (raw.length - 1) 60 := ⟨_, rfl⟩
  rw [← hS] at hP
  have P := Lib.hid hP
  have O3 := Lib.hid (O2.out.then0 hP.F)
  have hS10 : S ≤ 60 := by omega
  have PY := fun w' (o : Only [] w3 w') => Lib.hid (planPlay_any (hP.keep o) (1 + c) ao2 cap2 picks (HC2.out.keep0 (O3.out.then0 o)) (by omega) (by omega) (by omega) (by rw [← N2.out]; omega))
  have PD := Lib.hid (planOps_spec (1 + c) m raw S picks (by omega) (by omega) (by rw [← N2.out]; omega))
  rw [← N2.out] at PY
  obtain ⟨ops, hops⟩ : ∃ ops, ops = planOps (1 + c) m raw S picks := ⟨_, rfl⟩
  rw [← hops] at PY PD
  obtain ⟨LN, hLN⟩ : ∃ LN : Nat → Nat, LN = fun i => (planF m raw S i).length := ⟨_, rfl⟩
  have SUM : Hid (sumL LN m = S) := Lib.hid (by rw [hLN]; exact planF_sum m raw (by omega) S)
  have LNi : Hid (∀ i, (planF m raw S i).length = LN i) := Lib.hid (fun i => by rw [hLN])
  have LNb : Hid (∀ i, i ≤ m → sumL LN i ≤ S) := Lib.hid (fun i hi => by rw [← SUM.out]; exact sumL_mono m hi)
  clear hm hP PL hnb hS hops hLN
  go_wp2_with fail
  go_loopw [8, 9] (fun nv iv wr => ∃ i : Nat, i ≤ m ∧ iv = .int .i64 i ∧ nv = .int .i64 (sumL LN i : Nat) ∧ Only [] w3 wr) (fun _ iv _ => m - (intOf iv).toNat)
  case atStart => exact ⟨0, Nat.zero_le _, rfl, rfl, Only.refl _ _⟩
  case round =>
    obtain ⟨i, hi, rfl, rfl, hQ⟩ := hrel
    have Q := Lib.hid hQ
    clear hQ
    by_cases hlt : i < m
    · obtain ⟨va, vc, hv⟩ := owns_slice ((P.out.keep Q.out).V i hlt)
      have cc := (P.out.keep Q.out).cell hlt
      rw [hv, LNi.out] at cc
      obtain ⟨sn, hsn⟩ : ∃ sn, sn = sumL LN i := ⟨_, rfl⟩
      have b1 := LNb.out (i + 1) (by omega)
      rw [sumL, ← hsn] at b1
      have NXT : Hid (sumL LN (i + 1) = sn + LN i) := Lib.hid (by rw [sumL, ← hsn])
      rw [← hsn]
      obtain ⟨li, hli⟩ : ∃ li, li = LN i := ⟨_, rfl⟩
      rw [← hli] at cc b1 NXT
      clear hv hsn hli
      go_wp2_with fail
      go_roundw
      case rel => exact ⟨i + 1, by omega, by go_num, by rw [NXT.out]; go_num, Q.out⟩
      case measure => simp [intOf]; omega
    · obtain rfl : i = m := by omega
      rw [SUM.out]
      have PY2 := PY _ Q.out
      clear hlt PY
      go_wp2_with fail
      refine PY2.out.mono ?_; rintro e w4 ⟨ov, rfl, hown, o4⟩
      have OV := Lib.hid (ops_owns hown rfl)
      have O4 := Lib.hid (O3.out.then0 (Q.out.then0 o4))
      clear o4 hown PY2
      have AW := Lib.hid (awake_any w4)
      have CNS := Lib.hid (fun v => PD.out.conserves v)
      obtain ⟨oao, ocap, rfl, -, hat⟩ := id OV.out
      obtain ⟨n, hon⟩ : ∃ n, n = ops.length := ⟨_, rfl⟩
      have ON := Lib.hid hon
      have hSn : S = n := by rw [hon]; exact PD.out.len.symm
      rw [← hon] at hat OV CNS ⊢
      have AT := Lib.hid hat
      have SN := Lib.hid hSn
      rw [hSn] at hS10 ⊢
      clear hon hat hSn
      go_wp2_with fail
      refine AW.out.mono ?_; rintro e w5 ⟨rfl, o5⟩
      have O5 := Lib.hid (O4.out.then0 o5)
      have O45 := Lib.hid o5
      clear o5 AW
      go_wp2_with fail
      go_loopw [11] (fun vv wr => ∃ t : Nat, t ≤ 7 ∧ vv = .int .i64 ((t : Int) - 3) ∧ Only [] w5 wr) (fun vv _ => (4 - intOf vv).toNat)
      case atStart => exact ⟨0, Nat.zero_le _, rfl, Only.refl _ _⟩
      case round =>
        obtain ⟨t, ht, rfl, hR⟩ := hrel
        have R := Lib.hid hR
        clear hR
        by_cases htl : t < 7
        · obtain ⟨v, hv⟩ : ∃ v : Int, v = (t : Int) - 3 := ⟨_, rfl⟩
          have HV := Lib.hid hv
          have hvb : -3 ≤ v ∧ v < 4 := by omega
          rw [← hv]
          clear hv
          go_wp2_with fail
          obtain ⟨wo, hwo⟩ : ∃ wo, wo = wr := ⟨_, rfl⟩
          subst hwo
          go_loopw [12, 13, 14] (fun a b kv wr => ∃ k : Nat, k ≤ n ∧ kv = .int .i64 k ∧ a = .int .i64 (inC ops v k : Nat) ∧ b = .int .i64 (outC ops v k : Nat) ∧ Only [] wo wr) (fun _ _ kv _ => n - (intOf kv).toNat)
          case atStart => exact ⟨0, Nat.zero_le _, rfl, rfl, rfl, Only.refl _ _⟩
          case round =>
            obtain ⟨k, hk, rfl, rfl, rfl, hT⟩ := hrel
            have T := Lib.hid hT
            clear hT
            by_cases hlk : k < n
            · obtain ⟨b, off, rfl, hcs⟩ := AT.out (by omega)
              have ek := (hcs k hlk).keep ((O45.out.then0 R.out).then0 T.out) (by simp)
              obtain ⟨C, hC⟩ : ∃ C, C = ops.getD k HOp.zero := ⟨_, rfl⟩
              have NI : Hid (inC ops v (k + 1) = inC ops v k + (if C.pushes v then 1 else 0)) := Lib.hid (by rw [hC]; rfl)
              have NO : Hid (outC ops v (k + 1) = outC ops v k + (if C.takes v then 1 else 0)) := Lib.hid (by rw [hC]; rfl)
              have bi := inC_le ops v k
              have bo := outC_le ops v k
              obtain ⟨x, hx⟩ : ∃ x, x = inC ops v k := ⟨_, rfl⟩
              obtain ⟨y, hy⟩ : ∃ y, y = outC ops v k := ⟨_, rfl⟩
              rw [← hx] at NI bi ⊢
              rw [← hy] at NO bo ⊢
              rw [← hC] at ek
              obtain ⟨c0, c1, c2, c3, c4, c5⟩ := C
              unfold OpAt at ek
              obtain ⟨k0, k1, k2, k3, k4, k5⟩ := ek
              simp only at k0 k1 k2 k3 k4 k5
              clear hC hx hy hcs k1 k2 k3
              by_cases e0 : c0 = 0
              · subst e0
                by_cases e4 : c4 = 0
                · subst e4
                  by_cases e5 : c5 = v
                  · subst e5
                    have NI2 : Hid (inC ops c5 (k + 1) = x + 1) := Lib.hid (by rw [NI.out]; simp [HOp.pushes])
                    have NO2 : Hid (outC ops c5 (k + 1) = y) := Lib.hid (by rw [NO.out]; simp [HOp.takes])
                    go_wp2_with fail
                    go_roundw
                    case rel => exact ⟨k + 1, by omega, by go_num, by rw [NI2.out]; go_num, by rw [NO2.out], T.out⟩
                    case measure => simp [intOf]; omega
                  · have NI2 : Hid (inC ops v (k + 1) = x) := Lib.hid (by rw [NI.out]; simp [HOp.pushes, e5])
                    have NO2 : Hid (outC ops v (k + 1) = y) := Lib.hid (by rw [NO.out]; simp [HOp.takes])
                    have f5 : (c5 == v) = false := by simp [e5]
                    clear e5
                    go_wp2_with fail
                    go_roundw
                    case rel => exact ⟨k + 1, by omega, by go_num, by rw [NI2.out], by rw [NO2.out], T.out⟩
                    case measure => simp [intOf]; omega
                · have NI2 : Hid (inC ops v (k + 1) = x) := Lib.hid (by rw [NI.out]; simp [HOp.pushes, e4])
                  have NO2 : Hid (outC ops v (k + 1) = y) := Lib.hid (by rw [NO.out]; simp [HOp.takes])
                  have f4 : (c4 == 0) = false := by simp [e4]
                  clear e4
                  go_wp2_with fail
                  go_roundw
                  case rel => exact ⟨k + 1, by omega, by go_num, by rw [NI2.out], by rw [NO2.out], T.out⟩
                  case measure => simp [intOf]; omega
              · have f0 : (c0 == 0) = false := by simp [e0]
                have g0 : (c0 != 0) = true := by simp [e0]
                have NI2 : Hid (inC ops v (k + 1) = x) := Lib.hid (by rw [NI.out]; simp [HOp.pushes, e0])
                by_cases e4 : c4 = 1
                · subst e4
                  by_cases e5 : c5 = v
                  · subst e5
                    have NO2 : Hid (outC ops c5 (k + 1) = y + 1) := Lib.hid (by rw [NO.out]; simp [HOp.takes, e0])
                    clear e0
                    go_wp2_with fail
                    go_roundw
                    case rel => exact ⟨k + 1, by omega, by go_num, by rw [NI2.out], by rw [NO2.out]; go_num, T.out⟩
                    case measure => simp [intOf]; omega
                  · have NO2 : Hid (outC ops v (k + 1) = y) := Lib.hid (by rw [NO.out]; simp [HOp.takes, e5])
                    have f5 : (c5 == v) = false := by simp [e5]
                    clear e0 e5
                    go_wp2_with fail
                    go_roundw
                    case rel => exact ⟨k + 1, by omega, by go_num, by rw [NI2.out], by rw [NO2.out], T.out⟩
                    case measure => simp [intOf]; omega
                · have NO2 : Hid (outC ops v (k + 1) = y) := Lib.hid (by rw [NO.out]; simp [HOp.takes, e4])
                  have f4 : (c4 == 1) = false := by simp [e4]
                  clear e0 e4
                  go_wp2_with fail
                  go_roundw
                  case rel => exact ⟨k + 1, by omega, by go_num, by rw [NI2.out], by rw [NO2.out], T.out⟩
                  case measure => simp [intOf]; omega
            · obtain rfl : k = n := by omega
              have h1 : outC ops v k ≤ inC ops v k := CNS.out v
              have h2 := inC_le ops v k
              obtain ⟨x, hx⟩ : ∃ x, x = inC ops v k := ⟨_, rfl⟩
              obtain ⟨y, hy⟩ : ∃ y, y = outC ops v k := ⟨_, rfl⟩
              rw [← hx] at h1 h2 ⊢
              rw [← hy] at h1 ⊢
              have RT := Lib.hid (R.out.then0 T.out)
              clear hx hy hlk
              go_wp2_with fail
              go_roundw
              case rel => exact ⟨t + 1, by omega, by have := HV.out; go_num, RT.out⟩
              case measure => have := HV.out; simp [intOf]; omega
        · obtain rfl : t = 7 := by omega
          clear htl
          go_wp2_with fail
          go_ret
          exact ⟨rfl, O5.out.then0 R.out⟩

set_option maxRecDepth 100000 in
theorem HistoryConserves_any (w : World) (cp : Int) (raw : List Int) (v1 : Value) (h1 : Ns w v1 raw) (w1 : ∀ z ∈ raw, (Lit.int .i64 z).wf = true) (l1 : raw.length ≤ 9223372036854775807) (picks : List Int) (v2 : Value) (h2 : Ns w v2 picks) (w2 : ∀ z ∈ picks, (Lit.int .i64 z).wf = true) (l2 : picks.length ≤ 9223372036854775807) :
    Calls Try.prog 5 #[.int .i64 cp, v1, v2] w fun e w' => e = .returned (.bool true) ∧ Only [] w w' := by
  by_cases hs : raw.length ≤ 400 ∧ picks.length ≤ 400
  · exact HistoryConserves_small w cp raw v1 h1 hs.1 picks v2 h2 hs.2
  · obtain ⟨ao1, cap1, rfl, -, -, -⟩ := h1
    obtain ⟨ao2, cap2, rfl, -, -, -⟩ := h2
    generalize raw.length = n1 at *
    generalize picks.length = n2 at *
    have SH := Lib.hid (short_any (w.alloc (.cells #[.slice ao1 n1 cap1, .slice ao2 n2 cap2] 24)) none 0 0 (by omega) w.heap.size 24 (0, 0) [(ao1, n1, cap1), (ao2, n2, cap2)] 2 rfl (by omega) (blk_alloc_new w _) (by simp; omega))
    rw [show (decide (∀ x ∈ [(ao1, n1, cap1), (ao2, n2, cap2)], x.2.1 ≤ 400) && decide (0 ≤ 400)) = false from by simp; omega] at SH
    clear hs
    go_enter Try.func5, Try.ntmps5
    go_wp2_with fail
    refine SH.out.mono ?_; rintro e w1 ⟨rfl, rfl⟩
    clear SH
    go_wp2_with fail
    go_ret
    exact ⟨rfl, (Only.refl _ _).alloc _⟩
end Go.Proofs.Ytfhkhknnoepfeaa
