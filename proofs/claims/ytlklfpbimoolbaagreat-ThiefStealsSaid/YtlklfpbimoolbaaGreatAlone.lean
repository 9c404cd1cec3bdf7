/- A machine that runs alone, walked. -/
import Derived.Test.YtlklfpbimoolbaaGreatMachNew
import Derived.Test.YtlklfpbimoolbaaGreatBare
namespace Go.Proofs.YtlklfpbimoolbaaGreat
open Go.RowKit
set_option linter.unusedVariables false

/-- What Alone comes to: r = (code, value, steps, memory). -/
def AlonePost (p en m bc ck : Nat) (now : Int) (r : Int × Int × Nat × MS) (w : World) (e : Ending) (w' : World) : Prop :=
  e = .returned (.tuple #[.int .i64 r.1, .int .i64 r.2.1, .int .i64 r.2.2.1]) ∧ Only [p, m, bc] w w' ∧ EnvAt w' en m bc ck r.2.2.2 now

/-- Machines that have begun and are not done have neither code nor value. -/
theorem alone_snoc {n : Nat} {k : K} {s : MS} (ho : (stepK k s).1.over = false) : alone (n + 1) k s = ((alone n (stepK k s).1 (stepK k s).2).1, (alone n (stepK k s).1 (stepK k s).2).2.1, (alone n (stepK k s).1 (stepK k s).2).2.2.1 + 1, (alone n (stepK k s).1 (stepK k s).2).2.2.2) := by
  rw [alone, ho]; simp

theorem EnvAt.step {w w' : World} {p en m bc ck : Nat} {s s' : MS} {now : Int} (h : EnvAt w en m bc ck s now) (hA : Apart p en m bc) (hk : ck ≠ p) (o : Only [p, m, bc] w w') (hM : MemAt w' m bc s') : EnvAt w' en m bc ck s' now :=
  ⟨o.keep h.e (by have := hA.ep; have := hA.em; have := hA.ec; simp; omega), o.keep h.c (by have := h.km; have := h.kc; simp; omega), hM, h.em, h.ec, h.ek, h.km, h.kc⟩

set_option maxRecDepth 100000 in
set_option maxHeartbeats 1000000 in
theorem alone_any (w : World) (p en m bc ck : Nat) (k : K) (s : MS) (now : Int) (most : Nat) (hm : most ≤ 1000) (hkd : k.kind ≤ 4) (ho : k.over = false) (hok : k.ok) (hs : s.ok) (hE : EnvAt w en m bc ck s now) (hA : Apart p en m bc) (hck : ck ≠ p)
    (hP : w.heap[p]? = some (machO k)) (hn : s.count ≤ 3000000000000000000) :
    Calls Tryz.prog 42 #[.pointer (some ⟨en, 0, none⟩), ifc k.kind p, .int .i64 most] w (AlonePost p en m bc ck now (alone most k s) w) := by
  obtain ⟨kd, hkd2⟩ : ∃ kd, kd = k.kind := ⟨_, rfl⟩
  rw [← hkd2]
  have n1 := ifc_nil kd p
  have n2 := step_ahead kd p
  have n3 := step_method kd p
  have n4 := result_ahead kd p
  have n5 := result_method kd p
  have n6 := step_enter kd
  obtain ⟨T, hT⟩ : ∃ T, T = machT kd := ⟨_, rfl⟩
  obtain ⟨F, hF⟩ : ∃ F, F = machS kd := ⟨_, rfl⟩
  unfold ifc at n1 ⊢
  rw [← hT] at n1 n2 n3 n4 n5 ⊢
  rw [← hF] at n3 n6
  have HF := Lib.hid (hF.trans (by rw [hkd2]))
  have HA := Lib.hid hA
  obtain ⟨R, hR⟩ : ∃ R, R = alone most k s := ⟨_, rfl⟩
  rw [← hR]
  have HR := Lib.hid hR
  have H0 := Lib.hid (And.intro (And.intro hE hP) (And.intro ho (And.intro hok hs)))
  have HKD := Lib.hid hkd2
  clear hF hkd2 hT hA hE hP ho hok hs hR
  go_enter Tryz.func42, Tryz.ntmps42
  go_wp2_with fail
  go_loopw [6, 7, 8] (fun c v i wr => c = .int .i64 0 ∧ v = .int .i64 0 ∧ ∃ (j : Nat) (k' : K) (s' : MS), j ≤ most ∧ i = .int .i64 j ∧ k'.kind = kd ∧ k'.over = false ∧ k'.ok ∧ s'.ok ∧ s'.count ≤ s.count + j ∧ EnvAt wr en m bc ck s' now ∧ wr.heap[p]? = some (machO k') ∧ Only [p, m, bc] w wr ∧
      R = ((alone (most - j) k' s').1, (alone (most - j) k' s').2.1, (alone (most - j) k' s').2.2.1 + j, (alone (most - j) k' s').2.2.2)) (fun _ _ i _ => most - (intOf i).toNat)
  case atStart =>
    have h := H0.out
    exact ⟨rfl, rfl, 0, k, s, Nat.zero_le _, rfl, HKD.out.symm, h.2.1, h.2.2.1, h.2.2.2, by omega, h.1.1, h.1.2, Only.refl _ _, HR.out⟩
  case round =>
    obtain ⟨rfl, rfl, j, k', s', hj, rfl, hkk, hko, hkok, hsok, hcnt, hE', hP', hO', hRR⟩ := hrel
    have RR := Lib.hid hRR
    have HK := Lib.hid hkk
    by_cases hlt : j < most
    · have e22 := hE'.mem
      have ST := Lib.hid (mach_step wr p en m bc k' s' (by rw [hkk, HKD.out]; exact hkd) (fun _ => hkok) HA.out e22 hP' hE'.mm (by omega))
      rw [show machS k'.kind = F from by rw [hkk, HF.out, HKD.out]] at ST
      have E' := Lib.hid hE'
      have O' := Lib.hid hO'
      have SOK := Lib.hid (stepK_mok hsok hkok)
      have KOK := Lib.hid (fun h => stepK_ok hsok hkok h)
      have CNT := Lib.hid (stepK_count k' s')
      clear hRR hkk e22 hE' hP' hO' hsok hkok
      go_wp2_with fail
      refine ST.out.mono ?_; rintro e w1 ⟨rfl, o1, h1, m1⟩
      have E1 := Lib.hid (E'.out.step HA.out hck o1 m1)
      have O1 := Lib.hid (O'.out.trans o1 (by simp))
      have P1 := Lib.hid h1
      obtain ⟨c0, c1, c2⟩ := mach_cells h1
      clear h1 o1 m1
      obtain ⟨ov, hov⟩ : ∃ ov, ov = (stepK k' s').1.over := ⟨_, rfl⟩
      rw [← hov] at c0 ⊢
      have HOV := Lib.hid hov
      have ALD := Lib.hid (fun h => alone_done (n := most - j - 1) (k := k') (s := s') (k' := (stepK k' s').1) (s' := (stepK k' s').2) rfl h)
      have ALM := Lib.hid (fun h => alone_snoc (n := most - j - 1) (k := k') (s := s') h)
      have SAME := Lib.hid (stepK_same k' s').1
      obtain ⟨ks, hks⟩ : ∃ ks, ks = stepK k' s' := ⟨_, rfl⟩
      rw [← hks] at c1 c2
      have HKS := Lib.hid hks
      have hmj : most - j = most - j - 1 + 1 := by omega
      have HMJ := Lib.hid hmj
      clear hov hks hmj
      cases ov with
      | true =>
        have RA := fun w => Lib.hid (fun h1 h2 => result_any w p ks.1.code ks.1.val h1 h2)
        go_wp2_with fail
        refine (RA _).out c1 c2 |>.mono ?_; rintro e w2 ⟨rfl, o2⟩
        have E2 := Lib.hid (E1.out.keep0 o2)
        have O2 := Lib.hid (O1.out.then0 o2)
        clear o2
        go_wp2_with fail
        go_ret3
        have hR2 : R = (ks.1.code, ks.1.val, 1 + j, ks.2) := by
          rw [RR.out, HMJ.out, ALD.out HOV.out.symm, HKS.out]
        refine ⟨by rw [hR2]; simp; omega, O2.out, ?_⟩
        rw [hR2]
        show EnvAt w2 en m bc ck ks.2 now
        rw [HKS.out]
        exact E2.out
      | false =>
        go_wp2_with fail
        go_roundw
        case rel =>
          refine ⟨rfl, rfl, j + 1, (stepK k' s').1, (stepK k' s').2, by omega, by go_num, SAME.out.trans HK.out, HOV.out.symm, KOK.out HOV.out.symm, SOK.out, by have := CNT.out.2; omega, E1.out, P1.out, O1.out, ?_⟩
          rw [RR.out, HMJ.out, ALM.out HOV.out.symm]
          rw [show most - j - 1 = most - (j + 1) from by omega]
          simp
          omega
        case measure => simp [intOf]; omega
    · obtain rfl : j = most := by omega
      have E' := Lib.hid hE'
      have O' := Lib.hid hO'
      clear hRR hkk hE' hP' hO' hsok hkok
      go_wp2_with fail
      go_ret3
      have hR2 : R = (-1, 0, j, s') := by rw [RR.out, Nat.sub_self]; simp [alone]
      refine ⟨by rw [hR2]; rfl, O'.out, ?_⟩
      rw [hR2]
      exact E'.out
end Go.Proofs.YtlklfpbimoolbaaGreat
