/- Sorting words: parting off what equals the pivot (printed by gen_sort4.py). -/
import Derived.Test.YtenamlckhcfflaaSortU4
import Derived.Sort.LotC
import Derived.Deep.CutBlock
namespace Go.Proofs.Ytenamlckhcfflaa
open Go.RowKit Go.Sort
set_option linter.unusedVariables false

/-- What parting off comes to. -/
def PartEqEnd (b : Nat) (w : World) (r : Nat × Array Int) (e : Ending) (w' : World) : Prop := e = .returned (.int .i64 r.1) ∧ Only [b] w w' ∧ Rw w' b r.2

theorem peloop_done {d : Array Int} {a i j i2 j2 : Nat} (hi : scanUp (fun x => !ltInt d[a]! x) d j i = i2) (hj : scanDown (fun x => ltInt d[a]! x) d i2 j = j2) (h : j2 < i2) : partEqLoop ltInt a i j d = (i2, d) := by
  rw [partEqLoop_eq]
  simp only [hi, hj, if_pos h]
theorem peloop_goes {d : Array Int} {a i j i2 j2 : Nat} (hi : scanUp (fun x => !ltInt d[a]! x) d j i = i2) (hj : scanDown (fun x => ltInt d[a]! x) d i2 j = j2) (h : ¬ j2 < i2) : partEqLoop ltInt a i j d = partEqLoop ltInt a (i2 + 1) (j2 - 1) (Sort.swp d i2 j2) := by
  conv => lhs; rw [partEqLoop_eq]
  simp only [hi, hj, gt_iff_lt, if_neg h]

set_option maxRecDepth 100000 in
set_option maxHeartbeats 4000000 in
theorem parteq_any (w : World) (b cap n a e piv : Nat) (d : Array Int) (h : Rw w b d) (hn : d.size = n) (he : e ≤ n) (hap : a ≤ piv) (hpe : piv < e) (hsz : n ≤ 4000000000000) :
    Calls Try.prog 32 #[.slice (some ⟨b, 0, none⟩) n cap, .int .i64 a, .int .i64 e, .int .i64 piv] w (PartEqEnd b w (Sort.partitionEqual ltInt d a e piv)) := by
  have HO := Lib.hid (Only.refl [b] w)
  have HR := Lib.hid h
  have HN := Lib.hid hn
  clear h hn
  go_enter Try.func32, Try.ntmps32
  go_upto_region 1 with fail
  go_cut [] (fun wx => Only [b] w wx ∧ Rw wx b (Sort.swp (d) (a) (piv)))
  case first =>
    by_cases hpq : a = piv
    · subst hpq
      obtain ⟨G, hG⟩ : ∃ G : Nat → Int, ∀ t, G t = (d)[t]! := ⟨fun t => (d)[t]!, fun _ => rfl⟩
      have c1 := HR.out.cell (a) (by rw [HN.out]; omega)
      have f1 := HR.out.free (a)
      have SW := Lib.hid (HR.out.swp (i := a) (j := a) (by rw [HN.out]; omega) (by rw [HN.out]; omega))
      rw [← hG] at SW
      rw [← hG] at c1
      clear hG
      go_region
      go_wp2_with fail
      go_meet
      exact ⟨(HO.out.trans (only_swp w b (a) (a) _ _) (by simp)).drew, SW.out⟩
    · have hqp : ¬ piv = a := fun e => hpq e.symm
      obtain ⟨G, hG⟩ : ∃ G : Nat → Int, ∀ t, G t = (d)[t]! := ⟨fun t => (d)[t]!, fun _ => rfl⟩
      have c1 := HR.out.cell (a) (by rw [HN.out]; omega)
      have f1 := HR.out.free (a)
      have c2 := HR.out.cell (piv) (by rw [HN.out]; omega)
      have f2 := HR.out.free (piv)
      have SW := Lib.hid (HR.out.swp (i := a) (j := piv) (by rw [HN.out]; omega) (by rw [HN.out]; omega))
      rw [← hG, ← hG] at SW
      rw [← hG] at c1 c2
      clear hG
      go_region
      go_wp2_with fail
      go_meet
      exact ⟨(HO.out.trans (only_swp w b (a) (piv) _ _) (by simp)).drew, SW.out⟩
  case rest =>
    obtain ⟨hO, hR⟩ := hcut
    have HO1 := Lib.hid hO
    have HR1 := Lib.hid hR
    obtain ⟨D, hD⟩ : ∃ D, D = Sort.swp d a piv := ⟨_, rfl⟩
    rw [← hD] at HR1
    have HK := Lib.hid (show D.size = n by rw [hD, size_swp]; exact HN.out)
    obtain ⟨e1, he1⟩ : ∃ e1, e1 = e - 1 := ⟨_, rfl⟩
    have hee : (e : Int) - 1 = (e1 : Int) := by omega
    have hle : e1 < n := by omega
    have hae : a ≤ e1 := by omega
    have HE : Hid (Sort.partitionEqual ltInt d a e piv = partEqLoop ltInt a (a + 1) e1 D) := Lib.hid (by unfold Sort.partitionEqual; rw [hD, he1])
    clear hO hR hD he1
    go_wp2_with fail
    go_loopw [9, 10] (fun vi vj wr => ∃ (i j : Nat) (dk : Array Int), vi = .int .i64 i ∧ vj = .int .i64 j ∧ a < i ∧ i ≤ n ∧ j < n ∧ dk.size = n ∧ Only [b] w wr ∧ Rw wr b dk ∧ partEqLoop ltInt a i j dk = partEqLoop ltInt a (a + 1) e1 D) (fun i j _ => (intOf j).toNat + 1 - (intOf i).toNat)
    case atStart => exact ⟨a + 1, e1, D, by go_num, rfl, by omega, by omega, by omega, HK.out, HO1.out, HR1.out, rfl⟩
    case round =>
      obtain ⟨i, j, dk, rfl, rfl, hai, hin, hjn, hk, hO, hR, hP⟩ := hrel
      have HO6 := Lib.hid hO
      have HR6 := Lib.hid hR
      have HP := Lib.hid hP
      have HKK := Lib.hid hk
      clear hO hR hP hk
      go_upto_block 2 with fail
      go_cut [9] (fun sx wx => ∃ k : Nat, sx = .int .i64 k ∧ scanUp (fun x => !ltInt (dk)[a]! x) (dk) j i = k ∧ i ≤ k ∧ k ≤ n ∧ Only [b] w wx ∧ Rw wx b (dk))
      case first =>
        go_wp2_with fail
        go_loopw [9] (fun vi wr2 => ∃ k : Nat, vi = .int .i64 k ∧ i ≤ k ∧ k ≤ n ∧ Only [b] w wr2 ∧ Rw wr2 b (dk) ∧ scanUp (fun x => !ltInt (dk)[a]! x) (dk) j k = scanUp (fun x => !ltInt (dk)[a]! x) (dk) j i) (fun i _ => n + 1 - (intOf i).toNat)
        case atStart => exact ⟨i, by go_num, by omega, by omega, HO6.out, HR6.out, rfl⟩
        case round =>
          obtain ⟨k, rfl, hik, hkn, hO, hR, hS⟩ := hrel
          have HO7 := Lib.hid hO
          have HR7 := Lib.hid hR
          have HS7 := Lib.hid hS
          obtain ⟨G, hG⟩ : ∃ G : Nat → Int, ∀ t, G t = (dk)[t]! := ⟨fun t => (dk)[t]!, fun _ => rfl⟩
          have HG := Lib.hid hG
          clear hO hR hS
          by_cases hkj : k ≤ j
          · have c1 := HR7.out.cell k (by rw [HKK.out]; omega)
            have c2 := HR7.out.cell a (by rw [HKK.out]; omega)
            rw [← hG] at c1 c2
            clear hG
            go_wp2_with fail
            go_quiet ((go_at_call 31; exact Calls.quiet_of_same (less_any _ _ _)))
            have oq : Only [] wr (wr.drewN nq) := (Only.refl [] wr).drewN nq
            generalize hwq : wr.drewN nq = wq at oq ⊢
            have HO8 := Lib.hid (HO7.out.then0 oq)
            have HR8 := Lib.hid (HR7.out.keep oq (by simp))
            clear oq hwq c1 c2
            cases hl : ltInt (G a) (G k)
            · have HL := Lib.hid hl
              clear hl
              go_wp2_with fail
              go_roundw
              case rel => exact ⟨k + 1, by go_num, by omega, by omega, HO8.out, HR8.out, by rw [← HS7.out, scanUp_go hkj (by rw [← HG.out, ← HG.out, HL.out]; rfl)]⟩
              case measure => simp [intOf] <;> omega
            · have HL := Lib.hid hl
              clear hl
              go_wp2_with fail
              go_meet
              exact ⟨k, rfl, by rw [← HS7.out, scanUp_stop (.inr (by rw [← HG.out, ← HG.out, HL.out]; rfl))], by omega, by omega, HO8.out, HR8.out⟩
          · clear hG
            go_wp2_with fail
            go_quiet (fail)
            have oq : Only [] wr (wr.drewN nq) := (Only.refl [] wr).drewN nq
            generalize hwq : wr.drewN nq = wq at oq ⊢
            have HO8 := Lib.hid (HO7.out.then0 oq)
            have HR8 := Lib.hid (HR7.out.keep oq (by simp))
            clear oq hwq
            go_wp2_with fail
            go_meet
            exact ⟨k, rfl, by rw [← HS7.out, scanUp_stop (.inl (by omega))], by omega, by omega, HO8.out, HR8.out⟩
      case rest =>
        obtain ⟨i3, rfl, hi3, bi31, bi32, hO, hR⟩ := hcut
        have HO9 := Lib.hid hO
        have HR9 := Lib.hid hR
        have Hi3 := Lib.hid hi3
        clear hO hR hi3
        go_upto_block 4 with fail
        go_cut [10] (fun sx wx => ∃ k : Nat, sx = .int .i64 k ∧ scanDown (fun x => ltInt (dk)[a]! x) (dk) i3 j = k ∧ k ≤ j ∧ k < n ∧ Only [b] w wx ∧ Rw wx b (dk))
        case first =>
          go_wp2_with fail
          go_loopw [10] (fun vi wr2 => ∃ k : Nat, vi = .int .i64 k ∧ k ≤ j ∧ k < n ∧ Only [b] w wr2 ∧ Rw wr2 b (dk) ∧ scanDown (fun x => ltInt (dk)[a]! x) (dk) i3 k = scanDown (fun x => ltInt (dk)[a]! x) (dk) i3 j) (fun i _ => (intOf i).toNat)
          case atStart => exact ⟨j, by go_num, by omega, by omega, HO9.out, HR9.out, rfl⟩
          case round =>
            obtain ⟨k, rfl, hik, hkn, hO, hR, hS⟩ := hrel
            have HO7 := Lib.hid hO
            have HR7 := Lib.hid hR
            have HS7 := Lib.hid hS
            obtain ⟨G, hG⟩ : ∃ G : Nat → Int, ∀ t, G t = (dk)[t]! := ⟨fun t => (dk)[t]!, fun _ => rfl⟩
            have HG := Lib.hid hG
            clear hO hR hS
            by_cases hkj : i3 ≤ k
            · have c1 := HR7.out.cell k (by rw [HKK.out]; omega)
              have c2 := HR7.out.cell a (by rw [HKK.out]; omega)
              rw [← hG] at c1 c2
              clear hG
              go_wp2_with fail
              go_quiet ((go_at_call 31; exact Calls.quiet_of_same (less_any _ _ _)))
              have oq : Only [] wr (wr.drewN nq) := (Only.refl [] wr).drewN nq
              generalize hwq : wr.drewN nq = wq at oq ⊢
              have HO8 := Lib.hid (HO7.out.then0 oq)
              have HR8 := Lib.hid (HR7.out.keep oq (by simp))
              clear oq hwq c1 c2
              cases hl : ltInt (G a) (G k)
              · have HL := Lib.hid hl
                clear hl
                go_wp2_with fail
                go_meet
                exact ⟨k, rfl, by rw [← HS7.out, scanDown_stop (.inr (by rw [← HG.out, ← HG.out, HL.out]))], by omega, by omega, HO8.out, HR8.out⟩
              · have HL := Lib.hid hl
                clear hl
                go_wp2_with fail
                go_roundw
                case rel => exact ⟨k - 1, by go_num, by omega, by omega, HO8.out, HR8.out, by rw [← HS7.out, scanDown_go (by omega) hkj (by rw [← HG.out, ← HG.out, HL.out])]⟩
                case measure => simp [intOf] <;> omega
            · clear hG
              go_wp2_with fail
              go_quiet (fail)
              have oq : Only [] wr (wr.drewN nq) := (Only.refl [] wr).drewN nq
              generalize hwq : wr.drewN nq = wq at oq ⊢
              have HO8 := Lib.hid (HO7.out.then0 oq)
              have HR8 := Lib.hid (HR7.out.keep oq (by simp))
              clear oq hwq
              go_wp2_with fail
              go_meet
              exact ⟨k, rfl, by rw [← HS7.out, scanDown_stop (.inl (by omega))], by omega, by omega, HO8.out, HR8.out⟩
        case rest =>
          obtain ⟨j3, rfl, hj3, bj31, bj32, hO, hR⟩ := hcut
          have HO10 := Lib.hid hO
          have HR10 := Lib.hid hR
          have Hj3 := Lib.hid hj3
          clear hO hR hj3
          by_cases hji3 : j3 < i3
          · go_wp2_with fail
            go_ret
            have E := peloop_done (i2 := i3) (j2 := j3) Hi3.out Hj3.out hji3
            unfold PartEqEnd
            rw [HE.out, ← HP.out, E]
            exact ⟨rfl, HO10.out, HR10.out⟩
          · go_upto_region 8 with fail
            go_cut [] (fun wx => Only [b] w wx ∧ Rw wx b (Sort.swp (dk) (i3) (j3)))
            case first =>
              by_cases hpq : i3 = j3
              · subst hpq
                obtain ⟨G, hG⟩ : ∃ G : Nat → Int, ∀ t, G t = (dk)[t]! := ⟨fun t => (dk)[t]!, fun _ => rfl⟩
                have c1 := HR10.out.cell (i3) (by rw [HKK.out]; omega)
                have f1 := HR10.out.free (i3)
                have SW := Lib.hid (HR10.out.swp (i := i3) (j := i3) (by rw [HKK.out]; omega) (by rw [HKK.out]; omega))
                rw [← hG] at SW
                rw [← hG] at c1
                clear hG
                go_region
                go_wp2_with fail
                go_meet
                exact ⟨(HO10.out.trans (only_swp wc b (i3) (i3) _ _) (by simp)).drew, SW.out⟩
              · have hqp : ¬ j3 = i3 := fun e => hpq e.symm
                obtain ⟨G, hG⟩ : ∃ G : Nat → Int, ∀ t, G t = (dk)[t]! := ⟨fun t => (dk)[t]!, fun _ => rfl⟩
                have c1 := HR10.out.cell (i3) (by rw [HKK.out]; omega)
                have f1 := HR10.out.free (i3)
                have c2 := HR10.out.cell (j3) (by rw [HKK.out]; omega)
                have f2 := HR10.out.free (j3)
                have SW := Lib.hid (HR10.out.swp (i := i3) (j := j3) (by rw [HKK.out]; omega) (by rw [HKK.out]; omega))
                rw [← hG, ← hG] at SW
                rw [← hG] at c1 c2
                clear hG
                go_region
                go_wp2_with fail
                go_meet
                exact ⟨(HO10.out.trans (only_swp wc b (i3) (j3) _ _) (by simp)).drew, SW.out⟩
            case rest =>
              obtain ⟨hO, hR⟩ := hcut
              have HO11 := Lib.hid hO
              have HR11 := Lib.hid hR
              clear hO hR
              go_wp2_with fail
              go_roundw
              case rel => exact ⟨i3 + 1, j3 - 1, _, by go_num, by go_num, by omega, by omega, by omega, by rw [size_swp]; exact HKK.out, HO11.out, HR11.out, by rw [← HP.out, peloop_goes (i2 := i3) (j2 := j3) Hi3.out Hj3.out hji3]⟩
              case measure => simp [intOf] <;> omega
end Go.Proofs.Ytenamlckhcfflaa
