/- Sorting words: parting a range (printed by gen_sort4.py). -/
import Derived.Test.YtenamlckhcfflaaSortU4
import Derived.Sort.LotC
import Derived.Deep.CutBlock
namespace Go.Proofs.Ytenamlckhcfflaa
open Go.RowKit Go.Sort
set_option linter.unusedVariables false

/-- What parting comes to. -/
def PartEnd (b : Nat) (w : World) (r : Nat × Bool × Array Int) (e : Ending) (w' : World) : Prop := e = .returned (.tuple #[.int .i64 r.1, .bool r.2.1]) ∧ Only [b] w w' ∧ Rw w' b r.2.2

theorem part_done {d : Array Int} {a e piv i j : Nat} (hi : scanUp (fun x => ltInt x (Sort.swp d a piv)[a]!) (Sort.swp d a piv) (e - 1) (a + 1) = i) (hj : scanDown (fun x => !ltInt x (Sort.swp d a piv)[a]!) (Sort.swp d a piv) i (e - 1) = j) (h : j < i) :
    Sort.partition ltInt d a e piv = (j, true, Sort.swp (Sort.swp d a piv) j a) := by
  unfold Sort.partition
  simp only [hi, hj, if_pos h]
theorem part_goes {d : Array Int} {a e piv i j : Nat} (hi : scanUp (fun x => ltInt x (Sort.swp d a piv)[a]!) (Sort.swp d a piv) (e - 1) (a + 1) = i) (hj : scanDown (fun x => !ltInt x (Sort.swp d a piv)[a]!) (Sort.swp d a piv) i (e - 1) = j) (h : ¬ j < i) :
    Sort.partition ltInt d a e piv = ((partLoop ltInt a (i + 1) (j - 1) (Sort.swp (Sort.swp d a piv) i j)).1, false, Sort.swp (partLoop ltInt a (i + 1) (j - 1) (Sort.swp (Sort.swp d a piv) i j)).2 (partLoop ltInt a (i + 1) (j - 1) (Sort.swp (Sort.swp d a piv) i j)).1 a) := by
  unfold Sort.partition
  simp only [hi, hj, if_neg h]
theorem ploop_done {d : Array Int} {a i j i2 j2 : Nat} (hi : scanUp (fun x => ltInt x d[a]!) d j i = i2) (hj : scanDown (fun x => !ltInt x d[a]!) d i2 j = j2) (h : j2 < i2) : partLoop ltInt a i j d = (j2, d) := by
  rw [partLoop_eq]
  simp only [hi, hj, if_pos h]
theorem ploop_goes {d : Array Int} {a i j i2 j2 : Nat} (hi : scanUp (fun x => ltInt x d[a]!) d j i = i2) (hj : scanDown (fun x => !ltInt x d[a]!) d i2 j = j2) (h : ¬ j2 < i2) : partLoop ltInt a i j d = partLoop ltInt a (i2 + 1) (j2 - 1) (Sort.swp d i2 j2) := by
  conv => lhs; rw [partLoop_eq]
  simp only [hi, hj, gt_iff_lt, if_neg h]

set_option maxRecDepth 100000 in
set_option maxHeartbeats 4000000 in
theorem part_any (w : World) (b cap n a e piv : Nat) (d : Array Int) (h : Rw w b d) (hn : d.size = n) (he : e ≤ n) (hap : a ≤ piv) (hpe : piv < e) (hsz : n ≤ 4000000000000) :
    Calls Try.prog 33 #[.slice (some ⟨b, 0, none⟩) n cap, .int .i64 a, .int .i64 e, .int .i64 piv] w (PartEnd b w (Sort.partition ltInt d a e piv)) := by
  have HO := Lib.hid (Only.refl [b] w)
  have HR := Lib.hid h
  have HN := Lib.hid hn
  clear h hn
  go_enter Try.func33, Try.ntmps33
  go_upto_region 1 with fail
  go_cut [] (fun wx => Only [b] w wx ∧ Rw wx b (Sort.swp (d) (a) (piv)))
  case first =>
    by_cases hpq : a = piv
    · subst hpq
      obtain ⟨G, hG⟩ : ∃ G : Nat → Int, ∀ t, G t = (d)[t]! := ⟨fun t => (d)[t]!, fun _ => rfl⟩
      have c1 := HR.out.cell (a) (by rw [HN.out]; omega)
      have f1 := HR.out.free (a)
      have SW := Lib.hid (HR.out.swp (i := a) (j := a) (by rw [HN.out]; omega) (by rw [HN.out]; omega))
      rw [← hG] at SW
      rw [← hG] at c1
      clear hG
      go_region
      go_wp2_with fail
      go_meet
      exact ⟨(HO.out.trans (only_swp w b (a) (a) _ _) (by simp)).drew, SW.out⟩
    · have hqp : ¬ piv = a := fun e => hpq e.symm
      obtain ⟨G, hG⟩ : ∃ G : Nat → Int, ∀ t, G t = (d)[t]! := ⟨fun t => (d)[t]!, fun _ => rfl⟩
      have c1 := HR.out.cell (a) (by rw [HN.out]; omega)
      have f1 := HR.out.free (a)
      have c2 := HR.out.cell (piv) (by rw [HN.out]; omega)
      have f2 := HR.out.free (piv)
      have SW := Lib.hid (HR.out.swp (i := a) (j := piv) (by rw [HN.out]; omega) (by rw [HN.out]; omega))
      rw [← hG, ← hG] at SW
      rw [← hG] at c1 c2
      clear hG
      go_region
      go_wp2_with fail
      go_meet
      exact ⟨(HO.out.trans (only_swp w b (a) (piv) _ _) (by simp)).drew, SW.out⟩
  case rest =>
    obtain ⟨hO, hR⟩ := hcut
    have HO1 := Lib.hid hO
    have HR1 := Lib.hid hR
    obtain ⟨D, hD⟩ : ∃ D, D = Sort.swp d a piv := ⟨_, rfl⟩
    rw [← hD] at HR1
    have HD := Lib.hid hD
    have HK := Lib.hid (show D.size = n by rw [hD, size_swp]; exact HN.out)
    clear hO hR hD
    obtain ⟨e1, he1⟩ : ∃ e1, e1 = e - 1 := ⟨_, rfl⟩
    have hee : (e : Int) - 1 = (e1 : Int) := by omega
    have hle : e1 < n := by omega
    have hae : a ≤ e1 := by omega
    have HE1 := Lib.hid he1
    clear he1
    go_upto_block 0 with fail
    go_cut [10] (fun sx wx => ∃ k : Nat, sx = .int .i64 k ∧ scanUp (fun x => ltInt x (D)[a]!) (D) e1 (a + 1) = k ∧ (a + 1) ≤ k ∧ k ≤ n ∧ Only [b] w wx ∧ Rw wx b (D))
    case first =>
      go_wp2_with fail
      go_loopw [10] (fun vi wr2 => ∃ k : Nat, vi = .int .i64 k ∧ (a + 1) ≤ k ∧ k ≤ n ∧ Only [b] w wr2 ∧ Rw wr2 b (D) ∧ scanUp (fun x => ltInt x (D)[a]!) (D) e1 k = scanUp (fun x => ltInt x (D)[a]!) (D) e1 (a + 1)) (fun i _ => n + 1 - (intOf i).toNat)
      case atStart => exact ⟨(a + 1), by go_num, by omega, by omega, HO1.out, HR1.out, rfl⟩
      case round =>
        obtain ⟨k, rfl, hik, hkn, hO, hR, hS⟩ := hrel
        have HO7 := Lib.hid hO
        have HR7 := Lib.hid hR
        have HS7 := Lib.hid hS
        obtain ⟨G, hG⟩ : ∃ G : Nat → Int, ∀ t, G t = (D)[t]! := ⟨fun t => (D)[t]!, fun _ => rfl⟩
        have HG := Lib.hid hG
        clear hO hR hS
        by_cases hkj : k ≤ e1
        · have c1 := HR7.out.cell k (by rw [HK.out]; omega)
          have c2 := HR7.out.cell a (by rw [HK.out]; omega)
          rw [← hG] at c1 c2
          clear hG
          go_wp2_with fail
          go_quiet ((go_at_call 31; exact Calls.quiet_of_same (less_any _ _ _)))
          have oq : Only [] wr (wr.drewN nq) := (Only.refl [] wr).drewN nq
          generalize hwq : wr.drewN nq = wq at oq ⊢
          have HO8 := Lib.hid (HO7.out.then0 oq)
          have HR8 := Lib.hid (HR7.out.keep oq (by simp))
          clear oq hwq c1 c2
          cases hl : ltInt (G k) (G a)
          · have HL := Lib.hid hl
            clear hl
            go_wp2_with fail
            go_meet
            exact ⟨k, rfl, by rw [← HS7.out, scanUp_stop (.inr (by rw [← HG.out, ← HG.out, HL.out]))], by omega, by omega, HO8.out, HR8.out⟩
          · have HL := Lib.hid hl
            clear hl
            go_wp2_with fail
            go_roundw
            case rel => exact ⟨k + 1, by go_num, by omega, by omega, HO8.out, HR8.out, by rw [← HS7.out, scanUp_go hkj (by rw [← HG.out, ← HG.out, HL.out])]⟩
            case measure => simp [intOf] <;> omega
        · clear hG
          go_wp2_with fail
          go_quiet (fail)
          have oq : Only [] wr (wr.drewN nq) := (Only.refl [] wr).drewN nq
          generalize hwq : wr.drewN nq = wq at oq ⊢
          have HO8 := Lib.hid (HO7.out.then0 oq)
          have HR8 := Lib.hid (HR7.out.keep oq (by simp))
          clear oq hwq
          go_wp2_with fail
          go_meet
          exact ⟨k, rfl, by rw [← HS7.out, scanUp_stop (.inl (by omega))], by omega, by omega, HO8.out, HR8.out⟩
    case rest =>
      obtain ⟨i2, rfl, hi2, bi21, bi22, hO, hR⟩ := hcut
      have HO3 := Lib.hid hO
      have HR3 := Lib.hid hR
      have Hi2 := Lib.hid hi2
      clear hO hR hi2
      go_upto_block 2 with fail
      go_cut [11] (fun sx wx => ∃ k : Nat, sx = .int .i64 k ∧ scanDown (fun x => !ltInt x (D)[a]!) (D) i2 e1 = k ∧ k ≤ e1 ∧ k < n ∧ Only [b] w wx ∧ Rw wx b (D))
      case first =>
        go_wp2_with fail
        go_loopw [11] (fun vi wr2 => ∃ k : Nat, vi = .int .i64 k ∧ k ≤ e1 ∧ k < n ∧ Only [b] w wr2 ∧ Rw wr2 b (D) ∧ scanDown (fun x => !ltInt x (D)[a]!) (D) i2 k = scanDown (fun x => !ltInt x (D)[a]!) (D) i2 e1) (fun i _ => (intOf i).toNat)
        case atStart => exact ⟨e1, by go_num, by omega, by omega, HO3.out, HR3.out, rfl⟩
        case round =>
          obtain ⟨k, rfl, hik, hkn, hO, hR, hS⟩ := hrel
          have HO7 := Lib.hid hO
          have HR7 := Lib.hid hR
          have HS7 := Lib.hid hS
          obtain ⟨G, hG⟩ : ∃ G : Nat → Int, ∀ t, G t = (D)[t]! := ⟨fun t => (D)[t]!, fun _ => rfl⟩
          have HG := Lib.hid hG
          clear hO hR hS
          by_cases hkj : i2 ≤ k
          · have c1 := HR7.out.cell k (by rw [HK.out]; omega)
            have c2 := HR7.out.cell a (by rw [HK.out]; omega)
            rw [← hG] at c1 c2
            clear hG
            go_wp2_with fail
            go_quiet ((go_at_call 31; exact Calls.quiet_of_same (less_any _ _ _)))
            have oq : Only [] wr (wr.drewN nq) := (Only.refl [] wr).drewN nq
            generalize hwq : wr.drewN nq = wq at oq ⊢
            have HO8 := Lib.hid (HO7.out.then0 oq)
            have HR8 := Lib.hid (HR7.out.keep oq (by simp))
            clear oq hwq c1 c2
            cases hl : ltInt (G k) (G a)
            · have HL := Lib.hid hl
              clear hl
              go_wp2_with fail
              go_roundw
              case rel => exact ⟨k - 1, by go_num, by omega, by omega, HO8.out, HR8.out, by rw [← HS7.out, scanDown_go (by omega) hkj (by rw [← HG.out, ← HG.out, HL.out]; rfl)]⟩
              case measure => simp [intOf] <;> omega
            · have HL := Lib.hid hl
              clear hl
              go_wp2_with fail
              go_meet
              exact ⟨k, rfl, by rw [← HS7.out, scanDown_stop (.inr (by rw [← HG.out, ← HG.out, HL.out]; rfl))], by omega, by omega, HO8.out, HR8.out⟩
          · clear hG
            go_wp2_with fail
            go_quiet (fail)
            have oq : Only [] wr (wr.drewN nq) := (Only.refl [] wr).drewN nq
            generalize hwq : wr.drewN nq = wq at oq ⊢
            have HO8 := Lib.hid (HO7.out.then0 oq)
            have HR8 := Lib.hid (HR7.out.keep oq (by simp))
            clear oq hwq
            go_wp2_with fail
            go_meet
            exact ⟨k, rfl, by rw [← HS7.out, scanDown_stop (.inl (by omega))], by omega, by omega, HO8.out, HR8.out⟩
      case rest =>
        obtain ⟨j2, rfl, hj2, bj21, bj22, hO, hR⟩ := hcut
        have HO4 := Lib.hid hO
        have HR4 := Lib.hid hR
        have Hj2 := Lib.hid hj2
        clear hO hR hj2
        by_cases hji : j2 < i2
        · go_upto_region 8 with fail
          go_cut [] (fun wx => Only [b] w wx ∧ Rw wx b (Sort.swp (D) (j2) (a)))
          case first =>
            by_cases hpq : j2 = a
            · subst hpq
              obtain ⟨G, hG⟩ : ∃ G : Nat → Int, ∀ t, G t = (D)[t]! := ⟨fun t => (D)[t]!, fun _ => rfl⟩
              have c1 := HR4.out.cell (j2) (by rw [HK.out]; omega)
              have f1 := HR4.out.free (j2)
              have SW := Lib.hid (HR4.out.swp (i := j2) (j := j2) (by rw [HK.out]; omega) (by rw [HK.out]; omega))
              rw [← hG] at SW
              rw [← hG] at c1
              clear hG
              go_region
              go_wp2_with fail
              go_meet
              exact ⟨(HO4.out.trans (only_swp wc b (j2) (j2) _ _) (by simp)).drew, SW.out⟩
            · have hqp : ¬ a = j2 := fun e => hpq e.symm
              obtain ⟨G, hG⟩ : ∃ G : Nat → Int, ∀ t, G t = (D)[t]! := ⟨fun t => (D)[t]!, fun _ => rfl⟩
              have c1 := HR4.out.cell (j2) (by rw [HK.out]; omega)
              have f1 := HR4.out.free (j2)
              have c2 := HR4.out.cell (a) (by rw [HK.out]; omega)
              have f2 := HR4.out.free (a)
              have SW := Lib.hid (HR4.out.swp (i := j2) (j := a) (by rw [HK.out]; omega) (by rw [HK.out]; omega))
              rw [← hG, ← hG] at SW
              rw [← hG] at c1 c2
              clear hG
              go_region
              go_wp2_with fail
              go_meet
              exact ⟨(HO4.out.trans (only_swp wc b (j2) (a) _ _) (by simp)).drew, SW.out⟩
          case rest =>
            obtain ⟨hO, hR⟩ := hcut
            have HO5 := Lib.hid hO
            have HR5 := Lib.hid hR
            clear hO hR
            go_wp2_with fail
            go_ret2
            have E := part_done (d := d) (a := a) (e := e) (piv := piv) (i := i2) (j := j2) (by rw [← HD.out, ← HE1.out]; exact Hi2.out) (by rw [← HD.out, ← HE1.out]; exact Hj2.out) hji
            unfold PartEnd
            rw [E, ← HD.out]
            exact ⟨rfl, HO5.out, HR5.out⟩
        · go_upto_region 10 with fail
          go_cut [] (fun wx => Only [b] w wx ∧ Rw wx b (Sort.swp (D) (i2) (j2)))
          case first =>
            by_cases hpq : i2 = j2
            · subst hpq
              obtain ⟨G, hG⟩ : ∃ G : Nat → Int, ∀ t, G t = (D)[t]! := ⟨fun t => (D)[t]!, fun _ => rfl⟩
              have c1 := HR4.out.cell (i2) (by rw [HK.out]; omega)
              have f1 := HR4.out.free (i2)
              have SW := Lib.hid (HR4.out.swp (i := i2) (j := i2) (by rw [HK.out]; omega) (by rw [HK.out]; omega))
              rw [← hG] at SW
              rw [← hG] at c1
              clear hG
              go_region
              go_wp2_with fail
              go_meet
              exact ⟨(HO4.out.trans (only_swp wc b (i2) (i2) _ _) (by simp)).drew, SW.out⟩
            · have hqp : ¬ j2 = i2 := fun e => hpq e.symm
              obtain ⟨G, hG⟩ : ∃ G : Nat → Int, ∀ t, G t = (D)[t]! := ⟨fun t => (D)[t]!, fun _ => rfl⟩
              have c1 := HR4.out.cell (i2) (by rw [HK.out]; omega)
              have f1 := HR4.out.free (i2)
              have c2 := HR4.out.cell (j2) (by rw [HK.out]; omega)
              have f2 := HR4.out.free (j2)
              have SW := Lib.hid (HR4.out.swp (i := i2) (j := j2) (by rw [HK.out]; omega) (by rw [HK.out]; omega))
              rw [← hG, ← hG] at SW
              rw [← hG] at c1 c2
              clear hG
              go_region
              go_wp2_with fail
              go_meet
              exact ⟨(HO4.out.trans (only_swp wc b (i2) (j2) _ _) (by simp)).drew, SW.out⟩
          case rest =>
            obtain ⟨hO, hR⟩ := hcut
            have HO5 := Lib.hid hO
            have HR5 := Lib.hid hR
            obtain ⟨D2, hD2⟩ : ∃ D2, D2 = Sort.swp D i2 j2 := ⟨_, rfl⟩
            rw [← hD2] at HR5
            have HK2 := Lib.hid (show D2.size = n by rw [hD2, size_swp]; exact HK.out)
            have E := part_goes (d := d) (a := a) (e := e) (piv := piv) (i := i2) (j := j2) (by rw [← HD.out, ← HE1.out]; exact Hi2.out) (by rw [← HD.out, ← HE1.out]; exact Hj2.out) hji
            rw [← HD.out, ← hD2] at E
            have HE := Lib.hid E
            clear hO hR hD2 E
            obtain ⟨j1, hj1⟩ : ∃ j1, j1 = j2 - 1 := ⟨_, rfl⟩
            have hjj : (j2 : Int) - 1 = (j1 : Int) := by omega
            rw [← hj1] at HE
            go_wp2_with fail
            go_loopw [10, 11] (fun vi vj wr => ∃ (i j : Nat) (dk : Array Int), vi = .int .i64 i ∧ vj = .int .i64 j ∧ a < i ∧ i ≤ n ∧ j < n ∧ dk.size = n ∧ Only [b] w wr ∧ Rw wr b dk ∧ partLoop ltInt a i j dk = partLoop ltInt a (i2 + 1) j1 D2) (fun i j _ => (intOf j).toNat + 1 - (intOf i).toNat)
            case atStart => exact ⟨i2 + 1, j1, D2, by go_num, by rw [hj1], by omega, by omega, by omega, HK2.out, HO5.out, HR5.out, rfl⟩
            case round =>
              obtain ⟨i, j, dk, rfl, rfl, hai, hin, hjn, hk, hO, hR, hP⟩ := hrel
              have HO6 := Lib.hid hO
              have HR6 := Lib.hid hR
              have HP := Lib.hid hP
              have HKK := Lib.hid hk
              clear hO hR hP hk
              go_upto_block 6 with fail
              go_cut [10] (fun sx wx => ∃ k : Nat, sx = .int .i64 k ∧ scanUp (fun x => ltInt x (dk)[a]!) (dk) j i = k ∧ i ≤ k ∧ k ≤ n ∧ Only [b] w wx ∧ Rw wx b (dk))
              case first =>
                go_wp2_with fail
                go_loopw [10] (fun vi wr2 => ∃ k : Nat, vi = .int .i64 k ∧ i ≤ k ∧ k ≤ n ∧ Only [b] w wr2 ∧ Rw wr2 b (dk) ∧ scanUp (fun x => ltInt x (dk)[a]!) (dk) j k = scanUp (fun x => ltInt x (dk)[a]!) (dk) j i) (fun i _ => n + 1 - (intOf i).toNat)
                case atStart => exact ⟨i, by go_num, by omega, by omega, HO6.out, HR6.out, rfl⟩
                case round =>
                  obtain ⟨k, rfl, hik, hkn, hO, hR, hS⟩ := hrel
                  have HO7 := Lib.hid hO
                  have HR7 := Lib.hid hR
                  have HS7 := Lib.hid hS
                  obtain ⟨G, hG⟩ : ∃ G : Nat → Int, ∀ t, G t = (dk)[t]! := ⟨fun t => (dk)[t]!, fun _ => rfl⟩
                  have HG := Lib.hid hG
                  clear hO hR hS
                  by_cases hkj : k ≤ j
                  · have c1 := HR7.out.cell k (by rw [HKK.out]; omega)
                    have c2 := HR7.out.cell a (by rw [HKK.out]; omega)
                    rw [← hG] at c1 c2
                    clear hG
                    go_wp2_with fail
                    go_quiet ((go_at_call 31; exact Calls.quiet_of_same (less_any _ _ _)))
                    have oq : Only [] wr (wr.drewN nq) := (Only.refl [] wr).drewN nq
                    generalize hwq : wr.drewN nq = wq at oq ⊢
                    have HO8 := Lib.hid (HO7.out.then0 oq)
                    have HR8 := Lib.hid (HR7.out.keep oq (by simp))
                    clear oq hwq c1 c2
                    cases hl : ltInt (G k) (G a)
                    · have HL := Lib.hid hl
                      clear hl
                      go_wp2_with fail
                      go_meet
                      exact ⟨k, rfl, by rw [← HS7.out, scanUp_stop (.inr (by rw [← HG.out, ← HG.out, HL.out]))], by omega, by omega, HO8.out, HR8.out⟩
                    · have HL := Lib.hid hl
                      clear hl
                      go_wp2_with fail
                      go_roundw
                      case rel => exact ⟨k + 1, by go_num, by omega, by omega, HO8.out, HR8.out, by rw [← HS7.out, scanUp_go hkj (by rw [← HG.out, ← HG.out, HL.out])]⟩
                      case measure => simp [intOf] <;> omega
                  · clear hG
                    go_wp2_with fail
                    go_quiet (fail)
                    have oq : Only [] wr (wr.drewN nq) := (Only.refl [] wr).drewN nq
                    generalize hwq : wr.drewN nq = wq at oq ⊢
                    have HO8 := Lib.hid (HO7.out.then0 oq)
                    have HR8 := Lib.hid (HR7.out.keep oq (by simp))
                    clear oq hwq
                    go_wp2_with fail
                    go_meet
                    exact ⟨k, rfl, by rw [← HS7.out, scanUp_stop (.inl (by omega))], by omega, by omega, HO8.out, HR8.out⟩
              case rest =>
                obtain ⟨i3, rfl, hi3, bi31, bi32, hO, hR⟩ := hcut
                have HO9 := Lib.hid hO
                have HR9 := Lib.hid hR
                have Hi3 := Lib.hid hi3
                clear hO hR hi3
                go_upto_block 8 with fail
                go_cut [11] (fun sx wx => ∃ k : Nat, sx = .int .i64 k ∧ scanDown (fun x => !ltInt x (dk)[a]!) (dk) i3 j = k ∧ k ≤ j ∧ k < n ∧ Only [b] w wx ∧ Rw wx b (dk))
                case first =>
                  go_wp2_with fail
                  go_loopw [11] (fun vi wr2 => ∃ k : Nat, vi = .int .i64 k ∧ k ≤ j ∧ k < n ∧ Only [b] w wr2 ∧ Rw wr2 b (dk) ∧ scanDown (fun x => !ltInt x (dk)[a]!) (dk) i3 k = scanDown (fun x => !ltInt x (dk)[a]!) (dk) i3 j) (fun i _ => (intOf i).toNat)
                  case atStart => exact ⟨j, by go_num, by omega, by omega, HO9.out, HR9.out, rfl⟩
                  case round =>
                    obtain ⟨k, rfl, hik, hkn, hO, hR, hS⟩ := hrel
                    have HO7 := Lib.hid hO
                    have HR7 := Lib.hid hR
                    have HS7 := Lib.hid hS
                    obtain ⟨G, hG⟩ : ∃ G : Nat → Int, ∀ t, G t = (dk)[t]! := ⟨fun t => (dk)[t]!, fun _ => rfl⟩
                    have HG := Lib.hid hG
                    clear hO hR hS
                    by_cases hkj : i3 ≤ k
                    · have c1 := HR7.out.cell k (by rw [HKK.out]; omega)
                      have c2 := HR7.out.cell a (by rw [HKK.out]; omega)
                      rw [← hG] at c1 c2
                      clear hG
                      go_wp2_with fail
                      go_quiet ((go_at_call 31; exact Calls.quiet_of_same (less_any _ _ _)))
                      have oq : Only [] wr (wr.drewN nq) := (Only.refl [] wr).drewN nq
                      generalize hwq : wr.drewN nq = wq at oq ⊢
                      have HO8 := Lib.hid (HO7.out.then0 oq)
                      have HR8 := Lib.hid (HR7.out.keep oq (by simp))
                      clear oq hwq c1 c2
                      cases hl : ltInt (G k) (G a)
                      · have HL := Lib.hid hl
                        clear hl
                        go_wp2_with fail
                        go_roundw
                        case rel => exact ⟨k - 1, by go_num, by omega, by omega, HO8.out, HR8.out, by rw [← HS7.out, scanDown_go (by omega) hkj (by rw [← HG.out, ← HG.out, HL.out]; rfl)]⟩
                        case measure => simp [intOf] <;> omega
                      · have HL := Lib.hid hl
                        clear hl
                        go_wp2_with fail
                        go_meet
                        exact ⟨k, rfl, by rw [← HS7.out, scanDown_stop (.inr (by rw [← HG.out, ← HG.out, HL.out]; rfl))], by omega, by omega, HO8.out, HR8.out⟩
                    · clear hG
                      go_wp2_with fail
                      go_quiet (fail)
                      have oq : Only [] wr (wr.drewN nq) := (Only.refl [] wr).drewN nq
                      generalize hwq : wr.drewN nq = wq at oq ⊢
                      have HO8 := Lib.hid (HO7.out.then0 oq)
                      have HR8 := Lib.hid (HR7.out.keep oq (by simp))
                      clear oq hwq
                      go_wp2_with fail
                      go_meet
                      exact ⟨k, rfl, by rw [← HS7.out, scanDown_stop (.inl (by omega))], by omega, by omega, HO8.out, HR8.out⟩
                case rest =>
                  obtain ⟨j3, rfl, hj3, bj31, bj32, hO, hR⟩ := hcut
                  have HO10 := Lib.hid hO
                  have HR10 := Lib.hid hR
                  have Hj3 := Lib.hid hj3
                  clear hO hR hj3
                  by_cases hji3 : j3 < i3
                  · go_upto_region 21 with fail
                    go_cut [] (fun wx => Only [b] w wx ∧ Rw wx b (Sort.swp (dk) (j3) (a)))
                    case first =>
                      by_cases hpq : j3 = a
                      · subst hpq
                        obtain ⟨G, hG⟩ : ∃ G : Nat → Int, ∀ t, G t = (dk)[t]! := ⟨fun t => (dk)[t]!, fun _ => rfl⟩
                        have c1 := HR10.out.cell (j3) (by rw [HKK.out]; omega)
                        have f1 := HR10.out.free (j3)
                        have SW := Lib.hid (HR10.out.swp (i := j3) (j := j3) (by rw [HKK.out]; omega) (by rw [HKK.out]; omega))
                        rw [← hG] at SW
                        rw [← hG] at c1
                        clear hG
                        go_region
                        go_wp2_with fail
                        go_meet
                        exact ⟨(HO10.out.trans (only_swp wc b (j3) (j3) _ _) (by simp)).drew, SW.out⟩
                      · have hqp : ¬ a = j3 := fun e => hpq e.symm
                        obtain ⟨G, hG⟩ : ∃ G : Nat → Int, ∀ t, G t = (dk)[t]! := ⟨fun t => (dk)[t]!, fun _ => rfl⟩
                        have c1 := HR10.out.cell (j3) (by rw [HKK.out]; omega)
                        have f1 := HR10.out.free (j3)
                        have c2 := HR10.out.cell (a) (by rw [HKK.out]; omega)
                        have f2 := HR10.out.free (a)
                        have SW := Lib.hid (HR10.out.swp (i := j3) (j := a) (by rw [HKK.out]; omega) (by rw [HKK.out]; omega))
                        rw [← hG, ← hG] at SW
                        rw [← hG] at c1 c2
                        clear hG
                        go_region
                        go_wp2_with fail
                        go_meet
                        exact ⟨(HO10.out.trans (only_swp wc b (j3) (a) _ _) (by simp)).drew, SW.out⟩
                    case rest =>
                      obtain ⟨hO, hR⟩ := hcut
                      have HO11 := Lib.hid hO
                      have HR11 := Lib.hid hR
                      clear hO hR
                      go_wp2_with fail
                      go_ret2
                      have E := ploop_done (i2 := i3) (j2 := j3) Hi3.out Hj3.out hji3
                      unfold PartEnd
                      rw [HE.out, ← HP.out, E]
                      exact ⟨rfl, HO11.out, HR11.out⟩
                  · go_upto_region 18 with fail
                    go_cut [] (fun wx => Only [b] w wx ∧ Rw wx b (Sort.swp (dk) (i3) (j3)))
                    case first =>
                      by_cases hpq : i3 = j3
                      · subst hpq
                        obtain ⟨G, hG⟩ : ∃ G : Nat → Int, ∀ t, G t = (dk)[t]! := ⟨fun t => (dk)[t]!, fun _ => rfl⟩
                        have c1 := HR10.out.cell (i3) (by rw [HKK.out]; omega)
                        have f1 := HR10.out.free (i3)
                        have SW := Lib.hid (HR10.out.swp (i := i3) (j := i3) (by rw [HKK.out]; omega) (by rw [HKK.out]; omega))
                        rw [← hG] at SW
                        rw [← hG] at c1
                        clear hG
                        go_region
                        go_wp2_with fail
                        go_meet
                        exact ⟨(HO10.out.trans (only_swp wc b (i3) (i3) _ _) (by simp)).drew, SW.out⟩
                      · have hqp : ¬ j3 = i3 := fun e => hpq e.symm
                        obtain ⟨G, hG⟩ : ∃ G : Nat → Int, ∀ t, G t = (dk)[t]! := ⟨fun t => (dk)[t]!, fun _ => rfl⟩
                        have c1 := HR10.out.cell (i3) (by rw [HKK.out]; omega)
                        have f1 := HR10.out.free (i3)
                        have c2 := HR10.out.cell (j3) (by rw [HKK.out]; omega)
                        have f2 := HR10.out.free (j3)
                        have SW := Lib.hid (HR10.out.swp (i := i3) (j := j3) (by rw [HKK.out]; omega) (by rw [HKK.out]; omega))
                        rw [← hG, ← hG] at SW
                        rw [← hG] at c1 c2
                        clear hG
                        go_region
                        go_wp2_with fail
                        go_meet
                        exact ⟨(HO10.out.trans (only_swp wc b (i3) (j3) _ _) (by simp)).drew, SW.out⟩
                    case rest =>
                      obtain ⟨hO, hR⟩ := hcut
                      have HO11 := Lib.hid hO
                      have HR11 := Lib.hid hR
                      clear hO hR
                      go_wp2_with fail
                      go_roundw
                      case rel => exact ⟨i3 + 1, j3 - 1, _, by go_num, by go_num, by omega, by omega, by omega, by rw [size_swp]; exact HKK.out, HO11.out, HR11.out, by rw [← HP.out, ploop_goes (i2 := i3) (j2 := j3) Hi3.out Hj3.out hji3]⟩
                      case measure => simp [intOf] <;> omega
end Go.Proofs.Ytenamlckhcfflaa
