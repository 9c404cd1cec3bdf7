/- Sorting words: insertion of a few (printed by gen_sort8.py). -/
import Derived.Test.YtenamlckhcfflaaSortU4
import Derived.Sort.LotA
import Derived.Deep.CutBlock
namespace Go.Proofs.Ytenamlckhcfflaa
open Go.RowKit Go.Sort
set_option linter.unusedVariables false

theorem ssd_go {d : Array Int} {e i : Nat} (h : i < e) (hl : ltInt d[i]! d[i - 1]! = false) : scanSorted ltInt d e i = scanSorted ltInt d e (i + 1) := by
  conv => lhs; unfold scanSorted
  rw [if_pos (by simp [h, hl])]
theorem ssd_stop {d : Array Int} {e i : Nat} (h : e ≤ i ∨ ltInt d[i]! d[i - 1]! = true) : scanSorted ltInt d e i = i := by
  unfold scanSorted
  rw [if_neg]
  rcases h with h | h
  · simp; intro h2; omega
  · simp [h]
theorem sdn_go {d : Array Int} {j : Nat} (h : 1 ≤ j) (hl : ltInt d[j]! d[j - 1]! = true) : shiftDown ltInt j d = shiftDown ltInt (j - 1) (Sort.swp d j (j - 1)) := by
  obtain ⟨k, rfl⟩ : ∃ k, j = k + 1 := ⟨j - 1, by omega⟩
  simp only [Nat.add_sub_cancel] at hl ⊢
  rw [shiftDown, if_neg (by simp [hl])]
theorem sdn_stop {d : Array Int} {j : Nat} (h : j < 1 ∨ ltInt d[j]! d[j - 1]! = false) : shiftDown ltInt j d = d := by
  cases j with
  | zero => rfl
  | succ k =>
    rw [shiftDown, if_pos]
    rcases h with h | h
    · omega
    · simpa using h
theorem sup_go {d : Array Int} {e j : Nat} (h : j < e) (hl : ltInt d[j]! d[j - 1]! = true) : shiftUp ltInt e j d = shiftUp ltInt e (j + 1) (Sort.swp d j (j - 1)) := by
  conv => lhs; unfold shiftUp
  rw [if_pos h, if_neg (by simp [hl])]
theorem sup_stop {d : Array Int} {e j : Nat} (h : e ≤ j ∨ ltInt d[j]! d[j - 1]! = false) : shiftUp ltInt e j d = d := by
  unfold shiftUp
  by_cases g : j < e
  · rw [if_pos g]
    rcases h with h | h
    · omega
    · rw [if_pos (by simp [h])]
  · rw [if_neg g]
theorem pins_sorted {a e s i k : Nat} {d : Array Int} (hs : scanSorted ltInt d e i = k) (hk : k = e) : partialIns ltInt a e (s + 1) i d = (d, true) := by
  rw [partialIns]
  simp only [hs, if_pos hk]
theorem pins_short {a e s i k : Nat} {d : Array Int} (hs : scanSorted ltInt d e i = k) (hk : ¬ k = e) (h50 : e - a < 50) : partialIns ltInt a e (s + 1) i d = (d, false) := by
  rw [partialIns]
  simp only [hs, if_neg hk, if_pos h50]
theorem pins_go {a e s i k : Nat} {d D1 D2 D3 : Array Int} (hs : scanSorted ltInt d e i = k) (hk : ¬ k = e) (h50 : ¬ e - a < 50) (h1 : D1 = Sort.swp d k (k - 1)) (h2 : D2 = if k - a ≥ 2 then shiftDown ltInt (k - 1) D1 else D1) (h3 : D3 = if e - k ≥ 2 then shiftUp ltInt e (k + 1) D2 else D2) :
    partialIns ltInt a e (s + 1) i d = partialIns ltInt a e s k D3 := by
  conv => lhs; rw [partialIns]
  simp only [hs, if_neg hk, if_neg h50]
  rw [h3, h2, h1]

/-- What insertion of a few comes to. -/
def PinsEnd (b : Nat) (w : World) (r : Array Int × Bool) (e : Ending) (w' : World) : Prop := e = .returned (.bool r.2) ∧ Only [b] w w' ∧ Rw w' b r.1

set_option maxRecDepth 100000 in
set_option maxHeartbeats 4000000 in
theorem pins_any (w : World) (b cap n a e : Nat) (d : Array Int) (h : Rw w b d) (hn : d.size = n) (he : e ≤ n) (hae : a < e) (hsz : n ≤ 4000000000000) :
    Calls Try.prog 30 #[.slice (some ⟨b, 0, none⟩) n cap, .int .i64 a, .int .i64 e] w (PinsEnd b w (Sort.partialInsertionSort ltInt d a e)) := by
  have HO := Lib.hid (Only.refl [b] w)
  have HR := Lib.hid h
  have HN := Lib.hid hn
  have HE : Hid (Sort.partialInsertionSort ltInt d a e = partialIns ltInt a e 5 (a + 1) d) := Lib.hid rfl
  clear h hn
  go_enter Try.func30, Try.ntmps30
  go_wp2_with fail
  go_loopw [7, 8] (fun vi vs wr => ∃ (i s : Nat) (dk : Array Int), vi = .int .i64 i ∧ vs = .int .i64 s ∧ s ≤ 5 ∧ a < i ∧ i ≤ e ∧ dk.size = n ∧ Only [b] w wr ∧ Rw wr b dk ∧ partialIns ltInt a e (5 - s) i dk = partialIns ltInt a e 5 (a + 1) d) (fun _ s _ => 5 - (intOf s).toNat)
  case atStart => exact ⟨a + 1, 0, d, by go_num, rfl, by omega, by omega, by omega, HN.out, HO.out, HR.out, rfl⟩
  case round =>
    obtain ⟨i, s, dk, rfl, rfl, hs5, hai, hie, hk, hO, hR, hP⟩ := hrel
    have HO1 := Lib.hid hO
    have HR1 := Lib.hid hR
    have HP := Lib.hid hP
    have HK := Lib.hid hk
    clear hO hR hP hk
    by_cases hs : s < 5
    · obtain ⟨s1, hs1⟩ : ∃ s1, 5 - s = s1 + 1 := ⟨4 - s, by omega⟩
      have HS1 := Lib.hid hs1
      clear hs1
      go_upto_block 2 with fail
      go_cut [7] (fun sx wx => ∃ k : Nat, sx = .int .i64 k ∧ scanSorted ltInt dk e i = k ∧ a < k ∧ k ≤ e ∧ Only [b] w wx ∧ Rw wx b dk)
      case first =>
        go_wp2_with fail
        go_loopw [7] (fun vi wr2 => ∃ k : Nat, vi = .int .i64 k ∧ a < k ∧ k ≤ e ∧ Only [b] w wr2 ∧ Rw wr2 b dk ∧ scanSorted ltInt dk e k = scanSorted ltInt dk e i) (fun i _ => e - (intOf i).toNat)
        case atStart => exact ⟨i, rfl, hai, hie, HO1.out, HR1.out, rfl⟩
        case round =>
          obtain ⟨k, rfl, hak, hke, hO, hR, hS⟩ := hrel
          have HO7 := Lib.hid hO
          have HR7 := Lib.hid hR
          have HS7 := Lib.hid hS
          obtain ⟨G, hG⟩ : ∃ G : Nat → Int, ∀ t, G t = dk[t]! := ⟨fun t => dk[t]!, fun _ => rfl⟩
          have HG := Lib.hid hG
          clear hO hR hS
          by_cases hkj : k < e
          · have c1 := HR7.out.cell k (by rw [HK.out]; omega)
            have c2 := HR7.out.cell (k - 1) (by rw [HK.out]; omega)
            rw [← hG] at c1 c2
            clear hG
            go_wp2_with fail
            go_quiet ((go_at_call 31; exact Calls.quiet_of_same (less_any _ _ _)))
            have oq : Only [] wr (wr.drewN nq) := (Only.refl [] wr).drewN nq
            generalize hwq : wr.drewN nq = wq at oq ⊢
            have HO8 := Lib.hid (HO7.out.then0 oq)
            have HR8 := Lib.hid (HR7.out.keep oq (by simp))
            clear oq hwq c1 c2
            cases hl : ltInt (G k) (G (k - 1))
            · have HL := Lib.hid hl
              clear hl
              go_wp2_with fail
              go_roundw
              case rel => exact ⟨k + 1, by go_num, by omega, by omega, HO8.out, HR8.out, by rw [← HS7.out, ssd_go hkj (by rw [← HG.out, ← HG.out]; exact HL.out)]⟩
              case measure => simp [intOf] <;> omega
            · have HL := Lib.hid hl
              clear hl
              go_wp2_with fail
              go_meet
              exact ⟨k, rfl, by rw [← HS7.out, ssd_stop (.inr (by rw [← HG.out, ← HG.out]; exact HL.out))], hak, hke, HO8.out, HR8.out⟩
          · clear hG
            go_wp2_with fail
            go_quiet (fail)
            have oq : Only [] wr (wr.drewN nq) := (Only.refl [] wr).drewN nq
            generalize hwq : wr.drewN nq = wq at oq ⊢
            have HO8 := Lib.hid (HO7.out.then0 oq)
            have HR8 := Lib.hid (HR7.out.keep oq (by simp))
            clear oq hwq
            go_wp2_with fail
            go_meet
            exact ⟨k, rfl, by rw [← HS7.out, ssd_stop (.inl (by omega))], hak, hke, HO8.out, HR8.out⟩
      case rest =>
        obtain ⟨k, rfl, hkk, hak, hke, hO, hR⟩ := hcut
        have HO2 := Lib.hid hO
        have HR2 := Lib.hid hR
        have HKK := Lib.hid hkk
        clear hO hR hkk
        by_cases hke2 : k = e
        · have E := pins_sorted (a := a) (s := s1) HKK.out hke2
          have EE := Lib.hid E
          have q1 : ((k : Int) == (e : Int)) = true := by simp; omega
          clear E
          go_wp2_with fail
          go_ret
          unfold PinsEnd
          rw [HE.out, ← HP.out, HS1.out, EE.out]
          exact ⟨rfl, HO2.out, HR2.out⟩
        · have q1 : ((k : Int) == (e : Int)) = false := by simp; omega
          by_cases h50 : e - a < 50
          · have E := pins_short (a := a) (s := s1) HKK.out hke2 h50
            have EE := Lib.hid E
            have q2 : ((e : Int) - (a : Int)) < 50 := by omega
            clear E
            go_wp2_with fail
            go_ret
            unfold PinsEnd
            rw [HE.out, ← HP.out, HS1.out, EE.out]
            exact ⟨rfl, HO2.out, HR2.out⟩
          · have q2 : 50 ≤ ((e : Int) - (a : Int)) := by omega
            have hpq : ¬ k = k - 1 := by omega
            have hqp : ¬ k - 1 = k := by omega
            go_upto_region 11 with fail
            go_cut [] (fun wx => Only [b] w wx ∧ Rw wx b (Sort.swp (dk) (k) (k - 1)))
            case first =>
              obtain ⟨G, hG⟩ : ∃ G : Nat → Int, ∀ t, G t = (dk)[t]! := ⟨fun t => (dk)[t]!, fun _ => rfl⟩
              have c1 := HR2.out.cell (k) (by rw [HK.out]; omega)
              have f1 := HR2.out.free (k)
              have c2 := HR2.out.cell (k - 1) (by rw [HK.out]; omega)
              have f2 := HR2.out.free (k - 1)
              have SW := Lib.hid (HR2.out.swp (i := k) (j := k - 1) (by rw [HK.out]; omega) (by rw [HK.out]; omega))
              rw [← hG, ← hG] at SW
              rw [← hG] at c1 c2
              clear hG
              go_region
              go_wp2_with fail
              go_meet
              exact ⟨(HO2.out.trans (only_swp wc b (k) (k - 1) _ _) (by simp)).drew, SW.out⟩
            case rest =>
              obtain ⟨hO, hR⟩ := hcut
              have HOD := Lib.hid hO
              obtain ⟨D1, hD1⟩ : ∃ D1, D1 = Sort.swp dk k (k - 1) := ⟨_, rfl⟩
              rw [← hD1] at hR
              have HRD := Lib.hid hR
              have HKD := Lib.hid (show D1.size = n by rw [hD1, size_swp]; exact HK.out)
              have HD1 := Lib.hid hD1
              clear hO hR hD1
              go_upto_if 61 with fail
              go_cut [] (fun wx => ∃ D2 : Array Int, (D2 = if k - a ≥ 2 then shiftDown ltInt (k - 1) D1 else D1) ∧ D2.size = n ∧ Only [b] w wx ∧ Rw wx b D2)
              case first =>
                by_cases h2 : k - a ≥ 2
                · have q3 : 2 ≤ ((k : Int) - (a : Int)) := by omega
                  have FI : Hid ((if k - a ≥ 2 then shiftDown ltInt (k - 1) D1 else D1) = shiftDown ltInt (k - 1) D1) := Lib.hid (if_pos h2)
                  go_wp2_with fail
                  go_loopw [9] (fun vj wr2 => ∃ (j : Nat) (dj : Array Int), vj = .int .i64 j ∧ j < n ∧ dj.size = n ∧ Only [b] w wr2 ∧ Rw wr2 b dj ∧ shiftDown ltInt j dj = shiftDown ltInt (k - 1) D1) (fun j _ => (intOf j).toNat)
                  case atStart => exact ⟨(k - 1), D1, by go_num, by omega, HKD.out, HOD.out, HRD.out, rfl⟩
                  case round =>
                    obtain ⟨j, dj, rfl, hjn, hk, hO, hR, hS⟩ := hrel
                    have HO7 := Lib.hid hO
                    have HR7 := Lib.hid hR
                    have HS7 := Lib.hid hS
                    have HKJ := Lib.hid hk
                    clear hO hR hS hk
                    by_cases hc : 1 ≤ j
                    · obtain ⟨G, hG⟩ : ∃ G : Nat → Int, ∀ t, G t = dj[t]! := ⟨fun t => dj[t]!, fun _ => rfl⟩
                      have HG := Lib.hid hG
                      have c1 := HR7.out.cell j (by rw [HKJ.out]; omega)
                      have c2 := HR7.out.cell (j - 1) (by rw [HKJ.out]; omega)
                      rw [← hG] at c1 c2
                      clear hG
                      go_wp2_with fail
                      go_quiet ((go_at_call 31; exact Calls.quiet_of_same (less_any _ _ _)))
                      have oq : Only [] wr (wr.drewN nq) := (Only.refl [] wr).drewN nq
                      generalize hwq : wr.drewN nq = wq at oq ⊢
                      have HO8 := Lib.hid (HO7.out.then0 oq)
                      have HR8 := Lib.hid (HR7.out.keep oq (by simp))
                      clear oq hwq c1 c2
                      cases hl : ltInt (G j) (G (j - 1))
                      · have HL := Lib.hid hl
                        clear hl
                        go_wp2_with fail
                        go_meet
                        exact ⟨dj, by rw [FI.out, ← HS7.out, sdn_stop (.inr (by rw [← HG.out, ← HG.out]; exact HL.out))], HKJ.out, HO8.out, HR8.out⟩
                      · have HL := Lib.hid hl
                        clear hl
                        have hpq : ¬ j = j - 1 := by omega
                        have hqp : ¬ j - 1 = j := by omega
                        have k1 := HR8.out.cell j (by rw [HKJ.out]; omega)
                        have k2 := HR8.out.cell (j - 1) (by rw [HKJ.out]; omega)
                        have f1 := HR8.out.free j
                        have f2 := HR8.out.free (j - 1)
                        have SW := Lib.hid (HR8.out.swp (i := j) (j := j - 1) (by rw [HKJ.out]; omega) (by rw [HKJ.out]; omega))
                        rw [← HG.out, ← HG.out] at SW
                        rw [← HG.out] at k1 k2
                        go_wp2_with fail
                        go_region
                        have HO9 := Lib.hid (HO8.out.trans (only_swp wq b j (j - 1) (.int .u64 (G (j - 1))) (.int .u64 (G j))) (by simp)).drew
                        go_wp2_with fail
                        go_roundw
                        case rel => exact ⟨j - 1, _, by go_num, by omega, by rw [size_swp]; exact HKJ.out, HO9.out, SW.out, by rw [← HS7.out, sdn_go (d := dj) (j := j) (by omega) (by rw [← HG.out, ← HG.out]; exact HL.out)]⟩
                        case measure => simp [intOf] <;> omega
                    · go_wp2_with fail
                      go_meet
                      exact ⟨dj, by rw [FI.out, ← HS7.out, sdn_stop (.inl (by omega))], HKJ.out, HO7.out, HR7.out⟩
                · have q3 : ((k : Int) - (a : Int)) < 2 := by omega
                  go_wp2_with fail
                  go_meet
                  exact ⟨D1, by rw [if_neg h2], HKD.out, HOD.out, HRD.out⟩
              case rest =>
                obtain ⟨D2, hD2, hk2, hO, hR⟩ := hcut
                have HOD := Lib.hid hO
                have HRD := Lib.hid hR
                have HKD := Lib.hid hk2
                have HD2 := Lib.hid hD2
                clear hO hR hk2 hD2
                by_cases h2 : e - k ≥ 2
                · have q3 : 2 ≤ ((e : Int) - (k : Int)) := by omega
                  have FI : Hid ((if e - k ≥ 2 then shiftUp ltInt e (k + 1) D2 else D2) = shiftUp ltInt e (k + 1) D2) := Lib.hid (if_pos h2)
                  go_wp2_with fail
                  go_loopw [10] (fun vj wr2 => ∃ (j : Nat) (dj : Array Int), vj = .int .i64 j ∧ 1 ≤ j ∧ j ≤ n ∧ dj.size = n ∧ Only [b] w wr2 ∧ Rw wr2 b dj ∧ shiftUp ltInt e j dj = shiftUp ltInt e (k + 1) D2) (fun j _ => n + 1 - (intOf j).toNat)
                  case atStart => exact ⟨(k + 1), D2, by go_num, by omega, by omega, HKD.out, HOD.out, HRD.out, rfl⟩
                  case round =>
                    obtain ⟨j, dj, rfl, hj1, hjn, hk, hO, hR, hS⟩ := hrel
                    have HO7 := Lib.hid hO
                    have HR7 := Lib.hid hR
                    have HS7 := Lib.hid hS
                    have HKJ := Lib.hid hk
                    clear hO hR hS hk
                    by_cases hc : j < e
                    · obtain ⟨G, hG⟩ : ∃ G : Nat → Int, ∀ t, G t = dj[t]! := ⟨fun t => dj[t]!, fun _ => rfl⟩
                      have HG := Lib.hid hG
                      have c1 := HR7.out.cell j (by rw [HKJ.out]; omega)
                      have c2 := HR7.out.cell (j - 1) (by rw [HKJ.out]; omega)
                      rw [← hG] at c1 c2
                      clear hG
                      go_wp2_with fail
                      go_quiet ((go_at_call 31; exact Calls.quiet_of_same (less_any _ _ _)))
                      have oq : Only [] wr (wr.drewN nq) := (Only.refl [] wr).drewN nq
                      generalize hwq : wr.drewN nq = wq at oq ⊢
                      have HO8 := Lib.hid (HO7.out.then0 oq)
                      have HR8 := Lib.hid (HR7.out.keep oq (by simp))
                      clear oq hwq c1 c2
                      cases hl : ltInt (G j) (G (j - 1))
                      · have HL := Lib.hid hl
                        clear hl
                        go_wp2_with fail
                        have hD3 : dj = (if e - k ≥ 2 then shiftUp ltInt e (k + 1) D2 else D2) := by rw [FI.out, ← HS7.out, sup_stop (.inr (by rw [← HG.out, ← HG.out]; exact HL.out))]
                        have E := Lib.hid (pins_go (s := s1) HKK.out hke2 h50 HD1.out HD2.out hD3)
                        have HS2 : Hid (5 - (s + 1) = s1) := Lib.hid (by have := HS1.out; omega)
                        clear hD3
                        go_roundw
                        case rel => exact ⟨k, s + 1, dj, rfl, by go_num, by omega, hak, hke, HKJ.out, HO8.out, HR8.out, by rw [← HP.out, HS1.out, E.out, HS2.out]⟩
                        case measure => simp [intOf] <;> omega
                      · have HL := Lib.hid hl
                        clear hl
                        have hpq : ¬ j = j - 1 := by omega
                        have hqp : ¬ j - 1 = j := by omega
                        have k1 := HR8.out.cell j (by rw [HKJ.out]; omega)
                        have k2 := HR8.out.cell (j - 1) (by rw [HKJ.out]; omega)
                        have f1 := HR8.out.free j
                        have f2 := HR8.out.free (j - 1)
                        have SW := Lib.hid (HR8.out.swp (i := j) (j := j - 1) (by rw [HKJ.out]; omega) (by rw [HKJ.out]; omega))
                        rw [← HG.out, ← HG.out] at SW
                        rw [← HG.out] at k1 k2
                        go_wp2_with fail
                        go_region
                        have HO9 := Lib.hid (HO8.out.trans (only_swp wq b j (j - 1) (.int .u64 (G (j - 1))) (.int .u64 (G j))) (by simp)).drew
                        go_wp2_with fail
                        go_roundw
                        case rel => exact ⟨j + 1, _, by go_num, by omega, by omega, by rw [size_swp]; exact HKJ.out, HO9.out, SW.out, by rw [← HS7.out, sup_go (d := dj) (j := j) (by omega) (by rw [← HG.out, ← HG.out]; exact HL.out)]⟩
                        case measure => simp [intOf] <;> omega
                    · go_wp2_with fail
                      have hD3 : dj = (if e - k ≥ 2 then shiftUp ltInt e (k + 1) D2 else D2) := by rw [FI.out, ← HS7.out, sup_stop (.inl (by omega))]
                      have E := Lib.hid (pins_go (s := s1) HKK.out hke2 h50 HD1.out HD2.out hD3)
                      have HS2 : Hid (5 - (s + 1) = s1) := Lib.hid (by have := HS1.out; omega)
                      clear hD3
                      go_roundw
                      case rel => exact ⟨k, s + 1, dj, rfl, by go_num, by omega, hak, hke, HKJ.out, HO7.out, HR7.out, by rw [← HP.out, HS1.out, E.out, HS2.out]⟩
                      case measure => simp [intOf] <;> omega
                · have q3 : ((e : Int) - (k : Int)) < 2 := by omega
                  go_wp2_with fail
                  have hD3 : D2 = (if e - k ≥ 2 then shiftUp ltInt e (k + 1) D2 else D2) := by rw [if_neg h2]
                  have E := Lib.hid (pins_go (s := s1) HKK.out hke2 h50 HD1.out HD2.out hD3)
                  have HS2 : Hid (5 - (s + 1) = s1) := Lib.hid (by have := HS1.out; omega)
                  clear hD3
                  go_roundw
                  case rel => exact ⟨k, s + 1, D2, rfl, by go_num, by omega, hak, hke, HKD.out, HOD.out, HRD.out, by rw [← HP.out, HS1.out, E.out, HS2.out]⟩
                  case measure => simp [intOf] <;> omega
    · obtain rfl : s = 5 := by omega
      go_wp2_with fail
      go_ret
      unfold PinsEnd
      rw [HE.out, ← HP.out]
      exact ⟨rfl, HO1.out, HR1.out⟩
end Go.Proofs.Ytenamlckhcfflaa
