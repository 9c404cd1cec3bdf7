/- Sorting words: sifting down a heap, the heap's sort, turning a range round (printed by gen_sort2.py). -/
import Derived.Test.YtenamlckhcfflaaSortU1
namespace Go.Proofs.Ytenamlckhcfflaa
open Go.RowKit Go.Sort
set_option linter.unusedVariables false

/-- The greater child of r. -/
def sdC (hi first r : Nat) (d : Array Int) : Nat := if 2 * r + 1 + 1 < hi ∧ ltInt d[first + (2 * r + 1)]! d[first + (2 * r + 1) + 1]! = true then 2 * r + 2 else 2 * r + 1
theorem sd_eq {hi first r : Nat} {d : Array Int} (h : ¬ hi ≤ 2 * r + 1) : siftDown ltInt hi first r d = if ltInt d[first + r]! d[first + sdC hi first r d]! = true then siftDown ltInt hi first (sdC hi first r d) (Sort.swp d (first + r) (first + sdC hi first r d)) else d := by
  rw [siftDown, dif_neg h]
  unfold sdC
  by_cases g : 2 * r + 1 + 1 < hi ∧ ltInt d[first + (2 * r + 1)]! d[first + (2 * r + 1) + 1]! = true
  · rw [if_pos (by simp [g.1, g.2]), if_pos g]
    by_cases l : ltInt d[first + r]! d[first + (2 * r + 2)]! = true
    · rw [if_neg (by simp [l]), dif_pos (by omega), if_pos l]
    · rw [if_pos (by simp [l]), if_neg l]
  · rw [if_neg (by simpa using g), if_neg g]
    by_cases l : ltInt d[first + r]! d[first + (2 * r + 1)]! = true
    · rw [if_neg (by simp [l]), if_pos l]
    · rw [if_pos (by simp [l]), if_neg l]
theorem sd_end {hi first r : Nat} {d : Array Int} (h : hi ≤ 2 * r + 1) : siftDown ltInt hi first r d = d := by
  rw [siftDown, dif_pos h]
theorem sd_stop {hi first r C : Nat} {d : Array Int} (h : ¬ hi ≤ 2 * r + 1) (hC : sdC hi first r d = C) (hl : ltInt d[first + r]! d[first + C]! = false) : siftDown ltInt hi first r d = d := by
  rw [sd_eq h, hC, if_neg (by simp [hl])]
theorem sd_go {hi first r C : Nat} {d : Array Int} (h : ¬ hi ≤ 2 * r + 1) (hC : sdC hi first r d = C) (hl : ltInt d[first + r]! d[first + C]! = true) : siftDown ltInt hi first r d = siftDown ltInt hi first C (Sort.swp d (first + r) (first + C)) := by
  rw [sd_eq h, hC, if_pos hl]

theorem size_sd {hi first : Nat} : ∀ (f r : Nat) (d : Array Int), hi - r ≤ f → (siftDown ltInt hi first r d).size = d.size
  | 0, r, d, h => by rw [sd_end (by omega)]
  | f + 1, r, d, h => by
    by_cases g : hi ≤ 2 * r + 1
    · rw [sd_end g]
    · rw [sd_eq g]
      have h1 : 2 * r + 1 ≤ sdC hi first r d := by unfold sdC; split <;> omega
      split
      · rw [size_sd f _ _ (by omega), size_swp]
      · rfl

set_option maxRecDepth 100000 in
set_option maxHeartbeats 1000000 in
theorem sift_any (w : World) (b cap n lo hi first : Nat) (d : Array Int) (h : Rw w b d) (hn : d.size = n) (hh : first + hi ≤ n) (hlo : lo ≤ n) (hsz : n ≤ 4000000000000) :
    Calls Try.prog 36 #[.slice (some ⟨b, 0, none⟩) n cap, .int .i64 lo, .int .i64 hi, .int .i64 first] w (RowEnd b w (.tuple #[]) (siftDown ltInt hi first lo d)) := by
  have H := Lib.hid h
  have HN := Lib.hid hn
  clear h hn
  go_enter Try.func36, Try.ntmps36
  go_wp2_with fail
  go_loopw [8] (fun vr wr => ∃ (r : Nat) (dk : Array Int), vr = .int .i64 r ∧ r ≤ n ∧ dk.size = n ∧ Only [b] w wr ∧ Rw wr b dk ∧ siftDown ltInt hi first r dk = siftDown ltInt hi first lo d) (fun r _ => hi - (intOf r).toNat)
  case atStart => exact ⟨lo, d, rfl, hlo, HN.out, Only.refl _ _, H.out, rfl⟩
  case round =>
    obtain ⟨r, dk, rfl, hrn, hk, hO, hR, hS⟩ := hrel
    have HO2 := Lib.hid hO
    have HR2 := Lib.hid hR
    have HS := Lib.hid hS
    have HK := Lib.hid hk
    obtain ⟨G, hG⟩ : ∃ G : Nat → Int, ∀ t, G t = dk[t]! := ⟨fun t => dk[t]!, fun _ => rfl⟩
    have HG := Lib.hid hG
    clear hO hS hk hR hG
    by_cases hhi : hi ≤ 2 * r + 1
    · go_wp2_with fail
      exact bodyPost_ret (v := .tuple #[]) (by simp [results, Try.results36, go_sem]) rfl ⟨rfl, HO2.out, by rw [← HS.out, sd_end hhi]; exact HR2.out⟩
    · have hnhi := hhi
      by_cases h2 : 2 * r + 1 + 1 < hi
      · have c1 := HR2.out.cell (first + (2 * r + 1)) (by rw [HK.out]; omega)
        have c2 := HR2.out.cell (first + (2 * r + 1) + 1) (by rw [HK.out]; omega)
        rw [← HG.out] at c1 c2
        have g1 : decide (2 * (r : Int) + 1 + 1 < (hi : Int)) = true := by simp; omega
        go_wp2_with fail
        go_quiet ((go_at_call 31; exact Calls.quiet_of_same (less_any _ _ _)))
        clear g1
        have oq : Only [] wr (wr.drewN nq) := (Only.refl [] wr).drewN nq
        generalize hwq : wr.drewN nq = wq at oq ⊢
        have HO3 := Lib.hid (HO2.out.then0 oq)
        have HR3 := Lib.hid (HR2.out.keep oq (by simp))
        clear oq hwq
        clear c1 c2
        cases hl : ltInt (G (first + (2 * r + 1))) (G (first + (2 * r + 1) + 1))
        · have HCH : Hid (sdC hi first r dk = 2 * r + 1) := Lib.hid (by unfold sdC; rw [if_neg]; rintro ⟨_, g⟩; rw [← HG.out, ← HG.out, hl] at g; cases g)
          clear hl
          have hC : 2 * r + 1 < hi := by omega
          have k1 := HR3.out.cell (first + r) (by rw [HK.out]; omega)
          have k2 := HR3.out.cell (first + (2 * r + 1)) (by rw [HK.out]; omega)
          rw [← HG.out] at k1 k2
          go_wp2_with fail
          go_quiet ((go_at_call 31; exact Calls.quiet_of_same (less_any _ _ _)))
          have oq : Only [] wq (wq.drewN nq) := (Only.refl [] wq).drewN nq
          generalize hwq : wq.drewN nq = wp at oq ⊢
          have HO4 := Lib.hid (HO3.out.then0 oq)
          have HR4 := Lib.hid (HR3.out.keep oq (by simp))
          have k1 := oq.keepCell k1 (by simp)
          have k2 := oq.keepCell k2 (by simp)
          have f1 := HR4.out.free (first + r)
          have f2 := HR4.out.free (first + (2 * r + 1))
          clear oq hwq
          cases hl : ltInt (G (first + r)) (G (first + (2 * r + 1)))
          · have HL := Lib.hid hl
            clear hl
            go_wp2_with fail
            exact bodyPost_ret (v := .tuple #[]) (by simp [results, Try.results36, go_sem]) rfl ⟨rfl, HO4.out, by rw [← HS.out, sd_stop hnhi HCH.out (by rw [← HG.out, ← HG.out]; exact HL.out)]; exact HR4.out⟩
          · have HL := Lib.hid hl
            clear hl
            go_wp2_with fail
            go_region
            go_wp2_with fail
            go_roundw
            case rel =>
              refine ⟨2 * r + 1, Sort.swp dk (first + r) (first + (2 * r + 1)), by go_num, by omega, by rw [size_swp]; exact HK.out, ?_, ?_, ?_⟩
              · exact (HO4.out.trans (only_swp wp b (first + r) (first + (2 * r + 1)) _ _) (by simp)).drew
              · have := HR4.out.swp (i := first + r) (j := first + (2 * r + 1)) (by rw [HK.out]; omega) (by rw [HK.out]; omega)
                rw [← HG.out, ← HG.out] at this
                exact this
              · rw [← HS.out, sd_go hnhi HCH.out (by rw [← HG.out, ← HG.out]; exact HL.out)]
            case measure => simp [intOf]; omega
        · have HCH : Hid (sdC hi first r dk = 2 * r + 1 + 1) := Lib.hid (by unfold sdC; rw [if_pos ⟨h2, by rw [← HG.out, ← HG.out, hl]⟩])
          clear hl
          have hC : 2 * r + 1 + 1 < hi := by omega
          have k1 := HR3.out.cell (first + r) (by rw [HK.out]; omega)
          have k2 := HR3.out.cell (first + (2 * r + 1 + 1)) (by rw [HK.out]; omega)
          rw [← HG.out] at k1 k2
          go_wp2_with fail
          go_quiet ((go_at_call 31; exact Calls.quiet_of_same (less_any _ _ _)))
          have oq : Only [] wq (wq.drewN nq) := (Only.refl [] wq).drewN nq
          generalize hwq : wq.drewN nq = wp at oq ⊢
          have HO4 := Lib.hid (HO3.out.then0 oq)
          have HR4 := Lib.hid (HR3.out.keep oq (by simp))
          have k1 := oq.keepCell k1 (by simp)
          have k2 := oq.keepCell k2 (by simp)
          have f1 := HR4.out.free (first + r)
          have f2 := HR4.out.free (first + (2 * r + 1 + 1))
          clear oq hwq
          cases hl : ltInt (G (first + r)) (G (first + (2 * r + 1 + 1)))
          · have HL := Lib.hid hl
            clear hl
            go_wp2_with fail
            exact bodyPost_ret (v := .tuple #[]) (by simp [results, Try.results36, go_sem]) rfl ⟨rfl, HO4.out, by rw [← HS.out, sd_stop hnhi HCH.out (by rw [← HG.out, ← HG.out]; exact HL.out)]; exact HR4.out⟩
          · have HL := Lib.hid hl
            clear hl
            go_wp2_with fail
            go_region
            go_wp2_with fail
            go_roundw
            case rel =>
              refine ⟨2 * r + 1 + 1, Sort.swp dk (first + r) (first + (2 * r + 1 + 1)), by go_num, by omega, by rw [size_swp]; exact HK.out, ?_, ?_, ?_⟩
              · exact (HO4.out.trans (only_swp wp b (first + r) (first + (2 * r + 1 + 1)) _ _) (by simp)).drew
              · have := HR4.out.swp (i := first + r) (j := first + (2 * r + 1 + 1)) (by rw [HK.out]; omega) (by rw [HK.out]; omega)
                rw [← HG.out, ← HG.out] at this
                exact this
              · rw [← HS.out, sd_go hnhi HCH.out (by rw [← HG.out, ← HG.out]; exact HL.out)]
            case measure => simp [intOf]; omega
      · have g1 : decide (2 * (r : Int) + 1 + 1 < (hi : Int)) = false := by simp; omega
        go_wp2_with fail
        go_quiet (fail)
        clear g1
        have oq : Only [] wr (wr.drewN nq) := (Only.refl [] wr).drewN nq
        generalize hwq : wr.drewN nq = wq at oq ⊢
        have HO3 := Lib.hid (HO2.out.then0 oq)
        have HR3 := Lib.hid (HR2.out.keep oq (by simp))
        clear oq hwq
        have HCH : Hid (sdC hi first r dk = 2 * r + 1) := Lib.hid (by unfold sdC; rw [if_neg]; rintro ⟨g, _⟩; exact h2 g)
        have hC : 2 * r + 1 < hi := by omega
        have k1 := HR3.out.cell (first + r) (by rw [HK.out]; omega)
        have k2 := HR3.out.cell (first + (2 * r + 1)) (by rw [HK.out]; omega)
        rw [← HG.out] at k1 k2
        go_wp2_with fail
        go_quiet ((go_at_call 31; exact Calls.quiet_of_same (less_any _ _ _)))
        have oq : Only [] wq (wq.drewN nq) := (Only.refl [] wq).drewN nq
        generalize hwq : wq.drewN nq = wp at oq ⊢
        have HO4 := Lib.hid (HO3.out.then0 oq)
        have HR4 := Lib.hid (HR3.out.keep oq (by simp))
        have k1 := oq.keepCell k1 (by simp)
        have k2 := oq.keepCell k2 (by simp)
        have f1 := HR4.out.free (first + r)
        have f2 := HR4.out.free (first + (2 * r + 1))
        clear oq hwq
        cases hl : ltInt (G (first + r)) (G (first + (2 * r + 1)))
        · have HL := Lib.hid hl
          clear hl
          go_wp2_with fail
          exact bodyPost_ret (v := .tuple #[]) (by simp [results, Try.results36, go_sem]) rfl ⟨rfl, HO4.out, by rw [← HS.out, sd_stop hnhi HCH.out (by rw [← HG.out, ← HG.out]; exact HL.out)]; exact HR4.out⟩
        · have HL := Lib.hid hl
          clear hl
          go_wp2_with fail
          go_region
          go_wp2_with fail
          go_roundw
          case rel =>
            refine ⟨2 * r + 1, Sort.swp dk (first + r) (first + (2 * r + 1)), by go_num, by omega, by rw [size_swp]; exact HK.out, ?_, ?_, ?_⟩
            · exact (HO4.out.trans (only_swp wp b (first + r) (first + (2 * r + 1)) _ _) (by simp)).drew
            · have := HR4.out.swp (i := first + r) (j := first + (2 * r + 1)) (by rw [HK.out]; omega) (by rw [HK.out]; omega)
              rw [← HG.out, ← HG.out] at this
              exact this
            · rw [← HS.out, sd_go hnhi HCH.out (by rw [← HG.out, ← HG.out]; exact HL.out)]
          case measure => simp [intOf]; omega
end Go.Proofs.Ytenamlckhcfflaa
