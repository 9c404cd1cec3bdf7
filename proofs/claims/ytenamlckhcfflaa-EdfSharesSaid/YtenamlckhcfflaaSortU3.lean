/- Sorting words: the heap's sort, turning a range round. -/
import Derived.Test.YtenamlckhcfflaaSortU2
namespace Go.Proofs.Ytenamlckhcfflaa
open Go.RowKit Go.Sort
set_option linter.unusedVariables false

theorem heapBuild_succ {hi first k : Nat} {d : Array Int} : heapBuild ltInt hi first (k + 1) d = heapBuild ltInt hi first k (siftDown ltInt hi first k d) := rfl
theorem heapPop_succ {first k : Nat} {d : Array Int} : heapPop ltInt first (k + 1) d = heapPop ltInt first k (siftDown ltInt k first 0 (Sort.swp d first (first + k))) := rfl
theorem size_hb {hi first : Nat} : ∀ (k : Nat) (d : Array Int), (heapBuild ltInt hi first k d).size = d.size
  | 0, d => rfl
  | k + 1, d => by rw [heapBuild_succ, size_hb k, size_sd _ _ _ (Nat.le_refl _)]

set_option maxRecDepth 100000 in
set_option maxHeartbeats 1000000 in
theorem heap_any (w : World) (b cap n a e : Nat) (d : Array Int) (h : Rw w b d) (hn : d.size = n) (he : e ≤ n) (hae : a ≤ e) (hsz : n ≤ 4000000000000) :
    Calls Try.prog 26 #[.slice (some ⟨b, 0, none⟩) n cap, .int .i64 a, .int .i64 e] w (RowEnd b w (.tuple #[]) (heapSort ltInt d a e)) := by
  have H := Lib.hid h
  have HN := Lib.hid hn
  obtain ⟨hi, hhi⟩ : ∃ hi, hi = e - a := ⟨_, rfl⟩
  have hs : ((e : Int) - (a : Int)) = (hi : Int) := by omega
  have hle : a + hi ≤ n := by omega
  have HE : Hid (heapSort ltInt d a e = heapPop ltInt a hi (heapBuild ltInt hi a ((hi - 1) / 2 + 1) d)) := Lib.hid (by unfold heapSort; rw [← hhi])
  clear h hn hhi
  go_enter Try.func26, Try.ntmps26
  go_wp2_with fail
  go_loopw [9] (fun vi wr => ∃ (k : Nat) (dk : Array Int), vi = .int .i64 ((k : Int) - 1) ∧ k ≤ n + 1 ∧ dk.size = n ∧ Only [b] w wr ∧ Rw wr b dk ∧ heapBuild ltInt hi a k dk = heapBuild ltInt hi a ((hi - 1) / 2 + 1) d) (fun i _ => (intOf i + 1).toNat)
  case atStart =>
    refine ⟨(hi - 1) / 2 + 1, d, ?_, by omega, HN.out, Only.refl _ _, H.out, rfl⟩
    congr 1
    rcases Nat.eq_zero_or_pos hi with rfl | h0
    · rfl
    · rw [Int.tdiv_eq_ediv_of_nonneg (by omega)]; omega
  case round =>
    obtain ⟨k, dk, rfl, hkn, hk, hO, hR, hS⟩ := hrel
    have HO := Lib.hid hO
    have HR := Lib.hid hR
    have HS := Lib.hid hS
    have HK := Lib.hid hk
    clear hO hS hk hR
    rcases (show k = 0 ∨ ∃ k', k = k' + 1 from by cases k; exact .inl rfl; exact .inr ⟨_, rfl⟩) with rfl | ⟨k', rfl⟩
    · have e0 : (((0 : Nat) : Int) - 1) = -1 := rfl
      rw [e0]
      go_wp2_with fail
      go_loopw [10] (fun vi wr2 => ∃ (k : Nat) (dj : Array Int), vi = .int .i64 ((k : Int) - 1) ∧ k ≤ hi ∧ dj.size = n ∧ Only [b] w wr2 ∧ Rw wr2 b dj ∧ heapPop ltInt a k dj = heapSort ltInt d a e) (fun i _ => (intOf i + 1).toNat)
      case atStart => exact ⟨hi, dk, rfl, Nat.le_refl _, HK.out, HO.out, HR.out, by rw [HE.out, ← HS.out]; rfl⟩
      case round =>
        obtain ⟨k, dj, rfl, hkn, hk, hO, hR, hJ⟩ := hrel
        have HO2 := Lib.hid hO
        have HR2 := Lib.hid hR
        have HJ := Lib.hid hJ
        have HK2 := Lib.hid hk
        clear hO hJ hk hR
        rcases (show k = 0 ∨ ∃ k', k = k' + 1 from by cases k; exact .inl rfl; exact .inr ⟨_, rfl⟩) with rfl | ⟨k', rfl⟩
        · go_wp2_with fail
          go_end0
          exact ⟨rfl, HO2.out, by rw [← HJ.out]; exact HR2.out⟩
        · have e1 : (((k' + 1 : Nat) : Int) - 1) = (k' : Int) := by omega
          rw [e1]
          obtain ⟨G, hG⟩ : ∃ G : Nat → Int, ∀ t, G t = dj[t]! := ⟨fun t => dj[t]!, fun _ => rfl⟩
          have c1 := HR2.out.cell a (by rw [HK2.out]; omega)
          have c2 := HR2.out.cell (a + k') (by rw [HK2.out]; omega)
          have f1 := HR2.out.free a
          have f2 := HR2.out.free (a + k')
          rw [← hG] at c1 c2
          have HG := Lib.hid hG
          have SW := Lib.hid (HR2.out.swp (i := a) (j := a + k') (by rw [HK2.out]; omega) (by rw [HK2.out]; omega))
          rw [← hG, ← hG] at SW
          clear hG
          rcases (show k' = 0 ∨ 0 < k' from by omega) with hk0 | hk0
          · have hq : ((a : Int) + (k' : Int)) = (a : Int) := by omega
            have haq : a + k' = a := by omega
            rw [haq] at c2 f2 SW
            have HQ := Lib.hid (And.intro haq hk0)
            clear haq hk0
            go_wp2_with fail
            go_region
            obtain ⟨ws, hws⟩ : ∃ ws, ws = ((wr.setCell ⟨b, a, none⟩ (.int .u64 (G (a)))).setCell ⟨b, a, none⟩ (.int .u64 (G a))).drew := ⟨_, rfl⟩
            have SO : Only [b] wr ws := by rw [hws]; exact (only_swp wr b a (a) _ _).drew
            have SR : Rw ws b (Sort.swp dj a (a)) := by rw [hws]; exact SW.out
            rw [← hws]
            have SD := Lib.hid (sift_any ws b cap n 0 k' a _ SR (by rw [size_swp]; exact HK2.out) (by omega) (by omega) hsz)
            have O3 := Lib.hid (HO2.out.trans SO (by simp))
            clear hws SO SR c1 c2 f1 f2 SW
            go_wp2_with fail
            refine SD.out.mono ?_; rintro e w1 ⟨rfl, o1, r1⟩
            have O1 := Lib.hid (O3.out.trans o1 (by simp))
            have R1 := Lib.hid r1
            clear o1 r1 SD
            go_wp2_with fail
            go_roundw
            case rel => exact ⟨k', _, rfl, by omega, by rw [size_sd _ _ _ (Nat.le_refl _), size_swp]; exact HK2.out, O1.out, R1.out, by rw [← HJ.out, heapPop_succ, HQ.out.1]⟩
            case measure => simp [intOf] <;> omega
          · have hne : a ≠ a + k' := by omega
            go_wp2_with fail
            go_region
            obtain ⟨ws, hws⟩ : ∃ ws, ws = ((wr.setCell ⟨b, a, none⟩ (.int .u64 (G (a + k')))).setCell ⟨b, a + k', none⟩ (.int .u64 (G a))).drew := ⟨_, rfl⟩
            have SO : Only [b] wr ws := by rw [hws]; exact (only_swp wr b a (a + k') _ _).drew
            have SR : Rw ws b (Sort.swp dj a (a + k')) := by rw [hws]; exact SW.out
            rw [← hws]
            have SD := Lib.hid (sift_any ws b cap n 0 k' a _ SR (by rw [size_swp]; exact HK2.out) (by omega) (by omega) hsz)
            have O3 := Lib.hid (HO2.out.trans SO (by simp))
            clear hws SO SR c1 c2 f1 f2 SW
            go_wp2_with fail
            refine SD.out.mono ?_; rintro e w1 ⟨rfl, o1, r1⟩
            have O1 := Lib.hid (O3.out.trans o1 (by simp))
            have R1 := Lib.hid r1
            clear o1 r1 SD
            go_wp2_with fail
            go_roundw
            case rel => exact ⟨k', _, rfl, by omega, by rw [size_sd _ _ _ (Nat.le_refl _), size_swp]; exact HK2.out, O1.out, R1.out, by rw [← HJ.out, heapPop_succ]⟩
            case measure => simp [intOf] <;> omega
    · have e1 : (((k' + 1 : Nat) : Int) - 1) = (k' : Int) := by omega
      rw [e1]
      have SD := Lib.hid (sift_any wr b cap n k' hi a dk HR.out HK.out (by omega) (by omega) hsz)
      go_wp2_with fail
      refine SD.out.mono ?_; rintro e w1 ⟨rfl, o1, r1⟩
      have O1 := Lib.hid (HO.out.trans o1 (by simp))
      have R1 := Lib.hid r1
      clear o1 r1 SD
      go_wp2_with fail
      go_roundw
      case rel => exact ⟨k', _, rfl, by omega, by rw [size_sd _ _ _ (Nat.le_refl _)]; exact HK.out, O1.out, R1.out, by rw [← HS.out, heapBuild_succ]⟩
      case measure => simp [intOf] <;> omega
end Go.Proofs.Ytenamlckhcfflaa
