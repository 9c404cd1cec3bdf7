/- Sorting words: turning a range round; scans (printed by gen_sort4.py). -/
import Derived.Test.YtenamlckhcfflaaSortU3
import Derived.Deep.DeepCutAuto
namespace Go.Proofs.Ytenamlckhcfflaa
open Go.RowKit Go.Sort
set_option linter.unusedVariables false

theorem scanUp_go {p : Int → Bool} {d : Array Int} {j i : Nat} (h : i ≤ j) (hp : p d[i]! = true) : scanUp p d j i = scanUp p d j (i + 1) := by
  conv => lhs; unfold scanUp
  rw [if_pos (by simp [h, hp])]
theorem scanUp_stop {p : Int → Bool} {d : Array Int} {j i : Nat} (h : j < i ∨ p d[i]! = false) : scanUp p d j i = i := by
  unfold scanUp
  rw [if_neg]
  rcases h with h | h
  · simp; intro h2; omega
  · simp [h]
theorem scanDown_go {p : Int → Bool} {d : Array Int} {i j : Nat} (h0 : 0 < j) (h : i ≤ j) (hp : p d[j]! = true) : scanDown p d i j = scanDown p d i (j - 1) := by
  obtain ⟨k, rfl⟩ : ∃ k, j = k + 1 := ⟨j - 1, by omega⟩
  rw [scanDown, if_pos (by simp [h, hp]), Nat.add_sub_cancel]
theorem scanDown_stop {p : Int → Bool} {d : Array Int} {i j : Nat} (h : j < i ∨ p d[j]! = false) : scanDown p d i j = j := by
  cases j with
  | zero => rfl
  | succ k =>
    rw [scanDown, if_neg]
    rcases h with h | h
    · simp; intro h2; omega
    · simp [h]

set_option maxRecDepth 100000 in
set_option maxHeartbeats 1000000 in
theorem rev_any (w : World) (b cap n a e : Nat) (d : Array Int) (h : Rw w b d) (hn : d.size = n) (he : e ≤ n) (hae : a < e) (hsz : n ≤ 4000000000000) :
    Calls Try.prog 29 #[.slice (some ⟨b, 0, none⟩) n cap, .int .i64 a, .int .i64 e] w (RowEnd b w (.tuple #[]) (reverseRange d a e)) := by
  have H := Lib.hid h
  have HN := Lib.hid hn
  clear h hn
  go_enter Try.func29, Try.ntmps29
  go_wp2_with fail
  go_loopw [6, 7] (fun vi vj wr => ∃ (i j : Nat) (dk : Array Int), vi = .int .i64 i ∧ vj = .int .i64 j ∧ i ≤ n ∧ j < n ∧ dk.size = n ∧ Only [b] w wr ∧ Rw wr b dk ∧ reverseLoop i j dk = reverseRange d a e) (fun _ j _ => (intOf j).toNat)
  case atStart => exact ⟨a, e - 1, d, rfl, by go_num, by omega, by omega, HN.out, Only.refl _ _, H.out, rfl⟩
  case round =>
    obtain ⟨i, j, dk, rfl, rfl, hin, hjn, hk, hO, hR, hS⟩ := hrel
    have HO := Lib.hid hO
    have HR := Lib.hid hR
    have HS := Lib.hid hS
    have HK := Lib.hid hk
    clear hO hR hS hk
    by_cases hij : i < j
    · have hpq : ¬ i = j := by omega
      have hqp : ¬ j = i := by omega
      go_upto_region 3 with fail
      go_cut [] (fun wx => Only [b] w wx ∧ Rw wx b (Sort.swp (dk) (i) (j)))
      case first =>
        obtain ⟨G, hG⟩ : ∃ G : Nat → Int, ∀ t, G t = (dk)[t]! := ⟨fun t => (dk)[t]!, fun _ => rfl⟩
        have c1 := HR.out.cell (i) (by rw [HK.out]; omega)
        have f1 := HR.out.free (i)
        have c2 := HR.out.cell (j) (by rw [HK.out]; omega)
        have f2 := HR.out.free (j)
        have SW := Lib.hid (HR.out.swp (i := i) (j := j) (by rw [HK.out]; omega) (by rw [HK.out]; omega))
        rw [← hG, ← hG] at SW
        rw [← hG] at c1 c2
        clear hG
        go_region
        go_wp2_with fail
        go_meet
        exact ⟨(HO.out.trans (only_swp wr b (i) (j) _ _) (by simp)).drew, SW.out⟩
      case rest =>
        obtain ⟨hO, hR⟩ := hcut
        have HO2 := Lib.hid hO
        have HR2 := Lib.hid hR
        clear hO hR
        go_wp2_with fail
        go_roundw
        case rel =>
          refine ⟨i + 1, j - 1, _, by go_num, by go_num, by omega, by omega, by rw [size_swp]; exact HK.out, HO2.out, HR2.out, ?_⟩
          rw [← HS.out]
          conv => rhs; unfold reverseLoop
          rw [if_pos hij]
        case measure => simp [intOf] <;> omega
    · go_wp2_with fail
      go_end0
      refine ⟨rfl, HO.out, ?_⟩
      rw [← HS.out]
      unfold reverseLoop
      rw [if_neg hij]
      exact HR.out
end Go.Proofs.Ytenamlckhcfflaa
