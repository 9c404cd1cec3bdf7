/- Whatever an owner and thieves do is linearizable: the law walked. -/
import Derived.Test.YtfhkhknnoepfeaaGreatMgF
import Derived.Test.YtfhkhknnoepfeaaGreatHistVals
import Derived.Test.YtfhkhknnoepfeaaGreatHistAwake
namespace Go.Proofs.YtfhkhknnoepfeaaGreat
open Go.RowKit
set_option linter.unusedVariables false

theorem Played.lin {cap : Int} {ops : List HOp} {k : Nat} (h : Played (capN cap) ops k) (hk : k ≤ 12) (h1 : 1 ≤ cap) (h2 : cap ≤ 64) : linB ops cap = true := by
  have hc : ((capN cap : Nat) : Int) = cap := by unfold capN; omega
  have ho := Orders.ordr HOp.zero h.orders h.formed
  rw [hc] at ho
  unfold linB
  rw [decide_eq_true (show ops.length ≤ 12 by rw [h.len]; exact hk), ho]
  simp only [Bool.true_and, Bool.and_true, List.all_eq_true]
  exact h.formed
theorem planOps_vals {cap : Int} {m : Nat} {raw : List Int} {k : Nat} {picks : List Int} (h : Played (capN cap) (planOps cap m raw k picks) k) : ∀ o ∈ planOps cap m raw k picks, inI o.value := by
  refine gplay_vals h (fun a x hx e => ?_)
  by_cases h0 : a = 0
  · subst h0; have := ((planF_ok m raw k).own x hx).2; unfold inI; omega
  · have := (planF_ok m raw k).thf a (by omega) x hx; omega
theorem getD_vals {l : List HOp} (h : ∀ o ∈ l, inI o.value) : ∀ i, i < l.length → -9223372036854775808 ≤ (l.getD i HOp.zero).value ∧ (l.getD i HOp.zero).value ≤ 9223372036854775807 := by
  intro i hi
  have := h (l.getD i HOp.zero) (by rw [List.getD_eq_getElem?_getD, List.getElem?_eq_getElem hi]; exact List.getElem_mem hi)
  unfold inI at this; omega

end Go.Proofs.YtfhkhknnoepfeaaGreat
