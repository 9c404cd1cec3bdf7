/- The sanity check of the chapter's laws, walked. -/
import Derived.Test.YtfhkhknnoepfeaaGreatHistPlay3
import Derived.Test.YtfhkhknnoepfeaaGreatHistLin8
namespace Go.Proofs.YtfhkhknnoepfeaaGreat
open Go.RowKit
set_option linter.unusedVariables false

def awPlan : List (List (Int × Int)) := [[(0, 5), (1, 0)], [(2, 0)]]
def awOps : List HOp := [⟨0, 0, 0, 3, 0, 5⟩, ⟨1, 0, 4, 10, 1, 5⟩, ⟨2, 1, 11, 12, 2, 0⟩]
def awEarly : List HOp := [⟨1, 0, 0, 1, 1, 5⟩, ⟨0, 0, 2, 5, 0, 5⟩]
theorem awPlay : gplay (capN 1) awPlan.length (planActs awPlan) (([] : List Int).map (modN awPlan.length)) = awOps := by kernel_rfl
theorem awLin : linB awOps 1 = true := by rfl
theorem awLin2 : linB awEarly 1 = false := by rfl

set_option maxRecDepth 100000 in
set_option maxHeartbeats 4000000 in
theorem awake_any (w : World) : Calls Tryz.prog 9 #[] w fun e w' => e = .returned (.bool true) ∧ Only [] w w' := by
  go_enter Tryz.func9, Tryz.ntmps9
  go_wp2_with fail
  obtain ⟨w1, hw1⟩ : ∃ w1, w1 = (((w.alloc (.cells #[.int .i64 0, .int .i64 5, .int .i64 1, .int .i64 0] 44)).alloc (.cells #[.int .i64 2, .int .i64 0] 44)).alloc (.cells #[.slice (some ⟨w.heap.size, 0, none⟩) 2 2, .slice (some ⟨w.heap.size + 1, 0, none⟩) 1 1] 40)) := ⟨_, rfl⟩
  obtain ⟨b, hb⟩ : ∃ b, b = w.heap.size := ⟨_, rfl⟩
  have o1 : Only [] w w1 := by rw [hw1]; exact (((Only.refl _ _).alloc _).alloc _).alloc _
  have B0 : w1.heap[b]? = some (.cells #[.int .i64 0, .int .i64 5, .int .i64 1, .int .i64 0] 44 (0, 0)) := by
    rw [hw1, hb]
    exact (((Only.refl [] (w.alloc _)).alloc _).alloc _).keep (blk_alloc_new w _) (by simp)
  have B1 : w1.heap[b + 1]? = some (.cells #[.int .i64 2, .int .i64 0] 44 (0, 0)) := by
    rw [hw1, hb]
    have h := ((Only.refl [] ((w.alloc (.cells #[.int .i64 0, .int .i64 5, .int .i64 1, .int .i64 0] 44)).alloc _)).alloc (.cells #[.slice (some ⟨w.heap.size, 0, none⟩) 2 2, .slice (some ⟨w.heap.size + 1, 0, none⟩) 1 1] 40)).keep (blk_alloc_new _ (.cells #[.int .i64 2, .int .i64 0] 44)) (by simp)
    simpa using h
  have B2 : w1.heap[b + 2]? = some (.cells #[.slice (some ⟨b, 0, none⟩) 2 2, .slice (some ⟨b + 1, 0, none⟩) 1 1] 40 (0, 0)) := by
    rw [hw1, hb]
    have h := blk_alloc_new ((w.alloc (.cells #[.int .i64 0, .int .i64 5, .int .i64 1, .int .i64 0] 44)).alloc (.cells #[.int .i64 2, .int .i64 0] 44)) (.cells #[.slice (some ⟨w.heap.size, 0, none⟩) 2 2, .slice (some ⟨w.heap.size + 1, 0, none⟩) 1 1] 40)
    simpa using h
  have PLN : PlanAt w1 (.slice (some ⟨b + 2, 0, none⟩) 2 2) awPlan := by
    refine ⟨_, _, rfl, by simp [awPlan], fun _ => ⟨_, _, rfl, fun i hi => ?_⟩⟩
    match i, hi with
    | 0, _ => exact ⟨_, by rw [cell_blk B2]; rfl, _, _, rfl, fun _ => ⟨_, _, rfl, fun j hj => by
        match j, hj with
        | 0, _ => rw [cell_blk B0]; rfl
        | 1, _ => rw [cell_blk B0]; rfl
        | 2, _ => rw [cell_blk B0]; rfl
        | 3, _ => rw [cell_blk B0]; rfl⟩, by simp, by simp [awPlan]⟩
    | 1, _ => exact ⟨_, by rw [cell_blk B2]; rfl, _, _, rfl, fun _ => ⟨_, _, rfl, fun j hj => by
        match j, hj with
        | 0, _ => rw [cell_blk B1]; rfl
        | 1, _ => rw [cell_blk B1]; rfl⟩, by simp, by simp [awPlan]⟩
  have PL := play_any w1 1 _ awPlan PLN none 0 [] (CellsAt.nil _ _) (by simp [awPlan]) (by simp [awPlan]) (fun a ha => by
    match a, ha with
    | 0, _ => simp [awPlan]
    | 1, _ => simp [awPlan]) (by simp) (fun x hx => by
      simp [planActs, awPlan, ableB] at hx
      rcases hx with rfl | rfl <;> (unfold inI; simp)) (by decide)
  rw [awPlay] at PL
  have O1 := Lib.hid o1
  rw [← hw1]
  have hb2 : w.heap.size + 1 + 1 = b + 2 := by omega
  rw [hb2]
  clear B0 B1 B2 PLN o1 hw1 hb hb2
  refine PL.mono ?_; rintro e w2 ⟨v, rfl, hown, o2⟩
  have V2 : Hid (OL w2 v awOps) := Lib.hid (ops_owns hown rfl)
  have O2 := Lib.hid (O1.out.then0 o2)
  obtain ⟨vao, vc, rfl, -⟩ := id V2.out
  clear hown o2 PL
  go_wp2_with fail
  obtain ⟨w3, hw3⟩ : ∃ w3, w3 = (w2.alloc (.cells #[.int .i64 0, .int .i64 0, .int .i64 0, .int .i64 3, .int .i64 0, .int .i64 5, .int .i64 1, .int .i64 0, .int .i64 4, .int .i64 10, .int .i64 1, .int .i64 5, .int .i64 2, .int .i64 1, .int .i64 11, .int .i64 12, .int .i64 2, .int .i64 0] 36)).alloc (.cells #[.int .i64 1, .int .i64 0, .int .i64 0, .int .i64 1, .int .i64 1, .int .i64 5, .int .i64 0, .int .i64 0, .int .i64 2, .int .i64 5, .int .i64 0, .int .i64 5] 36) := ⟨_, rfl⟩
  obtain ⟨d, hd⟩ : ∃ d, d = w2.heap.size := ⟨_, rfl⟩
  have o3 : Only [] w2 w3 := by rw [hw3]; exact ((Only.refl _ _).alloc _).alloc _
  have C3 : w3.heap[d]? = some (.cells #[.int .i64 0, .int .i64 0, .int .i64 0, .int .i64 3, .int .i64 0, .int .i64 5, .int .i64 1, .int .i64 0, .int .i64 4, .int .i64 10, .int .i64 1, .int .i64 5, .int .i64 2, .int .i64 1, .int .i64 11, .int .i64 12, .int .i64 2, .int .i64 0] 36) := by
    rw [hw3, hd]
    exact ((Only.refl [] (w2.alloc _)).alloc _).keep (blk_alloc_new w2 _) (by simp)
  have C2 : w3.heap[d + 1]? = some (.cells #[.int .i64 1, .int .i64 0, .int .i64 0, .int .i64 1, .int .i64 1, .int .i64 5, .int .i64 0, .int .i64 0, .int .i64 2, .int .i64 5, .int .i64 0, .int .i64 5] 36) := by
    rw [hw3, hd]
    have h := blk_alloc_new (w2.alloc (.cells #[.int .i64 0, .int .i64 0, .int .i64 0, .int .i64 3, .int .i64 0, .int .i64 5, .int .i64 1, .int .i64 0, .int .i64 4, .int .i64 10, .int .i64 1, .int .i64 5, .int .i64 2, .int .i64 1, .int .i64 11, .int .i64 12, .int .i64 2, .int .i64 0] 36)) (.cells #[.int .i64 1, .int .i64 0, .int .i64 0, .int .i64 1, .int .i64 1, .int .i64 5, .int .i64 0, .int .i64 0, .int .i64 2, .int .i64 5, .int .i64 0, .int .i64 5] 36)
    simpa using h
  have V3 := V2.out.keep o3
  have W3 : OL w3 (.slice (some ⟨d, 0, none⟩) 3 3) awOps := by
    refine ⟨_, _, rfl, by simp [awOps], fun _ => ⟨_, _, rfl, fun i hi => ?_⟩⟩
    match i, hi with
    | 0, _ => unfold OpAt; repeat rw [cell_blk C3]
              exact ⟨rfl, rfl, rfl, rfl, rfl, rfl⟩
    | 1, _ => unfold OpAt; repeat rw [cell_blk C3]
              exact ⟨rfl, rfl, rfl, rfl, rfl, rfl⟩
    | 2, _ => unfold OpAt; repeat rw [cell_blk C3]
              exact ⟨rfl, rfl, rfl, rfl, rfl, rfl⟩
  have E3 : OL w3 (.slice (some ⟨d + 1, 0, none⟩) 2 2) awEarly := by
    refine ⟨_, _, rfl, by simp [awEarly], fun _ => ⟨_, _, rfl, fun i hi => ?_⟩⟩
    match i, hi with
    | 0, _ => unfold OpAt; repeat rw [cell_blk C2]
              exact ⟨rfl, rfl, rfl, rfl, rfl, rfl⟩
    | 1, _ => unfold OpAt; repeat rw [cell_blk C2]
              exact ⟨rfl, rfl, rfl, rfl, rfl, rfl⟩
  have SM := Lib.hid (refSameOps_any w3 _ _ _ V3 W3 (by simp [awOps]))
  have O3 := Lib.hid (O2.out.then0 o3)
  have V3 := Lib.hid V3
  have E3 := Lib.hid E3
  rw [← hw3, ← hd]
  clear C2 C3 W3 o3 hw3 hd V2
  refine SM.out.mono ?_; rintro e w4 ⟨rfl, o4⟩
  have O4 := Lib.hid (O3.out.then0 o4)
  have LA := Lib.hid (linear_any w4 _ awOps 1 (V3.out.keep o4) (by decide))
  have E4 := Lib.hid (E3.out.keep o4)
  rw [awLin] at LA
  clear SM o4
  go_wp2_with fail
  refine LA.out.mono ?_; rintro e w5 ⟨rfl, o5⟩
  have O5 := Lib.hid (O4.out.then0 o5)
  have LB := Lib.hid (linear_any w5 _ awEarly 1 (E4.out.keep o5) (by decide))
  rw [awLin2] at LB
  clear LA o5
  go_wp2_with fail
  refine LB.out.mono ?_; rintro e w6 ⟨rfl, o6⟩
  have O6 := Lib.hid (O5.out.then0 o6)
  clear LB o6
  go_wp2_with fail
  go_ret
  exact ⟨rfl, O6.out⟩
end Go.Proofs.YtfhkhknnoepfeaaGreat
