/- Which events are valid: the law walked. No condition beside the library's variables. -/
import Derived.Test.YtncnepmgmphanaaDoorEvAwake
namespace Go.Proofs.YtncnepmgmphanaaDoor
open Go.RowKit
set_option linter.unusedVariables false
set_option linter.unusedSimpArgs false

set_option maxRecDepth 100000 in
set_option maxHeartbeats 4000000 in
theorem EventsValid_any (w : World) (hL : LibAt w) (K a b c d : Int) (near : Bool) :
    Calls Tryd.prog 3 #[.agg #[.int .i64 K, .int .i64 a, .int .i64 b, .int .i64 c, .int .i64 d], .bool near] w fun e w' => e = .returned (.bool true) ∧ Only [] w w' := by
  obtain ⟨W0, hW0⟩ : ∃ W0, W0 = w.alloc (.cells #[.int .i64 K, .int .i64 a, .int .i64 b, .int .i64 c, .int .i64 d] 23) := ⟨_, rfl⟩
  obtain ⟨bx, hbx⟩ : ∃ bx, bx = w.heap.size := ⟨_, rfl⟩
  have HW0 := Lib.hid hW0
  have HBX := Lib.hid hbx
  have HX := Lib.hid (show W0.heap[bx]? = some (.cells #[.int .i64 K, .int .i64 a, .int .i64 b, .int .i64 c, .int .i64 d] 23 (0, 0)) from by rw [hW0, hbx]; exact blk_alloc_new _ _)
  have O0 : Hid (Only [] w W0) := Lib.hid (by rw [hW0]; exact (Only.refl _ _).alloc _)
  have HL := Lib.hid hL
  clear hW0 hbx hL
  go_enter Tryd.func3, Tryd.ntmps3
  go_upto_if 5 with fail
  rw [← HW0.out, ← HBX.out]
  go_cut [] (fun wx => ∃ K a b c d : Int, wx.heap[bx]? = some (.cells #[.int .i64 K, .int .i64 a, .int .i64 b, .int .i64 c, .int .i64 d] 23 (0, 0)) ∧ Only [] w wx)
  case first =>
    have c0 := cell_blk HX.out 0
    have c1 := cell_blk HX.out 1
    have c2 := cell_blk HX.out 2
    have c3 := cell_blk HX.out 3
    have c4 := cell_blk HX.out 4
    simp at c0 c1 c2 c3 c4
    have f0 := free_blk HX.out 0
    have f1 := free_blk HX.out 1
    have f2 := free_blk HX.out 2
    have f3 := free_blk HX.out 3
    have f4 := free_blk HX.out 4
    have hlt := lt_of_blk HX.out
    cases near with
    | true =>
      go_wp2_with fail
      go_meet
      exact ⟨K.tmod 22, a.tmod 300, b.tmod 2, c.tmod 2, d.tmod 2, by
        have e := blk_setCell (blk_setCell (blk_setCell (blk_setCell (blk_setCell HX.out 0 (.int .i64 (K.tmod 22))) 1 (.int .i64 (a.tmod 300))) 2 (.int .i64 (b.tmod 2))) 3 (.int .i64 (c.tmod 2))) 4 (.int .i64 (d.tmod 2))
        simpa only [List.setIfInBounds_toArray, List.set_cons_zero, List.set_cons_succ] using e, (((((O0.out.setCell (.inr (Nat.le_of_eq HBX.out.symm)) _).setCell (.inr (Nat.le_of_eq HBX.out.symm)) _).setCell (.inr (Nat.le_of_eq HBX.out.symm)) _).setCell (.inr (Nat.le_of_eq HBX.out.symm)) _).setCell (.inr (Nat.le_of_eq HBX.out.symm)) _)⟩
    | false =>
      go_wp2_with fail
      go_meet
      exact ⟨K, a, b, c, d, HX.out, O0.out⟩
  case rest =>
    clear HX HW0
    obtain ⟨K1, a1, b1, c1, d1, hX, ho⟩ := hcut
    obtain ⟨w1, hw1⟩ : ∃ w1, w1 = wc := ⟨_, rfl⟩
    subst hw1
    have HX := Lib.hid hX
    have O1 := Lib.hid ho
    have L1 := Lib.hid (HL.out.keep0 ho)
    have EC : Hid (∀ w', Only [] w1 w' → w'.cell? ⟨bx, 0, none⟩ = some (.int .i64 K1) ∧ w'.cell? ⟨bx, 1, none⟩ = some (.int .i64 a1) ∧ w'.cell? ⟨bx, 2, none⟩ = some (.int .i64 b1) ∧ w'.cell? ⟨bx, 3, none⟩ = some (.int .i64 c1) ∧ w'.cell? ⟨bx, 4, none⟩ = some (.int .i64 d1)) := Lib.hid (fun w' o' => by
      have h := o'.keep hX (by simp)
      exact ⟨cell_blk h 0, cell_blk h 1, cell_blk h 2, cell_blk h 3, cell_blk h 4⟩)
    have AW := Lib.hid (fun w' (o : Only [] w1 w') => awake_any w' (L1.out.keep0 o))
    have VA := fun w' => valid_any w' ⟨K1, a1, b1, c1, d1⟩
    have RV := fun w' => refValid_any w' ⟨K1, a1, b1, c1, d1⟩
    obtain ⟨q, hq⟩ : ∃ q, q = validB ⟨K1, a1, b1, c1, d1⟩ := ⟨_, rfl⟩
    rw [← hq] at VA RV
    unfold evV at VA RV
    have VAH := Lib.hid VA
    have RVH := Lib.hid RV
    clear hX ho VA RV hq
    go_upto_region 4 with fail
    go_region_held3 (fun w' => w'.cell? ⟨bx, 0, none⟩ = some (.int .i64 K1) ∧ w'.cell? ⟨bx, 1, none⟩ = some (.int .i64 a1) ∧ w'.cell? ⟨bx, 2, none⟩ = some (.int .i64 b1) ∧ w'.cell? ⟨bx, 3, none⟩ = some (.int .i64 c1) ∧ w'.cell? ⟨bx, 4, none⟩ = some (.int .i64 d1))
      (with_reducible refine EC.out _ ?_; (repeat (with_reducible refine Only.drew ?_)); (first | with_reducible exact Only.refl _ _ | with_reducible assumption))
      ((first
        | (go_at_call 5
           refine (AW.out _ (by (repeat (with_reducible refine Only.drew ?_)); (first | with_reducible exact Only.refl _ _ | with_reducible assumption))).mono ?_
           rintro e w2 ⟨rfl, o2⟩
           have QA : Only [] w1 w2 := Only.then0 (by (repeat (with_reducible refine Only.drew ?_)); (first | with_reducible exact Only.refl _ _ | with_reducible assumption)) o2
           clear o2)
        | (go_at_call 6
           refine (VAH.out _).mono ?_
           rintro e w3 ⟨rfl, o3⟩
           have QB : Only [] w1 w3 := Only.then0 (by (repeat (with_reducible refine Only.drew ?_)); (first | with_reducible exact Only.refl _ _ | with_reducible assumption)) o3
           clear o3)
        | (go_at_call 7
           refine (RVH.out _).mono ?_
           rintro e w4 ⟨rfl, o4⟩
           have QC : Only [] w1 w4 := Only.then0 (by (repeat (with_reducible refine Only.drew ?_)); (first | with_reducible exact Only.refl _ _ | with_reducible assumption)) o4
           clear o4)))
    all_goals
      go_wp2_with fail
      go_ret
      exact ⟨by simp, O1.out.then0 (by (repeat (with_reducible refine Only.drew ?_)); (first | with_reducible exact Only.refl _ _ | with_reducible assumption))⟩
end Go.Proofs.YtncnepmgmphanaaDoor
