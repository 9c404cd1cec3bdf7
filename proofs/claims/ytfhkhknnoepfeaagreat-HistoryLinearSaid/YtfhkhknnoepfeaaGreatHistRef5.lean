/- The reference's Linear, walked. -/
import Derived.Test.YtfhkhknnoepfeaaGreatMgH
import Derived.Test.YtfhkhknnoepfeaaGreatHistLin8
namespace Go.Proofs.YtfhkhknnoepfeaaGreat
open Go.RowKit
set_option linter.unusedVariables false

theorem infoBool : (Tryz.prog.info? 4).map (fun i => (i.zero, i.size, i.bytes)) = some (some (.bool false), 1, 1) := by kernel_rfl

set_option maxRecDepth 100000 in
set_option maxHeartbeats 4000000 in
theorem refLinear_any (w : World) (v : Value) (l : List HOp) (cap : Int) (hv : OL w v l) (hl : l.length ≤ 1000000) :
    Calls Tryz.prog 14 #[v, .int .i64 cap] w fun e w' => e = .returned (.bool (linB l cap)) ∧ Only [] w w' := by
  obtain ⟨i0, hi, hz0, hz1, hz2⟩ := info_parts infoBool
  obtain ⟨n, hnn⟩ : ∃ n, n = l.length := ⟨_, rfl⟩
  have HV := Lib.hid hv
  obtain ⟨ao, c1, rfl, hc, g1⟩ := hv
  rw [← hnn] at hc g1 hl HV ⊢
  have G := Lib.hid g1
  have HN := Lib.hid hnn
  clear g1 hnn
  by_cases hlen : n ≤ 12
  rotate_left
  · have LB : Hid (linB l cap = false) := Lib.hid (by unfold linB; rw [decide_eq_false (by have := HN.out; omega)]; rfl)
    go_enter Tryz.func14, Tryz.ntmps14
    go_wp2_with fail
    go_ret
    exact ⟨by rw [LB.out]; rfl, Only.refl _ _⟩
  · go_enter Tryz.func14, Tryz.ntmps14
    go_wp2_with fail
    go_loopw [5] (fun i wr => ∃ k : Nat, k ≤ n ∧ i = .int .i64 k ∧ Only [] w wr ∧ ∀ i, i < k → (l.getD i HOp.zero).formed = true) (fun i _ => n - (intOf i).toNat)
    case atStart => exact ⟨0, Nat.zero_le _, rfl, Only.refl _ _, fun i hi => by omega⟩
    case round =>
      obtain ⟨k, hk, rfl, hP, hF⟩ := hrel
      have P := Lib.hid hP
      have F := Lib.hid hF
      clear hP hF
      by_cases hlt : k < n
      · obtain ⟨b, off, rfl, hc1⟩ := G.out (by omega)
        have e1 := (hc1 k hlt).keep P.out (by simp)
        obtain ⟨o, ho⟩ : ∃ o, o = l.getD k HOp.zero := ⟨_, rfl⟩
        have HO := Lib.hid ho
        rw [← ho] at e1
        clear hc1 ho
        have FM := fun w => Lib.hid (refFormed_any w o)
        obtain ⟨r, hr⟩ : ∃ r, r = o.formed := ⟨_, rfl⟩
        rw [← hr] at FM
        have HR := Lib.hid hr
        clear hr
        unfold OpAt at e1
        obtain ⟨k0, m0, f0, t0, d0, v0⟩ := o
        obtain ⟨a0, a1, a2, a3, a4, a5⟩ := e1
        simp only [HOp.v] at FM a0 a1 a2 a3 a4 a5
        go_wp2_with fail
        refine (FM _).out.mono ?_; rintro e w3 ⟨rfl, o3⟩
        have P3 := Lib.hid (P.out.then0 o3)
        clear o3
        cases r with
        | false =>
          have LB : Hid (linB l cap = false) := Lib.hid (by
            unfold linB
            have : l.all (fun o => o.formed) = false := by
              rw [List.all_eq_false]
              exact ⟨l.getD k HOp.zero, by rw [List.getD_eq_getElem?_getD, List.getElem?_eq_getElem (by have := HN.out; omega)]; exact List.getElem_mem _, by rw [← HO.out, ← HR.out]; simp⟩
            rw [this]; simp)
          go_wp2_with fail
          go_ret
          exact ⟨by rw [LB.out]; rfl, P3.out⟩
        | true =>
          go_wp2_with fail
          go_roundw
          case rel => exact ⟨k + 1, by omega, by go_num, P3.out, fun i hi => by
            by_cases e : i = k
            · rw [e, ← HO.out, ← HR.out]
            · exact F.out i (by omega)⟩
          case measure => simp [intOf]; omega
      · obtain rfl : n = k := by omega
        have FF : Hid (∀ i, i < l.length → (l.getD i HOp.zero).formed = true) := Lib.hid (by rw [← HN.out]; exact F.out)
        have ALLF : Hid (l.all (fun o => o.formed) = true) := Lib.hid (by
          rw [List.all_eq_true]
          intro o ho
          obtain ⟨i, hi, rfl⟩ := List.getElem_of_mem ho
          have := FF.out i hi
          rwa [List.getD_eq_getElem?_getD, List.getElem?_eq_getElem hi] at this)
        have LB : Hid (linB l cap = ordr (fun a => l.getD a HOp.zero) l.length cap l.length (fun _ => false) []) := Lib.hid (by
          unfold linB
          rw [ALLF.out, decide_eq_true (show l.length ≤ 12 by have := HN.out; omega)]; rfl)
        have hn0 : (0 : Int) ≤ n := by omega
        clear hlt
        go_wp2_with (at_make; refine wpList_make_full _ rfl _ _ 85 rfl wr.heap.size 4 i0 (.bool false) 1 Tryz.underlying85 hi hz0 hz1 .i64 .i64 _ _ n rfl rfl rfl rfl (by rw [hz2]; omega) (by unfold maxLen; omega) (by simp) ?_)
        intro w2 hown hgrow
        have U2 : Hid (UR w2 wr.heap.size n (fun _ => false)) := Lib.hid (by
          obtain ⟨hl2, h | ⟨g, cap2, cur, e, hb, hh, hn2, hc2, hs2, ht⟩⟩ := hown
          · exact absurd h.1 (by simp)
          · simp at e
            obtain ⟨rfl, rfl⟩ := e
            rw [toList_madeCells_one] at ht
            have hcur : cur = usedRow n (fun _ => false) := by
              apply Array.ext'
              have : cur.toList.length = n := by simpa using hs2
              rw [List.take_of_length_le (by omega)] at ht
              rw [ht]
              unfold usedRow
              rw [List.map_const', List.length_range]
            unfold UR
            rw [hh, hcur])
        obtain ⟨ub, hub⟩ : ∃ ub, ub = wr.heap.size := ⟨_, rfl⟩
        have HUB : Hid (w.heap.size ≤ ub) := Lib.hid (by rw [hub]; exact P.out.size)
        have P2 := Lib.hid (P.out.grown hgrow (by simp))
        rw [← hub] at U2 ⊢
        obtain ⟨r, hr⟩ : ∃ r, r = linB l cap := ⟨_, rfl⟩
        have SR : Hid (Calls Tryz.prog 29 #[.slice ao n c1, .slice (some ⟨ub, 0, none⟩) n n, .slice none 0 0, .int .i64 cap] w2 (SPost w2 ub r)) := Lib.hid (by
          have h := refSearch_any l cap (by have := HN.out; omega) FF.out l.length w2 (.slice ao n c1) ub (fun _ => false) (.slice none 0 0) [] (HV.out.keep P2.out) (by rw [← HN.out]; exact U2.out) ⟨none, 0, rfl, CellsAt.nil _ _, fun _ => ⟨rfl, rfl⟩, Nat.le_refl _⟩ (by unfold leftU; simp) (by have := HN.out; simp; omega)
          rw [← HN.out] at h
          rw [hr, LB.out, ← HN.out]
          exact h)
        have HR := Lib.hid hr
        clear hown hgrow hub hr hi hz0 hz1 hz2
        go_wp2_with fail
        refine SR.out.mono ?_; rintro e w3 ⟨rfl, o3, -⟩
        have P3 : Hid (Only [] w w3) := Lib.hid ((P2.out.mono (by simp)).trans o3 (fun t ht => by
          have : t = ub := by simpa using ht
          subst this
          exact .inr HUB.out))
        clear o3
        go_wp2_with fail
        go_ret
        exact ⟨by rw [← HR.out]; rfl, P3.out⟩
end Go.Proofs.YtfhkhknnoepfeaaGreat
