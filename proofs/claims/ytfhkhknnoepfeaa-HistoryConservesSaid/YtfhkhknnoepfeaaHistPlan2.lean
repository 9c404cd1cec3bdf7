/- The plans of the chapter's laws, walked: the loop. -/
import Derived.Test.YtfhkhknnoepfeaaHistPlan
namespace Go.Proofs.Ytfhkhknnoepfeaa
open Go.RowKit
set_option linter.unusedVariables false

/-- What plan returns. -/
def PlanPost (w : World) (raw : List Int) (n : Nat) (e : Ending) (w' : World) : Prop :=
  ∃ (m ob B : Nat) (vs : Nat → Value), (m : Int) = 2 + numZ raw 0 3 ∧ e = .returned (.slice (some ⟨ob, 0, none⟩) m m) ∧ PR w w' ob B m (planF m raw (min (raw.length - 1) n)) vs

set_option maxRecDepth 100000 in
set_option maxHeartbeats 4000000 in
theorem plan_any (w : World) (v : Value) (raw : List Int) (n : Nat) (h : Ns w v raw) (hl : raw.length ≤ 1000) (hn : n ≤ 1000) :
    Calls Try.prog 13 #[v, .int .i64 n] w (PlanPost w raw n) := by
  obtain ⟨i0, hi, hz0, hz1, hz2⟩ := info_parts infoActs
  have N0 := Lib.hid (number_any w v raw 0 3 h (by omega) (by omega) (by omega))
  have hbd := numZ_bd raw 0 (n := 3) (by omega)
  have NA := fun (w' : World) (o : Only [] w w') (i : Nat) (m : Nat) (hi : i ≤ 1000) (hm : m ≤ 10) => Lib.hid (number_any w' v raw i (m + 2) (h.keep o) (by omega) (by omega) (by omega))
  have HH := Lib.hid h
  obtain ⟨len, hlen⟩ : ∃ len, len = raw.length := ⟨_, rfl⟩
  obtain ⟨m, hm⟩ : ∃ m : Nat, (m : Int) = 2 + numZ raw 0 3 := ⟨(2 + numZ raw 0 3).toNat, by omega⟩
  obtain ⟨ao, cap, rfl, hc, h2, h3⟩ := h
  obtain ⟨z, hz⟩ : ∃ z, z = numZ raw 0 3 := ⟨_, rfl⟩
  rw [← hz] at N0 hbd hm
  have hzm : z = (m : Int) - 2 := by omega
  have HM := Lib.hid hm
  have HZ := Lib.hid hz
  rw [← hlen] at N0 h3 hl NA ⊢
  have HC := Lib.hid hc
  have HL := Lib.hid hlen
  have hm2 : 2 ≤ m ∧ m ≤ 4 := by omega
  subst hzm
  clear hc hlen hm hz hbd
  go_enter Try.func13, Try.ntmps13
  go_wp2_with fail
  refine N0.out.mono ?_; rintro e w1 ⟨rfl, o1⟩
  have O1 := Lib.hid o1
  clear o1
  have e2 : (2 : Int) + ((m : Int) - 2) = m := by omega
  have e3 : wrap64 ((2 : Int) + ((m : Int) - 2)) = m := by rw [e2]; unfold wrap64; omega
  go_wp2_with (at_make; refine wpList_make_full _ rfl _ _ 35 rfl w1.heap.size 38 i0 (.slice none 0 0) 1 Try.underlying35 hi hz0 hz1 .i64 .i64 _ _ m rfl rfl (by first | rfl | omega) (by first | rfl | omega) (by rw [hz2]; omega) (by unfold maxLen; omega) (by simp) ?_)
  intro w2 hown hgrow
  have P0 : Hid (PR w w2 w1.heap.size w2.heap.size m (planF m raw 0) (fun _ => .slice none 0 0)) := Lib.hid (by
    obtain ⟨hl2, h | ⟨g, cap2, cur, e, hb, hh, hn2, hc2, hs2, ht⟩⟩ := hown
    · exact absurd h.1 (by simp)
    · simp at e
      obtain ⟨rfl, rfl⟩ := e
      rw [toList_madeCells_one] at ht
      have hcur : cur = ((List.range m).map fun _ => Value.slice none 0 0).toArray := by
        apply Array.ext'
        have : cur.toList.length = m := by simpa using hs2
        rw [List.take_of_length_le (by omega)] at ht
        rw [ht]
        rw [List.map_const', List.length_range]
      refine ⟨by rw [hh, hcur], fun i hi => ⟨rfl, .inl ⟨rfl, rfl⟩⟩, fun i j _ _ _ q hq => (by cases hq), O1.out.grown hgrow (by simp), O1.out.size, lt_of_blk hh, Nat.le_refl _⟩)
  obtain ⟨ob, hob⟩ : ∃ ob, ob = w1.heap.size := ⟨_, rfl⟩
  obtain ⟨B, hB⟩ : ∃ B, B = w2.heap.size := ⟨_, rfl⟩
  rw [← hob, ← hB] at P0
  rw [← hob]
  obtain ⟨S, hS⟩ : ∃ S, S = min (len - 1) n := ⟨_, rfl⟩
  have HS := Lib.hid hS
  have hS1 : S ≤ 1000 := by omega
  have LT : Hid (∀ k, ((k < S ↔ (k + 1 < len ∧ k + 1 ≤ n)))) := Lib.hid (fun k => by have := HS.out; omega)
  clear hown hgrow hob hB hi hz0 hz1 hz2 N0 e2 e3 hS hn hl
  go_wp2_with fail
  go_loopw [6] (fun iv wr => ∃ (k : Nat) (vs : Nat → Value), k ≤ S ∧ iv = .int .i64 ((k + 1 : Nat) : Int) ∧ PR w wr ob B m (planF m raw k) vs) (fun iv _ => S + 1 - (intOf iv).toNat)
  case atStart => exact ⟨0, _, Nat.zero_le _, rfl, P0.out⟩
  case round =>
    obtain ⟨k, vs, hk, rfl, hP⟩ := hrel
    have P := Lib.hid hP
    clear hP
    by_cases hlt : k < S
    · obtain ⟨g1, g2⟩ := (LT.out k).1 hlt
      obtain ⟨b, off, rfl, hcs⟩ := HC.out.ints (by have := HL.out; omega)
      have hcx := P.out.F.keepCell (hcs (k + 1) (by have := HL.out; omega)) (by simp)
      obtain ⟨x, hx⟩ : ∃ x, x = raw.getD (k + 1) 0 := ⟨_, rfl⟩
      rw [← hx] at hcx
      have HX := Lib.hid hx
      have NK := NA wr P.out.F (k + 1) m (by omega) (by omega)
      have hcb := numZ_bd raw (k + 1) (n := (m : Int) + 2) (by omega)
      obtain ⟨c, hc⟩ : ∃ c : Nat, (c : Int) = numZ raw (k + 1) (m + 2) := ⟨(numZ raw (k + 1) (m + 2)).toNat, by omega⟩
      rw [← hc] at NK hcb
      rw [show ((k + 1 : Nat) : Int) = (k : Int) + 1 by omega] at NK
      have HCc := Lib.hid hc
      have hk1 : (((k + 1 : Nat) : Int)) = (k : Int) + 1 := by omega
      have PL : Hid (∀ i, (planF m raw k i).length ≤ k) := Lib.hid (plan_len m raw (by omega) k)
      clear hc hx hcs
      go_wp2_with fail
      refine NK.out.mono ?_; rintro e w3 ⟨rfl, o3⟩
      have P3 := Lib.hid (P.out.keep o3)
      have hcx3 := o3.keepCell hcx (by simp)
      have hob := lt_of_blk P3.out.R
      have fob := fun q => free_blk P3.out.R q
      clear o3 hcx NA HH HC h2
      by_cases hth : 0 < c ∧ c < m
      · obtain ⟨h0, h1⟩ := hth
        obtain ⟨va, vc, hv⟩ := owns_slice (P3.out.V c h1)
        have cc := P3.out.cell h1
        have PLc := PL.out c
        have VV := Lib.hid (P3.out.V c h1)
        rw [hv] at cc VV
        have HV := Lib.hid hv
        have hBw := P3.out.hb.2.2
        obtain ⟨L, hL⟩ : ∃ L, L = planF m raw k c := ⟨_, rfl⟩
        rw [← hL] at cc VV PLc
        have HL2 := Lib.hid hL
        clear hv hL
        go_wp2_with (at_builtin; refine wpList_append_act2 _ rfl _ _ rfl B (.slice va L.length vc) L rfl (owns_keep VV.out ((Only.refl _ _).alloc _)) ⟨w3.heap.size, 0, none⟩ (2, 0) rfl (cells_newA 2 0 (by simp)) (by omega) (by simp; omega) ?_)
        intro v' w4 hown hgrow hblk
        have hgrow2 := hgrow
        rw [show Value.slice va L.length vc = vs c from by rw [HV.out, HL2.out]] at hgrow2 hblk
        have o34 : Only [] w3 (w3.alloc (.cells #[.int .i64 2, .int .i64 0] 41)) := (Only.refl _ _).alloc _
        have RM := P3.out.mid o34 h1 hgrow2
        have NX := Lib.hid (P3.out.app o34 h1 (y := (2, 0)) (by rw [← HL2.out, List.length_append]; exact hown) hgrow2 (by simpa using hblk))
        have cs : (w4.cell? ⟨ob, c, none⟩).isSome = true := by rw [cell_blk RM]; simp [h1]
        have fs := free_blk RM c
        obtain ⟨vb, vd, rfl⟩ := owns_slice hown
        obtain ⟨u, hu⟩ := Option.isSome_iff_exists.1 cs
        have STEP : Hid (planF m raw (k + 1) = upd (planF m raw k) c (planF m raw k c ++ [(2, 0)])) := Lib.hid (by
          rw [planF]; unfold planSt
          rw [← HCc.out, if_pos ⟨by omega, by omega⟩]; rfl)
        rw [← STEP.out] at NX
        clear hgrow hgrow2 hblk RM hown o34 cs cc
        go_wp2_with fail
        go_roundw
        case rel => exact ⟨k + 1, _, by omega, by go_num, NX.out⟩
        case measure => simp [intOf]; omega
      · have h1 : 0 < m := by omega
        obtain ⟨va, vc, hv⟩ := owns_slice (P3.out.V 0 h1)
        have cc := P3.out.cell h1
        have PLc := PL.out 0
        have VV := Lib.hid (P3.out.V 0 h1)
        rw [hv] at cc VV
        have HV := Lib.hid hv
        have hBw := P3.out.hb.2.2
        obtain ⟨L, hL⟩ : ∃ L, L = planF m raw k 0 := ⟨_, rfl⟩
        rw [← hL] at cc VV PLc
        have HL2 := Lib.hid hL
        have hths : c = 0 ∨ m ≤ c := by omega
        have NOT : Hid (¬ (0 < numZ raw (k + 1) (m + 2) ∧ numZ raw (k + 1) (m + 2) < m)) := Lib.hid (by rw [← HCc.out]; omega)
        clear hv hL hth
        by_cases hx3 : x.tmod 3 = 0
        · have hb3 : (x.tmod 3 == 0) = true := by simp [hx3]
          have STEP : Hid (planF m raw (k + 1) = upd (planF m raw k) 0 (planF m raw k 0 ++ [(1, 0)])) := Lib.hid (by
            rw [planF]; unfold planSt
            rw [if_neg NOT.out, ← HX.out, if_pos hx3])
          clear hx3
          rcases hths with h9 | h9
          all_goals
            go_wp2_with (at_builtin; refine wpList_append_act2 _ rfl _ _ rfl B (.slice va L.length vc) L rfl (owns_keep VV.out ((Only.refl _ _).alloc _)) ⟨w3.heap.size, 0, none⟩ (1, 0) rfl (cells_newA 1 0 (by simp)) (by omega) (by simp; omega) ?_)
            intro v' w4 hown hgrow hblk
            have hgrow2 := hgrow
            rw [show Value.slice va L.length vc = vs 0 from by rw [HV.out, HL2.out]] at hgrow2 hblk
            have o34 : Only [] w3 (w3.alloc (.cells #[.int .i64 1, .int .i64 0] 41)) := (Only.refl _ _).alloc _
            have RM := P3.out.mid o34 h1 hgrow2
            have NX := Lib.hid (P3.out.app o34 h1 (y := (1, 0)) (by rw [← HL2.out, List.length_append]; exact hown) hgrow2 (by simpa using hblk))
            have cs : (w4.cell? ⟨ob, 0, none⟩).isSome = true := by rw [cell_blk RM]; simp [h1]
            have fs := free_blk RM 0
            obtain ⟨vb, vd, rfl⟩ := owns_slice hown
            obtain ⟨u, hu⟩ := Option.isSome_iff_exists.1 cs
            rw [← STEP.out] at NX
            clear hgrow hgrow2 hblk RM hown o34 cs cc
            go_wp2_with fail
            go_roundw
            case rel => exact ⟨k + 1, _, by omega, by go_num, NX.out⟩
            case measure => simp [intOf]; omega
        · have hb3 : (x.tmod 3 == 0) = false := by simp [hx3]
          have STEP : Hid (planF m raw (k + 1) = upd (planF m raw k) 0 (planF m raw k 0 ++ [(0, x.tmod 4)])) := Lib.hid (by
            rw [planF]; unfold planSt
            rw [if_neg NOT.out, ← HX.out, if_neg hx3])
          clear hx3
          rcases hths with h9 | h9
          all_goals
            go_wp2_with fail
            have hk0 : (0 : Int) ≤ (k : Int) + 1 := by omega
            go_region_law ((refine step_append_act2 _ rfl (.tmp 32) (.tmp 39) rfl B (.slice va L.length vc) L (by simp [Act.eval]) (owns_keep VV.out ((Only.refl _ _).drew.alloc _)) ⟨w3.heap.size, 0, none⟩ (0, x.tmod 4) (by simp [Act.eval]) (cells_newA 0 (x.tmod 4) rfl) (by omega) (by simp; omega) ?_
                            intro v' w4 hown hgrow hblk
                            have HG := Lib.hid (show World.grownBy _ w4 (vs 0).ownBlock from by rw [show vs 0 = Value.slice va L.length vc from by rw [HV.out, HL2.out]]; exact hgrow)
                            have HW := Lib.hid (show w4.ownsRow B 41 2 v' (L.length + 1) (flatA (L ++ [(0, x.tmod 4)])) from by rw [List.length_append] at hown; exact hown)
                            have HBK := Lib.hid (show ∀ q, v'.ownBlock = some q → (vs 0).ownBlock = some q ∨ _ ≤ q from by rw [show vs 0 = Value.slice va L.length vc from by rw [HV.out, HL2.out]]; exact hblk)
                            have RM := P3.out.mid ((Only.refl _ _).drew.alloc _) h1 HG.out
                            have cs : (w4.cell? ⟨ob, 0, none⟩).isSome = true := by rw [cell_blk RM]; simp [h1]
                            have fs := free_blk RM 0
                            obtain ⟨u, hu⟩ := Option.isSome_iff_exists.1 cs
                            obtain ⟨vb, vd, rfl⟩ := owns_slice HW.out
                            clear hgrow hblk RM hown cs))
            all_goals
              go_wp2_with fail
              go_roundw
              case rel => exact ⟨k + 1, _, by omega, by go_num, by rw [STEP.out]; exact P3.out.app ((Only.refl _ _).drew.alloc _) h1 (by rw [← HL2.out, List.length_append]; exact HW.out) HG.out HBK.out⟩
              case measure => simp [intOf]; omega
    · obtain rfl : k = S := by omega
      have P1 := Lib.hid (P.out)
      have hnlt : ¬ (k + 1 < len ∧ k + 1 ≤ n) := fun h => hlt ((LT.out k).2 h)
      have hcs : ¬ k + 1 < len ∨ (k + 1 < len ∧ ¬ k + 1 ≤ n) := by omega
      clear hnlt
      rcases hcs with hq | ⟨hq, hq2⟩
      all_goals
        go_wp2_with fail
        go_ret
        exact ⟨m, ob, B, vs, by have := HM.out; have := HZ.out; omega, rfl, by rw [← HL.out, ← HS.out]; exact P.out⟩
end Go.Proofs.Ytfhkhknnoepfeaa
