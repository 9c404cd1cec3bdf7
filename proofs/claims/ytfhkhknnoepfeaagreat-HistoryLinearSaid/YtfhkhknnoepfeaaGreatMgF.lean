/- The plans of the chapter's laws, walked: the loop. -/
import Derived.Test.YtfhkhknnoepfeaaGreatHistPlan
namespace Go.Proofs.YtfhkhknnoepfeaaGreat
open Go.RowKit
set_option linter.unusedVariables false

/-- What plan returns. -/
def PlanPost (w : World) (raw : List Int) (n : Nat) (e : Ending) (w' : World) : Prop :=
  ∃ (m ob B : Nat) (vs : Nat → Value), (m : Int) = 2 + numZ raw 0 3 ∧ e = .returned (.slice (some ⟨ob, 0, none⟩) m m) ∧ PR w w' ob B m (planF m raw (min (raw.length - 1) n)) vs

set_option maxRecDepth 100000 in
set_option maxHeartbeats 4000000 in
theorem plan_any (w : World) (v : Value) (raw : List Int) (n : Nat) (h : Ns w v raw) (hl : raw.length ≤ 1000) (hn : n ≤ 1000) :
    Calls Tryz.prog 7 #[v, .int .i64 n] w (PlanPost w raw n) := by
  obtain ⟨i0, hi, hz0, hz1, hz2⟩ := info_parts infoActs
  have N0 := Lib.hid (number_any w v raw 0 3 h (by omega) (by omega) (by omega))
  have hbd := numZ_bd raw 0 (n := 3) (by omega)
  have NA := fun (w' : World) (o : Only [] w w') (i : Nat) (m : Nat) (hi : i ≤ 1000) (hm : m ≤ 10) => Lib.hid (number_any w' v raw i (m + 2) (h.keep o) (by omega) (by omega) (by omega))
  have HH := Lib.hid h
  obtain ⟨len, hlen⟩ : ∃ len, len = raw.length := ⟨_, rfl⟩
  obtain ⟨m, hm⟩ : ∃ m : Nat, (m : Int) = 2 + numZ raw 0 3 := ⟨(2 + numZ raw 0 3).toNat, by omega⟩
  obtain ⟨ao, cap, rfl, hc, h2, h3⟩ := h
  obtain ⟨z, hz⟩ : ∃ z, z = numZ raw 0 3 := ⟨_, rfl⟩
  rw [← hz] at N0 hbd hm
  have hzm : z = (m : Int) - 2 := by omega
  have HM := Lib.hid hm
  have HZ := Lib.hid hz
  rw [← hlen] at N0 h3 hl NA ⊢
  have HC := Lib.hid hc
  have HL := Lib.hid hlen
  have hm2 : 2 ≤ m ∧ m ≤ 4 := by omega
  subst hzm
  clear hc hlen hm hz hbd
  go_enter Tryz.func7, Tryz.ntmps7
  go_wp2_with fail
  refine N0.out.mono ?_; rintro e w1 ⟨rfl, o1⟩
  have O1 := Lib.hid o1
  clear o1
  have e2 : (2 : Int) + ((m : Int) - 2) = m := by omega
  have e3 : wrap64 ((2 : Int) + ((m : Int) - 2)) = m := by rw [e2]; unfold wrap64; omega
  go_wp2_with (at_make; refine wpList_make_full _ rfl _ _ 22 rfl w1.heap.size 40 i0 (.slice none 0 0) 1 Tryz.underlying22 hi hz0 hz1 .i64 .i64 _ _ m rfl rfl (by first | rfl | omega) (by first | rfl | omega) (by rw [hz2]; omega) (by unfold maxLen; omega) (by simp) ?_)
  intro w2 hown hgrow
  have P0 : Hid (PR w w2 w1.heap.size w2.heap.size m (planF m raw 0) (fun _ => .slice none 0 0)) := Lib.hid (by
    obtain ⟨hl2, h | ⟨g, cap2, cur, e, hb, hh, hn2, hc2, hs2, ht⟩⟩ := hown
    · exact absurd h.1 (by simp)
    · simp at e
      obtain ⟨rfl, rfl⟩ := e
      rw [toList_madeCells_one] at ht
      have hcur : cur = ((List.range m).map fun _ => Value.slice none 0 0).toArray := by
        apply Array.ext'
        have : cur.toList.length = m := by simpa using hs2
        rw [List.take_of_length_le (by omega)] at ht
        rw [ht]
        rw [List.map_const', List.length_range]
      refine ⟨by rw [hh, hcur], fun i hi => ⟨rfl, .inl ⟨rfl, rfl⟩⟩, fun i j _ _ _ q hq => (by cases hq), O1.out.grown hgrow (by simp), O1.out.size, lt_of_blk hh, Nat.le_refl _⟩)
  obtain ⟨ob, hob⟩ : ∃ ob, ob = w1.heap.size := ⟨_, rfl⟩
  obtain ⟨B, hB⟩ : ∃ B, B = w2.heap.size := ⟨_, rfl⟩
  rw [← hob, ← hB] at P0
  rw [← hob]
  obtain ⟨S, hS⟩ : ∃ S, S = min (len - 1) n := ⟨_, rfl⟩
  have HS := Lib.hid hS
  have hS1 : S ≤ 1000 := by omega
  have LT : Hid (∀ k, ((k < S ↔ (k + 1 < len ∧ k + 1 ≤ n)))) := Lib.hid (fun k => by have := HS.out; omega)
  clear hown hgrow hob hB hi hz0 hz1 hz2 N0 e2 e3 hS hn hl
  go_wp2_with fail
  go_loopw [6] (fun iv wr => ∃ (k : Nat) (vs : Nat → Value), k ≤ S ∧ iv = .int .i64 ((k + 1 : Nat) : Int) ∧ PR w wr ob B m (planF m raw k) vs) (fun iv _ => S + 1 - (intOf iv).toNat)
  case atStart => exact ⟨0, _, Nat.zero_le _, rfl, P0.out⟩
  case round =>
    obtain ⟨k, vs, hk, rfl, hP⟩ := hrel
    have P := Lib.hid hP
    clear hP
    by_cases hlt : k < S
    · obtain ⟨g1, g2⟩ := (LT.out k).1 hlt
      obtain ⟨b, off, rfl, hcs⟩ := HC.out.ints (by have := HL.out; omega)
      have hcx := P.out.F.keepCell (hcs (k + 1) (by have := HL.out; omega)) (by simp)
      obtain ⟨x, hx⟩ : ∃ x, x = raw.getD (k + 1) 0 := ⟨_, rfl⟩
      rw [← hx] at hcx
      have HX := Lib.hid hx
      have NK := NA wr P.out.F (k + 1) m (by omega) (by omega)
      have hcb := numZ_bd raw (k + 1) (n := (m : Int) + 2) (by omega)
      obtain ⟨c, hc⟩ : ∃ c : Nat, (c : Int) = numZ raw (k + 1) (m + 2) := ⟨(numZ raw (k + 1) (m + 2)).toNat, by omega⟩
      rw [← hc] at NK hcb
      rw [show ((k + 1 : Nat) : Int) = (k : Int) + 1 by omega] at NK
      have HCc := Lib.hid hc
      have hk1 : (((k + 1 : Nat) : Int)) = (k : Int) + 1 := by omega
      have PL : Hid (∀ i, (planF m raw k i).length ≤ k) := Lib.hid (plan_len m raw (by omega) k)
      clear hc hx hcs
      go_wp2_with fail
      refine NK.out.mono ?_; rintro e w3 ⟨rfl, o3⟩
      have P3 := Lib.hid (P.out.keep o3)
      have hcx3 := o3.keepCell hcx (by simp)
      have hob := lt_of_blk P3.out.R
      have fob := fun q => free_blk P3.out.R q
      clear o3 hcx NA HH HC h2
      by_cases hth : 0 < c ∧ c < m
      · obtain ⟨h0, h1⟩ := hth
        obtain ⟨va, vc, hv⟩ := owns_slice (P3.out.V c h1)
        have cc := P3.out.cell h1
        have PLc := PL.out c
        have VV := Lib.hid (P3.out.V c h1)
        rw [hv] at cc VV
        have HV := Lib.hid hv
        have hBw := P3.out.hb.2.2
        obtain ⟨L, hL⟩ : ∃ L, L = planF m raw k c := ⟨_, rfl⟩
        rw [← hL] at cc VV PLc
        have HL2 := Lib.hid hL
        clear hv hL
        go_wp2_with (at_builtin; refine wpList_append_act2 _ rfl _ _ rfl B (.slice va L.length vc) L rfl (owns_keep VV.out ((Only.refl _ _).alloc _)) ⟨w3.heap.size, 0, none⟩ (2, 0) rfl (cells_newA 2 0 (by simp)) (by omega) (by simp; omega) ?_)
        intro v' w4 hown hgrow hblk
        have hgrow2 := hgrow
        rw [show Value.slice va L.length vc = vs c from by rw [HV.out, HL2.out]] at hgrow2 hblk
        have o34 : Only [] w3 (w3.alloc (.cells #[.int .i64 2, .int .i64 0] 44)) := (Only.refl _ _).alloc _
        have RM := P3.out.mid o34 h1 hgrow2
        have NX := Lib.hid (P3.out.app o34 h1 (y := (2, 0)) (by rw [← HL2.out, List.length_append]; exact hown) hgrow2 (by simpa using hblk))
        have cs : (w4.cell? ⟨ob, c, none⟩).isSome = true := by rw [cell_blk RM]; simp [h1]
        have fs := free_blk RM c
        obtain ⟨vb, vd, rfl⟩ := owns_slice hown
        obtain ⟨u, hu⟩ := Option.isSome_iff_exists.1 cs
        have STEP : Hid (planF m raw (k + 1) = upd (planF m raw k) c (planF m raw k c ++ [(2, 0)])) := Lib.hid (by
          rw [planF]; unfold planSt
          rw [← HCc.out, if_pos ⟨by omega, by omega⟩]; rfl)
        rw [← STEP.out] at NX
        clear hgrow hgrow2 hblk RM hown o34 cs cc
        go_wp2_with fail
        go_roundw
        case rel => exact ⟨k + 1, _, by omega, by go_num, NX.out⟩
        case measure => simp [intOf]; omega
      · have h1 : 0 < m := by omega
        obtain ⟨va, vc, hv⟩ := owns_slice (P3.out.V 0 h1)
        have cc := P3.out.cell h1
        have PLc := PL.out 0
        have VV := Lib.hid (P3.out.V 0 h1)
        rw [hv] at cc VV
        have HV := Lib.hid hv
        have hBw := P3.out.hb.2.2
        obtain ⟨L, hL⟩ : ∃ L, L = planF m raw k 0 := ⟨_, rfl⟩
        rw [← hL] at cc VV PLc
        have HL2 := Lib.hid hL
        have hths : c = 0 ∨ m ≤ c := by omega
        have NOT : Hid (¬ (0 < numZ raw (k + 1) (m + 2) ∧ numZ raw (k + 1) (m + 2) < m)) := Lib.hid (by rw [← HCc.out]; omega)
        clear hv hL hth
        by_cases hx3 : x.tmod 3 = 0
        · have hb3 : (x.tmod 3 == 0) = true := by simp [hx3]
          have STEP : Hid (planF m raw (k + 1) = upd (planF m raw k) 0 (planF m raw k 0 ++ [(1, 0)])) := Lib.hid (by
            rw [planF]; unfold planSt
            rw [if_neg NOT.out, ← HX.out, if_pos hx3])
          clear hx3
          rcases hths with h9 | h9
          all_goals
            go_wp2_with (at_builtin; refine wpList_append_act2 _ rfl _ _ rfl B (.slice va L.length vc) L rfl (owns_keep VV.out ((Only.refl _ _).alloc _)) ⟨w3.heap.size, 0, none⟩ (1, 0) rfl (cells_newA 1 0 (by simp)) (by omega) (by simp; omega) ?_)
            intro v' w4 hown hgrow hblk
            have hgrow2 := hgrow
            rw [show Value.slice va L.length vc = vs 0 from by rw [HV.out, HL2.out]] at hgrow2 hblk
            have o34 : Only [] w3 (w3.alloc (.cells #[.int .i64 1, .int .i64 0] 44)) := (Only.refl _ _).alloc _
            have RM := P3.out.mid o34 h1 hgrow2
            have NX := Lib.hid (P3.out.app o34 h1 (y := (1, 0)) (by rw [← HL2.out, List.length_append]; exact hown) hgrow2 (by simpa using hblk))
            have cs : (w4.cell? ⟨ob, 0, none⟩).isSome = true := by rw [cell_blk RM]; simp [h1]
            have fs := free_blk RM 0
            obtain ⟨vb, vd, rfl⟩ := owns_slice hown
            obtain ⟨u, hu⟩ := Option.isSome_iff_exists.1 cs
            rw [← STEP.out] at NX
            clear hgrow hgrow2 hblk RM hown o34 cs cc
            go_wp2_with fail
            go_roundw
            case rel => exact ⟨k + 1, _, by omega, by go_num, NX.out⟩
            case measure => simp [intOf]; omega
        · have hb3 : (x.tmod 3 == 0) = false := by simp [hx3]
          have STEP : Hid (planF m raw (k + 1) = upd (planF m raw k) 0 (planF m raw k 0 ++ [(0, x.tmod 4)])) := Lib.hid (by
            rw [planF]; unfold planSt
            rw [if_neg NOT.out, ← HX.out, if_neg hx3])
          clear hx3
          rcases hths with h9 | h9
          all_goals
            go_wp2_with fail
            have hk0 : (0 : Int) ≤ (k : Int) + 1 := by omega
            go_region_law ((refine step_append_act2 _ rfl (.tmp 32) (.tmp 39) rfl B (.slice va L.length vc) L (by simp [Act.eval]) (owns_keep VV.out ((Only.refl _ _).drew.alloc _)) ⟨w3.heap.size, 0, none⟩ (0, x.tmod 4) (by simp [Act.eval]) (cells_newA 0 (x.tmod 4) rfl) (by omega) (by simp; omega) ?_
                            intro v' w4 hown hgrow hblk
                            have HG := Lib.hid (show World.grownBy _ w4 (vs 0).ownBlock from by rw [show vs 0 = Value.slice va L.length vc from by rw [HV.out, HL2.out]]; exact hgrow)
                            have HW := Lib.hid (show w4.ownsRow B 44 2 v' (L.length + 1) (flatA (L ++ [(0, x.tmod 4)])) from by rw [List.length_append] at hown; exact hown)
                            have HBK := Lib.hid (show ∀ q, v'.ownBlock = some q → (vs 0).ownBlock = some q ∨ _ ≤ q from by rw [show vs 0 = Value.slice va L.length vc from by rw [HV.out, HL2.out]]; exact hblk)
                            have RM := P3.out.mid ((Only.refl _ _).drew.alloc _) h1 HG.out
                            have cs : (w4.cell? ⟨ob, 0, none⟩).isSome = true := by rw [cell_blk RM]; simp [h1]
                            have fs := free_blk RM 0
                            obtain ⟨u, hu⟩ := Option.isSome_iff_exists.1 cs
                            obtain ⟨vb, vd, rfl⟩ := owns_slice HW.out
                            clear hgrow hblk RM hown cs))
            all_goals
              go_wp2_with fail
              go_roundw
              case rel => exact ⟨k + 1, _, by omega, by go_num, by rw [STEP.out]; exact P3.out.app ((Only.refl _ _).drew.alloc _) h1 (by rw [← HL2.out, List.length_append]; exact HW.out) HG.out HBK.out⟩
              case measure => simp [intOf]; omega
    · obtain rfl : k = S := by omega
      have P1 := Lib.hid (P.out)
      have hnlt : ¬ (k + 1 < len ∧ k + 1 ≤ n) := fun h => hlt ((LT.out k).2 h)
      have hcs : ¬ k + 1 < len ∨ (k + 1 < len ∧ ¬ k + 1 ≤ n) := by omega
      clear hnlt
      rcases hcs with hq | ⟨hq, hq2⟩
      all_goals
        go_wp2_with fail
        go_ret
        exact ⟨m, ob, B, vs, by have := HM.out; have := HZ.out; omega, rfl, by rw [← HL.out, ← HS.out]; exact P.out⟩
end Go.Proofs.YtfhkhknnoepfeaaGreat

/- The plans of the chapter's laws: what is played on them. -/
namespace Go.Proofs.YtfhkhknnoepfeaaGreat
open Go.RowKit
set_option linter.unusedVariables false

theorem PR.planAt {w0 w : World} {ob B m : Nat} {pl : Nat → List (Int × Int)} {vs : Nat → Value} (h : PR w0 w ob B m pl vs) : PlanAt w (.slice (some ⟨ob, 0, none⟩) m m) ((List.range m).map pl) := by
  refine ⟨_, m, by simp, by simp, fun _ => ⟨ob, 0, rfl, fun i hi => ?_⟩⟩
  have hi : i < m := by simpa using hi
  refine ⟨vs i, by rw [Nat.zero_add]; exact h.cell hi, ?_⟩
  have : ((List.range m).map pl).getD i [] = pl i := by simp [List.getD_eq_getElem?_getD, hi]
  rw [this]
  exact acts_owns (h.V i hi) rfl

/-- The acts of a plan. -/
structure PlanOk (pl : Nat → List (Int × Int)) : Prop where
  own : ∀ x ∈ pl 0, (x.1 = 0 ∨ x.1 = 1) ∧ -3 ≤ x.2 ∧ x.2 ≤ 3
  thf : ∀ a, 0 < a → ∀ x ∈ pl a, x.1 = 2
theorem PlanOk.add {pl : Nat → List (Int × Int)} (h : PlanOk pl) {c : Nat} {y : Int × Int} (h0 : c = 0 → (y.1 = 0 ∨ y.1 = 1) ∧ -3 ≤ y.2 ∧ y.2 ≤ 3) (h1 : 0 < c → y.1 = 2) : PlanOk (upd pl c (pl c ++ [y])) := by
  refine ⟨fun x hx => ?_, fun a ha x hx => ?_⟩
  · by_cases e : (0 : Nat) = c
    · rw [e, upd_same] at hx
      rw [List.mem_append, List.mem_singleton] at hx
      rcases hx with hx | rfl
      · rw [← e] at hx; exact h.own x hx
      · exact h0 e.symm
    · rw [upd_ne e] at hx; exact h.own x hx
  · by_cases e : a = c
    · rw [e, upd_same] at hx
      rw [List.mem_append, List.mem_singleton] at hx
      rcases hx with hx | rfl
      · rw [← e] at hx; exact h.thf a ha x hx
      · exact h1 (by omega)
    · rw [upd_ne e] at hx; exact h.thf a ha x hx
theorem planF_ok (m : Nat) (raw : List Int) : ∀ k, PlanOk (planF m raw k)
  | 0 => ⟨fun x hx => by simp [planF] at hx, fun a ha x hx => by simp [planF] at hx⟩
  | k + 1 => by
    have h := planF_ok m raw k
    rw [planF]
    unfold planSt
    split
    · next hc => exact h.add (fun e => by omega) (fun _ => rfl)
    · split
      · exact h.add (fun _ => ⟨.inr rfl, by simp, by simp⟩) (fun h => by omega)
      · refine h.add (fun _ => ⟨.inl rfl, ?_⟩) (fun h => by omega)
        have h1 := tmod_lo (raw.getD (k + 1) 0) (n := 4) (by omega)
        have h2 := Int.tmod_lt_of_pos (raw.getD (k + 1) 0) (show (0 : Int) < 4 by omega)
        show -3 ≤ _ ∧ _ ≤ (3 : Int)
        simp only
        omega

theorem sumL_upd {f : Nat → List (Int × Int)} {c : Nat} {y : Int × Int} : ∀ {n : Nat}, c < n → sumL (fun a => (upd f c (f c ++ [y]) a).length) n = sumL (fun a => (f a).length) n + 1 := by
  intro n hn
  have h := sumL_one (f := fun a => (upd f c (f c ++ [y]) a).length) (f' := fun a => (f a).length) (a := c) (n := n) hn (fun b hb => by rw [upd_ne hb])
  simp only [upd_same, List.length_append, List.length_singleton] at h
  omega
theorem planF_sum (m : Nat) (raw : List Int) (hm : 1 ≤ m) : ∀ k, sumL (fun a => (planF m raw k a).length) m = k
  | 0 => by
    have : ∀ n, sumL (fun a => (planF m raw 0 a).length) n = 0 := by
      intro n
      induction n with
      | zero => rfl
      | succ n ih => rw [sumL, ih]; rfl
    exact this m
  | k + 1 => by
    have h := planF_sum m raw hm k
    rw [planF]
    unfold planSt
    split
    · rw [sumL_upd (by omega), h]
    · split
      · rw [sumL_upd (by omega), h]
      · rw [sumL_upd (by omega), h]
theorem plan_able {pl : Nat → List (Int × Int)} (h : PlanOk pl) {m : Nat} (a : Nat) (ha : a < m) : planActs ((List.range m).map pl) a = pl a := by
  unfold planActs
  have : ((List.range m).map pl).getD a [] = pl a := by simp [List.getD_eq_getElem?_getD, ha]
  rw [this, List.filter_eq_self]
  intro x hx
  by_cases e : a = 0
  · subst e
    have := (h.own x hx).1
    rcases this with g | g <;> simp [ableB, g]
  · have := h.thf a (by omega) x hx
    simp [ableB, this]; omega

/-- Two games of the same acts. -/
theorem gplay_congr {c n : Nat} {f g : Nat → List (Int × Int)} {picks : List Nat} (h : f = g) : gplay c n f picks = gplay c n g picks := by rw [h]
theorem plan_acts {pl : Nat → List (Int × Int)} (h : PlanOk pl) {m : Nat} (hz : ∀ a, m ≤ a → pl a = []) : planActs ((List.range m).map pl) = pl := by
  funext a
  by_cases ha : a < m
  · exact plan_able h a ha
  · unfold planActs
    have : ((List.range m).map pl).getD a [] = [] := by
      rw [List.getD_eq_getElem?_getD, List.getElem?_eq_none (by simp; omega)]; rfl
    rw [this, hz a (by omega)]; rfl
theorem planF_far (m : Nat) (raw : List Int) (hm : 1 ≤ m) : ∀ k a, m ≤ a → planF m raw k a = []
  | 0, a, _ => rfl
  | k + 1, a, ha => by
    have h := planF_far m raw hm k a ha
    rw [planF]
    unfold planSt
    split
    · rw [upd_ne (by omega), h]
    · split
      · rw [upd_ne (by omega), h]
      · rw [upd_ne (by omega), h]

/-- The operations that are played on a plan. -/
def planOps (cap : Int) (m : Nat) (raw : List Int) (k : Nat) (picks : List Int) : List HOp := gplay (capN cap) m (planF m raw k) (picks.map (modN m))

theorem planPlay_any {w0 w : World} {ob B m k : Nat} {raw : List Int} {vs : Nat → Value} (h : PR w0 w ob B m (planF m raw k) vs) (cap : Int) (ao : Option Addr) (pcap : Nat) (picks : List Int) (hpk : CellsAt w ao (picks.map (.int .i64))) (hm : 1 ≤ m) (hm2 : m ≤ 100) (hk : k ≤ 1000) (hnp : picks.length ≤ 100000) :
    Calls Tryz.prog 11 #[.int .i64 cap, .slice (some ⟨ob, 0, none⟩) m m, .slice ao picks.length pcap] w (PlayPost w (planOps cap m raw k picks)) := by
  have ha := plan_acts (planF_ok m raw k) (planF_far m raw hm k)
  have hg : ∀ a, a < m → ((List.range m).map (planF m raw k)).getD a [] = planF m raw k a := fun a h => by simp [List.getD_eq_getElem?_getD, h]
  have hp := play_any w cap _ _ h.planAt ao pcap picks hpk (by simpa using hm) (by simp; omega) (fun a ha => by
    have ha : a < m := by simpa using ha
    rw [hg a ha]
    have := plan_len m raw hm k a
    omega) hnp (fun x hx => by
      rw [ha] at hx
      have := ((planF_ok m raw k).own x hx).2
      unfold inI; omega) (by
      rw [ha, List.length_map, List.length_range, planF_sum m raw hm k]
      omega)
  rw [ha, List.length_map, List.length_range] at hp
  exact hp

theorem planOps_spec (cap : Int) (m : Nat) (raw : List Int) (k : Nat) (picks : List Int) (hm : 1 ≤ m) (hk : k ≤ 1000) (hnp : picks.length ≤ 100000) : Played (capN cap) (planOps cap m raw k picks) k := by
  have hc1 : 1 ≤ capN cap ∧ capN cap ≤ 64 := by unfold capN; omega
  have h := gplay_spec (c := capN cap) (n := m) (acts := planF m raw k) (picks := picks.map (modN m)) hc1.1 (by omega) hm (fun x hx => by
    have := (planF_ok m raw k).own x hx
    exact ⟨this.1, by unfold inI; omega⟩) (planF_ok m raw k).thf (fun a ha => by
      obtain ⟨y, _, rfl⟩ := List.mem_map.1 ha
      exact modN_lt hm y) (by rw [planF_sum m raw hm k, List.length_map]; omega)
  rw [planF_sum m raw hm k] at h
  exact h
end Go.Proofs.YtfhkhknnoepfeaaGreat
