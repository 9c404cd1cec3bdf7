/- The law ScriptEnough of chapter 4: what its code does. -/
import Derived.Test.YtfhmphbfngdkeaaScriptEnoughP
import Derived.Test.YtfhmphbfngdkeaaScriptFair
import Derived.Test.YtfhmphbfngdkeaaScriptRound2
import Derived.IntWalk
namespace Go.Proofs.Ytfhmphbfngdkeaa
open Go.RowKit
set_option linter.unusedVariables false

def lenV : Value → Nat
  | .slice _ n _ => n
  | _ => 0

theorem enCap_take {w : World} {g n cap : Nat} {L : List E} (h : CellsAt w (some ⟨g, 0, none⟩) (flat L)) (hn : n + 1 = L.length) (hc : n + 1 ≤ cap) (hc2 : cap ≤ 9223372036854775807) : EnCap w (.slice (some ⟨g, 0, none⟩) n cap) (L.take n) := by
  have hl : (L.take n).length = n := by rw [List.length_take]; omega
  obtain ⟨ao, c2, e, h1, _, _⟩ := en_take h hn n cap (by omega) (by omega)
  simp at e
  exact .inr ⟨g, cap, by rw [hl], by rw [e.1]; exact h1, by rw [hl]; omega, hc2⟩

set_option maxRecDepth 100000 in
set_option maxHeartbeats 4000000 in
theorem ScriptEnough_small (w : World) (io : Option Addr) (cap3 ni : Nat) (hi : ni ≤ 100) (xi : List Int) (Hi : Hid (Ns w (.slice io ni cap3) xi)) (ei : Hid (ni = xi.length)) (m kk nn : Int) :
    Calls Try.prog 10 #[.slice io ni cap3, .int .i64 m, .int .i64 kk, .int .i64 nn] w fun e w' => e = .returned (.bool true) ∧ Only [] w w' := by
  have hi2 : (ni : Int) ≤ 100 := by omega
  go_enter Try.func10, Try.ntmps10
  go_wp2_with fail
  refine (number_any (w.alloc (.cells #[.int .i64 m] 3)) (.slice (some ⟨w.heap.size, 0, none⟩) 1 1) [m] 0 4 (ns_new [m] (blk_alloc_new _ _) rfl) (by omega) (by simp) (by omega)).mono ?_; rintro e w1 ⟨r, rfl, hr0, hr1, o1⟩
  have hr2 := hr1 (by omega)
  have O1 := Lib.hid (((Only.refl [] w).alloc (.cells #[.int .i64 m] 3)).then0 o1)
  obtain ⟨k, hk⟩ : ∃ k : Nat, 1 + r = k := ⟨(1 + r).toNat, by omega⟩
  have hk1 : 1 ≤ k := by omega
  have hk2 : k ≤ 4 := by omega
  clear o1 hr1
  go_wp2_with fail
  refine (number_any (w1.alloc (.cells #[.int .i64 kk] 3)) (.slice (some ⟨w1.heap.size, 0, none⟩) 1 1) [kk] 0 20 (ns_new [kk] (blk_alloc_new _ _) rfl) (by omega) (by simp) (by omega)).mono ?_; rintro e w2 ⟨r2, rfl, hr3, hr4, o2⟩
  have hr5 := hr4 (by omega)
  have O2 := Lib.hid ((O1.out.alloc (.cells #[.int .i64 kk] 3)).then0 o2)
  obtain ⟨c, hc⟩ : ∃ c : Nat, 1 + r2 = c := ⟨(1 + r2).toNat, by omega⟩
  have hc1 : 1 ≤ c := by omega
  have hc2 : c ≤ 20 := by omega
  clear o2 hr4 O1
  go_wp2_with fail
  refine (number_any (w2.alloc (.cells #[.int .i64 nn] 3)) (.slice (some ⟨w2.heap.size, 0, none⟩) 1 1) [nn] 0 8 (ns_new [nn] (blk_alloc_new _ _) rfl) (by omega) (by simp) (by omega)).mono ?_; rintro e w3 ⟨r3, rfl, hr6, hr7, o3⟩
  have hr8 := hr7 (by omega)
  have O3 := Lib.hid ((O2.out.alloc (.cells #[.int .i64 nn] 3)).then0 o3)
  obtain ⟨n, rfl⟩ : ∃ n : Nat, r3 = n := ⟨r3.toNat, by omega⟩
  have hn8 : n ≤ 7 := by omega
  clear o3 hr7 O2
  go_wp2_with fail
  go_loopw [9, 10] (fun z i wr => ∃ (j : Nat) (Z : List E), j ≤ n ∧ i = .int .i64 j ∧ wr.ownsRow w.heap.size 35 2 z Z.length (flat Z) ∧ Z.length ≤ j * 8 ∧ j ≤ rounds k Z ∧ Only [] w wr) (fun _ i _ => n - (intOf i).toNat)
  case atStart => exact ⟨0, [], Nat.zero_le _, rfl, World.ownsRow_nil _ _ _ _, by simp, Nat.zero_le _, O3.out⟩
  case round =>
    obtain ⟨j, Z, hj, rfl, hown, hlen, hrd, hP⟩ := hrel
    have W := Lib.hid hown
    have P := Lib.hid hP
    have HZ := Lib.hid hlen
    have HR := Lib.hid hrd
    have HI := Lib.hid (Hi.out.keep hP)
    clear hown hlen hP hrd
    by_cases hgo : j < n
    · go_wp2_with fail
      rw [show (j : Int) * 5 = ((j * 5 : Nat) : Int) by simp]
      refine (round_any _ _ xi (j * 5) k HI.out (by rw [← ei.out]; omega) (by omega) hk1 (by omega)).mono ?_; rintro e w1 ⟨v1, L, rfl, o1, e1, hcL, _, hL⟩
      have P1 := Lib.hid (P.out.then0 o1)
      have W1 := Lib.hid (owns_keep W.out o1)
      have E1 := Lib.hid e1.en
      have HL : Hid (L.length ≤ 8) := Lib.hid (by omega)
      have HR1 := Lib.hid (rounds_cat hk1 Z L hcL)
      clear o1 e1 hL hcL
      go_wp2_with (at_builtin; refine wpList_append_en _ rfl _ _ rfl w.heap.size _ Z rfl W1.out _ L rfl E1.out (by have := HL.out; have := HZ.out; omega) P1.out.size ?_)
      intro v2 w2 hown2 hgrow2 hnil2
      have P2 := Lib.hid (P1.out.grown hgrow2 (fun q hq => .inr (W1.out.lt q hq).1))
      have W2 : Hid (w2.ownsRow w.heap.size 35 2 v2 (Z ++ L).length (flat (Z ++ L))) := Lib.hid (by rw [List.length_append]; exact hown2)
      clear hown2 hgrow2 hnil2
      go_wp2_with fail
      go_roundw
      case rel => exact ⟨j + 1, Z ++ L, by omega, by go_num, W2.out, by have := HL.out; have := HZ.out; simp; omega, by have := HR.out; have := HR1.out; omega, P2.out⟩
      case measure => simp [intOf]; omega
    · obtain rfl : j = n := by omega
      have ZE := Lib.hid (enCap_owns W.out)
      clear hgo
      go_wp2_with fail
      refine (awake_any _).mono ?_; rintro e w5 ⟨rfl, o5⟩
      have O5 := Lib.hid (P.out.then0 o5)
      have X5 := Lib.hid (ZE.out.keep o5)
      clear o5
      go_wp2_with fail
      refine (rounds_any _ _ Z k X5.out.en (by have := HZ.out; omega) (by omega)).mono ?_; rintro e w6 ⟨rfl, o6⟩
      have O6 := Lib.hid (O5.out.then0 o6)
      have X6 := Lib.hid (X5.out.keep o6)
      rw [roundsI_nat hk1]
      obtain ⟨rd, hrd⟩ : ∃ rd, rd = rounds k Z := ⟨_, rfl⟩
      rw [← hrd] at HR ⊢
      have hge : ¬ (rd : Int) < (j : Int) := by have := HR.out; omega
      clear o6 O5 X5 hrd
      go_wp2_with fail
      go_loopw [9] (fun z wr => ∃ (L : List E), EnCap wr z L ∧ L.length ≤ 64 ∧ Only [] w wr) (fun z _ => lenV z)
      case atStart => exact ⟨Z, X6.out, by have := HZ.out; omega, O6.out⟩
      case round =>
        obtain ⟨L, hE, hL, hP⟩ := hrel
        have Q := Lib.hid hP
        have HL := Lib.hid hL
        clear hP hL
        have hcz : ((c : Int) == 0) = false := by simp; omega
        obtain ⟨zo, zc, hz⟩ : ∃ zo zc, u9 = .slice zo L.length zc := by
          obtain ⟨ao, c2, e, _⟩ := hE.en
          exact ⟨ao, c2, e⟩
        subst hz
        have HE := Lib.hid hE
        have HS := Lib.hid (fun h => hE.some h)
        obtain ⟨q, hq⟩ : ∃ q, q = L.length := ⟨_, rfl⟩
        rw [← hq] at HE HS HL ⊢
        have HQ := Lib.hid hq
        have hq64 := HL.out
        clear hE hq
        by_cases hgo : 0 < q ∧ ¬ q % c = 0
        · obtain ⟨h0, hne⟩ := hgo
          obtain ⟨g, zc', e, h1, h2, h3⟩ := HS.out h0
          simp at e
          obtain ⟨rfl, rfl⟩ := e
          obtain ⟨p, rfl⟩ : ∃ p, q = p + 1 := ⟨q - 1, by omega⟩
          have HT := Lib.hid (enCap_take h1 HQ.out h2 h3)
          have HTl : Hid ((L.take p).length = p) := Lib.hid (by rw [List.length_take]; have := HQ.out; omega)
          obtain ⟨md, hmd⟩ : ∃ md, md = (p + 1) % c := ⟨_, rfl⟩
          have e1 : ((p : Int) + 1) % (c : Int) = (md : Int) := by rw [hmd, Int.natCast_emod]; rfl
          rw [← hmd] at hne
          have hne2 : ¬ ((md : Int) = 0) := by omega
          have hne3 : ((md : Int) == 0) = false := by simp; omega
          have hsub : (p : Int) + 1 - 1 = (p : Int) := by omega
          clear h1 hmd HS HE
          go_wp2_with fail
          go_roundw
          case rel => exact ⟨L.take p, HT.out, by have := HTl.out; omega, Q.out⟩
          case measure => simp [lenV]
        · have hdv : (q : Int) / (c : Int) = ((q / c : Nat) : Int) := (Int.natCast_ediv q c).symm
          obtain ⟨md, hmd⟩ : ∃ md, md = q % c := ⟨_, rfl⟩
          have e1 : (q : Int) % (c : Int) = (md : Int) := by rw [hmd, Int.natCast_emod]
          have hex : q = 0 ∨ (0 < q ∧ md = 0) := by rw [← hmd] at hgo; omega
          have HF := Lib.hid (fun h => fair_enough (m := k) (k := c) (l := L) hk1 hc1 h)
          obtain ⟨dv, hdv2⟩ : ∃ dv, dv = q / c := ⟨_, rfl⟩
          rw [← hdv2] at hdv
          rw [← HQ.out, ← hdv2] at HF
          have hdvb : dv ≤ 64 := by rw [hdv2]; exact Nat.le_trans (Nat.div_le_self _ _) hq64
          have hwr : IntKind.i64.wrap (dv : Int) = (dv : Int) := IntWalk.i64_in _ (by omega)
          have hc0 : ¬ c = 0 := by omega
          clear hgo hmd hdv2 HS
          obtain ⟨r5, hr5'⟩ : ∃ r5, r5 = rounds k L := ⟨_, rfl⟩
          rw [← hr5'] at HF
          have HR5 := Lib.hid hr5'
          obtain ⟨fb, hfb⟩ : ∃ fb, fb = fairB k c L := ⟨_, rfl⟩
          rw [← hfb] at HF
          have HFB := Lib.hid hfb
          clear hr5' hfb
          have O0 := Lib.hid (Only.refl [] wr).drew
          have hgd : (q : Int) ≤ 0 ∨ (0 < q ∧ (md : Int) = 0) := by omega
          have FC : ∀ w', Only [] wr w' → Hid (Calls Try.prog 24 #[.slice zo q zc, .int .i64 k, .int .i64 c] w' fun e w'' => e = .returned (.bool fb) ∧ Only [] w' w'') := fun w' o => Lib.hid (by
            have := fair_any w' _ L k c (HE.out.keep o).en (by rw [← HQ.out]; omega) (by omega) (by omega)
            rwa [fairI_nat hk1 hc1, ← HFB.out] at this)
          have RC : ∀ w', Only [] wr w' → Hid (Calls Try.prog 18 #[.slice zo q zc, .int .i64 k] w' fun e w'' => e = .returned (.int .i64 r5) ∧ Only [] w' w'') := fun w' o => Lib.hid (by
            have := rounds_any w' _ L k (HE.out.keep o).en (by rw [← HQ.out]; omega) (by omega)
            rwa [roundsI_nat hk1, ← HR5.out] at this)
          clear hex HE HFB HR5
          cases fb with
          | true =>
            have hle : (dv : Int) ≤ (r5 : Int) := by have := HF.out rfl; omega
            have hle2 : decide ((dv : Int) ≤ (r5 : Int)) = true := decide_eq_true hle
            clear HF
            rcases hgd with hq0 | ⟨h0, hmd0⟩
            all_goals
              go_wp2_with fail
              go_region_held3 (fun _ => True) (trivial)
                ((first
                  | (go_at_call 24; refine (FC _ O0.out).out.mono ?_; rintro e w7 ⟨rfl, o7⟩; have O7 := Lib.hid (O0.out.then0 o7); clear o7)
                  | (go_at_call 18; refine (RC _ O7.out).out.mono ?_; rintro e w8 ⟨rfl, o8⟩; have O8 := Lib.hid (O7.out.then0 o8); clear o8)))
              go_wp2_with fail
              go_ret
              exact ⟨by first | rfl | rw [hle2], Q.out.then0 O8.out⟩
          | false =>
            clear HF
            rcases hgd with hq0 | ⟨h0, hmd0⟩
            · go_wp2_with fail
              refine wp_region_held_drew (S := fun _ => True) (by kernel_rfl) trivial (fun hHeld => ?_)
              (refine wpAnyH_take (i := 0) (v := ?hv0) rfl (by kernel_rfl) (by kernel_rfl) (by kernel_rfl) (fun _ _ _ h => h) (Or.inl ⟨by rfl, ?hy0⟩) (by assumption) ?rest0; (case' hy0 => (intro w hSw; (try dsimp only at hSw); go_simp; try with_reducible rfl)); try simp only [List.getElem_toArray, List.getElem_cons_zero, Act.put, List.setIfInBounds_toArray, List.set_cons_zero, List.set_cons_succ])
              (refine wpAnyH_take (i := 1) (v := ?hv1) rfl (by kernel_rfl) (by kernel_rfl) (by kernel_rfl) (fun _ _ _ h => h) (Or.inl ⟨by rfl, ?hy1⟩) (by assumption) ?rest1; (case' hy1 => (intro w hSw; (try dsimp only at hSw); go_simp; try with_reducible rfl)); try simp only [List.getElem_toArray, List.getElem_cons_zero, List.getElem_cons_succ, Act.put, List.setIfInBounds_toArray, List.set_cons_zero, List.set_cons_succ])
              (refine wpAnyH_take (i := 2) (v := ?hv2) rfl (by kernel_rfl) (by kernel_rfl) (by kernel_rfl) (fun _ _ _ h => h) (Or.inl ⟨by rfl, ?hy2⟩) (by assumption) ?rest2; (case' hy2 => (intro w hSw; (try dsimp only at hSw); go_simp; try with_reducible rfl)); try simp only [List.getElem_toArray, List.getElem_cons_zero, List.getElem_cons_succ, Act.put, List.setIfInBounds_toArray, List.set_cons_zero, List.set_cons_succ])
              refine wpAnyH_ready (rs := [3]) (by kernel_rfl) (by simp) ?_
              refine AllReadyH.cons rfl (fun K hK => ?_) AllReadyH.nil
              go_simp
              refine (FC _ O0.out).out.mono ?_; rintro e w7 ⟨rfl, o7⟩
              have O7 := Lib.hid (O0.out.then0 o7)
              clear o7
              go_wp2_with fail
              refine hK.out _ _ trivial (fun hHeld => ?_)
              (refine wpAnyH_take (i := 4) (v := ?hv4) rfl (by kernel_rfl) (by kernel_rfl) (by kernel_rfl) (fun _ _ _ h => h) (Or.inl ⟨by rfl, ?hy4⟩) (by assumption) ?rest4; (case' hy4 => (intro w hSw; (try dsimp only at hSw); go_simp; try with_reducible rfl)); try simp only [List.getElem_toArray, List.getElem_cons_zero, List.getElem_cons_succ, Act.put, List.setIfInBounds_toArray, List.set_cons_zero, List.set_cons_succ])
              (refine wpAnyH_take (i := 5) (v := ?hv5) rfl (by kernel_rfl) (by kernel_rfl) (by kernel_rfl) (fun _ _ _ h => h) (Or.inl ⟨by rfl, ?hy5⟩) (by assumption) ?rest5; (case' hy5 => (intro w hSw; (try dsimp only at hSw); go_simp; try with_reducible rfl)); try simp only [List.getElem_toArray, List.getElem_cons_zero, List.getElem_cons_succ, Act.put, List.setIfInBounds_toArray, List.set_cons_zero, List.set_cons_succ])
              (refine wpAnyH_take (i := 6) (v := undef) rfl (by kernel_rfl) (by kernel_rfl) (by kernel_rfl) (fun _ _ _ h => h) (Or.inr ⟨by rfl, rfl⟩) (by assumption) ?_; try simp only [List.getElem_toArray, List.getElem_cons_zero, List.getElem_cons_succ, Act.put, List.setIfInBounds_toArray, List.set_cons_zero, List.set_cons_succ])
              (refine wpAnyH_take (i := 7) (v := undef) rfl (by kernel_rfl) (by kernel_rfl) (by kernel_rfl) (fun _ _ _ h => h) (Or.inr ⟨by rfl, rfl⟩) (by assumption) ?_; try simp only [List.getElem_toArray, List.getElem_cons_zero, List.getElem_cons_succ, Act.put, List.setIfInBounds_toArray, List.set_cons_zero, List.set_cons_succ])
              (refine wpAnyH_take (i := 8) (v := undef) rfl (by kernel_rfl) (by kernel_rfl) (by kernel_rfl) (fun _ _ _ h => h) (Or.inr ⟨by rfl, rfl⟩) (by assumption) ?_; try simp only [List.getElem_toArray, List.getElem_cons_zero, List.getElem_cons_succ, Act.put, List.setIfInBounds_toArray, List.set_cons_zero, List.set_cons_succ])
              (refine wpAnyH_take (i := 9) (v := undef) rfl (by kernel_rfl) (by kernel_rfl) (by kernel_rfl) (fun _ _ _ h => h) (Or.inr ⟨by rfl, rfl⟩) (by assumption) ?_; try simp only [List.getElem_toArray, List.getElem_cons_zero, List.getElem_cons_succ, Act.put, List.setIfInBounds_toArray, List.set_cons_zero, List.set_cons_succ])
              (refine wpAnyH_take (i := 10) (v := undef) rfl (by kernel_rfl) (by kernel_rfl) (by kernel_rfl) (fun _ _ _ h => h) (Or.inr ⟨by rfl, rfl⟩) (by assumption) ?_; try simp only [List.getElem_toArray, List.getElem_cons_zero, List.getElem_cons_succ, Act.put, List.setIfInBounds_toArray, List.set_cons_zero, List.set_cons_succ])
              (refine wpAnyH_take (i := 11) (v := undef) rfl (by kernel_rfl) (by kernel_rfl) (by kernel_rfl) (fun _ _ _ h => h) (Or.inr ⟨by rfl, rfl⟩) (by assumption) ?_; try simp only [List.getElem_toArray, List.getElem_cons_zero, List.getElem_cons_succ, Act.put, List.setIfInBounds_toArray, List.set_cons_zero, List.set_cons_succ])
              (refine wpAnyH_take (i := 12) (v := undef) rfl (by kernel_rfl) (by kernel_rfl) (by kernel_rfl) (fun _ _ _ h => h) (Or.inr ⟨by rfl, rfl⟩) (by assumption) ?_; try simp only [List.getElem_toArray, List.getElem_cons_zero, List.getElem_cons_succ, Act.put, List.setIfInBounds_toArray, List.set_cons_zero, List.set_cons_succ])
              (refine wpAnyH_take (i := 13) (v := undef) rfl (by kernel_rfl) (by kernel_rfl) (by kernel_rfl) (fun _ _ _ h => h) (Or.inr ⟨by rfl, rfl⟩) (by assumption) ?_; try simp only [List.getElem_toArray, List.getElem_cons_zero, List.getElem_cons_succ, Act.put, List.setIfInBounds_toArray, List.set_cons_zero, List.set_cons_succ])
              (refine wpAnyH_take (i := 14) (v := ?hv14) rfl (by kernel_rfl) (by kernel_rfl) (by kernel_rfl) (fun _ _ _ h => h) (Or.inl ⟨by rfl, ?hy14⟩) (by assumption) ?rest14; (case' hy14 => (intro w hSw; (try dsimp only at hSw); go_simp; try with_reducible rfl)); try simp only [List.getElem_toArray, List.getElem_cons_zero, List.getElem_cons_succ, Act.put, List.setIfInBounds_toArray, List.set_cons_zero, List.set_cons_succ])
              (refine wpAnyH_take (i := 15) (v := ?hv15) rfl (by kernel_rfl) (by kernel_rfl) (by kernel_rfl) (fun _ _ _ h => h) (Or.inl ⟨by rfl, ?hy15⟩) (by assumption) ?rest15; (case' hy15 => (intro w hSw; (try dsimp only at hSw); go_simp; try with_reducible rfl)); try simp only [List.getElem_toArray, List.getElem_cons_zero, List.getElem_cons_succ, Act.put, List.setIfInBounds_toArray, List.set_cons_zero, List.set_cons_succ])
              refine wpAnyH_done (by kernel_rfl) ?_ _
              go_wp2_with fail
              go_ret
              exact ⟨rfl, Q.out.then0 O7.out⟩
            · go_wp2_with fail
              refine wp_region_held_drew (S := fun _ => True) (by kernel_rfl) trivial (fun hHeld => ?_)
              (refine wpAnyH_take (i := 0) (v := ?hv0b) rfl (by kernel_rfl) (by kernel_rfl) (by kernel_rfl) (fun _ _ _ h => h) (Or.inl ⟨by rfl, ?hy0b⟩) (by assumption) ?rest0b; (case' hy0b => (intro w hSw; (try dsimp only at hSw); go_simp; try with_reducible rfl)); try simp only [List.getElem_toArray, List.getElem_cons_zero, Act.put, List.setIfInBounds_toArray, List.set_cons_zero, List.set_cons_succ])
              (refine wpAnyH_take (i := 1) (v := ?hv1b) rfl (by kernel_rfl) (by kernel_rfl) (by kernel_rfl) (fun _ _ _ h => h) (Or.inl ⟨by rfl, ?hy1b⟩) (by assumption) ?rest1b; (case' hy1b => (intro w hSw; (try dsimp only at hSw); go_simp; try with_reducible rfl)); try simp only [List.getElem_toArray, List.getElem_cons_zero, List.getElem_cons_succ, Act.put, List.setIfInBounds_toArray, List.set_cons_zero, List.set_cons_succ])
              (refine wpAnyH_take (i := 2) (v := ?hv2b) rfl (by kernel_rfl) (by kernel_rfl) (by kernel_rfl) (fun _ _ _ h => h) (Or.inl ⟨by rfl, ?hy2b⟩) (by assumption) ?rest2b; (case' hy2b => (intro w hSw; (try dsimp only at hSw); go_simp; try with_reducible rfl)); try simp only [List.getElem_toArray, List.getElem_cons_zero, List.getElem_cons_succ, Act.put, List.setIfInBounds_toArray, List.set_cons_zero, List.set_cons_succ])
              refine wpAnyH_ready (rs := [3]) (by kernel_rfl) (by simp) ?_
              refine AllReadyH.cons rfl (fun K hK => ?_) AllReadyH.nil
              go_simp
              refine (FC _ O0.out).out.mono ?_; rintro e w7 ⟨rfl, o7⟩
              have O7 := Lib.hid (O0.out.then0 o7)
              clear o7
              go_wp2_with fail
              refine hK.out _ _ trivial (fun hHeld => ?_)
              (refine wpAnyH_take (i := 4) (v := ?hv4b) rfl (by kernel_rfl) (by kernel_rfl) (by kernel_rfl) (fun _ _ _ h => h) (Or.inl ⟨by rfl, ?hy4b⟩) (by assumption) ?rest4b; (case' hy4b => (intro w hSw; (try dsimp only at hSw); go_simp; try with_reducible rfl)); try simp only [List.getElem_toArray, List.getElem_cons_zero, List.getElem_cons_succ, Act.put, List.setIfInBounds_toArray, List.set_cons_zero, List.set_cons_succ])
              (refine wpAnyH_take (i := 5) (v := ?hv5b) rfl (by kernel_rfl) (by kernel_rfl) (by kernel_rfl) (fun _ _ _ h => h) (Or.inl ⟨by rfl, ?hy5b⟩) (by assumption) ?rest5b; (case' hy5b => (intro w hSw; (try dsimp only at hSw); go_simp; try with_reducible rfl)); try simp only [List.getElem_toArray, List.getElem_cons_zero, List.getElem_cons_succ, Act.put, List.setIfInBounds_toArray, List.set_cons_zero, List.set_cons_succ])
              (refine wpAnyH_take (i := 6) (v := undef) rfl (by kernel_rfl) (by kernel_rfl) (by kernel_rfl) (fun _ _ _ h => h) (Or.inr ⟨by rfl, rfl⟩) (by assumption) ?_; try simp only [List.getElem_toArray, List.getElem_cons_zero, List.getElem_cons_succ, Act.put, List.setIfInBounds_toArray, List.set_cons_zero, List.set_cons_succ])
              (refine wpAnyH_take (i := 7) (v := undef) rfl (by kernel_rfl) (by kernel_rfl) (by kernel_rfl) (fun _ _ _ h => h) (Or.inr ⟨by rfl, rfl⟩) (by assumption) ?_; try simp only [List.getElem_toArray, List.getElem_cons_zero, List.getElem_cons_succ, Act.put, List.setIfInBounds_toArray, List.set_cons_zero, List.set_cons_succ])
              (refine wpAnyH_take (i := 8) (v := undef) rfl (by kernel_rfl) (by kernel_rfl) (by kernel_rfl) (fun _ _ _ h => h) (Or.inr ⟨by rfl, rfl⟩) (by assumption) ?_; try simp only [List.getElem_toArray, List.getElem_cons_zero, List.getElem_cons_succ, Act.put, List.setIfInBounds_toArray, List.set_cons_zero, List.set_cons_succ])
              (refine wpAnyH_take (i := 9) (v := undef) rfl (by kernel_rfl) (by kernel_rfl) (by kernel_rfl) (fun _ _ _ h => h) (Or.inr ⟨by rfl, rfl⟩) (by assumption) ?_; try simp only [List.getElem_toArray, List.getElem_cons_zero, List.getElem_cons_succ, Act.put, List.setIfInBounds_toArray, List.set_cons_zero, List.set_cons_succ])
              (refine wpAnyH_take (i := 10) (v := undef) rfl (by kernel_rfl) (by kernel_rfl) (by kernel_rfl) (fun _ _ _ h => h) (Or.inr ⟨by rfl, rfl⟩) (by assumption) ?_; try simp only [List.getElem_toArray, List.getElem_cons_zero, List.getElem_cons_succ, Act.put, List.setIfInBounds_toArray, List.set_cons_zero, List.set_cons_succ])
              (refine wpAnyH_take (i := 11) (v := undef) rfl (by kernel_rfl) (by kernel_rfl) (by kernel_rfl) (fun _ _ _ h => h) (Or.inr ⟨by rfl, rfl⟩) (by assumption) ?_; try simp only [List.getElem_toArray, List.getElem_cons_zero, List.getElem_cons_succ, Act.put, List.setIfInBounds_toArray, List.set_cons_zero, List.set_cons_succ])
              (refine wpAnyH_take (i := 12) (v := undef) rfl (by kernel_rfl) (by kernel_rfl) (by kernel_rfl) (fun _ _ _ h => h) (Or.inr ⟨by rfl, rfl⟩) (by assumption) ?_; try simp only [List.getElem_toArray, List.getElem_cons_zero, List.getElem_cons_succ, Act.put, List.setIfInBounds_toArray, List.set_cons_zero, List.set_cons_succ])
              (refine wpAnyH_take (i := 13) (v := undef) rfl (by kernel_rfl) (by kernel_rfl) (by kernel_rfl) (fun _ _ _ h => h) (Or.inr ⟨by rfl, rfl⟩) (by assumption) ?_; try simp only [List.getElem_toArray, List.getElem_cons_zero, List.getElem_cons_succ, Act.put, List.setIfInBounds_toArray, List.set_cons_zero, List.set_cons_succ])
              (refine wpAnyH_take (i := 14) (v := ?hv14b) rfl (by kernel_rfl) (by kernel_rfl) (by kernel_rfl) (fun _ _ _ h => h) (Or.inl ⟨by rfl, ?hy14b⟩) (by assumption) ?rest14b; (case' hy14b => (intro w hSw; (try dsimp only at hSw); go_simp; try with_reducible rfl)); try simp only [List.getElem_toArray, List.getElem_cons_zero, List.getElem_cons_succ, Act.put, List.setIfInBounds_toArray, List.set_cons_zero, List.set_cons_succ])
              (refine wpAnyH_take (i := 15) (v := ?hv15b) rfl (by kernel_rfl) (by kernel_rfl) (by kernel_rfl) (fun _ _ _ h => h) (Or.inl ⟨by rfl, ?hy15b⟩) (by assumption) ?rest15b; (case' hy15b => (intro w hSw; (try dsimp only at hSw); go_simp; try with_reducible rfl)); try simp only [List.getElem_toArray, List.getElem_cons_zero, List.getElem_cons_succ, Act.put, List.setIfInBounds_toArray, List.set_cons_zero, List.set_cons_succ])
              refine wpAnyH_done (by kernel_rfl) ?_ _
              go_wp2_with fail
              go_ret
              exact ⟨rfl, Q.out.then0 O7.out⟩

theorem ScriptEnough_any (w : World) (xi : List Int) (vi : Value) (hi : Ns w vi xi) (wi : ∀ z ∈ xi, (Lit.int .i64 z).wf = true) (li : xi.length ≤ 9223372036854775807) (m kk nn : Int) :
    Calls Try.prog 10 #[vi, .int .i64 m, .int .i64 kk, .int .i64 nn] w fun e w' => e = .returned (.bool true) ∧ Only [] w w' := by
  have Hi := Lib.hid hi
  obtain ⟨io, cap3, rfl, _⟩ := hi
  by_cases h : xi.length ≤ 100
  · exact ScriptEnough_small w io cap3 _ h xi Hi (Lib.hid rfl) m kk nn
  · have h2 : ¬ ((xi.length : Int) ≤ 100) := by omega
    generalize xi.length = n at *
    clear Hi
    go_enter Try.func10, Try.ntmps10
    go_wp2_with fail
    go_ret
    exact ⟨rfl, Only.refl _ _⟩
end Go.Proofs.Ytfhmphbfngdkeaa
