/- Linear, walked: which lists of operations it calls linearizable. -/
import Derived.Test.YtfhkhknnoepfeaaGreatHistLin7
namespace Go.Proofs.YtfhkhknnoepfeaaGreat
open Go.RowKit Go.ChangeMaps Go.MapKept Go.Maps
open Go.Maps (Keyed)
set_option linter.unusedVariables false

/-- What Linear answers. -/
def linB (l : List HOp) (cap : Int) : Bool := decide (l.length ≤ 12) && (l.all fun o => o.formed) && ordr (fun a => l.getD a HOp.zero) l.length cap l.length (fun _ => false) []

theorem bitsU_zero : bitsU 0 = fun _ => false := by funext j; simp [bitsU]
theorem leftU_zero (n : Nat) : leftU n (bitsU 0) = n := by rw [bitsU_zero]; simp [leftU]

set_option maxRecDepth 100000 in
theorem from_zero (w : World) (xv : Value) (d : Nat) (L : List Nat) :
    Calls Tryz.prog 27 #[xv, stV d L, .int .i64 0] w fun e w' => e = .returned (.bool true) ∧ Only [] w w' := by
  go_enter Tryz.func27, Tryz.ntmps27
  simp only [stV, stA, stC]
  go_wp2_with fail
  go_ret
  exact ⟨rfl, (Only.refl _ _).alloc _⟩

set_option maxRecDepth 100000 in
set_option maxHeartbeats 4000000 in
theorem linear_any (w : World) (v : Value) (l : List HOp) (cap : Int) (hv : OL w v l) (hwf : ∀ i, i < l.length → -9223372036854775808 ≤ (l.getD i HOp.zero).value ∧ (l.getD i HOp.zero).value ≤ 9223372036854775807) :
    Calls Tryz.prog 13 #[v, .int .i64 cap] w fun e w' => e = .returned (.bool (linB l cap)) ∧ Only [] w w' := by
  obtain ⟨n, hnn⟩ : ∃ n, n = l.length := ⟨_, rfl⟩
  have HV := Lib.hid hv
  have WF := Lib.hid hwf
  obtain ⟨ao, c1, rfl, hc, g1⟩ := hv
  rw [← hnn] at hc g1 hwf ⊢
  have G := Lib.hid g1
  clear g1 hwf
  go_enter Tryz.func13, Tryz.ntmps13
  by_cases hlen : n ≤ 12
  rotate_left
  · have LB : Hid (linB l cap = false) := Lib.hid (by unfold linB; rw [decide_eq_false (by omega)]; rfl)
    go_wp2_with fail
    go_ret
    exact ⟨by rw [LB.out]; rfl, Only.refl _ _⟩
  · have HN := Lib.hid hnn
    clear hnn
    go_wp2_with fail
    go_loopw [13] (fun i wr => ∃ k : Nat, k ≤ n ∧ i = .int .i64 k ∧ Only [] w wr ∧ ∀ i, i < k → (l.getD i HOp.zero).formed = true) (fun i _ => n - (intOf i).toNat)
    case atStart => exact ⟨0, Nat.zero_le _, rfl, Only.refl _ _, fun i hi => by omega⟩
    case round =>
      obtain ⟨k, hk, rfl, hP, hF⟩ := hrel
      have P := Lib.hid hP
      have F := Lib.hid hF
      clear hP hF
      by_cases hlt : k < n
      · obtain ⟨b, off, rfl, hc1⟩ := G.out (by omega)
        have e1 := (hc1 k hlt).keep P.out (by simp)
        obtain ⟨o, ho⟩ : ∃ o, o = l.getD k HOp.zero := ⟨_, rfl⟩
        have HO := Lib.hid ho
        rw [← ho] at e1
        clear hc1 ho
        have FM := fun w => Lib.hid (formed_any w o)
        obtain ⟨r, hr⟩ : ∃ r, r = o.formed := ⟨_, rfl⟩
        rw [← hr] at FM
        have HR := Lib.hid hr
        clear hr
        unfold OpAt at e1
        obtain ⟨k0, m0, f0, t0, d0, v0⟩ := o
        obtain ⟨a0, a1, a2, a3, a4, a5⟩ := e1
        simp only [HOp.v] at FM a0 a1 a2 a3 a4 a5
        go_wp2_with fail
        refine (FM _).out.mono ?_; rintro e w3 ⟨rfl, o3⟩
        have P3 := Lib.hid ((P.out.alloc _).then0 o3)
        clear o3
        cases r with
        | false =>
          have LB : Hid (linB l cap = false) := Lib.hid (by
            unfold linB
            have : l.all (fun o => o.formed) = false := by
              rw [List.all_eq_false]
              exact ⟨l.getD k HOp.zero, by rw [List.getD_eq_getElem?_getD, List.getElem?_eq_getElem (by have := HN.out; omega)]; exact List.getElem_mem _, by rw [← HO.out, ← HR.out]; simp⟩
            rw [this]; simp)
          go_wp2_with fail
          go_ret
          exact ⟨by rw [LB.out]; rfl, P3.out⟩
        | true =>
          go_wp2_with fail
          go_roundw
          case rel => exact ⟨k + 1, by omega, by go_num, P3.out, fun i hi => by
            by_cases e : i = k
            · rw [e, ← HO.out, ← HR.out]
            · exact F.out i (by omega)⟩
          case measure => simp [intOf]; omega
      · obtain rfl : k = n := by omega
        have HV2 : Hid (OL wr (.slice ao k c1) l) := Lib.hid (by rw [HN.out]; exact HV.out.keep P.out)
        have BF : ∀ w', Only [] wr w' → Hid (Calls Tryz.prog 25 #[.slice ao k c1] w' fun e w'' => ∃ v' b, e = .returned v' ∧ RowAt w'' v' b 80 (bfRow l l.length 0) ∧ w'.heap.size ≤ b ∧ Only [] w' w'') := fun w' o => Lib.hid (before_any w' _ l (HV2.out.keep o) (by have := HN.out; omega))
        have hmm := @run_makeMap Tryz.prog
        go_wp2_with fail
        refine (BF _ (Only.refl _ _)).out.mono ?_; rintro e w3 ⟨ev, eb, rfl, hR, hb, o3⟩
        obtain ⟨ead, ecp, rfl, -⟩ := id hR
        have P3 := Lib.hid (P.out.then0 o3)
        have R3 := Lib.hid hR
        have O3 := Lib.hid o3
        have MP : Hid ((w3.alloc (.map #[] 0)).ownsMap Tryz.prog 83 (plainElem Tryz.prog 4) w3.heap.size 0 (.map [] : DataW Unit)) := Lib.hid (World.ownsMap_made _ _ _ _)
        clear hR o3
        go_wp2_with fail
        obtain ⟨w4, hw4⟩ : ∃ w4, w4 = ((w3.alloc (.map #[] 0)).alloc (.cells #[.slice ao k c1, .slice (some ead) (bfRow l l.length 0).length ecp, .int .i64 cap, .map (some w3.heap.size)] 77 (0, 0))) := ⟨_, rfl⟩
        obtain ⟨mb, hmb⟩ : ∃ mb, mb = w3.heap.size := ⟨_, rfl⟩
        have o34 : Only [] w3 w4 := by rw [hw4]; exact ((Only.refl _ _).alloc _).alloc _
        have X4 : w4.heap[w3.heap.size + 1]? = some (.cells #[.slice ao k c1, .slice (some ead) (bfRow l l.length 0).length ecp, .int .i64 cap, .map (some mb)] 77 (0, 0)) := by
          rw [hw4, hmb]
          have := blk_alloc_new (w3.alloc (.map #[] 0)) (.cells #[.slice ao k c1, .slice (some ead) (bfRow l l.length 0).length ecp, .int .i64 cap, .map (some w3.heap.size)] 77 (0, 0))
          simpa using this
        have M4 : Hid (w4.ownsMap Tryz.prog 83 (plainElem Tryz.prog 4) mb 0 (.map [] : DataW Unit)) := Lib.hid (by rw [hw4, hmb]; exact MP.out.alloc _)
        have HMB : Hid (w.heap.size ≤ mb) := Lib.hid (by rw [hmb]; exact P3.out.size)
        have P4 := Lib.hid (P3.out.then0 o34)
        have SI4 : Hid (SI w4 (w3.heap.size + 1) mb eb (.slice ao k c1) (.slice (some ead) (bfRow l l.length 0).length ecp) l cap) := Lib.hid ⟨X4, HV2.out.keep (O3.out.then0 o34), R3.out.keep o34 (by simp)⟩
        have SP := Lib.hid (supplied_any w4 (.slice ao k c1) l (HV2.out.keep (O3.out.then0 o34)) (by have := HN.out; omega) WF.out)
        obtain ⟨xb, hxb⟩ : ∃ xb, xb = w3.heap.size + 1 := ⟨_, rfl⟩
        rw [← hxb] at SI4 X4 ⊢
        have FF : Hid (∀ i, i < l.length → (l.getD i HOp.zero).formed = true) := Lib.hid (by rw [← HN.out]; exact F.out)
        have ALLF : Hid (l.all (fun o => o.formed) = true) := Lib.hid (by
          rw [List.all_eq_true]
          intro o ho
          obtain ⟨i, hi, rfl⟩ := List.getElem_of_mem ho
          have := FF.out i hi
          rwa [List.getD_eq_getElem?_getD, List.getElem?_eq_getElem hi] at this)
        have LB : Hid (linB l cap = ordr (fun a => l.getD a HOp.zero) l.length cap l.length (fun _ => false) []) := Lib.hid (by
          unfold linB
          rw [ALLF.out, decide_eq_true (show l.length ≤ 12 by have := HN.out; omega)]; rfl)
        rw [← hw4]
        clear X4 hw4 o34 hmb MP hxb
        refine SP.out.mono ?_; rintro e w5 ⟨r, rfl, hr, o5⟩
        have HR := Lib.hid hr
        have P5 := Lib.hid (P4.out.then0 o5)
        have SI5 := Lib.hid (SI4.out.keep0 o5)
        have M5 := Lib.hid (map_keep M4.out o5)
        clear hr o5
        cases r with
        | false =>
          have OB : Hid (linB l cap = false) := Lib.hid (by
            rw [LB.out]
            cases e : ordr (fun a => l.getD a HOp.zero) l.length cap l.length (fun _ => false) [] with
            | false => rfl
            | true => have := HR.out.2 (fun v => ordr_supplied FF.out e v); cases this)
          go_wp2_with fail
          go_ret
          exact ⟨by rw [OB.out]; rfl, P5.out⟩
        | true =>
          obtain ⟨b, hb⟩ : ∃ b, b = linB l cap := ⟨_, rfl⟩
          have FR : Hid (Calls Tryz.prog 27 #[.pointer (some ⟨xb, 0, none⟩), (.agg #[.int .u16 0, .int .i64 0, .int .i64 0, .int .i64 0, .int .i64 0, .int .i64 0, .int .i64 0, .int .i64 0, .int .i64 0, .int .i64 0, .int .i64 0, .int .i64 0, .int .i64 0, .int .i64 0]), .int .i64 k] w5 fun e w' => e = .returned (.bool b) ∧ Only [] w w') := Lib.hid (by
            rcases Nat.eq_zero_or_pos k with h0 | h0
            · have hl : l.length = 0 := by have := HN.out; omega
              rw [h0]
              refine (from_zero w5 _ 0 []).mono ?_
              rintro e w' ⟨rfl, o⟩
              refine ⟨?_, P5.out.then0 o⟩
              rw [hb, LB.out, hl]; rfl
            · have h := from_any l cap xb mb eb _ _ (by have := HN.out; omega) (by have := HN.out; omega) FF.out l.length w5 0 0 [] _ SI5.out M5.out (fun d L kl _ _ h => by rw [atKey_of_not_has (by rfl)] at h; cases h) (leftU_zero _).symm (by omega) (by simp) (by simp) (by
                have : ∀ n, n ≤ 12 → bdS n ≤ bdS 12 := by decide
                have h2 := this l.length (by have := HN.out; omega)
                have h3 : bdS 12 ≤ 9000000000000 := by decide
                omega)
              rw [← HN.out] at h
              refine h.mono ?_
              rintro e w' ⟨D', m', rfl, o, _⟩
              refine ⟨?_, (P5.out.mono (by simp)).trans o (fun t ht => ?_)⟩
              · rw [hb, LB.out, bitsU_zero, ← HN.out]; rfl
              · have : t = mb := by simpa using ht
                subst this
                exact .inr HMB.out)
          have HB := Lib.hid hb
          clear hb
          go_wp2_with fail
          refine FR.out.mono ?_; rintro e w6 ⟨rfl, o6⟩
          have O6 := Lib.hid o6
          clear o6
          go_wp2_with fail
          go_ret
          exact ⟨by rw [HB.out]; rfl, O6.out⟩
end Go.Proofs.YtfhkhknnoepfeaaGreat
