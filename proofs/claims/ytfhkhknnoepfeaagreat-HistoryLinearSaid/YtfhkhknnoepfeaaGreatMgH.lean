/- The reference's search for an order, walked. -/
import Derived.Test.YtfhkhknnoepfeaaGreatHistRef2
import Derived.Test.YtfhkhknnoepfeaaGreatHistPlan
import Derived.Test.YtfhkhknnoepfeaaGreatHistLinP2
import Derived.StillTailTactics
namespace Go.Proofs.YtfhkhknnoepfeaaGreat
open Go.RowKit
set_option linter.unusedVariables false

def usedRow (n : Nat) (used : Nat → Bool) : Array Value := ((List.range n).map fun i => Value.bool (used i)).toArray
theorem usedRow_at {n : Nat} {used : Nat → Bool} {i : Nat} (hi : i < n) : (usedRow n used)[i]? = some (.bool (used i)) := by unfold usedRow; simp [hi]
theorem usedRow_set {n : Nat} {used : Nat → Bool} {i : Nat} (hi : i < n) : (usedRow n used).setIfInBounds i (.bool true) = usedRow n (setU used i) := by
  unfold usedRow
  rw [rows_set hi]
  congr 2
  funext j
  unfold upd setU
  by_cases e : j = i
  · subst e; simp
  · simp [e]
theorem usedRow_unset {n : Nat} {used : Nat → Bool} {i : Nat} (hi : i < n) (h : used i = false) : (usedRow n (setU used i)).setIfInBounds i (.bool false) = usedRow n used := by
  unfold usedRow
  rw [rows_set hi]
  congr 2
  funext j
  unfold upd setU
  by_cases e : j = i
  · subst e; simp [h]
  · simp [e]

/-- The block of the marks. -/
def UR (w : World) (ub n : Nat) (used : Nat → Bool) : Prop := w.heap[ub]? = some (.cells (usedRow n used) 4 (0, 0))
theorem UR.cell {w : World} {ub n : Nat} {used : Nat → Bool} (h : UR w ub n used) {i : Nat} (hi : i < n) : w.cell? ⟨ub, i, none⟩ = some (.bool (used i)) := by rw [cell_blk h]; exact usedRow_at hi
theorem UR.ne {w : World} {ub n : Nat} {used : Nat → Bool} (h : UR w ub n used) {b j : Nat} {z : Int} (hc : w.cell? ⟨b, j, none⟩ = some (.int .i64 z)) : b ≠ ub := by
  intro e
  subst e
  rw [cell_blk h] at hc
  unfold usedRow at hc
  rw [List.getElem?_toArray, List.getElem?_map] at hc
  cases h2 : (List.range n)[j]? with
  | none => rw [h2] at hc; cases hc
  | some q => rw [h2] at hc; cases hc
theorem OL.keepU {w w' : World} {v : Value} {l : List HOp} {ub n : Nat} {used : Nat → Bool} (h : OL w v l) (u : UR w ub n used) (o : Only [ub] w w') : OL w' v l := by
  obtain ⟨ao, cap, rfl, hc, h⟩ := h
  refine ⟨ao, cap, rfl, hc, fun hp => ?_⟩
  obtain ⟨b, off, e, hh⟩ := h hp
  have hb := u.ne (hh 0 hp).1
  exact ⟨b, off, e, fun i hi => (hh i hi).keep o (by simp; exact hb)⟩
theorem Ns.keepU {w w' : World} {v : Value} {l : List Int} {ub n : Nat} {used : Nat → Bool} (h : Ns w v l) (u : UR w ub n used) (o : Only [ub] w w') : Ns w' v l := by
  obtain ⟨ao, cap, rfl, h1, h2, h3⟩ := h
  refine ⟨ao, cap, rfl, fun hp => ?_, h2, h3⟩
  obtain ⟨b, off, e, hc⟩ := h1 hp
  have hp2 : 0 < l.length := by simpa using hp
  have hb := u.ne (b := b) (j := off + 0) (z := l[0]) (by rw [hc 0 hp]; simp)
  exact ⟨b, off, e, fun j hj => o.keepCell (hc j hj) (by simp; exact hb)⟩

theorem act_len {o : HOp} {l l' : List Int} {cap : Int} (h : o.act l cap = some l') : l'.length ≤ l.length + 1 := by
  unfold HOp.act at h
  split at h
  · split at h
    · cases h; simp
    · cases h
  · split at h
    · split at h
      · cases h; omega
      · cases h
    · split at h
      · split at h
        · cases h; omega
        · cases h
      · split at h
        · cases h; omega
        · split at h
          · cases h
          · split at h
            · split at h
              · cases h; simp; omega
              · cases h
            · split at h
              · cases h; simp; omega
              · cases h

def allU (used : Nat → Bool) : Nat → Bool
  | 0 => true
  | k + 1 => allU used k && used k
theorem allU_left {used : Nat → Bool} : ∀ {n : Nat}, allU used n = true → leftU n used = 0
  | 0, _ => rfl
  | n + 1, h => by
    rw [allU, Bool.and_eq_true] at h
    unfold leftU
    rw [List.range_succ, List.countP_append, List.countP_singleton]
    have := allU_left h.1
    unfold leftU at this
    rw [this, h.2]; rfl
theorem left_allU {used : Nat → Bool} : ∀ {n : Nat}, leftU n used = 0 → ∀ i, i < n → used i = true
  | 0, _, i, hi => by omega
  | n + 1, h, i, hi => by
    unfold leftU at h
    rw [List.range_succ, List.countP_append, List.countP_singleton] at h
    by_cases e : i = n
    · subst e
      cases hu : used i with
      | true => rfl
      | false => rw [hu] at h; simp at h
    · exact left_allU (n := n) (by unfold leftU; omega) i (by omega)
/-- May operation i come next, the first k looked at? -/
def firstK (f : Nat → HOp) (used : Nat → Bool) (i : Nat) : Nat → Bool
  | 0 => true
  | k + 1 => firstK f used i k && (used k || decide ((f i).frm ≤ (f k).to))
theorem firstK_eq {f : Nat → HOp} {used : Nat → Bool} {i : Nat} : ∀ n, firstK f used i n = firstU f n used i
  | 0 => rfl
  | n + 1 => by rw [firstK, firstK_eq n]; unfold firstU; rw [List.range_succ, List.all_append]; simp

/-- What the search comes to. -/
def SPost (w : World) (ub : Nat) (r : Bool) (e : Ending) (w' : World) : Prop := e = .returned (.bool r) ∧ Only [ub] w w' ∧ (r = false → w'.heap[ub]? = w.heap[ub]?)

set_option maxRecDepth 100000 in
set_option maxHeartbeats 4000000 in
theorem refSearch_zero (l : List HOp) (cap : Int) (hn : l.length ≤ 12) (w : World) (ov : Value) (ub : Nat) (used : Nat → Bool) (lv : Value) (hO : OL w ov l) (hU : UR w ub l.length used) (h0 : leftU l.length used = 0) :
    Calls Tryz.prog 29 #[ov, .slice (some ⟨ub, 0, none⟩) l.length l.length, lv, .int .i64 cap] w (SPost w ub true) := by
  obtain ⟨n, hnn⟩ : ∃ n, n = l.length := ⟨_, rfl⟩
  rw [← hnn] at hn hU h0 ⊢
  obtain ⟨ao, c, rfl, -, -⟩ := hO
  rw [← hnn]
  have U := Lib.hid hU
  have ALL := Lib.hid (left_allU h0)
  clear hU h0 hnn
  go_enter Tryz.func29, Tryz.ntmps29
  go_wp2_with fail
  go_loopw [9, 10] (fun av iv wr => ∃ i : Nat, i ≤ n ∧ iv = .int .i64 i ∧ av = .bool true ∧ Only [] w wr) (fun _ iv _ => n - (intOf iv).toNat)
  case atStart => exact ⟨0, Nat.zero_le _, rfl, rfl, Only.refl _ _⟩
  case round =>
    obtain ⟨i, hi, rfl, rfl, hP⟩ := hrel
    have P := Lib.hid hP
    clear hP
    by_cases hlt : i < n
    · have cu := P.out.keepCell (U.out.cell hlt) (by simp)
      rw [ALL.out i hlt] at cu
      go_wp2_with fail
      go_roundw
      case rel => exact ⟨i + 1, by omega, by go_num, rfl, P.out⟩
      case measure => simp [intOf]; omega
    · obtain rfl : i = n := by omega
      go_wp2_with fail
      go_ret
      exact ⟨rfl, P.out.mono (by simp), fun e => by cases e⟩
end Go.Proofs.YtfhkhknnoepfeaaGreat

/- The reference's search for an order, walked: the induction. -/
namespace Go.Proofs.YtfhkhknnoepfeaaGreat
open Go.RowKit
set_option linter.unusedVariables false

set_option maxRecDepth 100000 in
set_option maxHeartbeats 8000000 in
theorem refSearch_any (l : List HOp) (cap : Int) (hn : l.length ≤ 12) (hf : ∀ i, i < l.length → (l.getD i HOp.zero).formed = true) : ∀ (left : Nat) (w : World) (ov : Value) (ub : Nat) (used : Nat → Bool) (lv : Value) (L : List Int),
    OL w ov l → UR w ub l.length used → Ns w lv L → left = leftU l.length used → L.length + left ≤ 100 →
    Calls Tryz.prog 29 #[ov, .slice (some ⟨ub, 0, none⟩) l.length l.length, lv, .int .i64 cap] w (SPost w ub (ordr (fun a => l.getD a HOp.zero) l.length cap left used L)) := by
  intro left
  induction left with
  | zero =>
    intro w ov ub used lv L hO hU hN hl hL
    exact refSearch_zero l cap hn w ov ub used lv hO hU hl.symm
  | succ left ih =>
    intro w ov ub used lv L hO hU hN hl hL
    obtain ⟨n, hnn⟩ : ∃ n, n = l.length := ⟨_, rfl⟩
    have HL := Lib.hid hl
    have HLL := Lib.hid hL
    have IH := Lib.hid ih
    have HF := Lib.hid hf
    have O0 := Lib.hid hO
    have U0 := Lib.hid hU
    have N0 := Lib.hid hN
    have HN := Lib.hid hnn
    obtain ⟨ao, c, rfl, -, -⟩ := hO
    obtain ⟨lao, lc, rfl, -, -, -⟩ := hN
    rw [← hnn] at hn O0 U0 HL HF IH ⊢
    obtain ⟨ln, hln⟩ : ∃ ln, ln = L.length := ⟨_, rfl⟩
    rw [← hln] at N0 HLL ⊢
    have HLN := Lib.hid hln
    obtain ⟨f, hfd⟩ : ∃ f : Nat → HOp, f = fun a => l.getD a HOp.zero := ⟨_, rfl⟩
    have FA : Hid (∀ i, l.getD i HOp.zero = f i) := Lib.hid (fun i => by rw [hfd])
    rw [← hfd] at IH ⊢
    clear hnn hln hl hL ih hU hf hfd
    go_enter Tryz.func29, Tryz.ntmps29
    go_wp2_with fail
    go_loopw [9, 10] (fun av iv wr => ∃ i : Nat, i ≤ n ∧ iv = .int .i64 i ∧ av = .bool (allU used i) ∧ Only [ub] w wr ∧ UR wr ub n used ∧
      (∀ j, j < i → ¬ (used j = false ∧ firstU f n used j = true ∧ ∃ l', (f j).act L cap = some l' ∧ ordr f n cap left (setU used j) l' = true))) (fun _ iv _ => n - (intOf iv).toNat)
    case atStart => exact ⟨0, Nat.zero_le _, rfl, rfl, Only.refl _ _, U0.out, fun j hj => by omega⟩
    case round =>
      obtain ⟨i, hi, rfl, rfl, hP, hU, hno⟩ := hrel
      have P := Lib.hid hP
      have U := Lib.hid hU
      have NO := Lib.hid hno
      clear hP hU hno
      by_cases hlt : i < n
      · have cu := U.out.cell hlt
        obtain ⟨al, hal⟩ : ∃ al, al = allU used i := ⟨_, rfl⟩
        have NXA : Hid (allU used (i + 1) = (al && used i)) := Lib.hid (by rw [allU, ← hal])
        rw [← hal]
        have STEP : Hid (¬ (used i = false ∧ firstU f n used i = true ∧ ∃ l', (f i).act L cap = some l' ∧ ordr f n cap left (setU used i) l' = true) → ∀ j, j < i + 1 → ¬ (used j = false ∧ firstU f n used j = true ∧ ∃ l', (f j).act L cap = some l' ∧ ordr f n cap left (setU used j) l' = true)) := Lib.hid (fun h j hj => by
          by_cases e : j = i
          · rw [e]; exact h
          · exact NO.out j (by omega))
        clear hal
        cases hui : used i with
        | true =>
          rw [hui] at cu
          have HUI := Lib.hid hui
          clear hui
          go_wp2_with fail
          go_roundw
          case rel => exact ⟨i + 1, by omega, by go_num, by rw [NXA.out, HUI.out, Bool.and_true], P.out, U.out, STEP.out (fun h => by rw [HUI.out] at h; cases h.1)⟩
          case measure => simp [intOf]; omega
        | false =>
          rw [hui] at cu
          have HUI := Lib.hid hui
          clear hui
          have OR := Lib.hid (O0.out.keepU U0.out P.out)
          have NR := Lib.hid (N0.out.keepU U0.out P.out)
          obtain ⟨_, _, hov, hoc, hoh⟩ := id OR.out
          rw [← HN.out] at hov hoc hoh
          cases hov
          obtain ⟨b, off, rfl, hcs⟩ := hoh (by omega)
          have HCS := Lib.hid hcs
          have ei := hcs i hlt
          rw [FA.out] at ei
          have EI := Lib.hid ei
          clear hoh hcs ei
          go_wp2_with fail
          obtain ⟨wo, hwo⟩ : ∃ wo, wo = wr := ⟨_, rfl⟩
          subst hwo
          go_loopw [11, 12] (fun fv kv wr => ∃ k : Nat, k ≤ n ∧ kv = .int .i64 k ∧ fv = .bool (firstK f used i k) ∧ Only [] wo wr) (fun _ kv _ => n - (intOf kv).toNat)
          case atStart => exact ⟨0, Nat.zero_le _, rfl, rfl, Only.refl _ _⟩
          case round =>
            obtain ⟨k, hk, rfl, rfl, hQ⟩ := hrel
            have Q := Lib.hid hQ
            clear hQ
            by_cases hlk : k < n
            · obtain ⟨fb, hfb⟩ : ∃ fb, fb = firstK f used i k := ⟨_, rfl⟩
              have NXF : Hid (firstK f used i (k + 1) = (fb && (used k || decide ((f i).frm ≤ (f k).to)))) := Lib.hid (by rw [firstK, ← hfb])
              rw [← hfb]
              have cu2 := fun q => (Q.out.drewN q).keepCell (U.out.cell hlk) (by simp)
              have ek := fun q => (HCS.out k hlk).keep (Q.out.drewN q) (by simp)
              have ej := fun q => EI.out.keep (Q.out.drewN q) (by simp)
              rw [FA.out] at ek
              obtain ⟨A, hA⟩ : ∃ A, A = f i := ⟨_, rfl⟩
              obtain ⟨C, hC⟩ : ∃ C, C = f k := ⟨_, rfl⟩
              rw [← hC] at ek NXF
              rw [← hA] at ej NXF
              obtain ⟨c0, c1, c2, c3, c4, c5⟩ := C
              obtain ⟨a0, a1, a2, a3, a4, a5⟩ := A
              unfold OpAt at ek ej
              simp only at ek ej NXF
              clear hA hC hfb cu
              cases fb with
              | false =>
                go_wp2_with fail
                go_quiet (fail)
                go_wp2_with fail
                go_roundw
                case rel => exact ⟨k + 1, by omega, by go_num, by rw [NXF.out]; rfl, Q.out.drewN _⟩
                case measure => simp [intOf]; omega
              | true =>
                cases huk : used k with
                | true =>
                  rw [huk] at cu2
                  have HUK := Lib.hid huk
                  clear huk
                  go_wp2_with fail
                  go_quiet (fail)
                  go_wp2_with fail
                  go_roundw
                  case rel => exact ⟨k + 1, by omega, by go_num, by rw [NXF.out, HUK.out]; rfl, Q.out.drewN _⟩
                  case measure => simp [intOf]; omega
                | false =>
                  rw [huk] at cu2
                  have HUK := Lib.hid huk
                  obtain ⟨d, hd⟩ : ∃ d, d = decide (a2 ≤ c3) := ⟨_, rfl⟩
                  have HD := Lib.hid hd
                  have hD := hd.symm
                  clear huk hd
                  go_wp2_with fail
                  go_quiet (fail)
                  go_wp2_with fail
                  go_roundw
                  case rel => exact ⟨k + 1, by omega, by go_num, by rw [NXF.out, HUK.out, ← HD.out]; rfl, Q.out.drewN _⟩
                  case measure => simp [intOf]; omega
            · obtain rfl : n = k := by omega
              rw [firstK_eq]
              have PQ := Lib.hid (P.out.trans (Q.out.mono (by simp)) (fun t ht => .inl ht))
              have UQ : Hid (UR wr ub n used) := Lib.hid (Q.out.keep U.out (by simp))
              obtain ⟨fu, hfu⟩ : ∃ fu, fu = firstU f n used i := ⟨_, rfl⟩
              rw [← hfu] at STEP ⊢
              have HFU := Lib.hid hfu
              clear hfu hlk cu
              cases fu with
              | false =>
                go_wp2_with fail
                go_roundw
                case rel => exact ⟨i + 1, by omega, by go_num, by rw [NXA.out, HUI.out, Bool.and_false], PQ.out, UQ.out, STEP.out (fun h => by cases h.2.1)⟩
                case measure => simp [intOf]; omega
              | true =>
                have ej := EI.out.keep Q.out (by simp)
                have AP := Lib.hid (refApply_any wr (f i) (.slice lao ln lc) L cap (NR.out.keep Q.out) (by have := HLL.out; have := HLN.out; omega) (by have := HF.out i hlt; rwa [FA.out] at this))
                obtain ⟨A, hA⟩ : ∃ A, A = f i := ⟨_, rfl⟩
                rw [← hA] at ej AP STEP
                have HA := Lib.hid hA
                obtain ⟨a0, a1, a2, a3, a4, a5⟩ := A
                unfold OpAt at ej
                obtain ⟨j0, j1, j2, j3, j4, j5⟩ := ej
                simp only [HOp.v] at AP j0 j1 j2 j3 j4 j5
                clear hA
                go_wp2_with fail
                refine AP.out.mono ?_; rintro e w3 ⟨nao, nn, nc, ok, rfl, o3, hres⟩
                have RS := Lib.hid hres
                have P3 := Lib.hid (PQ.out.trans (o3.mono (by simp)) (fun t ht => .inl ht))
                have U3 : Hid (UR w3 ub n used) := Lib.hid (o3.keep UQ.out (by simp))
                have O3 := Lib.hid (Q.out.then0 o3)
                clear o3 hres AP j0 j1 j2 j3 j4 j5
                cases ok with
                | false =>
                  have NONE : Hid ((⟨a0, a1, a2, a3, a4, a5⟩ : HOp).act L cap = none) := Lib.hid (by
                    rcases RS.out with ⟨h, _⟩ | ⟨_, h⟩
                    · cases h
                    · exact h)
                  go_wp2_with fail
                  go_roundw
                  case rel => exact ⟨i + 1, by omega, by go_num, by rw [NXA.out, HUI.out, Bool.and_false], P3.out, U3.out, STEP.out (fun h => by obtain ⟨_, _, l', h1, _⟩ := h; rw [NONE.out] at h1; cases h1)⟩
                  case measure => simp [intOf]; omega
                | true =>
                  obtain ⟨L', hact, hns⟩ : ∃ L', (⟨a0, a1, a2, a3, a4, a5⟩ : HOp).act L cap = some L' ∧ Ns w3 (.slice nao nn nc) L' := by
                    rcases RS.out with ⟨_, h⟩ | ⟨h, _⟩
                    · exact h
                    · cases h
                  have ACT := Lib.hid hact
                  have NS := Lib.hid hns
                  have cs := U3.out.cell hlt
                  have fs := free_blk U3.out i
                  have hubl := lt_of_blk U3.out
                  clear hact hns
                  obtain ⟨w4, hw4⟩ : ∃ w4, w4 = w3.setCell ⟨ub, i, none⟩ (.bool true) := ⟨_, rfl⟩
                  have o4 : Only [ub] w3 w4 := by rw [hw4]; exact (Only.refl _ _).setCell (by simp) _
                  have U4 : Hid (UR w4 ub n (setU used i)) := Lib.hid (by
                    unfold UR
                    rw [hw4, blk_setCell U3.out, usedRow_set hlt])
                  obtain ⟨r, hr⟩ : ∃ r, r = ordr f n cap left (setU used i) L' := ⟨_, rfl⟩
                  have HR := Lib.hid hr
                  have REC : Hid (Calls Tryz.prog 29 #[.slice (some ⟨b, off, none⟩) n c, .slice (some ⟨ub, 0, none⟩) n n, .slice nao nn nc, .int .i64 cap] w4 (SPost w4 ub r)) := Lib.hid (by
                    have h := IH.out w4 (.slice (some ⟨b, off, none⟩) n c) ub (setU used i) (.slice nao nn nc) L' ((OR.out.keep O3.out).keepU U3.out o4) U4.out (NS.out.keepU U3.out o4) (by
                      have h1 := leftU_set hlt HUI.out
                      have h2 := HL.out
                      omega) (by
                      have h1 := act_len ACT.out
                      have h2 := HLL.out
                      have h3 := HLN.out
                      omega)
                    rwa [← hr] at h)
                  have P4 := Lib.hid (P3.out.trans o4 (fun t ht => .inl ht))
                  clear hr o4
                  go_wp2_with fail
                  rw [← hw4]
                  clear hw4
                  refine REC.out.mono ?_; rintro e w5 ⟨rfl, o5, hsame⟩
                  have P5 := Lib.hid (P4.out.trans o5 (fun t ht => .inl ht))
                  have SM := Lib.hid hsame
                  clear o5 hsame REC
                  cases r with
                  | true =>
                    have ORD : Hid (ordr f n cap (left + 1) used L = true) := Lib.hid (ordr_succ.2 ⟨i, hlt, HUI.out, HFU.out.symm, L', by rw [← HA.out]; exact ACT.out, HR.out.symm⟩)
                    go_wp2_with fail
                    go_ret
                    exact ⟨by rw [ORD.out]; rfl, P5.out, fun e => by rw [ORD.out] at e; cases e⟩
                  | false =>
                    have U5 : Hid (UR w5 ub n (setU used i)) := Lib.hid (by unfold UR; rw [SM.out rfl]; exact U4.out)
                    have cs5 := U5.out.cell hlt
                    have fs5 := free_blk U5.out i
                    obtain ⟨w6, hw6⟩ : ∃ w6, w6 = w5.setCell ⟨ub, i, none⟩ (.bool false) := ⟨_, rfl⟩
                    have P6 : Hid (Only [ub] w w6) := Lib.hid (by rw [hw6]; exact P5.out.setCell (by simp) _)
                    have U6 : Hid (UR w6 ub n used) := Lib.hid (by
                      unfold UR
                      rw [hw6, blk_setCell U5.out, usedRow_unset hlt HUI.out])
                    go_wp2_with fail
                    rw [← hw6]
                    clear hw6
                    go_roundw
                    case rel => exact ⟨i + 1, by omega, by go_num, by rw [NXA.out, HUI.out, Bool.and_false], P6.out, U6.out, STEP.out (fun h => by
                      obtain ⟨_, _, l', h1, h2⟩ := h
                      rw [ACT.out] at h1
                      cases h1
                      rw [← HR.out] at h2
                      cases h2)⟩
                    case measure => simp [intOf]; omega
      · obtain rfl : n = i := by omega
        have AF : Hid (allU used n = false) := Lib.hid (by
          cases e : allU used n with
          | false => rfl
          | true => have h1 := allU_left e; have h2 := HL.out; omega)
        have ORD : Hid (ordr f n cap (left + 1) used L = false) := Lib.hid (by
          cases e : ordr f n cap (left + 1) used L with
          | false => rfl
          | true =>
            obtain ⟨j, hj, h⟩ := ordr_succ.1 e
            exact absurd h (NO.out j hj))
        rw [AF.out]
        go_wp2_with fail
        go_ret
        exact ⟨by rw [ORD.out]; rfl, P.out, fun _ => by have h1 := U.out; have h2 := U0.out; unfold UR at h1 h2; rw [h1, h2]⟩
end Go.Proofs.YtfhkhknnoepfeaaGreat
