/- The frame of a task that runs, and the worker's line that enters it (printed by gen_ew7.py). No condition beside those named. -/
import Derived.Test.YtncnepmgmphanaaGreatDoorMg19
import Derived.Deep.DeepCutAuto
set_option linter.unusedVariables false
set_option linter.unusedSimpArgs false
set_option linter.unusedSectionVars false
namespace Go.Proofs.YtncnepmgmphanaaGreatDoor
open Go.RowKit
variable {B N : Nat}
def zeroF : Array Value := #[.int .i64 0, .int .i64 0, .int .i64 0, .int .i64 0, .int .i64 0, .int .i64 0, .int .i64 0, .int .i64 0, .int .i64 0, .int .i64 0, .int .i64 0, .int .i64 0, .int .i64 0, .int .u64 0, .int .u64 0, .int .u64 0, .int .u64 0, .slice none 0 0]
theorem infoF : (Tryz.prog.info? 118).map (·.size) = some 18 := by kernel_rfl
set_option maxRecDepth 100000 in
set_option maxHeartbeats 1000000 in
theorem ew7 (w : World) (pe fb o : Nat) (A t : Int) (hfl : fb < w.heap.size) (h1 : w.cell? ⟨fb, o + 1, none⟩ = some (.int .i64 7)) (hA : w.cell? ⟨fb, o + 6, none⟩ = some (.int .i64 A)) (hN : w.cell? ⟨fb, o + 11, none⟩ = some (.int .i64 t)) :
    Calls Tryz.prog 88 #[.pointer (some ⟨pe, 0, none⟩), .pointer (some ⟨fb, o, none⟩)] w fun e w' => ∃ b q1, b = w.heap.size + 2 ∧ e = .returned (.tuple #[.agg (runRow A t b), .bool true]) ∧ w' = ((((w.alloc (.cells zeroF 118)).drewN q1).alloc (.cells (runRow A t b) 118)).alloc (.cells #[.int .i64 t] 3)).setCells w.heap.size 0 (runRow A t b).toList := by
  have RF := Lib.hid RunFrame_any
  have CA := (Eff.alloc1 (fun _ _ _ => False) w (.cells zeroF 118)).cell hA fun _ h => h
  have CN := (Eff.alloc1 (fun _ _ _ => False) w (.cells zeroF 118)).cell hN fun _ h => h
  have CZ := blk_alloc_new w (.cells zeroF 118)
  have hz := Lib.hid (show w.heap.size < (w.alloc (.cells zeroF 118)).heap.size by simp)
  unfold zeroF at CA CN CZ hz
  go_enter Tryz.func88, Tryz.ntmps88
  go_upto_region 17 with fail
  obtain ⟨W9, hW9⟩ : ∃ W9, W9 = w.alloc (.cells zeroF 118) := ⟨_, rfl⟩
  have HW := Lib.hid hW9
  unfold zeroF at hW9
  rw [← hW9] at CA CN CZ hz
  rw [← hW9]
  clear hW9
  go_cut [5] (fun s5 wx => s5 = .bool true ∧ ∃ b q1, b = w.heap.size + 2 ∧ wx = (((W9.drewN q1).alloc (.cells (runRow A t b) 118)).alloc (.cells #[.int .i64 t] 3)).setCells w.heap.size 0 (runRow A t b).toList)
  case first =>
    refine wp_region_held_drew (S := fun w' => w'.cell? ⟨fb, o + 6, none⟩ = some (.int .i64 A) ∧ w'.cell? ⟨fb, o + 11, none⟩ = some (.int .i64 t)) (by kernel_rfl) ⟨CA, CN⟩ (fun hHeld => ?_)
    refine wpAnyH_take (i := 0) (v := ?_) rfl (by kernel_rfl) (by kernel_rfl) (by kernel_rfl) (fun _ _ _ h => h) (Or.inl ⟨by rfl, ?_⟩) (by assumption) ?_
    rotate_left
    · (intro w hSw; (try dsimp only at hSw); obtain ⟨hS1, hS2⟩ := hSw; go_simp; try with_reducible rfl)
    try simp only [Act.put, sI]
    refine wpAnyH_take (i := 1) (v := ?_) rfl (by kernel_rfl) (by kernel_rfl) (by kernel_rfl) (fun _ _ _ h => h) (Or.inl ⟨by rfl, ?_⟩) (by assumption) ?_
    rotate_left
    · (intro w hSw; (try dsimp only at hSw); obtain ⟨hS1, hS2⟩ := hSw; go_simp; try with_reducible rfl)
    try simp only [Act.put, sI]
    refine wpAnyH_take (i := 2) (v := ?_) rfl (by kernel_rfl) (by kernel_rfl) (by kernel_rfl) (fun _ _ _ h => h) (Or.inl ⟨by rfl, ?_⟩) (by assumption) ?_
    rotate_left
    · (intro w hSw; (try dsimp only at hSw); obtain ⟨hS1, hS2⟩ := hSw; go_simp; try with_reducible rfl)
    try simp only [Act.put, sI]
    refine wpAnyH_take (i := 3) (v := ?_) rfl (by kernel_rfl) (by kernel_rfl) (by kernel_rfl) (fun _ _ _ h => h) (Or.inl ⟨by rfl, ?_⟩) (by assumption) ?_
    rotate_left
    · (intro w hSw; (try dsimp only at hSw); obtain ⟨hS1, hS2⟩ := hSw; go_simp; try with_reducible rfl)
    try simp only [Act.put, sI]
    refine wpAnyH_take (i := 4) (v := ?_) rfl (by kernel_rfl) (by kernel_rfl) (by kernel_rfl) (fun _ _ _ h => h) (Or.inl ⟨by rfl, ?_⟩) (by assumption) ?_
    rotate_left
    · (intro w hSw; (try dsimp only at hSw); obtain ⟨hS1, hS2⟩ := hSw; go_simp; try with_reducible rfl)
    try simp only [Act.put, sI]
    refine wpAnyH_take (i := 5) (v := ?_) rfl (by kernel_rfl) (by kernel_rfl) (by kernel_rfl) (fun _ _ _ h => h) (Or.inl ⟨by rfl, ?_⟩) (by assumption) ?_
    rotate_left
    · (intro w hSw; (try dsimp only at hSw); obtain ⟨hS1, hS2⟩ := hSw; go_simp; try with_reducible rfl)
    try simp only [Act.put, sI]
    refine wpAnyH_take (i := 6) (v := ?_) rfl (by kernel_rfl) (by kernel_rfl) (by kernel_rfl) (fun _ _ _ h => h) (Or.inl ⟨by rfl, ?_⟩) (by assumption) ?_
    rotate_left
    · (intro w hSw; (try dsimp only at hSw); obtain ⟨hS1, hS2⟩ := hSw; go_simp; try with_reducible rfl)
    try simp only [Act.put, sI]
    refine wpAnyH_take (i := 7) (v := ?_) rfl (by kernel_rfl) (by kernel_rfl) (by kernel_rfl) (fun _ _ _ h => h) (Or.inl ⟨by rfl, ?_⟩) (by assumption) ?_
    rotate_left
    · (intro w hSw; (try dsimp only at hSw); obtain ⟨hS1, hS2⟩ := hSw; go_simp; try with_reducible rfl)
    try simp only [Act.put, sI]
    refine wpAnyH_ready (rs := [8]) (by kernel_rfl) (by simp) ?_
    refine AllReadyH.cons rfl (fun K hK => ?_) AllReadyH.nil
    go_simp
    refine (RF.out _ _ _).mono ?_
    rintro e w1 ⟨rfl, hw1⟩
    have E1 : Eff (fun _ _ _ => False) W9 w1 := by rw [hw1]; exact (((Eff.refl _ W9).drew.alloc _).alloc _)
    have d1 := E1.cell CA fun _ h => h
    have d2 := E1.cell CN fun _ h => h
    have tbl := E1.blk CZ fun _ _ h => h
    refine hK.out _ _ ⟨d1, d2⟩ (fun hHeld => ?_)
    clear hK K
    try simp only [Act.put, sI]
    refine wpAnyH_ready (rs := [9]) (by kernel_rfl) (by simp) ?_
    refine AllReadyH.cons rfl (fun K hK => ?_) AllReadyH.nil
    rw [if_pos (by rfl)]
    refine wp_store_mid 118 (.tmp 4) (.tmp 95) rfl w.heap.size 0 (runRow A t (W9.drew.heap.size + 1)) rfl rfl (by have hth := there_blk tbl; exact hth) infoF (by simp [runRow, Value.oneCell']) ?_
    have st := (stored_setCells w1 w.heap.size (runRow A t (W9.drew.heap.size + 1)).toList).1
    have nfb : fb ≠ w.heap.size := by omega
    have e1 := st.keepCell d1 (by simpa using nfb)
    have e2 := st.keepCell d2 (by simpa using nfb)
    obtain ⟨W2, hW2⟩ : ∃ W2, W2 = w1.setCells w.heap.size 0 (runRow A t (W9.drew.heap.size + 1)).toList := ⟨_, rfl⟩
    rw [← hW2] at e1 e2
    rw [← hW2]
    have HW2 := Lib.hid hW2
    have HW1 := Lib.hid hw1
    clear hW2 st hw1
    refine hK.out _ _ ⟨e1, e2⟩ (fun hHeld => ?_)
    clear hK K
    try simp only [Act.put, sI]
    refine wpAnyH_ready (rs := [10]) (by kernel_rfl) (by simp) ?_
    refine AllReadyH.cons rfl (fun K hK => ?_) AllReadyH.nil
    go_simp
    refine hK.out _ _ ⟨e1, e2⟩ (fun hHeld => ?_)
    clear hK K
    try simp only [Act.put, sI]
    refine wpAnyH_done (by kernel_rfl) ?_ _
    go_wp2_with fail
    go_meet
    exact ⟨rfl, _, 1, (by have := hz.out; have h2 : W9.heap.size = w.heap.size + 1 := (by rw [HW.out]; simp); show W9.heap.size + 1 = _; omega), by rw [HW2.out, HW1.out]; rfl⟩
  case rest =>
    obtain ⟨rfl, b, q1, hb, hwc⟩ := hcut
    have E2 : Eff (fun _ _ _ => False) W9 (((W9.drewN q1).alloc (.cells (runRow A t b) 118)).alloc (.cells #[.int .i64 t] 3)) := (((Eff.refl _ W9).drewN q1).alloc _).alloc _
    have tbl := E2.blk CZ fun _ _ h => h
    have trow : wc.rangeAt w.heap.size 0 (runRow A t b).toList := by
      rw [hwc]
      exact rangeAt_blk ((stored_setCells _ w.heap.size (runRow A t b).toList).2 _ _ tbl (by simp [runRow]))
    have HC := Lib.hid hwc
    clear hwc E2 tbl hz CZ CA CN
    go_wp2_with fail
    refine bodyPost_ret (run_results_cell_tmp 4 5 118 (a := ⟨w.heap.size, 0, none⟩) (v := .agg (runRow A t b)) (u := .bool true) rfl rfl (run_loadVar_mid wc w.heap.size 0 118 (runRow A t b).toList _ trow rfl rfl (by simpa [runRow] using infoF)) rfl) rfl ⟨b, q1, hb, rfl, ?_⟩
    rw [HC.out, HW.out]
end Go.Proofs.YtncnepmgmphanaaGreatDoor

namespace Go.Proofs.YtncnepmgmphanaaGreatDoor
open Go.RowKit
variable {sh : Sh} {B N T : Nat}
theorem runRow_ok {w : World} {A t : Int} {b : Nat} (hA : inK .i64 A) (ht : inK .i64 t) (hN : 1 ≤ N) (hB : B ≤ b) (hb : w.heap[b]? = some (.cells #[.int .i64 t] 3 (0, 0))) : AllOK w B N cs_r08_Frame (runRow A t b).toList :=
  have z : ∀ w : World, CellOK w B N (.int .i64) (.int .i64 0) := fun _ => ⟨0, rfl, i64_in (by omega)⟩
  have u : ∀ w : World, CellOK w B N (.int .u64) (.int .u64 0) := fun _ => ⟨0, rfl, by constructor <;> decide⟩
  ⟨⟨24, rfl, i64_in (by omega)⟩, z _, z _, z _, z _, z _, ⟨A, rfl, hA⟩, ⟨t, rfl, ht⟩, z _, z _, z _, z _, z _, u _, u _, u _, u _, ⟨1, [.int .i64 t], hN, rfl, .inr ⟨b, 1, _, rfl, hB, hb, Nat.le_refl _, by decide, rfl, rfl⟩⟩, trivial⟩
theorem frz_ok (w : World) : AllOK w B N cs_r08_Frame zeroF.toList := zeroOK_ok (by decide) w
theorem there18 {w : World} {b : Nat} {cs : List Value} (h : w.heap[b]? = some (.cells zeroF 118 (0, 0))) (hl : cs.length = 18) : w.there b 0 cs.toArray.size := by
  have h2 := there_blk h
  rw [show zeroF.size = 18 from rfl] at h2
  rw [List.size_toArray, hl]
  exact h2
structure EnD (B N : Nat) (w : World) (A t : Int) (e : Ending) (w' : World) (b : Nat) : Prop where
  e : e = .returned (.tuple #[.agg (runRow A t b), .bool true])
  eff : Eff (fun _ _ _ => False) w w'
  wt : WT kd.sig B N w'
  blk : w'.heap[b]? = some (.cells #[.int .i64 t] 3 (0, 0))
  new : w.heap.size ≤ b
set_option maxRecDepth 100000 in
set_option maxHeartbeats 1000000 in
theorem en25_7 (w : World) (pe fb o : Nat) (A t : Int) (hfl : fb < w.heap.size) (h0 : w.cell? ⟨fb, o, none⟩ = some (.int .i64 25)) (h1 : w.cell? ⟨fb, o + 1, none⟩ = some (.int .i64 7)) (hA : w.cell? ⟨fb, o + 6, none⟩ = some (.int .i64 A)) (hN : w.cell? ⟨fb, o + 11, none⟩ = some (.int .i64 t)) (hw : WT kd.sig B N w) (hB : B ≤ w.heap.size) (hN1 : 1 ≤ N) (iA : inK .i64 A) (it : inK .i64 t) :
    Calls Tryz.prog 66 #[.pointer (some ⟨pe, 0, none⟩), .pointer (some ⟨fb, o, none⟩)] w fun e w' => ∃ b, EnD B N w A t e w' b := by
  have kF : kd.sig 118 = some cs_r08_Frame := by kernel_rfl
  have kI : kd.sig 3 = some [.int .i64] := by kernel_rfl
  have E := Eff.alloc1 (fun _ _ _ => False) w (.cells zeroF 118)
  have EW := Lib.hid (ew7 (w.alloc (.cells zeroF 118)) pe fb o A t (by simp; omega) (E.cell h1 fun _ h => h) (E.cell hA fun _ h => h) (E.cell hN fun _ h => h))
  have ZB := blk_alloc_new w (.cells zeroF 118)
  have W1 : WT kd.sig B N (w.alloc (.cells zeroF 118)) := hw.alloc kF (RowsOK.one (frz_ok _))
  -- what stands behind enterWorker
  have EW2 : Hid (Calls Tryz.prog 88 #[.pointer (some ⟨pe, 0, none⟩), .pointer (some ⟨fb, o, none⟩)] (w.alloc (.cells zeroF 118)) fun e w' => ∃ (cs : List Value) (b : Nat), cs = (runRow A t b).toList ∧ e = .returned (.tuple #[.agg cs.toArray, .bool true]) ∧ w.heap.size < b ∧ w'.heap[w.heap.size]? = some (.cells zeroF 118 (0, 0)) ∧ w'.heap[b]? = some (.cells #[.int .i64 t] 3 (0, 0)) ∧ WT kd.sig B N w' ∧ Eff (fun _ _ _ => False) w w') := Lib.hid (by
    refine EW.out.mono ?_
    rintro e w1 ⟨b, q1, hb, rfl, hw1⟩
    have hs1 : (w.alloc (.cells zeroF 118)).heap.size = w.heap.size + 1 := by simp
    obtain ⟨V, hV⟩ : ∃ V, V = (((w.alloc (.cells zeroF 118)).alloc (.cells zeroF 118)).drewN q1) := ⟨_, rfl⟩
    have hVs : V.heap.size = w.heap.size + 2 := by rw [hV]; show ((w.alloc _).alloc _).heap.size = _; simp
    have EV : Eff (fun _ _ _ => False) w V := by rw [hV]; exact (E.alloc _).drewN q1
    have WV : WT kd.sig B N V := by rw [hV]; exact (W1.alloc kF (RowsOK.one (frz_ok _))).drewN q1
    have ZV : V.heap[w.heap.size]? = some (.cells zeroF 118 (0, 0)) := by
      rw [hV]; show ((w.alloc _).alloc _).heap[w.heap.size]? = _
      rw [blk_alloc_old (by omega)]; exact ZB
    have ZV1 : V.heap[w.heap.size + 1]? = some (.cells zeroF 118 (0, 0)) := by
      rw [hV]; show ((w.alloc _).alloc _).heap[w.heap.size + 1]? = _
      rw [← hs1]; exact blk_alloc_new _ _
    have hbV : b = V.heap.size + 1 := by omega
    rw [← hV] at hw1
    obtain ⟨V2, hV2⟩ : ∃ V2, V2 = (V.alloc (.cells (runRow A t b) 118)).alloc (.cells #[.int .i64 t] 3) := ⟨_, rfl⟩
    have E2 : Eff (fun _ _ _ => False) V V2 := by rw [hV2]; exact (Eff.alloc1 _ _ _).alloc _
    have hb2 : V2.heap[b]? = some (.cells #[.int .i64 t] 3 (0, 0)) := by
      have h3 := blk_alloc_new (V.alloc (.cells (runRow A t b) 118)) (.cells #[.int .i64 t] 3)
      have h4 : ∀ o, (V.alloc o).heap.size = V.heap.size + 1 := fun o => by simp
      rw [h4, ← hbV] at h3
      rw [hV2]; exact h3
    have WV2 : WT kd.sig B N V2 := by
      have h2 := WT.allocs WV [.cells (runRow A t b) 118, .cells #[.int .i64 t] 3] fun c U f L hm hL => by
        have hV2' : allocs V [.cells (runRow A t b) 118, .cells #[.int .i64 t] 3] = V2 := by rw [hV2]; rfl
        rw [hV2']
        simp only [List.mem_cons, List.not_mem_nil, or_false] at hm
        rcases hm with hm | hm
        · cases hm
          rw [kF] at hL
          cases hL
          exact ⟨rfl, RowsOK.one (l := (runRow A t b).toList) (runRow_ok iA it hN1 (by omega) hb2)⟩
        · cases hm
          rw [kI] at hL
          cases hL
          exact ⟨rfl, RowsOK.one (l := [.int .i64 t]) ⟨⟨t, rfl, it⟩, trivial⟩⟩
      rw [hV2]; exact h2
    rw [hs1, ← hV2] at hw1
    have ZV2 := E2.blk ZV1 fun _ _ h => h
    have W3 : WT kd.sig B N w1 := by
      rw [hw1]
      exact WT.sets kF (runRow A t b).toList cs_r08_Frame 0 V2 zeroF WV2 ZV2 (runRow_ok iA it hN1 (by omega) hb2) fun j k hk => by
        have : j < 18 := (List.getElem?_eq_some_iff.1 hk).1
        rw [Nat.zero_add, show cs_r08_Frame.length = 18 from rfl, Nat.mod_eq_of_lt this]; exact hk
    have E3 : Eff (fun k _ _ => k = w.heap.size + 1) V2 w1 := by
      rw [hw1]
      exact Eff.setsT (runRow A t b).toList 0 V2 zeroF (Eff.refl _ _) ZV2 fun j _ => .inl rfl
    refine ⟨_, b, rfl, by simp, by omega, E3.blk (E2.blk ZV fun _ _ h => h) (fun _ _ h => by omega), E3.blk hb2 (fun _ _ h => by omega), W3, ?_⟩
    exact (((EV.trans E2).mono (Ch' := fun k _ _ => w.heap.size ≤ k) fun _ _ _ _ h => h.elim).trans (E3.mono fun k U j hk hh => by rw [hh]; omega)).mono fun k U j hk hh => by omega)
  clear E h1 hA hN EW ZB W1
  have HK := Lib.hid (And.intro kF (And.intro hN1 (And.intro hB (And.intro iA it))))
  clear kF kI hN1 hB iA it hw
  go_enter Tryz.func66, Tryz.ntmps66
  go_upto_region 32 with fail
  obtain ⟨W9, hW9⟩ : ∃ W9, W9 = w.alloc (.cells zeroF 118) := ⟨_, rfl⟩
  rw [← hW9] at EW2
  unfold zeroF at hW9
  rw [← hW9]
  clear hW9
  go_wp2_with (first
    | (go_at_call 88; refine EW2.out.mono ?_; rintro e w1 ⟨cs, b, hcs, rfl, hb, hzb, hbb, hwt, hef⟩; have hl : cs.length = 18 := (by rw [hcs]; rfl); have hone : cs.toArray.all (·.oneCell') = true := (by rw [hcs]; simp [runRow, Value.oneCell']); have hth : w1.there w.heap.size 0 cs.toArray.size := there18 hzb hl; have hin : (Tryz.prog.info? 118).map (·.size) = some cs.toArray.size := (by rw [List.size_toArray, hl]; exact infoF); have HF := Lib.hid (And.intro hcs (And.intro hb (And.intro hzb (And.intro hbb (And.intro hwt hef))))); have HG := Lib.hid (And.intro hone (And.intro hth (And.intro hin hl))); clear hcs hb hzb hbb hwt hef hl hone hth hin EW2)
    | (with_reducible refine wpList_store_mid rfl 118 (.tmp 4) (.tmp 246) rfl w.heap.size 0 cs.toArray rfl rfl HG.out.2.1 HG.out.2.2.1 HG.out.1 ?_; obtain ⟨w2, hw2⟩ : ∃ w2, w2 = w1.setCells w.heap.size 0 cs.toArray.toList := ⟨_, rfl⟩; rw [← hw2]; have HW2 := Lib.hid hw2; clear hw2))
  obtain ⟨hcs, hb, hzb, hbb, hwt, hef⟩ := HF.out
  obtain ⟨kF, hN1, hB, iA, it⟩ := HK.out
  have hw2 : w2 = w1.setCells w.heap.size 0 cs := by simpa using HW2.out
  have hb2 : w2.heap[w.heap.size]? = some (.cells cs.toArray 118 (0, 0)) := by
    rw [hw2]; exact (stored_setCells w1 w.heap.size cs).2 _ _ hzb HG.out.2.2.2.symm
  have E3 : Eff (fun k _ _ => k = w.heap.size) w1 w2 := by
    rw [hw2]
    exact Eff.setsT cs 0 w1 zeroF (Eff.refl _ _) hzb fun j _ => .inl rfl
  have hr : AllOK w1 B N cs_r08_Frame cs := by rw [hcs]; exact runRow_ok iA it hN1 (by omega) hbb
  have W3 : WT kd.sig B N w2 := by
    rw [hw2]
    exact WT.sets kF cs cs_r08_Frame 0 w1 zeroF hwt hzb hr fun j k hk => by
      have : j < 18 := (List.getElem?_eq_some_iff.1 hk).1
      rw [Nat.zero_add, show cs_r08_Frame.length = 18 from rfl, Nat.mod_eq_of_lt this]; exact hk
  refine bodyPost_ret (run_results_cell_tmp 4 5 118 (a := ⟨w.heap.size, 0, none⟩) (v := .agg cs.toArray) (u := .bool true) rfl rfl (run_loadVar_mid w2 w.heap.size 0 118 cs _ (rangeAt_blk hb2) rfl rfl (by rw [HG.out.2.2.2]; exact infoF)) rfl) rfl ⟨b, by rw [hcs], ?_, W3, E3.blk hbb (fun _ _ h => by omega), by omega⟩
  exact ((hef.mono (Ch' := fun k _ _ => w.heap.size ≤ k) fun _ _ _ _ h => h.elim).trans (E3.mono fun k U j hk hh => by rw [hh]; omega)).mono fun k U j hk hh => by omega
end Go.Proofs.YtncnepmgmphanaaGreatDoor

namespace Go.Proofs.YtncnepmgmphanaaGreatDoor
open Go.RowKit
variable [Inhabited SBW] {sh : Sh} {B N T : Nat} {w w' : World}
theorem EnterR.mono {N' rb fb r : Nat} {k : Int} {e : Ending} (h : EnterR sh T B N w rb fb r k e w') (hN : N ≤ N') : EnterR sh T B N' w rb fb r k e w' := by
  obtain ⟨cs, ok, h1, h2, h3, h4⟩ := h
  exact ⟨cs, ok, h1, h2.mono hN, h3.mono (Eff.refl (fun _ _ _ => False) _) hN, h4⟩
theorem enter_low0 {fb r rb : Nat} (h : At sh B N T w fb r) {k ln : Int} (hF : FI T w fb r k ln) (hk : k < 24) :
    Calls Tryz.prog 66 #[.pointer (some ⟨sh.pe, 0, none⟩), .pointer (some ⟨fb, r * 18, none⟩)] w fun e w' => EnterR sh T B N w rb fb r k e w' ∧ Eff (fun _ _ _ => False) w w' := by
  obtain ⟨f, hf1, hFb, hf3⟩ := id h.row
  obtain ⟨s, ks, b, hs, e1, e2, e3, e4, e5, e6⟩ := enter_kind (h.ee.ev h.wt) (safe_GW w) hF.lo hk
  refine (use_tca0 (fb := fb) (r := r) hs (Eff.refl _ w) (by rw [e4]; rfl) (by rw [e1]; rfl) h.wt h.bw (by have := h.nn; rw [e6]; omega) h.row (by rw [e1]; rfl) rfl (args2_ok h.ee e1 rfl) (fun o t' ht' => ?_)).mono ?_
  · rw [e4] at ht'
    have hm := Hm.at_mem ht'
    simp only [List.mem_cons, List.not_mem_nil, or_false, Prod.mk.injEq] at hm
    obtain ⟨⟨-, -, rfl⟩, rfl⟩ := hm
    exact ⟨_, hF.c0, rfl, i64_in ⟨by have := hF.lo; omega, by omega⟩⟩
  · rintro e w' ⟨v, rfl, g1, hps, g2, q, hq, g3, -⟩
    simp only [List.mem_singleton] at hq
    subst hq
    rw [e6] at g1 g3
    rw [e5] at g2
    simp only [e2] at g3
    have hfe := feff (w := w) (by decide) rfl hps g2
    have sf := fun o => same_fc (r := r) (o := o) rfl hFb g2
    have h0 : Eff (fun _ _ _ => False) w w' := g2.mono fun k U j hk hc => by
      rcases hc with hx | ⟨i, o, hm, -, -⟩ | ⟨o, hm, -⟩
      · have : w.heap.size ≤ k := hx
        omega
      · cases hm
      · cases hm
    obtain ⟨cs, ok, rfl, ha, ⟨c, hc, hcs⟩, hok⟩ := tup_frame g3 (by rcases e3 with rfl | ⟨rfl, -⟩; exact .inr ⟨_, rfl⟩; exact .inl rfl)
    refine ⟨⟨cs, ok, rfl, g1, ha, hfe, (fun _ => ⟨ln, (sf 0).trans hF.c0, (sf 1).trans hF.c1, hF.lo, hF.hi, fun hx => by omega, fun hx => by omega⟩), fun hx => ?_⟩, h0⟩
    rcases e3 with rfl | ⟨rfl, e3⟩
    · rw [hok _ rfl] at hx; cases hx
    · obtain ⟨r1, r2, r3⟩ := e3 c hc
      exact ⟨c, hcs, ⟨(sf 0).trans hF.c0, hF.lo, hF.hi, r1, r2, by omega, fun hx => by omega, fun hx => by omega⟩, fun hx => by omega⟩
theorem enter_25_7 {fb r rb : Nat} (h : At sh B N T w fb r) (hF : FI T w fb r 25 7) :
    Calls Tryz.prog 66 #[.pointer (some ⟨sh.pe, 0, none⟩), .pointer (some ⟨fb, r * 18, none⟩)] w fun e w' => EnterR sh T B (N + 1) w rb fb r 25 e w' := by
  obtain ⟨f, hf1, hFb, hf3⟩ := id h.row
  obtain ⟨A, hA, iA⟩ := fc_int h.wt h.row (o := 6) (by omega) rfl
  obtain ⟨t, ht, it⟩ := fc_int h.wt h.row (o := 11) (by omega) rfl
  have h0 : w.cell? ⟨fb, r * 18, none⟩ = some (.int .i64 25) := by have := hF.c0; unfold fc at this; simpa using this
  refine (en25_7 (N := N + 1) (B := B) w sh.pe fb (r * 18) A t (lt_of_blk hFb) h0 hF.c1 hA ht (h.wt.mono (by omega)) h.bw (by omega) iA it).mono ?_
  rintro e w' ⟨b, he, hef, hwt, hbk, hnw⟩
  have hb := h.bw
  have c0' : fc w' fb r 0 = some (.int .i64 25) := hef.cell hF.c0 fun _ h => h
  refine ⟨(runRow A t b).toList, true, by rw [he], hwt, runRow_ok iA it (by omega) (by omega) hbk, hef.mono fun _ _ _ _ h => h.elim, (fun hx => by cases hx), fun _ => ⟨24, rfl, ⟨c0', by omega, by omega, by decide, by omega, by omega, fun hx => by omega, fun hx => by omega⟩, fun _ => ⟨b, 0, 1, rfl, by have := h.ee.sbl; omega⟩⟩⟩
theorem enter_any {fb r rb cr : Nat} (h : At sh B N T w fb r) {k ln : Int} (hF : FI T w fb r k ln) (hrb : sh.el 19 = .slice (some ⟨rb, 0, none⟩) T cr) :
    Calls Tryz.prog 66 #[.pointer (some ⟨sh.pe, 0, none⟩), .pointer (some ⟨fb, r * 18, none⟩)] w fun e w' => EnterR sh T B (N + 1) w rb fb r k e w' ∧ (k < 24 → Eff (fun _ _ _ => False) w w') := by
  have hlo := hF.lo
  have hhi := hF.hi
  by_cases h24 : k < 24
  · exact (enter_low0 h hF h24).mono fun e w' hr => ⟨hr.1.mono (by omega), fun _ => hr.2⟩
  rcases (show k = 24 ∨ k = 25 ∨ k = 26 by omega) with rfl | rfl | rfl
  · exact (enter_24 h hF hrb).mono fun e w' hr => ⟨hr.mono (by omega), fun hx => by omega⟩
  · by_cases h7 : ln = 7
    · subst h7
      exact (enter_25_7 h hF).mono fun e w' hr => ⟨hr, fun hx => by omega⟩
    · exact (enter_25 h hF h7).mono fun e w' hr => ⟨hr, fun hx => by omega⟩
  · exact (enter_26 h hF).mono fun e w' hr => ⟨hr.mono (by omega), fun hx => by omega⟩
end Go.Proofs.YtncnepmgmphanaaGreatDoor

namespace Go.Proofs.YtncnepmgmphanaaGreatDoor
open Go.RowKit
variable [Inhabited SBW] {sh : Sh} {B N T : Nat} {w w' : World}
abbrev MT : Nat := 141
abbrev NP2 (k : Nat) (U : TypeId) (j : Nat) : Prop := (U, j % kd.sz U) ∉ prot2
theorem np2_np (h : Eff NP2 w w') : Eff NPc w w' := h.mono fun k U j _ hc hx => hc (by unfold prot2; exact List.mem_append_left _ hx)
theorem RL.keep {fb r fb' r' lb n cap : Nat} {t : Int} (h : RL w fb r lb n cap t) (hw : WT kd.sig B N w) (hrow : RowIn kd w B FRT fb r) (g : Eff NPc w w') (K : ∀ o, o < 18 → fc w' fb' r' o = fc w fb r o) : RL w' fb' r' lb n cap t :=
  ⟨(K 17 (by omega)).trans h.l, sl_keep (fc_sl hw hrow h.l) g h.t, h.ne⟩
theorem FI.keep {fb r fb' r' : Nat} {k ln : Int} (h : FI T w fb r k ln) (hw : WT kd.sig B N w) (hrow : RowIn kd w B FRT fb r) (g : Eff NPc w w') (K : ∀ o, o < 18 → fc w' fb' r' o = fc w fb r o) : FI T w' fb' r' k ln := by
  refine ⟨(K 0 (by omega)).trans h.c0, (K 1 (by omega)).trans h.c1, h.lo, h.hi, fun hk => ?_, fun hk => ?_⟩
  · obtain ⟨lb, n, cap, t, rl, hh⟩ := h.run hk
    exact ⟨lb, n, cap, t, rl.keep hw hrow g K, hh⟩
  · obtain ⟨i, hi, h0⟩ := h.cli hk
    exact ⟨i, (K 9 (by omega)).trans hi, h0⟩
theorem PI.keep {rb fb r fb' r' : Nat} {k c : Int} (h : PI sh T w rb fb r k c) (hw : WT kd.sig B N w) (hrow : RowIn kd w B FRT fb r) (g : Eff NPc w w') (K : ∀ o, o < 18 → fc w' fb' r' o = fc w fb r o) (hp : c = 12 → ∀ t, t < T → PcIn w sh.pe rb t → PcIn w' sh.pe rb t) : PI sh T w' rb fb' r' k c := by
  refine ⟨(K 0 (by omega)).trans h.c0, h.lo, h.hi, h.rk, h.clo, h.chi, fun hk => ?_, fun hk => ?_⟩
  · obtain ⟨lb, n, cap, t, ln, rl, h0, h1, h2, h3⟩ := h.run hk
    refine ⟨lb, n, cap, t, ln, rl.keep hw hrow g K, h0, h1, (K 1 (by omega)).trans h2, h3.imp_right fun ⟨e1, e2, e3⟩ => ⟨e1, e2, hp e2 _ (by omega) e3⟩⟩
  · obtain ⟨i, ln, h1, h2, h3, h4⟩ := h.cli hk
    exact ⟨i, ln, (K 9 (by omega)).trans h1, h2, (K 1 (by omega)).trans h3, h4⟩
theorem LI.keep {pe rb fb r fb' r' : Nat} {k ln : Int} (h : LI T w pe rb fb r k ln) (hw : WT kd.sig B N w) (hrow : RowIn kd w B FRT fb r) (g : Eff NPc w w') (K : ∀ o, o < 18 → fc w' fb' r' o = fc w fb r o) (hp : ∀ t, t < T → PcIn w pe rb t → PcIn w' pe rb t) : LI T w' pe rb fb' r' k ln := by
  refine ⟨(K 0 (by omega)).trans h.c0, (K 1 (by omega)).trans h.c1, h.lo, h.hi, fun hk => ?_, fun hk => ?_⟩
  · obtain ⟨lb, n, cap, t, rl, hh⟩ := h.run hk
    refine ⟨lb, n, cap, t, rl.keep hw hrow g K, hh.imp_right fun ⟨e1, e2, e3, e4⟩ => ⟨e1, e2, e3, fun hx => hp _ (by omega) (e4 hx)⟩⟩
  · obtain ⟨i, hi, h0⟩ := h.cli hk
    exact ⟨i, (K 9 (by omega)).trans hi, h0⟩
theorem PcIn.keep2 {rb cr t : Nat} (ee : EE sh B N T w) (hrb : sh.el 19 = .slice (some ⟨rb, 0, none⟩) T cr) (g : Eff NP2 w w') (h : PcIn w sh.pe rb t) : PcIn w' sh.pe rb t := by
  obtain ⟨e, he1, hEb, he3⟩ := id ee.blk
  have o19 := ee.o19
  rw [hrb] at o19
  rcases sl_blk o19 with hx | ⟨b, n', c, cur, hx, hb1, hb2, hb3, hb4, hb5⟩
  · cases hx
  cases hx
  have hc : ∀ b i, (∃ c U, w.heap[b]? = some (.cells c U (0, 0)) ∧ (U, i % kd.sz U) ∈ prot2) → w'.cell? ⟨b, i, none⟩ = w.cell? ⟨b, i, none⟩ := fun b i ⟨c, U, h1, h2⟩ => prot2_cell (w := w) g h1 h2
  have e9 : w.cell? ⟨sh.pe, 9, none⟩ = some (sh.el 9) := ee.el 9 (by decide)
  have szR : kd.sz 137 = 7 := by kernel_rfl
  refine (PcIn.eq (hc _ _ ⟨_, _, hb2, by rw [szR, show t * 7 % 7 = 0 by omega]; decide⟩) (hc _ _ ⟨_, _, hb2, by rw [szR, show (t * 7 + 2) % 7 = 2 by omega]; decide⟩) (hc _ _ ⟨_, _, hEb, by rw [szE]; decide⟩) (fun pb n' cap' q hv hq => ?_)).1 h
  rw [e9] at hv
  have o9 := ee.o9
  cases hv' : sh.el 9 with
  | slice ao a b =>
    rw [hv'] at hv o9
    cases hv
    rcases sl_blk o9 with hx | ⟨b, n', c, cur, hx, k1, k2, k3, k4, k5⟩
    · cases hx
    cases hx
    exact hc _ _ ⟨_, _, k2, by rw [show kd.sz 123 = 1 by kernel_rfl, Nat.mod_one]; decide⟩
  | _ => rw [hv'] at hv; cases hv
abbrev SCh (B : Nat) (w0 : World) (mb fb0 : Nat) (k : Nat) (U : TypeId) (j : Nat) : Prop := k = mb ∨ k = fb0 ∨ w0.heap.size ≤ k ∨ (U ≠ FRT ∧ (U, j % kd.sz U) ∉ protM ∧ B ≤ k)
def mcells (fb n cap : Nat) (c2 c3 : Int) : Array Value := #[.slice (some ⟨fb, 0, none⟩) n cap, .bool false, .int .i64 c2, .int .i64 c3]
structure SL (sh : Sh) (B T rb : Nat) (w0 : World) (mb fb0 : Nat) (N : Nat) (w : World) (n : Nat) (κ : Nat → Int) (fb cap : Nat) (c2 c3 : Int) : Prop where
  ee : EE sh B N T w
  wt : WT kd.sig B N w
  bw : B ≤ w.heap.size
  mac : w.heap[mb]? = some (.cells (mcells fb (n + 1) cap c2 c3) MT (0, 0))
  bm : B ≤ mb
  mbl : mb < w0.heap.size
  fbl : fb0 < w0.heap.size
  eff : Eff (SCh B w0 mb fb0) w0 w
  fbk : fb = fb0 ∨ w0.heap.size ≤ fb
  pairs : ∀ i, i < n → PI sh T w rb fb i (κ i) (κ (i + 1))
  lo : 0 ≤ κ n
  hi : κ n ≤ 26
variable {rb cr mb fb0 n fb cap : Nat} {w0 : World} {κ : Nat → Int} {c2 c3 : Int}
theorem kM : kd.sig MT = some cs_r08_Machine := by kernel_rfl
theorem kF : kd.sig FRT = some cs_r08_Frame := by kernel_rfl
theorem SL.blk (h : SL sh B T rb w0 mb fb0 N w n κ fb cap c2 c3) : ∃ cur : Array Value, B ≤ fb ∧ w.heap[fb]? = some (.cells cur FRT (0, 0)) ∧ n + 1 ≤ cap ∧ cap ≤ maxLen ∧ cur.size = cap * 18 ∧ n + 1 ≤ N := by
  obtain ⟨v, e, o⟩ := row_cell h.wt kM h.bm h.mac (i := 0) (j := 0) (by simp [mcells]) rfl rfl
  rw [cell_blk h.mac] at e
  cases e
  obtain ⟨n', xs, hn, hl, ⟨hx, -⟩ | ⟨b, cp, cur, hx, h1, h2, h3, h4, h5, h6⟩⟩ := o
  · cases hx
  · cases hx
    exact ⟨cur, h1, h2, h3, h4, h5, hn⟩
theorem SL.row (h : SL sh B T rb w0 mb fb0 N w n κ fb cap c2 c3) {i : Nat} (hi : i ≤ n) : RowIn kd w B FRT fb i := by
  obtain ⟨cur, h1, h2, h3, h4, h5, h6⟩ := h.blk
  refine ⟨cur, h1, h2, ?_⟩
  rw [szF, h5]
  exact Nat.mul_le_mul_right 18 (by omega)
theorem SL.at' (h : SL sh B T rb w0 mb fb0 N w n κ fb cap c2 c3) (hN : N + 5 ≤ 68719476736) : At sh B N T w fb n := ⟨h.ee, h.wt, h.bw, hN, h.row (Nat.le_refl _)⟩
theorem SL.ranks (h : SL sh B T rb w0 mb fb0 N w n κ fb cap c2 c3) : ∀ i, i ≤ n → rank (κ n) + (n - i) ≤ rank (κ i) := by
  have step : ∀ d, d ≤ n → rank (κ n) + d ≤ rank (κ (n - d)) := by
    intro d
    induction d with
    | zero => intro _; simp
    | succ d ih =>
      intro hd
      have h1 := ih (by omega)
      have h2 := (h.pairs (n - (d + 1)) (by omega)).rk
      rw [show n - (d + 1) + 1 = n - d by omega] at h2
      omega
  intro i hi
  have := step (n - i) (by omega)
  rwa [show n - (n - i) = i by omega] at this
theorem rank_le (k : Int) : rank k ≤ 4 := by unfold rank; repeat (first | omega | split)
theorem SL.small (h : SL sh B T rb w0 mb fb0 N w n κ fb cap c2 c3) : rank (κ n) + n ≤ 4 := by
  have := h.ranks 0 (by omega)
  have := rank_le (κ 0)
  omega
theorem blk_eq {c c' : Array Value} (h : ∀ j : Nat, c'[j]? = c[j]?) : c' = c := Array.ext_getElem? h
theorem mac_np {fb r k : Nat} {c : Array Value} (hb : w.heap[k]? = some (.cells c MT (0, 0))) (h : Eff (FCh B w fb r) w w') (hF : ∃ f, w.heap[fb]? = some (.cells f FRT (0, 0))) : w'.heap[k]? = some (.cells c MT (0, 0)) := by
  obtain ⟨c', h1, h2, h3⟩ := h.cells _ _ _ _ hb
  rw [h1]
  congr 2
  refine blk_eq fun j => h3 j ?_
  have hk := lt_of_blk hb
  obtain ⟨f, hf⟩ := hF
  rintro (hx | ⟨rfl, -⟩ | ⟨-, hx⟩)
  · omega
  · rw [hf] at hb; cases hb
  · have szM : kd.sz MT = 4 := by kernel_rfl
    have hx := hx.1
    rw [szM] at hx
    have h4 : j % 4 = 0 ∨ j % 4 = 1 ∨ j % 4 = 2 ∨ j % 4 = 3 := by omega
    rcases h4 with e | e | e | e <;> rw [e] at hx <;> exact hx (by decide)
theorem SL.line {N' : Nat} (h : SL sh B T rb w0 mb fb0 N w n κ fb cap c2 c3) (hrb : sh.el 19 = .slice (some ⟨rb, 0, none⟩) T cr) (hN : N ≤ N') (hw' : WT kd.sig B N' w') (g : Eff (FCh B w fb n) w w') (g12 : κ n = 12 → Eff NP2 w w') : SL sh B T rb w0 mb fb0 N' w' n κ fb cap c2 c3 := by
  obtain ⟨cur, f1, f2, f3, f4, f5, f6⟩ := h.blk
  have hnp := feff_np f2 g
  have hs := h.eff.size
  refine ⟨h.ee.mono h.wt hnp hN, hw', Nat.le_trans h.bw g.size, mac_np h.mac g ⟨cur, f2⟩, h.bm, h.mbl, h.fbl, h.eff.trans (g.mono fun k U j hk hc => ?_), h.fbk, fun i hi => ?_, h.lo, h.hi⟩
  · rcases hc with hc | ⟨rfl, -⟩ | hc
    · omega
    · rcases h.fbk with hh | hh
      · exact .inr (.inl hh)
      · exact .inr (.inr (.inl hh))
    · exact .inr (.inr (.inr hc))
  · refine (h.pairs i hi).keep h.wt (h.row (by omega)) hnp (fun o ho => fc_other f2 g (by omega) ho) fun hc t ht hp => ?_
    -- only the last frame allocates
    by_cases hin : i + 1 = n
    · exact hp.keep2 h.ee hrb (g12 (by rw [← hin]; exact hc))
    · have := (h.pairs (i + 1) (by omega)).rk
      rw [hc] at this
      exact absurd this (by simp [rank])
theorem SL.out {N' : Nat} (h : SL sh B T rb w0 mb fb0 N w n κ fb cap c2 c3) (hrb : sh.el 19 = .slice (some ⟨rb, 0, none⟩) T cr) (hN : N ≤ N') (hw' : WT kd.sig B N' w') (g : Eff (fun k U j => k ≠ fb ∧ k ≠ mb ∧ w0.heap.size ≤ k ∧ (U, j % kd.sz U) ∉ prot2) w w') : SL sh B T rb w0 mb fb0 N' w' n κ fb cap c2 c3 := by
  obtain ⟨cur, f1, f2, f3, f4, f5, f6⟩ := h.blk
  have g2 : Eff NP2 w w' := g.mono fun _ _ _ _ h => h.2.2.2
  have hnp := np2_np g2
  refine ⟨h.ee.mono h.wt hnp hN, hw', Nat.le_trans h.bw g.size, g.blk h.mac (fun _ _ hh => hh.2.1 rfl), h.bm, h.mbl, h.fbl, h.eff.trans (g.mono fun k U j hk hc => .inr (.inr (.inl hc.2.2.1))), h.fbk, fun i hi => ?_, h.lo, h.hi⟩
  exact (h.pairs i hi).keep h.wt (h.row (by omega)) hnp (fun o ho => by unfold fc; rw [cell_blk (g.blk f2 fun _ _ hh => hh.1 rfl), cell_blk f2]) fun hc t ht hp => hp.keep2 h.ee hrb g2
end Go.Proofs.YtncnepmgmphanaaGreatDoor
