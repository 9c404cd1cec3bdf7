/- A step of the reference's machines of deques and bits. -/
import Derived.Test.YtfhkhknnoepfeaaGreatRefEnter
import Derived.Deep.DeepCutAuto
namespace Go.Proofs.YtfhkhknnoepfeaaGreat
open Go.RowKit
set_option linter.unusedVariables false
set_option linter.unusedSimpArgs false

/-- The reference's machine at y, its frame at fb. -/
structure RMach (w : World) (y fb : Nat) (k : K) : Prop where
  run : k.over = false → w.heap[y]? = some (.cells #[.slice (some ⟨fb, 0, none⟩) 1 1, .bool false, .int .i64 0, .int .i64 0] 119 (0, 0)) ∧ w.heap[fb]? = some (frmO k)
  fin : k.over = true → w.heap[y]? = some (.cells #[.slice (some ⟨fb, 0, none⟩) 0 1, .bool true, .int .i64 k.code, .int .i64 k.val] 119 (0, 0))

theorem RMach.keep {S : List Nat} {w w' : World} {y fb : Nat} {k : K} (h : RMach w y fb k) (o : Only S w w') (h1 : y ∉ S) (h2 : fb ∉ S) : RMach w' y fb k :=
  ⟨fun e => ⟨o.keep (h.run e).1 h1, o.keep (h.run e).2 h2⟩, fun e => o.keep (h.fin e) h1⟩

/-- What a step of the reference's machine comes to. -/
def RStep (y fb r rc : Nat) (now : Int) (k : K) (s : MS) (w : World) (e : Ending) (w' : World) : Prop :=
  e = .returned (.bool (stepK k s).1.over) ∧ Only [y, fb, r, rc] w w' ∧ RMach w' y fb (stepK k s).1 ∧ REnvAt w' r rc (stepK k s).2 now

/-- Where the reference's machine lies. -/
structure RAp2 (y fb r rc : Nat) : Prop where
  a : RAp fb r rc
  yr : y ≠ r
  yc : y ≠ rc
  yf : y ≠ fb

set_option maxRecDepth 100000 in
theorem rstep_over (w : World) (y fb r rc : Nat) (now : Int) (k : K) (s : MS) (ho : k.over = true) (hM : RMach w y fb k) (hR : REnvAt w r rc s now) :
    Calls Tryz.prog 35 #[.pointer (some ⟨y, 0, none⟩), .pointer (some ⟨r, 0, none⟩)] w (RStep y fb r rc now k s w) := by
  have c1 := cell_blk (hM.fin ho) 1
  simp at c1
  have FIN : Hid (RStep y fb r rc now k s w (.returned (.bool true)) w) := Lib.hid (by
    unfold RStep
    rw [stepK_over ho, ho]
    exact ⟨rfl, Only.refl _ _, hM, hR⟩)
  clear hM hR ho
  go_enter Tryz.func35, Tryz.ntmps35
  go_wp2_with fail
  go_ret
  exact FIN.out

/-- Behind the call of a line: its result lies at tb. -/
structure LeafEnd (tb fb r rc : Nat) (now : Int) (k : K) (s : MS) (w w' : World) : Prop where
  t : w'.heap[tb]? = some (.cells #[.bool (stepK k s).1.over, .int .i64 (stepK k s).1.code, .int .i64 (stepK k s).1.val] 136 (0, 0))
  o : Only [fb, r, rc] w w'
  f : w'.heap[fb]? = some (frmO (stepK k s).1)
  e : REnvAt w' r rc (stepK k s).2 now
  n : w.heap.size ≤ tb

theorem LeafEnd.fin {tb fb r rc : Nat} {now : Int} {k : K} {s : MS} {w w' : World} (o : Only [fb, r, rc] w w') (t : w'.heap[tb]? = some resO) (n : w.heap.size ≤ tb) (n1 : fb ≠ tb) (n2 : r ≠ tb) (n3 : rc ≠ tb) (f : w'.heap[fb]? = some (frmO (stepK k s).1)) (e : REnvAt w' r rc (stepK k s).2 now) :
    LeafEnd tb fb r rc now k s w (((w'.setCell ⟨tb, 0, none⟩ (.bool (stepK k s).1.over)).setCell ⟨tb, 1, none⟩ (.int .i64 (stepK k s).1.code)).setCell ⟨tb, 2, none⟩ (.int .i64 (stepK k s).1.val)) := by
  have h := RLeaf.fin (w := w) (k := k) (s := s) rfl rfl rfl rfl t f e o n1 n2 n3 n
  refine ⟨?_, h.2.1, h.2.2.1, h.2.2.2, n⟩
  have e := blk_setCell (blk_setCell (blk_setCell t 0 (.bool (stepK k s).1.over)) 1 (.int .i64 (stepK k s).1.code)) 2 (.int .i64 (stepK k s).1.val)
  simpa only [List.setIfInBounds_toArray, List.set_cons_zero, List.set_cons_succ] using e

theorem rstep_no {tb y fb r rc : Nat} {now : Int} {k kk : K} {s : MS} {w w' : World} (hv : kk.over = false) (hk : kk = (stepK k s).1) (L : LeafEnd tb fb r rc now k s w w') (hA : RAp2 y fb r rc)
    (hY : w'.heap[y]? = some (.cells #[.slice (some ⟨fb, 0, none⟩) 1 1, .bool false, .int .i64 0, .int .i64 0] 119 (0, 0))) : RStep y fb r rc now k s w (.returned (.bool false)) w' := by
  subst hk
  refine ⟨by rw [hv], L.o.mono (by simp), ⟨fun _ => ⟨hY, L.f⟩, fun e => by rw [hv] at e; cases e⟩, L.e⟩

theorem rstep_yes {tb y fb r rc : Nat} {now : Int} {k kk : K} {s : MS} {w w' : World} (hv : kk.over = true) (hk : kk = (stepK k s).1) (L : LeafEnd tb fb r rc now k s w w') (hA : RAp2 y fb r rc)
    (hY : w'.heap[y]? = some (.cells #[.slice (some ⟨fb, 0, none⟩) 1 1, .bool false, .int .i64 0, .int .i64 0] 119 (0, 0))) :
    RStep y fb r rc now k s w (.returned (.bool true)) ((((w'.setCell ⟨y, 0, none⟩ (.slice (some ⟨fb, 0, none⟩) 0 1)).drew.drew.setCell ⟨y, 1, none⟩ (.bool true)).setCell ⟨y, 2, none⟩ (.int .i64 kk.code)).setCell ⟨y, 3, none⟩ (.int .i64 kk.val)) := by
  subst hk
  have o : Only [y] w' ((((w'.setCell ⟨y, 0, none⟩ (.slice (some ⟨fb, 0, none⟩) 0 1)).drew.drew.setCell ⟨y, 1, none⟩ (.bool true)).setCell ⟨y, 2, none⟩ (.int .i64 (stepK k s).1.code)).setCell ⟨y, 3, none⟩ (.int .i64 (stepK k s).1.val)) :=
    (((((Only.refl [y] w').setCell (by simp) _).drew.drew).setCell (by simp) _).setCell (by simp) _).setCell (by simp) _
  have h1 := hA.yr
  have h2 := hA.yc
  have e := blk_setCell (blk_setCell (blk_setCell (show (w'.setCell ⟨y, 0, none⟩ (.slice (some ⟨fb, 0, none⟩) 0 1)).drew.drew.heap[y]? = _ from blk_setCell hY 0 (.slice (some ⟨fb, 0, none⟩) 0 1)) 1 (.bool true)) 2 (.int .i64 (stepK k s).1.code)) 3 (.int .i64 (stepK k s).1.val)
  refine ⟨by rw [hv], ((L.o.mono (T := [y, fb, r, rc]) (by simp)).trans o (by simp)), ⟨fun e => (by rw [hv] at e; cases e), fun _ => ?_⟩, L.e.keep o (by simp; omega) (by simp; omega)⟩
  simpa only [List.setIfInBounds_toArray, List.set_cons_zero, List.set_cons_succ] using e

set_option maxRecDepth 100000 in
set_option maxHeartbeats 16000000 in
theorem rstep_run (w : World) (y fb r rc : Nat) (now : Int) (k : K) (s : MS) (hk : k.kind ≤ 4) (hok : k.ok) (ho : k.over = false) (h0 : k.code = 0 ∧ k.val = 0) (hA : RAp2 y fb r rc) (hrc : rc < w.heap.size) (hM : RMach w y fb k) (hR : REnvAt w r rc s now) (hn : s.count ≤ 4000000000000000000) :
    Calls Tryz.prog 35 #[.pointer (some ⟨y, 0, none⟩), .pointer (some ⟨r, 0, none⟩)] w (RStep y fb r rc now k s w) := by
  obtain ⟨hY, hF⟩ := hM.run ho
  have c0 := cell_blk hY 0
  have c1 := cell_blk hY 1
  simp at c0 c1
  have HY := Lib.hid hY
  have HF := Lib.hid hF
  have HR := Lib.hid hR
  have HA := Lib.hid hA
  have hy := lt_of_blk hY
  have hfl := lt_of_blk hF
  have EN := fun w' (o : Only [] w w') => Lib.hid (enter_any w' fb r k hk (o.keep hF (by simp)))
  have LF := fun w' (o : Only [] w w') => Lib.hid (leaf_any w' fb r rc now k s hk hok ho h0 hA.a (by have := o.size; omega) (o.keep hF (by simp)) (hR.keep0 o) hn)
  clear hY hF hR hA hM hk hok ho h0 hn
  go_enter Tryz.func35, Tryz.ntmps35
  go_wp2_with fail
  go_loopw [5] (fun _ wr => wr = w) (fun _ _ => 0)
  case atStart => rfl
  case round =>
    subst hrel
    go_upto_region 3 with fail
    go_cut [6] (fun s6 wx => s6 = .bool false ∧ Only [] wr wx)
    case first =>
      have hz1 : (1 : Int) - 1 = 0 := by omega
      have hz2 : IntKind.i64.wrap 0 = 0 := by kernel_rfl
      refine wp_region_held_drew (S := fun w' => w'.cell? ⟨y, 0, none⟩ = some (.slice (some ⟨fb, 0, none⟩) 1 1)) (by kernel_rfl) c0 (fun hHeld => ?_)
      refine wpAnyH_take (i := 0) (v := ?_) rfl (by kernel_rfl) (by kernel_rfl) (by kernel_rfl) (fun _ _ _ h => h) (Or.inl ⟨by rfl, ?_⟩) (by assumption) ?_
      rotate_left
      · (intro w hSw; (try dsimp only at hSw); go_simp; try with_reducible rfl)
      try simp only [Act.put, List.setIfInBounds_toArray, List.set_cons_zero, List.set_cons_succ]
      refine wpAnyH_take (i := 1) (v := ?_) rfl (by kernel_rfl) (by kernel_rfl) (by kernel_rfl) (fun _ _ _ h => h) (Or.inl ⟨by rfl, ?_⟩) (by assumption) ?_
      rotate_left
      · (intro w hSw; (try dsimp only at hSw); go_simp; try with_reducible rfl)
      try simp only [Act.put, List.setIfInBounds_toArray, List.set_cons_zero, List.set_cons_succ]
      refine wpAnyH_take (i := 2) (v := ?_) rfl (by kernel_rfl) (by kernel_rfl) (by kernel_rfl) (fun _ _ _ h => h) (Or.inl ⟨by rfl, ?_⟩) (by assumption) ?_
      rotate_left
      · (intro w hSw; (try dsimp only at hSw); go_simp; try with_reducible rfl)
      try simp only [Act.put, List.setIfInBounds_toArray, List.set_cons_zero, List.set_cons_succ]
      refine wpAnyH_take (i := 3) (v := ?_) rfl (by kernel_rfl) (by kernel_rfl) (by kernel_rfl) (fun _ _ _ h => h) (Or.inl ⟨by rfl, ?_⟩) (by assumption) ?_
      rotate_left
      · (intro w hSw; (try dsimp only at hSw); go_simp; try with_reducible rfl)
      try simp only [Act.put, List.setIfInBounds_toArray, List.set_cons_zero, List.set_cons_succ]
      refine wpAnyH_take (i := 4) (v := ?_) rfl (by kernel_rfl) (by kernel_rfl) (by kernel_rfl) (fun _ _ _ h => h) (Or.inl ⟨by rfl, ?_⟩) (by assumption) ?_
      rotate_left
      · (intro w hSw; (try dsimp only at hSw); go_simp; try with_reducible rfl)
      try simp only [Act.put, List.setIfInBounds_toArray, List.set_cons_zero, List.set_cons_succ]
      refine wpAnyH_take (i := 5) (v := ?_) rfl (by kernel_rfl) (by kernel_rfl) (by kernel_rfl) (fun _ _ _ h => h) (Or.inl ⟨by rfl, ?_⟩) (by assumption) ?_
      rotate_left
      · (intro w hSw; (try dsimp only at hSw); go_simp; try with_reducible rfl)
      try simp only [Act.put, List.setIfInBounds_toArray, List.set_cons_zero, List.set_cons_succ]
      refine wpAnyH_take (i := 6) (v := ?_) rfl (by kernel_rfl) (by kernel_rfl) (by kernel_rfl) (fun _ _ _ h => h) (Or.inl ⟨by rfl, ?_⟩) (by assumption) ?_
      rotate_left
      · (intro w hSw; (try dsimp only at hSw); go_simp; try with_reducible rfl)
      try simp only [Act.put, List.setIfInBounds_toArray, List.set_cons_zero, List.set_cons_succ]
      refine wpAnyH_take (i := 7) (v := ?_) rfl (by kernel_rfl) (by kernel_rfl) (by kernel_rfl) (fun _ _ _ h => h) (Or.inl ⟨by rfl, ?_⟩) (by assumption) ?_
      rotate_left
      · (intro w hSw; (try dsimp only at hSw); go_simp; try with_reducible rfl)
      try simp only [Act.put, List.setIfInBounds_toArray, List.set_cons_zero, List.set_cons_succ]
      refine wpAnyH_take (i := 8) (v := ?_) rfl (by kernel_rfl) (by kernel_rfl) (by kernel_rfl) (fun _ _ _ h => h) (Or.inl ⟨by rfl, ?_⟩) (by assumption) ?_
      rotate_left
      · (intro w hSw; (try dsimp only at hSw); go_simp; try with_reducible rfl)
      try simp only [Act.put, List.setIfInBounds_toArray, List.set_cons_zero, List.set_cons_succ]
      refine wpAnyH_take (i := 9) (v := ?_) rfl (by kernel_rfl) (by kernel_rfl) (by kernel_rfl) (fun _ _ _ h => h) (Or.inl ⟨by rfl, ?_⟩) (by assumption) ?_
      rotate_left
      · (intro w hSw; (try dsimp only at hSw); go_simp; try with_reducible rfl)
      try simp only [Act.put, List.setIfInBounds_toArray, List.set_cons_zero, List.set_cons_succ]
      refine wpAnyH_take (i := 10) (v := ?_) rfl (by kernel_rfl) (by kernel_rfl) (by kernel_rfl) (fun _ _ _ h => h) (Or.inl ⟨by rfl, ?_⟩) (by assumption) ?_
      rotate_left
      · (intro w hSw; (try dsimp only at hSw); go_simp; try with_reducible rfl)
      try simp only [Act.put, List.setIfInBounds_toArray, List.set_cons_zero, List.set_cons_succ]
      refine wpAnyH_take (i := 11) (v := ?_) rfl (by kernel_rfl) (by kernel_rfl) (by kernel_rfl) (fun _ _ _ h => h) (Or.inl ⟨by rfl, ?_⟩) (by assumption) ?_
      rotate_left
      · (intro w hSw; (try dsimp only at hSw); go_simp; try with_reducible rfl)
      try simp only [Act.put, List.setIfInBounds_toArray, List.set_cons_zero, List.set_cons_succ]
      refine wpAnyH_ready (rs := [12, 16]) (by kernel_rfl) (by simp) ?_
      refine AllReadyH.cons rfl (fun K hK => ?_) (AllReadyH.cons rfl (fun K hK => ?_) AllReadyH.nil)
      · go_simp
        refine (EN _ (Only.refl _ _).drew).out.mono ?_; rintro e w1 ⟨rfl, o1⟩
        have s1 : wr.heap.size ≤ w1.heap.size := o1.size
        have d0 := o1.keepCell c0 (by simp)
        have O1 := Lib.hid o1.undrew
        refine hK.out _ _ d0 (fun hHeld => ?_)
        clear hK K o1
        try simp only [Act.put, List.setIfInBounds_toArray, List.set_cons_zero, List.set_cons_succ]
        refine wpAnyH_take (i := 13) (v := ?_) rfl (by kernel_rfl) (by kernel_rfl) (by kernel_rfl) (fun _ _ _ h => h) (Or.inl ⟨by rfl, ?_⟩) (by assumption) ?_
        rotate_left
        · (intro w hSw; (try dsimp only at hSw); go_simp; try with_reducible rfl)
        try simp only [Act.put, List.setIfInBounds_toArray, List.set_cons_zero, List.set_cons_succ]
        refine wpAnyH_take (i := 14) (v := ?_) rfl (by kernel_rfl) (by kernel_rfl) (by kernel_rfl) (fun _ _ _ h => h) (Or.inl ⟨by rfl, ?_⟩) (by assumption) ?_
        rotate_left
        · (intro w hSw; (try dsimp only at hSw); go_simp; try with_reducible rfl)
        try simp only [Act.put, List.setIfInBounds_toArray, List.set_cons_zero, List.set_cons_succ]
        refine wpAnyH_take (i := 15) (v := ?_) rfl (by kernel_rfl) (by kernel_rfl) (by kernel_rfl) (fun _ _ _ h => h) (Or.inl ⟨by rfl, ?_⟩) (by assumption) ?_
        rotate_left
        · (intro w hSw; (try dsimp only at hSw); go_simp; try with_reducible rfl)
        try simp only [Act.put, List.setIfInBounds_toArray, List.set_cons_zero, List.set_cons_succ]
        refine wpAnyH_ready (rs := [16]) (by kernel_rfl) (by simp) ?_
        refine AllReadyH.cons rfl (fun K hK => ?_) AllReadyH.nil
        go_simp
        have d1 := ((Only.refl [] w1).alloc (.cells frm0.toArray 115)).keepCell d0 (by simp)
        refine hK.out _ _ d1 (fun hHeld => ?_)
        clear hK K
        try simp only [Act.put, List.setIfInBounds_toArray, List.set_cons_zero, List.set_cons_succ]
        have tbl : (w1.alloc (.cells frm0.toArray 115)).heap[w1.heap.size]? = some (.cells frm0.toArray 115 (0, 0)) := blk_alloc_new _ _
        refine wpAnyH_ready (rs := [17]) (by kernel_rfl) (by simp) ?_
        refine AllReadyH.cons rfl (fun K hK => ?_) AllReadyH.nil
        rw [if_pos (by rfl)]
        refine wp_store_mid 115 (.tmp 5) (.tmp 26) rfl (w1.heap.size) 0 frm0.toArray rfl rfl (there_blk tbl) (by simpa [frm0] using infoFrm) (by simp [frm0, Value.oneCell']) ?_
        have st := (stored_setCells (w1.alloc (.cells frm0.toArray 115)) (w1.heap.size) frm0).1
        refine hK.out _ _ (st.keepCell d1 (by simp; omega)) (fun hHeld => ?_)
        clear hK K
        try simp only [Act.put, List.setIfInBounds_toArray, List.set_cons_zero, List.set_cons_succ]
        refine wpAnyH_take (i := 18) (v := ?_) rfl (by kernel_rfl) (by kernel_rfl) (by kernel_rfl) (fun _ _ _ h => h) (Or.inl ⟨by rfl, ?_⟩) (by assumption) ?_
        rotate_left
        · (intro w hSw; (try dsimp only at hSw); go_simp; try with_reducible rfl)
        try simp only [Act.put, List.setIfInBounds_toArray, List.set_cons_zero, List.set_cons_succ]
        refine wpAnyH_done (by kernel_rfl) ?_ _
        have ST := Lib.hid st
        clear st
        go_wp2_with fail
        go_meet
        exact ⟨rfl, (O1.out.alloc _).thenN ST.out (by omega)⟩
      · go_simp
        have d1 := ((Only.refl [] wr.drew).alloc (.cells frm0.toArray 115)).keepCell c0 (by simp)
        have tbl0 : (wr.drew.alloc (.cells frm0.toArray 115)).heap[wr.drew.heap.size]? = some (.cells frm0.toArray 115 (0, 0)) := blk_alloc_new _ _
        refine hK.out _ _ d1 (fun hHeld => ?_)
        clear hK K
        try simp only [Act.put, List.setIfInBounds_toArray, List.set_cons_zero, List.set_cons_succ]
        refine wpAnyH_ready (rs := [12]) (by kernel_rfl) (by simp) ?_
        refine AllReadyH.cons rfl (fun K hK => ?_) AllReadyH.nil
        go_simp
        refine (EN _ ((Only.refl [] wr).drew.alloc _)).out.mono ?_; rintro e w1 ⟨rfl, o1⟩
        have tbl := o1.keep tbl0 (by simp)
        have d2 := o1.keepCell d1 (by simp)
        have s1 : wr.heap.size + 1 ≤ w1.heap.size := by have := o1.size; simpa using this
        have O1 := Lib.hid (((Only.refl [] wr).drew.alloc (.cells frm0.toArray 115)).then0 o1)
        refine hK.out _ _ d2 (fun hHeld => ?_)
        clear hK K o1 tbl0 d1
        try simp only [Act.put, List.setIfInBounds_toArray, List.set_cons_zero, List.set_cons_succ]
        refine wpAnyH_take (i := 13) (v := ?_) rfl (by kernel_rfl) (by kernel_rfl) (by kernel_rfl) (fun _ _ _ h => h) (Or.inl ⟨by rfl, ?_⟩) (by assumption) ?_
        rotate_left
        · (intro w hSw; (try dsimp only at hSw); go_simp; try with_reducible rfl)
        try simp only [Act.put, List.setIfInBounds_toArray, List.set_cons_zero, List.set_cons_succ]
        refine wpAnyH_take (i := 14) (v := ?_) rfl (by kernel_rfl) (by kernel_rfl) (by kernel_rfl) (fun _ _ _ h => h) (Or.inl ⟨by rfl, ?_⟩) (by assumption) ?_
        rotate_left
        · (intro w hSw; (try dsimp only at hSw); go_simp; try with_reducible rfl)
        try simp only [Act.put, List.setIfInBounds_toArray, List.set_cons_zero, List.set_cons_succ]
        refine wpAnyH_take (i := 15) (v := ?_) rfl (by kernel_rfl) (by kernel_rfl) (by kernel_rfl) (fun _ _ _ h => h) (Or.inl ⟨by rfl, ?_⟩) (by assumption) ?_
        rotate_left
        · (intro w hSw; (try dsimp only at hSw); go_simp; try with_reducible rfl)
        try simp only [Act.put, List.setIfInBounds_toArray, List.set_cons_zero, List.set_cons_succ]
        refine wpAnyH_ready (rs := [17]) (by kernel_rfl) (by simp) ?_
        refine AllReadyH.cons rfl (fun K hK => ?_) AllReadyH.nil
        rw [if_pos (by rfl)]
        refine wp_store_mid 115 (.tmp 5) (.tmp 26) rfl (wr.drew.heap.size) 0 frm0.toArray rfl rfl (there_blk tbl) (by simpa [frm0] using infoFrm) (by simp [frm0, Value.oneCell']) ?_
        have st := (stored_setCells w1 (wr.drew.heap.size) frm0).1
        refine hK.out _ _ (st.keepCell d2 (by simp; omega)) (fun hHeld => ?_)
        clear hK K
        try simp only [Act.put, List.setIfInBounds_toArray, List.set_cons_zero, List.set_cons_succ]
        refine wpAnyH_take (i := 18) (v := ?_) rfl (by kernel_rfl) (by kernel_rfl) (by kernel_rfl) (fun _ _ _ h => h) (Or.inl ⟨by rfl, ?_⟩) (by assumption) ?_
        rotate_left
        · (intro w hSw; (try dsimp only at hSw); go_simp; try with_reducible rfl)
        try simp only [Act.put, List.setIfInBounds_toArray, List.set_cons_zero, List.set_cons_succ]
        refine wpAnyH_done (by kernel_rfl) ?_ _
        have ST := Lib.hid st
        clear st
        go_wp2_with fail
        go_meet
        exact ⟨rfl, O1.out.thenN ST.out (Nat.le_refl _)⟩
    case rest =>
      obtain ⟨rfl, oc⟩ := hcut
      have c0 := oc.keepCell c0 (by simp)
      have c1 := oc.keepCell c1 (by simp)
      have OC := Lib.hid oc
      clear oc
      go_wp2_with fail
      have hz1 : (1 : Int) - 1 = 0 := by omega
      have hz2 : IntKind.i64.wrap 0 = 0 := by kernel_rfl
      go_cut [7] (fun s7 wx => ∃ tb, s7 = .pointer (some ⟨tb, 0, none⟩) ∧ LeafEnd tb fb r rc now k s wr wx)
      case first =>
        refine wp_region_held_drew (S := fun w' => w'.cell? ⟨y, 0, none⟩ = some (.slice (some ⟨fb, 0, none⟩) 1 1)) (by kernel_rfl) c0 (fun hHeld => ?_)
        refine wpAnyH_take (i := 0) (v := ?_) rfl (by kernel_rfl) (by kernel_rfl) (by kernel_rfl) (fun _ _ _ h => h) (Or.inl ⟨by rfl, ?_⟩) (by assumption) ?_
        rotate_left
        · (intro w hSw; (try dsimp only at hSw); go_simp; try with_reducible rfl)
        try simp only [Act.put, List.setIfInBounds_toArray, List.set_cons_zero, List.set_cons_succ]
        refine wpAnyH_take (i := 1) (v := ?_) rfl (by kernel_rfl) (by kernel_rfl) (by kernel_rfl) (fun _ _ _ h => h) (Or.inl ⟨by rfl, ?_⟩) (by assumption) ?_
        rotate_left
        · (intro w hSw; (try dsimp only at hSw); go_simp; try with_reducible rfl)
        try simp only [Act.put, List.setIfInBounds_toArray, List.set_cons_zero, List.set_cons_succ]
        refine wpAnyH_take (i := 2) (v := ?_) rfl (by kernel_rfl) (by kernel_rfl) (by kernel_rfl) (fun _ _ _ h => h) (Or.inl ⟨by rfl, ?_⟩) (by assumption) ?_
        rotate_left
        · (intro w hSw; (try dsimp only at hSw); go_simp; try with_reducible rfl)
        try simp only [Act.put, List.setIfInBounds_toArray, List.set_cons_zero, List.set_cons_succ]
        refine wpAnyH_take (i := 3) (v := ?_) rfl (by kernel_rfl) (by kernel_rfl) (by kernel_rfl) (fun _ _ _ h => h) (Or.inl ⟨by rfl, ?_⟩) (by assumption) ?_
        rotate_left
        · (intro w hSw; (try dsimp only at hSw); go_simp; try with_reducible rfl)
        try simp only [Act.put, List.setIfInBounds_toArray, List.set_cons_zero, List.set_cons_succ]
        refine wpAnyH_take (i := 4) (v := ?_) rfl (by kernel_rfl) (by kernel_rfl) (by kernel_rfl) (fun _ _ _ h => h) (Or.inl ⟨by rfl, ?_⟩) (by assumption) ?_
        rotate_left
        · (intro w hSw; (try dsimp only at hSw); go_simp; try with_reducible rfl)
        try simp only [Act.put, List.setIfInBounds_toArray, List.set_cons_zero, List.set_cons_succ]
        refine wpAnyH_take (i := 5) (v := ?_) rfl (by kernel_rfl) (by kernel_rfl) (by kernel_rfl) (fun _ _ _ h => h) (Or.inl ⟨by rfl, ?_⟩) (by assumption) ?_
        rotate_left
        · (intro w hSw; (try dsimp only at hSw); go_simp; try with_reducible rfl)
        try simp only [Act.put, List.setIfInBounds_toArray, List.set_cons_zero, List.set_cons_succ]
        refine wpAnyH_take (i := 6) (v := ?_) rfl (by kernel_rfl) (by kernel_rfl) (by kernel_rfl) (fun _ _ _ h => h) (Or.inl ⟨by rfl, ?_⟩) (by assumption) ?_
        rotate_left
        · (intro w hSw; (try dsimp only at hSw); go_simp; try with_reducible rfl)
        try simp only [Act.put, List.setIfInBounds_toArray, List.set_cons_zero, List.set_cons_succ]
        refine wpAnyH_take (i := 7) (v := ?_) rfl (by kernel_rfl) (by kernel_rfl) (by kernel_rfl) (fun _ _ _ h => h) (Or.inl ⟨by rfl, ?_⟩) (by assumption) ?_
        rotate_left
        · (intro w hSw; (try dsimp only at hSw); go_simp; try with_reducible rfl)
        try simp only [Act.put, List.setIfInBounds_toArray, List.set_cons_zero, List.set_cons_succ]
        refine wpAnyH_take (i := 8) (v := ?_) rfl (by kernel_rfl) (by kernel_rfl) (by kernel_rfl) (fun _ _ _ h => h) (Or.inl ⟨by rfl, ?_⟩) (by assumption) ?_
        rotate_left
        · (intro w hSw; (try dsimp only at hSw); go_simp; try with_reducible rfl)
        try simp only [Act.put, List.setIfInBounds_toArray, List.set_cons_zero, List.set_cons_succ]
        refine wpAnyH_take (i := 9) (v := ?_) rfl (by kernel_rfl) (by kernel_rfl) (by kernel_rfl) (fun _ _ _ h => h) (Or.inl ⟨by rfl, ?_⟩) (by assumption) ?_
        rotate_left
        · (intro w hSw; (try dsimp only at hSw); go_simp; try with_reducible rfl)
        try simp only [Act.put, List.setIfInBounds_toArray, List.set_cons_zero, List.set_cons_succ]
        refine wpAnyH_take (i := 10) (v := ?_) rfl (by kernel_rfl) (by kernel_rfl) (by kernel_rfl) (fun _ _ _ h => h) (Or.inl ⟨by rfl, ?_⟩) (by assumption) ?_
        rotate_left
        · (intro w hSw; (try dsimp only at hSw); go_simp; try with_reducible rfl)
        try simp only [Act.put, List.setIfInBounds_toArray, List.set_cons_zero, List.set_cons_succ]
        refine wpAnyH_take (i := 11) (v := ?_) rfl (by kernel_rfl) (by kernel_rfl) (by kernel_rfl) (fun _ _ _ h => h) (Or.inl ⟨by rfl, ?_⟩) (by assumption) ?_
        rotate_left
        · (intro w hSw; (try dsimp only at hSw); go_simp; try with_reducible rfl)
        try simp only [Act.put, List.setIfInBounds_toArray, List.set_cons_zero, List.set_cons_succ]
        refine wpAnyH_ready (rs := [12, 13]) (by kernel_rfl) (by simp) ?_
        refine AllReadyH.cons rfl (fun K hK => ?_) (AllReadyH.cons rfl (fun K hK => ?_) AllReadyH.nil)
        · go_simp
          refine (LF _ OC.out.drew).out.mono ?_; rintro e w1 ⟨rfl, o1, f1, e1⟩
          have hy1 := HA.out.yr
          have hy2 := HA.out.yc
          have hy3 := HA.out.yf
          have d1 := o1.keepCell (show wc.drew.cell? _ = _ from c0) (by simp; omega)
          have o2 : Only [fb, r, rc] wr w1 := (OC.out.drew.mono (by simp)).trans o1 (by simp)
          have n1 := o2.size
          have n2 := HR.out.lt
          have d2 := ((Only.refl [] w1).alloc resO).keepCell d1 (by simp)
          have tbl : (w1.alloc resO).heap[w1.heap.size]? = some resO := blk_alloc_new _ _
          have LE := Lib.hid (LeafEnd.fin (k := k) (s := s) (now := now) (o2.alloc resO) tbl (by omega) (by omega) (by omega) (by omega) (((Only.refl [] w1).alloc resO).keep f1 (by simp)) (e1.keep0 ((Only.refl [] w1).alloc resO)))
          unfold resO at d2 tbl LE
          obtain ⟨wa, hwa⟩ : ∃ wa, wa = w1.alloc (.cells #[.bool false, .int .i64 0, .int .i64 0] 136) := ⟨_, rfl⟩
          rw [← hwa] at d2 tbl LE
          have HW := Lib.hid hwa
          clear hwa
          have t0 := cell_blk tbl 0
          have t1 := cell_blk tbl 1
          have t2 := cell_blk tbl 2
          have t3 := free_blk tbl 0
          have t4 := free_blk tbl 1
          have t5 := free_blk tbl 2
          simp at t0 t1 t2
          have nty : y ≠ w1.heap.size := by omega
          clear tbl o1 o2 f1 e1 n1 n2
          refine hK.out _ _ d1 (fun hHeld => ?_)
          clear hK K
          try simp only [Act.put, List.setIfInBounds_toArray, List.set_cons_zero, List.set_cons_succ]
          refine wpAnyH_ready (rs := [13]) (by kernel_rfl) (by simp) ?_
          refine AllReadyH.cons rfl (fun K hK => ?_) AllReadyH.nil
          go_simp
          rw [← HW.out]
          refine hK.out _ _ d2 (fun hHeld => ?_)
          clear hK K
          try simp only [Act.put, List.setIfInBounds_toArray, List.set_cons_zero, List.set_cons_succ]
          refine wpAnyH_ready (rs := [14]) (by kernel_rfl) (by simp) ?_
          refine AllReadyH.cons rfl (fun K hK => ?_) AllReadyH.nil
          go_simp
          refine hK.out _ _ (((((Only.refl [w1.heap.size] _).setCell (by simp) _).setCell (by simp) _).setCell (by simp) _).keepCell d2 (by simpa using nty)) (fun hHeld => ?_)
          clear hK K
          try simp only [Act.put, List.setIfInBounds_toArray, List.set_cons_zero, List.set_cons_succ]
          refine wpAnyH_done (by kernel_rfl) ?_ _
          go_wp2_with fail
          go_meet
          exact ⟨_, rfl, LE.out⟩
        · go_simp
          have d1 := ((Only.refl [] wc.drew).alloc resO).keepCell (show wc.drew.cell? _ = _ from c0) (by simp)
          have oa : Only [] wr (wc.drew.alloc resO) := OC.out.drew.alloc _
          have tb0 : (wc.drew.alloc resO).heap[wc.heap.size]? = some resO := blk_alloc_new _ _
          have LF1 := Lib.hid ((LF _ oa).out)
          unfold resO at d1 LF1
          refine hK.out _ _ d1 (fun hHeld => ?_)
          clear hK K
          try simp only [Act.put, List.setIfInBounds_toArray, List.set_cons_zero, List.set_cons_succ]
          refine wpAnyH_ready (rs := [12]) (by kernel_rfl) (by simp) ?_
          refine AllReadyH.cons rfl (fun K hK => ?_) AllReadyH.nil
          go_simp
          refine LF1.out.mono ?_; rintro e w1 ⟨rfl, o1, f1, e1⟩
          have hy1 := HA.out.yr
          have hy2 := HA.out.yc
          have hy3 := HA.out.yf
          have n0 := OC.out.size
          have n2 := HR.out.lt
          have d2 := o1.keepCell d1 (by simp; omega)
          have tbl : w1.heap[wc.heap.size]? = some resO := o1.keep tb0 (by simp; omega)
          have LE := Lib.hid (LeafEnd.fin (k := k) (s := s) (now := now) ((oa.mono (by simp)).trans o1 (by simp)) tbl (by omega) (by omega) (by omega) (by omega) f1 e1)
          have nty : y ≠ wc.heap.size := by omega
          unfold resO at tbl LE
          have t0 := cell_blk tbl 0
          have t1 := cell_blk tbl 1
          have t2 := cell_blk tbl 2
          have t3 := free_blk tbl 0
          have t4 := free_blk tbl 1
          have t5 := free_blk tbl 2
          simp at t0 t1 t2
          clear tbl tb0 oa o1 f1 e1 n0 n2 d1 LF1
          refine hK.out _ _ d2 (fun hHeld => ?_)
          clear hK K
          try simp only [Act.put, List.setIfInBounds_toArray, List.set_cons_zero, List.set_cons_succ]
          refine wpAnyH_ready (rs := [14]) (by kernel_rfl) (by simp) ?_
          refine AllReadyH.cons rfl (fun K hK => ?_) AllReadyH.nil
          go_simp
          refine hK.out _ _ (((((Only.refl [wc.heap.size] _).setCell (by simp) _).setCell (by simp) _).setCell (by simp) _).keepCell d2 (by simpa using nty)) (fun hHeld => ?_)
          clear hK K
          try simp only [Act.put, List.setIfInBounds_toArray, List.set_cons_zero, List.set_cons_succ]
          refine wpAnyH_done (by kernel_rfl) ?_ _
          go_wp2_with fail
          go_meet
          exact ⟨_, rfl, LE.out⟩
      case rest =>
        obtain ⟨tb, rfl, LE⟩ := hcut
        have L := Lib.hid LE
        have t0 := cell_blk LE.t 0
        have t1 := cell_blk LE.t 1
        have t2 := cell_blk LE.t 2
        simp at t0 t1 t2
        have hy1 := HA.out.a
        have hyr := HA.out.yr
        have hyc := HA.out.yc
        have hyf := HA.out.yf
        have Y9 := Lib.hid (LE.o.keep HY.out (by simp; omega))
        have d0 := cell_blk Y9.out 0
        have d1 := cell_blk Y9.out 1
        have d2 := cell_blk Y9.out 2
        have d3 := cell_blk Y9.out 3
        have g0 := free_blk Y9.out 0
        have g1 := free_blk Y9.out 1
        have g2 := free_blk Y9.out 2
        have g3 := free_blk Y9.out 3
        simp at d0 d1 d2 d3
        obtain ⟨kk, hkk⟩ : ∃ kk, kk = (stepK k s).1 := ⟨_, rfl⟩
        have KK := Lib.hid hkk
        rw [← hkk] at t0 t1 t2
        clear LE c0 c1 hkk hy1 hyr hyc hyf EN LF OC
        go_wp2_with fail
        go_loopw [] (fun wr2 => wr2 = wc) (fun _ => 0)
        case atStart => rfl
        case round =>
          subst hrel
          cases hov : kk.over
          · rw [hov] at t0
            have HV := Lib.hid hov
            clear hov
            go_wp2_with fail
            go_ret
            exact rstep_no HV.out KK.out L.out HA.out Y9.out
          · rw [hov] at t0
            have HV := Lib.hid hov
            clear hov
            have nyt : tb ≠ y := by have := L.out.n; omega
            clear hrc hy hfl
            go_wp2_with fail
            go_region
            go_wp2_with fail
            go_region
            go_wp2_with fail
            go_ret
            exact rstep_yes HV.out KK.out L.out HA.out Y9.out
end Go.Proofs.YtfhkhknnoepfeaaGreat
