/- The engine's stamped events, walked (printed by gen_evst.py). No condition beside those named. -/
import Derived.Test.YtncnepmgmphanaaGreatDoorMg26
import Derived.Test.YtncnepmgmphanaaGreatDoorMg25
import Derived.Laws.AppendOwn
import Derived.Deep.LoopGhost
import Derived.Maps.Own
import Derived.Maps.OwnSet
import Derived.WalkKit
set_option linter.unusedVariables false
set_option linter.unusedSimpArgs false
set_option linter.unusedSectionVars false
namespace Go.Proofs.YtncnepmgmphanaaGreatDoor
open Go.RowKit
def flatS (l : List (Int × Evt)) : List Value := l.flatMap fun x => [.int .i64 x.1, .int .i64 x.2.kind, .int .i64 x.2.worker, .int .i64 x.2.task, .int .i64 x.2.other, .int .i64 x.2.level]
theorem flatS_snoc (l : List (Int × Evt)) (x : Int × Evt) : flatS (l ++ [x]) = flatS l ++ [.int .i64 x.1, .int .i64 x.2.kind, .int .i64 x.2.worker, .int .i64 x.2.task, .int .i64 x.2.other, .int .i64 x.2.level] := by simp [flatS]
theorem flatS_at (l : List (Int × Evt)) : ∀ i, i < l.length → (flatS l)[i * 6]? = some (.int .i64 (l.getD i (0, Evt.zero)).1) ∧ (flatS l)[i * 6 + 1]? = some (.int .i64 (l.getD i (0, Evt.zero)).2.kind) ∧ (flatS l)[i * 6 + 2]? = some (.int .i64 (l.getD i (0, Evt.zero)).2.worker) ∧ (flatS l)[i * 6 + 3]? = some (.int .i64 (l.getD i (0, Evt.zero)).2.task) ∧ (flatS l)[i * 6 + 4]? = some (.int .i64 (l.getD i (0, Evt.zero)).2.other) ∧ (flatS l)[i * 6 + 5]? = some (.int .i64 (l.getD i (0, Evt.zero)).2.level) := by
  induction l with
  | nil => intro i h; simp at h
  | cons a l ih =>
    intro i h
    cases i with
    | zero => exact ⟨rfl, rfl, rfl, rfl, rfl, rfl⟩
    | succ i =>
      obtain ⟨h0, h1, h2, h3, h4, h5⟩ := ih i (by simpa using h)
      have e : ∀ j, (flatS (a :: l))[(i + 1) * 6 + j]? = (flatS l)[i * 6 + j]? := fun j => by
        rw [show (i + 1) * 6 + j = (i * 6 + j) + 6 by omega]; rfl
      have e0 := e 0
      simp only [Nat.add_zero] at e0
      rw [e0, e 1, e 2, e 3, e 4, e 5]
      exact ⟨h0, h1, h2, h3, h4, h5⟩
theorem stl_owns {w : World} {B : Nat} {T : TypeId} {v : Value} {l : List (Int × Evt)} (h : w.ownsRow B T 6 v l.length (flatS l)) : STL w v l := by
  obtain ⟨hl, ⟨rfl, h0⟩ | ⟨g, cap, cur, rfl, hb, hh, hn, hm, hs, ht⟩⟩ := h
  · exact ⟨none, 0, by rw [h0], by omega, fun h => by omega⟩
  · refine ⟨_, cap, rfl, hn, fun _ => ⟨g, 0, rfl, fun i hi => ?_⟩⟩
    have at' : ∀ j v, (flatS l)[j]? = some v → w.cell? ⟨g, j, none⟩ = some v := fun j v hj => by
      rw [cell_blk hh]
      rw [← ht, List.getElem?_take] at hj
      split at hj
      · simpa using hj
      · cases hj
    obtain ⟨h0, h1, h2, h3, h4, h5⟩ := flatS_at l i hi
    rw [Nat.zero_add]
    exact ⟨at' _ _ h0, at' _ _ h1, at' _ _ h2, at' _ _ h3, at' _ _ h4, at' _ _ h5⟩
theorem own_six (z : Int) (e : Evt) : ∀ u ∈ [Value.int .i64 z, .int .i64 e.kind, .int .i64 e.worker, .int .i64 e.task, .int .i64 e.other, .int .i64 e.level], u.oneCell' = true := fun u hu => by
  simp only [List.mem_cons, List.not_mem_nil, or_false] at hu
  rcases hu with rfl | rfl | rfl | rfl | rfl | rfl <;> rfl
theorem infoSt : (Tryz.prog.info? 91).map (fun i => (i.zero, i.size, i.bytes)) = some (some (.agg #[.int .i64 0, .int .i64 0, .int .i64 0, .int .i64 0, .int .i64 0, .int .i64 0]), 6, 48) := by kernel_rfl
set_option maxRecDepth 100000 in
set_option maxHeartbeats 4000000 in
theorem events_any (w : World) (xb pe : Nat) (ea sa : Option Addr) (el ec sl sc : Nat) (l : List Evt) (sf : Nat → Int) (c0 : w.cell? ⟨xb, 0, none⟩ = some (.pointer (some ⟨pe, 0, none⟩))) (c3 : w.cell? ⟨xb, 3, none⟩ = some (.slice sa sl sc)) (c20 : w.cell? ⟨pe, 20, none⟩ = some (.slice ea el ec))
    (hle : el ≤ sl) (hE : EL w (.slice ea el ec) l) (hS : ∀ i, i < sl → ∃ b, sa = some ⟨b, 0, none⟩ ∧ w.cell? ⟨b, i, none⟩ = some (.int .i64 (sf i))) (hn : el ≤ 1000000) :
    Calls Tryz.prog 21 #[.pointer (some ⟨xb, 0, none⟩)] w fun e w' => ∃ v L, e = .returned v ∧ STL w' v L ∧ L.map Prod.snd = l ∧ Only [] w w' := by
  obtain ⟨al, cl, e, hc, hh⟩ := hE
  injection e with e1 e2 e3
  subst e1
  subst e3
  have hnn : el = l.length := e2
  obtain ⟨n, hen⟩ : ∃ n, n = el := ⟨_, rfl⟩
  rw [← hen] at hnn hle hn c20
  clear e2 hen
  obtain ⟨L, hL⟩ : ∃ L, L = (List.range n).map fun i => (sf i, l.getD i Evt.zero) := ⟨_, rfl⟩
  have HLn := Lib.hid (show L.length = n ∧ L.map Prod.snd = l from by
    refine ⟨by rw [hL]; simp, ?_⟩
    rw [hL, List.map_map]
    apply List.ext_getElem?
    intro i
    by_cases hi : i < n
    · rw [List.getElem?_map, List.getElem?_range hi, List.getElem?_eq_getElem (by omega)]
      simp [List.getD_eq_getElem?_getD, List.getElem?_eq_getElem (show i < l.length by omega)]
    · rw [List.getElem?_eq_none (by simp; omega), List.getElem?_eq_none (by omega)])
  have HLk := Lib.hid (show ∀ k, k < n → L.take (k + 1) = L.take k ++ [(sf k, l.getD k Evt.zero)] from fun k hk => by
    have := take_snoc_getD L (0, Evt.zero) k (by rw [HLn.out.1]; exact hk)
    rw [this]
    congr 2
    rw [hL, List.getD_eq_getElem?_getD, List.getElem?_map, List.getElem?_range hk]
    rfl)
  have HC := Lib.hid (And.intro c0 (And.intro c3 (And.intro c20 (And.intro hh hS))))
  have HN := Lib.hid hnn
  obtain ⟨i, hi, hz0, hsz, hby⟩ := info_parts infoSt
  rw [← hnn] at hc
  clear hh hS hnn hL c0 c3 c20
  go_enter Tryz.func21, Tryz.ntmps21
  go_wp2_with fail
  go_loopg [3, 4] (n + 1) (fun g s3 s4 wr => ∃ k : Nat, s4 = .int .i64 k ∧ k + g = n + 1 ∧ k ≤ n ∧ wr.ownsRow w.heap.size 91 6 s3 k (flatS (L.take k)) ∧ Only [] w wr)
  case atStart => exact ⟨0, rfl, by omega, by omega, World.ownsRow_nil _ _ _ _, Only.refl _ _⟩
  case round =>
    obtain ⟨k, rfl, hg, hk, hown, ho⟩ := hrel
    have OWN := Lib.hid hown
    have OW := Lib.hid ho
    have q0 := ho.keepCell HC.out.1 (by simp)
    have q20 := ho.keepCell HC.out.2.2.1 (by simp)
    have q3 := ho.keepCell HC.out.2.1 (by simp)
    clear hown ho
    by_cases hkn : k < n
    · have hk1 : (0 : Int) ≤ (k : Int) := by omega
      have hk2 : (k : Int) < (n : Int) := by omega
      have hk3 : (k : Int) < (sl : Int) := by omega
      obtain ⟨b1, e1, s1⟩ := HC.out.2.2.2.2 k (by omega)
      obtain ⟨b2, off2, e2, hg2⟩ := HC.out.2.2.2.1 (by rw [← HN.out]; omega)
      subst e1
      subst e2
      have y := hg2 k (by rw [← HN.out]; exact hkn)
      have HT := Lib.hid (HLk.out k hkn)
      obtain ⟨z, hz⟩ : ∃ z, z = sf k := ⟨_, rfl⟩
      obtain ⟨x, hx⟩ : ∃ x, x = l.getD k Evt.zero := ⟨_, rfl⟩
      rw [← hz, ← hx] at HT
      rw [← hz] at s1
      rw [← hx] at y
      have EV : Hid (∀ w2, Only [] w w2 → EvCells w2 b2 (off2 + k * 5) x ∧ w2.cell? ⟨b1, k, none⟩ = some (.int .i64 z) ∧ w2.cell? ⟨xb, 0, none⟩ = some (.pointer (some ⟨pe, 0, none⟩)) ∧ w2.cell? ⟨xb, 3, none⟩ = some (.slice (some ⟨b1, 0, none⟩) sl sc) ∧ w2.cell? ⟨pe, 20, none⟩ = some (.slice (some ⟨b2, off2, none⟩) n ec)) := Lib.hid (fun w2 o => ⟨y.keep o, o.keepCell s1 (by simp), o.keepCell HC.out.1 (by simp), o.keepCell HC.out.2.1 (by simp), o.keepCell HC.out.2.2.1 (by simp)⟩)
      obtain ⟨Kk, a, tk, ot, lv⟩ := x
      clear hz hx s1 y hg2
      go_wp2_with fail
      obtain ⟨wq, hwq⟩ : ∃ wq, wq = wr.drew := ⟨_, rfl⟩
      have OQ := Lib.hid (show Only [] w wq from by rw [hwq]; exact OW.out.drew)
      have OWQ := Lib.hid (show wq.ownsRow w.heap.size 91 6 u3 k (flatS (L.take k)) from by rw [hwq]; exact owns_keepO OWN.out (Only.refl _ _).drew)
      have SF : ∀ w2, Only [] w w2 → (w2.cell? ⟨b2, off2 + k * 5, none⟩ = some (.int .i64 Kk) ∧ w2.cell? ⟨b2, off2 + k * 5 + 1, none⟩ = some (.int .i64 a) ∧ w2.cell? ⟨b2, off2 + k * 5 + 2, none⟩ = some (.int .i64 tk) ∧ w2.cell? ⟨b2, off2 + k * 5 + 3, none⟩ = some (.int .i64 ot) ∧ w2.cell? ⟨b2, off2 + k * 5 + 4, none⟩ = some (.int .i64 lv)) ∧ w2.cell? ⟨b1, k, none⟩ = some (.int .i64 z) ∧ w2.cell? ⟨xb, 0, none⟩ = some (.pointer (some ⟨pe, 0, none⟩)) ∧ w2.cell? ⟨xb, 3, none⟩ = some (.slice (some ⟨b1, 0, none⟩) sl sc) ∧ w2.cell? ⟨pe, 20, none⟩ = some (.slice (some ⟨b2, off2, none⟩) n ec) := EV.out
      have SFH := Lib.hid SF
      have sq := SFH.out wr OW.out
      clear SF q0 q3 q20
      refine wp_region_held_drew (S := fun w2 => (w2.cell? ⟨b2, off2 + k * 5, none⟩ = some (.int .i64 Kk) ∧ w2.cell? ⟨b2, off2 + k * 5 + 1, none⟩ = some (.int .i64 a) ∧ w2.cell? ⟨b2, off2 + k * 5 + 2, none⟩ = some (.int .i64 tk) ∧ w2.cell? ⟨b2, off2 + k * 5 + 3, none⟩ = some (.int .i64 ot) ∧ w2.cell? ⟨b2, off2 + k * 5 + 4, none⟩ = some (.int .i64 lv)) ∧ w2.cell? ⟨b1, k, none⟩ = some (.int .i64 z) ∧ w2.cell? ⟨xb, 0, none⟩ = some (.pointer (some ⟨pe, 0, none⟩)) ∧ w2.cell? ⟨xb, 3, none⟩ = some (.slice (some ⟨b1, 0, none⟩) sl sc) ∧ w2.cell? ⟨pe, 20, none⟩ = some (.slice (some ⟨b2, off2, none⟩) n ec)) (by kernel_rfl) sq (fun hHeld => ?_)
      rw [← hwq] at hHeld ⊢
      clear hwq sq
      refine wpAnyH_take (i := 0) (v := ?_) rfl (by kernel_rfl) (by kernel_rfl) (by kernel_rfl) (fun _ _ _ h => h) (Or.inl ⟨by rfl, ?_⟩) (by assumption) ?_
      rotate_left
      · (intro w hSw; (try dsimp only at hSw); obtain ⟨⟨s0, s1, s2, s3, s4⟩, s5, s6, s7, s8⟩ := hSw; go_simp; try with_reducible rfl)
      try simp only [Act.put, List.setIfInBounds_toArray, List.set_cons_zero, List.set_cons_succ]
      refine wpAnyH_take (i := 1) (v := ?_) rfl (by kernel_rfl) (by kernel_rfl) (by kernel_rfl) (fun _ _ _ h => h) (Or.inl ⟨by rfl, ?_⟩) (by assumption) ?_
      rotate_left
      · (intro w hSw; (try dsimp only at hSw); obtain ⟨⟨s0, s1, s2, s3, s4⟩, s5, s6, s7, s8⟩ := hSw; go_simp; try with_reducible rfl)
      try simp only [Act.put, List.setIfInBounds_toArray, List.set_cons_zero, List.set_cons_succ]
      refine wpAnyH_take (i := 2) (v := ?_) rfl (by kernel_rfl) (by kernel_rfl) (by kernel_rfl) (fun _ _ _ h => h) (Or.inl ⟨by rfl, ?_⟩) (by assumption) ?_
      rotate_left
      · (intro w hSw; (try dsimp only at hSw); obtain ⟨⟨s0, s1, s2, s3, s4⟩, s5, s6, s7, s8⟩ := hSw; go_simp; try with_reducible rfl)
      try simp only [Act.put, List.setIfInBounds_toArray, List.set_cons_zero, List.set_cons_succ]
      refine wpAnyH_take (i := 3) (v := ?_) rfl (by kernel_rfl) (by kernel_rfl) (by kernel_rfl) (fun _ _ _ h => h) (Or.inl ⟨by rfl, ?_⟩) (by assumption) ?_
      rotate_left
      · (intro w hSw; (try dsimp only at hSw); obtain ⟨⟨s0, s1, s2, s3, s4⟩, s5, s6, s7, s8⟩ := hSw; go_simp; try with_reducible rfl)
      try simp only [Act.put, List.setIfInBounds_toArray, List.set_cons_zero, List.set_cons_succ]
      refine wpAnyH_take (i := 4) (v := ?_) rfl (by kernel_rfl) (by kernel_rfl) (by kernel_rfl) (fun _ _ _ h => h) (Or.inl ⟨by rfl, ?_⟩) (by assumption) ?_
      rotate_left
      · (intro w hSw; (try dsimp only at hSw); obtain ⟨⟨s0, s1, s2, s3, s4⟩, s5, s6, s7, s8⟩ := hSw; go_simp; try with_reducible rfl)
      try simp only [Act.put, List.setIfInBounds_toArray, List.set_cons_zero, List.set_cons_succ]
      refine wpAnyH_take (i := 5) (v := ?_) rfl (by kernel_rfl) (by kernel_rfl) (by kernel_rfl) (fun _ _ _ h => h) (Or.inl ⟨by rfl, ?_⟩) (by assumption) ?_
      rotate_left
      · (intro w hSw; (try dsimp only at hSw); obtain ⟨⟨s0, s1, s2, s3, s4⟩, s5, s6, s7, s8⟩ := hSw; go_simp; try with_reducible rfl)
      try simp only [Act.put, List.setIfInBounds_toArray, List.set_cons_zero, List.set_cons_succ]
      refine wpAnyH_take (i := 6) (v := ?_) rfl (by kernel_rfl) (by kernel_rfl) (by kernel_rfl) (fun _ _ _ h => h) (Or.inl ⟨by rfl, ?_⟩) (by assumption) ?_
      rotate_left
      · (intro w hSw; (try dsimp only at hSw); obtain ⟨⟨s0, s1, s2, s3, s4⟩, s5, s6, s7, s8⟩ := hSw; go_simp; try with_reducible rfl)
      try simp only [Act.put, List.setIfInBounds_toArray, List.set_cons_zero, List.set_cons_succ]
      refine wpAnyH_take (i := 7) (v := ?_) rfl (by kernel_rfl) (by kernel_rfl) (by kernel_rfl) (fun _ _ _ h => h) (Or.inl ⟨by rfl, ?_⟩) (by assumption) ?_
      rotate_left
      · (intro w hSw; (try dsimp only at hSw); obtain ⟨⟨s0, s1, s2, s3, s4⟩, s5, s6, s7, s8⟩ := hSw; go_simp; try with_reducible rfl)
      try simp only [Act.put, List.setIfInBounds_toArray, List.set_cons_zero, List.set_cons_succ]
      refine wpAnyH_take (i := 8) (v := ?_) rfl (by kernel_rfl) (by kernel_rfl) (by kernel_rfl) (fun _ _ _ h => h) (Or.inl ⟨by rfl, ?_⟩) (by assumption) ?_
      rotate_left
      · (intro w hSw; (try dsimp only at hSw); obtain ⟨⟨s0, s1, s2, s3, s4⟩, s5, s6, s7, s8⟩ := hSw; go_simp; try with_reducible rfl)
      try simp only [Act.put, List.setIfInBounds_toArray, List.set_cons_zero, List.set_cons_succ]
      refine wpAnyH_take (i := 9) (v := ?_) rfl (by kernel_rfl) (by kernel_rfl) (by kernel_rfl) (fun _ _ _ h => h) (Or.inl ⟨by rfl, ?_⟩) (by assumption) ?_
      rotate_left
      · (intro w hSw; (try dsimp only at hSw); obtain ⟨⟨s0, s1, s2, s3, s4⟩, s5, s6, s7, s8⟩ := hSw; go_simp; try with_reducible rfl)
      try simp only [Act.put, List.setIfInBounds_toArray, List.set_cons_zero, List.set_cons_succ]
      refine wpAnyH_take (i := 10) (v := ?_) rfl (by kernel_rfl) (by kernel_rfl) (by kernel_rfl) (fun _ _ _ h => h) (Or.inl ⟨by rfl, ?_⟩) (by assumption) ?_
      rotate_left
      · (intro w hSw; (try dsimp only at hSw); obtain ⟨⟨s0, s1, s2, s3, s4⟩, s5, s6, s7, s8⟩ := hSw; go_simp; try with_reducible rfl)
      try simp only [Act.put, List.setIfInBounds_toArray, List.set_cons_zero, List.set_cons_succ]
      refine wpAnyH_take (i := 11) (v := ?_) rfl (by kernel_rfl) (by kernel_rfl) (by kernel_rfl) (fun _ _ _ h => h) (Or.inl ⟨by rfl, ?_⟩) (by assumption) ?_
      rotate_left
      · (intro w hSw; (try dsimp only at hSw); obtain ⟨⟨s0, s1, s2, s3, s4⟩, s5, s6, s7, s8⟩ := hSw; go_simp; try with_reducible rfl)
      try simp only [Act.put, List.setIfInBounds_toArray, List.set_cons_zero, List.set_cons_succ]
      refine wpAnyH_take (i := 12) (v := ?_) rfl (by kernel_rfl) (by kernel_rfl) (by kernel_rfl) (fun _ _ _ h => h) (Or.inl ⟨by rfl, ?_⟩) (by assumption) ?_
      rotate_left
      · (intro w hSw; (try dsimp only at hSw); obtain ⟨⟨s0, s1, s2, s3, s4⟩, s5, s6, s7, s8⟩ := hSw; go_simp; try with_reducible rfl)
      try simp only [Act.put, List.setIfInBounds_toArray, List.set_cons_zero, List.set_cons_succ]
      refine wpAnyH_take (i := 13) (v := ?_) rfl (by kernel_rfl) (by kernel_rfl) (by kernel_rfl) (fun _ _ _ h => h) (Or.inl ⟨by rfl, ?_⟩) (by assumption) ?_
      rotate_left
      · (intro w hSw; (try dsimp only at hSw); obtain ⟨⟨s0, s1, s2, s3, s4⟩, s5, s6, s7, s8⟩ := hSw; go_simp; try with_reducible rfl)
      try simp only [Act.put, List.setIfInBounds_toArray, List.set_cons_zero, List.set_cons_succ]
      refine wpAnyH_take (i := 14) (v := ?_) rfl (by kernel_rfl) (by kernel_rfl) (by kernel_rfl) (fun _ _ _ h => h) (Or.inl ⟨by rfl, ?_⟩) (by assumption) ?_
      rotate_left
      · (intro w hSw; (try dsimp only at hSw); obtain ⟨⟨s0, s1, s2, s3, s4⟩, s5, s6, s7, s8⟩ := hSw; go_simp; try with_reducible rfl)
      try simp only [Act.put, List.setIfInBounds_toArray, List.set_cons_zero, List.set_cons_succ]
      refine wpAnyH_take (i := 15) (v := ?_) rfl (by kernel_rfl) (by kernel_rfl) (by kernel_rfl) (fun _ _ _ h => h) (Or.inl ⟨by rfl, ?_⟩) (by assumption) ?_
      rotate_left
      · (intro w hSw; (try dsimp only at hSw); obtain ⟨⟨s0, s1, s2, s3, s4⟩, s5, s6, s7, s8⟩ := hSw; go_simp; try with_reducible rfl)
      try simp only [Act.put, List.setIfInBounds_toArray, List.set_cons_zero, List.set_cons_succ]
      refine wpAnyH_take (i := 16) (v := ?_) rfl (by kernel_rfl) (by kernel_rfl) (by kernel_rfl) (fun _ _ _ h => h) (Or.inl ⟨by rfl, ?_⟩) (by assumption) ?_
      rotate_left
      · (intro w hSw; (try dsimp only at hSw); obtain ⟨⟨s0, s1, s2, s3, s4⟩, s5, s6, s7, s8⟩ := hSw; go_simp; try with_reducible rfl)
      try simp only [Act.put, List.setIfInBounds_toArray, List.set_cons_zero, List.set_cons_succ]
      refine wpAnyH_take (i := 17) (v := ?_) rfl (by kernel_rfl) (by kernel_rfl) (by kernel_rfl) (fun _ _ _ h => h) (Or.inl ⟨by rfl, ?_⟩) (by assumption) ?_
      rotate_left
      · (intro w hSw; (try dsimp only at hSw); obtain ⟨⟨s0, s1, s2, s3, s4⟩, s5, s6, s7, s8⟩ := hSw; go_simp; try with_reducible rfl)
      try simp only [Act.put, List.setIfInBounds_toArray, List.set_cons_zero, List.set_cons_succ]
      refine wpAnyH_take (i := 18) (v := ?_) rfl (by kernel_rfl) (by kernel_rfl) (by kernel_rfl) (fun _ _ _ h => h) (Or.inl ⟨by rfl, ?_⟩) (by assumption) ?_
      rotate_left
      · (intro w hSw; (try dsimp only at hSw); obtain ⟨⟨s0, s1, s2, s3, s4⟩, s5, s6, s7, s8⟩ := hSw; go_simp; try with_reducible rfl)
      try simp only [Act.put, List.setIfInBounds_toArray, List.set_cons_zero, List.set_cons_succ]
      refine wpAnyH_ready (rs := [19]) (by kernel_rfl) (by simp) ?_
      refine AllReadyH.cons rfl (fun K hK => ?_) AllReadyH.nil
      go_simp
      obtain ⟨wz, hwz⟩ : ∃ wz, wz = wq.alloc (.cells #[.int .i64 z, .int .i64 Kk, .int .i64 a, .int .i64 tk, .int .i64 ot, .int .i64 lv] 91) := ⟨_, rfl⟩
      obtain ⟨ab, hab⟩ : ∃ ab, ab = wq.heap.size := ⟨_, rfl⟩
      have OZ := Lib.hid (show Only [] wq wz from by rw [hwz]; exact (Only.refl _ _).alloc _)
      have HZ := Lib.hid (show wz.heap[ab]? = some (.cells #[.int .i64 z, .int .i64 Kk, .int .i64 a, .int .i64 tk, .int .i64 ot, .int .i64 lv] 91 (0, 0)) from by rw [hwz, hab]; exact blk_alloc_new _ _)
      try rw [← hwz]
      try rw [← hab]
      clear hwz hab
      refine hK.out _ _ (SFH.out wz (OQ.out.then0 OZ.out)) (fun hHeld => ?_)
      clear hK K
      try simp only [Act.put, List.setIfInBounds_toArray, List.set_cons_zero, List.set_cons_succ]
      refine wpAnyH_ready (rs := [20]) (by kernel_rfl) (by simp) ?_
      refine AllReadyH.cons rfl (fun K hK => ?_) AllReadyH.nil
      rw [if_pos (by rfl)]
      have NWS : ∀ j u, [Value.int .i64 z, .int .i64 Kk, .int .i64 a, .int .i64 tk, .int .i64 ot, .int .i64 lv][j]? = some u → wz.cell? ((⟨ab, 0, none⟩ : Addr).add j) = some u := fun j u hj => by
        rw [Go.WideShapes.add_plain, Nat.zero_add, cell_blk HZ.out]
        simpa using hj
      have hmx : k + 1 ≤ maxLen := by unfold maxLen; omega
      have hbx : (k + 1) * 48 ≤ 140737488355328 := by omega
      have hbs : w.heap.size ≤ wz.heap.size := (OQ.out.then0 OZ.out).size
      refine wp_append_own wz _ _ 42 rfl w.heap.size 91 i _ 6 48 Tryz.underlying42 hi hz0 hsz hby rfl (by decide) u3 k (flatS (L.take k)) rfl (owns_keepO OWQ.out OZ.out) ⟨ab, 0, none⟩ 1 1 [.int .i64 z, .int .i64 Kk, .int .i64 a, .int .i64 tk, .int .i64 ot, .int .i64 lv] rfl rfl NWS (own_six z ⟨Kk, a, tk, ot, lv⟩) hmx hbx hbs ?_
      intro v2 w2 hown2 hgrow2 hnil2
      have P2 := Lib.hid ((OQ.out.then0 OZ.out).grown hgrow2 (fun p hp => .inr (OWQ.out.lt p hp).1))
      have W2 : Hid (w2.ownsRow w.heap.size 91 6 v2 (k + 1) (flatS (L.take (k + 1)))) := Lib.hid (by rw [HT.out, flatS_snoc]; exact hown2)
      clear hown2 hgrow2 hnil2 NWS
      refine hK.out _ _ (SFH.out w2 P2.out) (fun hHeld => ?_)
      clear hK K
      try simp only [Act.put, List.setIfInBounds_toArray, List.set_cons_zero, List.set_cons_succ]
      refine wpAnyH_take (i := 21) (v := ?_) rfl (by kernel_rfl) (by kernel_rfl) (by kernel_rfl) (fun _ _ _ h => h) (Or.inl ⟨by rfl, ?_⟩) (by assumption) ?_
      rotate_left
      · (intro w hSw; (try dsimp only at hSw); obtain ⟨⟨s0, s1, s2, s3, s4⟩, s5, s6, s7, s8⟩ := hSw; go_simp; try with_reducible rfl)
      try simp only [Act.put, List.setIfInBounds_toArray, List.set_cons_zero, List.set_cons_succ]
      refine wpAnyH_done (by kernel_rfl) ?_ _
      go_wp2_with fail
      go_roundg (n - k)
      case measure => omega
      case rel => exact ⟨k + 1, by first | rfl | (congr 1; omega), by omega, by omega, W2.out, P2.out⟩
    · have hk2 : ¬ (k : Int) < (n : Int) := by omega
      have hkn' : k = n := by omega
      subst hkn'
      go_wp2_with fail
      go_ret
      refine ⟨_, rfl, L, ?_, HLn.out.2, OW.out⟩
      have h2 := OWN.out
      rw [← HLn.out.1, List.take_length] at h2
      exact stl_owns h2
end Go.Proofs.YtncnepmgmphanaaGreatDoor

namespace Go.Proofs.YtncnepmgmphanaaGreatDoor
open Go.RowKit Go.Maps Go.WideMaps
def isT (e : Evt) : Bool := decide (e.kind = 1 ∨ e.kind = 3)
def tks (l : List Evt) : List Lit := (l.filter isT).map fun e => .int .i64 e.task
def setT (l : List Evt) : DataW Unit := setOf (.lit (.bool true)) (tks l)
def cntT (l : List Evt) : Nat := Maps.size (setT l)
theorem tks_no {l : List Evt} {e : Evt} (h : isT e = false) : tks (l ++ [e]) = tks l := by simp [tks, List.filter_append, h]
theorem tks_yes {l : List Evt} {e : Evt} (h : isT e = true) : tks (l ++ [e]) = tks l ++ [.int .i64 e.task] := by simp [tks, List.filter_append, h]
theorem tks_key (l : List Evt) : ∀ x ∈ tks l, WideAt.IsKeyLit x := fun x hx => by
  obtain ⟨e, -, rfl⟩ := List.mem_map.1 hx
  trivial
theorem setT_no {l : List Evt} {e : Evt} (h : isT e = false) : setT (l ++ [e]) = setT l := by unfold setT; rw [tks_no h]
theorem setT_yes {l : List Evt} {e : Evt} (h : isT e = true) : setT (l ++ [e]) = (setT l).put (.int .i64 e.task) (.lit (.bool true)) := by unfold setT; rw [tks_yes h, setOf_snoc]
def hasT (l : List Evt) (t : Int) : Bool := (tks l).any fun x => x.sameKey (.int .i64 t)
theorem cntT_no {l : List Evt} {e : Evt} (h : isT e = false) : cntT (l ++ [e]) = cntT l := by unfold cntT; rw [setT_no h]
theorem cntT_yes {l : List Evt} {e : Evt} (h : isT e = true) : cntT (l ++ [e]) = if hasT l e.task then cntT l else cntT l + 1 := by
  unfold cntT
  rw [setT_yes h, Go.Maps.size_put (show Go.Maps.Tidy (setT l) from Go.Maps.tidy_setOf _ _ (tks_key l))]
  have : Go.Maps.has (setT l) (.int .i64 e.task) = hasT l e.task := by unfold setT hasT; rw [Go.Maps.has_setOf _ _ _ (tks_key l)]
  rw [this]
theorem hasT_no {l : List Evt} {e : Evt} {t : Int} (h : isT e = false) : hasT (l ++ [e]) t = hasT l t := by unfold hasT; rw [tks_no h]
theorem hasT_ne {l : List Evt} {e : Evt} {t : Int} (h : e.task ≠ t) : hasT (l ++ [e]) t = hasT l t := by
  cases hi : isT e with
  | false => exact hasT_no hi
  | true =>
    unfold hasT
    rw [tks_yes hi, List.any_append]
    have : (Lit.int .i64 e.task).sameKey (.int .i64 t) = false := by
      show decide (IntKind.i64 = IntKind.i64 ∧ e.task = t) = false
      simp [h]
    simp [this]
theorem hasT_eq {l : List Evt} {e : Evt} {t : Int} (hi : isT e = true) (h : e.task = t) : hasT (l ++ [e]) t = true := by
  unfold hasT
  rw [tks_yes hi, List.any_append]
  have : (Lit.int .i64 e.task).sameKey (.int .i64 t) = true := by
    show decide (IntKind.i64 = IntKind.i64 ∧ e.task = t) = true
    simp [h]
  simp [this]
theorem isT_1 {e : Evt} (h : e.kind = 1) : isT e = true := by simp [isT, h]
theorem isT_3 {e : Evt} (h : e.kind = 3) : isT e = true := by simp [isT, h]
theorem isT_0 {e : Evt} (h1 : e.kind ≠ 1) (h3 : e.kind ≠ 3) : isT e = false := by simp [isT, h1, h3]
theorem setT_nil : setT [] = .map [] := rfl
theorem cntT_le (l : List Evt) : cntT l ≤ l.length := by
  unfold cntT setT
  rw [size_setOf _ _ (tks_key l)]
  have h : ∀ (xs : List Lit) (acc : List Lit), (xs.foldl addKey acc).length ≤ acc.length + xs.length := by
    intro xs
    induction xs with
    | nil => intro acc; simp
    | cons x r ih =>
      intro acc
      rw [List.foldl_cons]
      have := ih (addKey acc x)
      have h2 : (addKey acc x).length ≤ acc.length + 1 := by unfold addKey; split <;> simp
      simp only [List.length_cons]
      omega
  have h1 := h (tks l) []
  have h2 : (tks l).length ≤ l.length := by unfold tks; rw [List.length_map]; exact List.length_filter_le _ _
  simp at h1
  omega
end Go.Proofs.YtncnepmgmphanaaGreatDoor

namespace Go.Proofs.YtncnepmgmphanaaGreatDoor
open Go.RowKit Go.Maps Go.WideMaps
theorem keyedInt : Keyed Tryz.prog 3 := int_keyed Tryz.underlying3
set_option maxRecDepth 100000 in
set_option maxHeartbeats 4000000 in
theorem tasks_any (w : World) (v : Value) (l : List Evt) (h : EL w v l) (hw : ∀ e ∈ l, (Lit.int .i64 e.task).wf = true) (hn : l.length ≤ 1000000) :
    Calls Tryz.prog 24 #[v] w fun e w' => e = .returned (.int .i64 (cntT l)) ∧ Only [] w w' := by
  obtain ⟨ao, cap, rfl, hc, hh⟩ := h
  obtain ⟨n, hnn⟩ : ∃ n, n = l.length := ⟨_, rfl⟩
  have HN := Lib.hid hnn
  have HC := Lib.hid hh
  have HW := Lib.hid hw
  rw [← hnn] at hn hc ⊢
  clear hh hnn hw
  have hmm := @run_makeMap Tryz.prog
  go_enter Tryz.func24, Tryz.ntmps24
  go_wp2_with fail
  go_loopw [9] (fun i wr => ∃ k : Nat, k ≤ n ∧ i = .int .i64 k ∧ wr.ownsMap Tryz.prog 3 (plainElem Tryz.prog 4) w.heap.size k (setT (l.take k)) ∧ Only [] w wr)
    (fun i _ => n - (intOf i).toNat)
  case atStart => exact ⟨0, Nat.zero_le _, rfl, by rw [List.take_zero, setT_nil]; exact World.ownsMap_made _ _ _ _, (Only.refl _ _).alloc _⟩
  case round =>
    obtain ⟨k, hk, rfl, hown, ho⟩ := hrel
    have OWN := Lib.hid hown
    have OW := Lib.hid ho
    have hwl : w.heap.size < wr.heap.size := hown.lt
    clear hown ho
    by_cases hkn : k < n
    · obtain ⟨b, off, rfl, hg⟩ := HC.out (by rw [← HN.out]; omega)
      have hx := (hg k (by rw [← HN.out]; exact hkn)).keep OW.out
      obtain ⟨x, hxx⟩ : ∃ x, x = l.getD k Evt.zero := ⟨_, rfl⟩
      have HM : x ∈ l := by
        rw [hxx, List.getD_eq_getElem?_getD, List.getElem?_eq_getElem (by rw [← HN.out]; exact hkn)]
        exact List.getElem_mem _
      have HT := Lib.hid (show l.take (k + 1) = l.take k ++ [x] from by rw [hxx]; exact take_snoc_getD l _ k (by rw [← HN.out]; exact hkn))
      have HWF := Lib.hid (HW.out x HM)
      rw [← hxx] at hx
      obtain ⟨K, a, tk, ot, lv⟩ := x
      obtain ⟨c0, c1, c2, c3, c4⟩ := hx
      simp only at c0 c1 c2 c3 c4
      have hk1 : (0 : Int) ≤ (k : Int) := by omega
      have hk2 : (k : Int) < (n : Int) := by omega
      have hbl := lt_of_cell c0
      have hmx : k < maxLen := by unfold maxLen; omega
      have hkey : keyOf Tryz.prog 3 (.int .i64 tk) = some (.int .i64 tk) := keyOf_int_mk Tryz.underlying3 HWF.out
      have OWA := Lib.hid (OWN.out.alloc (.cells #[.int .i64 K, .int .i64 a, .int .i64 tk, .int .i64 ot, .int .i64 lv] 27))
      have OA := Lib.hid (OW.out.alloc (.cells #[.int .i64 K, .int .i64 a, .int .i64 tk, .int .i64 ot, .int .i64 lv] 27))
      clear hg hxx HM
      have yes : isT ⟨K, a, tk, ot, lv⟩ = true → ∀ w2 : World, w2.ownsMap Tryz.prog 3 (plainElem Tryz.prog 4) w.heap.size (k + 1) ((setT (l.take k)).put (.int .i64 tk) (.lit (.bool true))) → w2.ownsMap Tryz.prog 3 (plainElem Tryz.prog 4) w.heap.size (k + 1) (setT (l.take (k + 1))) := fun hi w2 h => by
        rw [HT.out, setT_yes hi]
        exact h
      by_cases h1 : K = 1
      · subst h1
        go_wp2_with (first
          | (at_mapUpdate; refine wpList_mapUpdate_own _ rfl _ _ _ 92 rfl 3 4 keyedInt Tryz.underlying92 (plainElem (H := Unit) Tryz.prog 4) w.heap.size k _ rfl OWA.out hmx _ _ _ rfl rfl hkey _ [] (plainElem_bool Tryz.underlying4 true) ?_; intro w1 hown1 hgrow1)
          | go_in)
        go_roundw
        case rel => exact ⟨k + 1, by omega, by first | rfl | (congr 1; omega), yes (isT_1 rfl) _ hown1, OA.out.grown hgrow1 (fun p hp => .inr (by cases hp; exact Nat.le_refl _))⟩
        case measure => simp [intOf]; omega
      by_cases h3 : K = 3
      · subst h3
        go_wp2_with (first
          | (at_mapUpdate; refine wpList_mapUpdate_own _ rfl _ _ _ 92 rfl 3 4 keyedInt Tryz.underlying92 (plainElem (H := Unit) Tryz.prog 4) w.heap.size k _ rfl OWA.out hmx _ _ _ rfl rfl hkey _ [] (plainElem_bool Tryz.underlying4 true) ?_; intro w1 hown1 hgrow1)
          | go_in)
        go_roundw
        case rel => exact ⟨k + 1, by omega, by first | rfl | (congr 1; omega), yes (isT_3 rfl) _ hown1, OA.out.grown hgrow1 (fun p hp => .inr (by cases hp; exact Nat.le_refl _))⟩
        case measure => simp [intOf]; omega
      · have e1 : (K == 1) = false := by simpa using h1
        have e3 : (K == 3) = false := by simpa using h3
        have NO := Lib.hid (show setT (l.take (k + 1)) = setT (l.take k) from by rw [HT.out]; exact setT_no (isT_0 h1 h3))
        go_wp2_with fail
        go_roundw
        case rel => exact ⟨k + 1, by omega, by first | rfl | (congr 1; omega), by rw [NO.out]; exact OWA.out.mono (by omega), OA.out⟩
        case measure => simp [intOf]; omega
    · have hk2 : ¬ (k : Int) < (n : Int) := by omega
      have hkn' : k = n := by omega
      subst hkn'
      go_wp2_with (first
        | (at_len; refine wpList_len_own _ rfl _ 92 rfl 3 4 Tryz.underlying92 _ w.heap.size k _ rfl OWN.out ?_)
        | go_in)
      go_ret
      refine ⟨?_, OW.out⟩
      have hl : l.take k = l := by rw [HN.out]; exact List.take_length
      rw [hl]
      rfl
end Go.Proofs.YtncnepmgmphanaaGreatDoor
