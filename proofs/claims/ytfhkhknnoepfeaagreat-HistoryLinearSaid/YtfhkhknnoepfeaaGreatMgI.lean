/- Linear against the reference's, on any list and on a plan's operations with one number changed: the law walked. -/
import Derived.Test.YtfhkhknnoepfeaaGreatHistRefF
import Derived.Test.YtfhkhknnoepfeaaGreatHistRef5
import Derived.Test.YtfhkhknnoepfeaaGreatHistLin8
import Derived.Test.YtfhkhknnoepfeaaGreatHistLaw1
import Derived.Test.YtfhkhknnoepfeaaGreatMgF
import Derived.Test.YtfhkhknnoepfeaaGreatHistAwake
import Derived.Test.YtfhkhknnoepfeaaGreatHistOpen
namespace Go.Proofs.YtfhkhknnoepfeaaGreat
open Go.RowKit
set_option linter.unusedVariables false
set_option linter.unusedSimpArgs false

def opsOf (rows : List (List Int)) : List HOp := rows.map fun r => ⟨r.getD 0 0, r.getD 1 0, r.getD 2 0, r.getD 3 0, r.getD 4 0, r.getD 5 0⟩
theorem opsOf_len (rows : List (List Int)) : (opsOf rows).length = rows.length := by simp [opsOf]
theorem ol_rows {w : World} {ao : Option Addr} {cap : Nat} {rows : List (List Int)} (h : RowsAt w ao [.i64, .i64, .i64, .i64, .i64, .i64] rows) (hc : rows.length ≤ cap) : OL w (.slice ao rows.length cap) (opsOf rows) := by
  refine ⟨ao, cap, by rw [opsOf_len], by rw [opsOf_len]; exact hc, fun hp => ?_⟩
  rw [opsOf_len] at hp
  obtain ⟨b, off, e, hh⟩ := h hp
  refine ⟨b, off, e, fun i hi => ?_⟩
  rw [opsOf_len] at hi
  have eg : (opsOf rows).getD i HOp.zero = ⟨(rows.getD i []).getD 0 0, (rows.getD i []).getD 1 0, (rows.getD i []).getD 2 0, (rows.getD i []).getD 3 0, (rows.getD i []).getD 4 0, (rows.getD i []).getD 5 0⟩ := by
    unfold opsOf
    rw [List.getD_eq_getElem?_getD, List.getElem?_map, List.getElem?_eq_getElem hi, List.getD_eq_getElem?_getD (l := rows), List.getElem?_eq_getElem hi]
    rfl
  rw [eg]
  have h0 := hh i hi 0 .i64 rfl
  have h1 := hh i hi 1 .i64 rfl
  have h2 := hh i hi 2 .i64 rfl
  have h3 := hh i hi 3 .i64 rfl
  have h4 := hh i hi 4 .i64 rfl
  have h5 := hh i hi 5 .i64 rfl
  simp only [List.length_cons, List.length_nil, Nat.zero_add, Nat.reduceAdd, Nat.add_zero] at h0 h1 h2 h3 h4 h5
  exact ⟨h0, h1, h2, h3, h4, h5⟩
theorem ol_take {w : World} {ao : Option Addr} {n cap : Nat} {l : List HOp} (h : OL w (.slice ao n cap) l) (k : Nat) (hk : k ≤ n) : OL w (.slice ao k cap) (l.take k) := by
  obtain ⟨ao', cap', e, hc, hh⟩ := h
  obtain ⟨rfl, rfl, rfl⟩ : ao = ao' ∧ n = l.length ∧ cap = cap' := by cases e; exact ⟨rfl, rfl, rfl⟩
  have hl : (l.take k).length = k := by rw [List.length_take]; omega
  refine ⟨ao, cap, by rw [hl], by omega, fun hp => ?_⟩
  rw [hl] at hp
  obtain ⟨b, off, e, hg⟩ := hh (by omega)
  refine ⟨b, off, e, fun i hi => ?_⟩
  rw [hl] at hi
  have : (l.take k).getD i HOp.zero = l.getD i HOp.zero := by
    rw [List.getD_eq_getElem?_getD, List.getElem?_take, if_pos hi, List.getD_eq_getElem?_getD]
  rw [this]
  exact hg i (by omega)
def inV (l : List HOp) : Prop := ∀ i, i < l.length → -9223372036854775808 ≤ (l.getD i HOp.zero).value ∧ (l.getD i HOp.zero).value ≤ 9223372036854775807
theorem inV_take {l : List HOp} (h : inV l) (k : Nat) : inV (l.take k) := by
  intro i hi
  rw [List.length_take] at hi
  have : (l.take k).getD i HOp.zero = l.getD i HOp.zero := by
    rw [List.getD_eq_getElem?_getD, List.getElem?_take, if_pos (by omega), List.getD_eq_getElem?_getD]
  rw [this]
  exact h i (by omega)

/-- The list after one number was changed. -/
def opPut (o : HOp) (k : Nat) (v : Int) : HOp := if k = 0 then { o with kind := v } else if k = 1 then { o with frm := v } else if k = 2 then { o with «to» := v } else if k = 3 then { o with code := v } else { o with value := v }
def opAt (o : HOp) (k : Nat) : Int := if k = 0 then o.kind else if k = 1 then o.frm else if k = 2 then o.to else if k = 3 then o.code else o.value
def opOff (k : Nat) : Nat := if k = 0 then 0 else k + 1

theorem opPut_off {k : Nat} (h : k < 5) : opOff k ≤ 5 := by unfold opOff; split <;> omega
theorem op_put {w : World} {g on xcp q k : Nat} {cur : Array Value} {T : TypeId} {ops : List HOp} (hB : w.heap[g]? = some (.cells cur T (0, 0))) (h : OL w (.slice (some ⟨g, 0, none⟩) on xcp) ops) (hon : on = ops.length) (hq : q < on) (hk : k < 5) (nv : Int) :
    OL (w.setCell ⟨g, q * 6 + opOff k, none⟩ (.int .i64 nv)) (.slice (some ⟨g, 0, none⟩) on xcp) (ops.set q (opPut (ops.getD q HOp.zero) k nv)) := by
  subst hon
  obtain ⟨ao', cap', e, hc, hh⟩ := h
  obtain ⟨rfl, rfl⟩ : ao' = some ⟨g, 0, none⟩ ∧ cap' = xcp := by cases e; exact ⟨rfl, rfl⟩
  obtain ⟨b, off, e2, hat⟩ := hh (by omega)
  obtain ⟨rfl, rfl⟩ : g = b ∧ off = 0 := by cases e2; exact ⟨rfl, rfl⟩
  have hoff := opPut_off hk
  refine ⟨some ⟨g, 0, none⟩, cap', by rw [List.length_set], by rw [List.length_set]; exact hc, fun hp => ⟨g, 0, rfl, fun i hi => ?_⟩⟩
  rw [List.length_set] at hi
  have HI := hat i hi
  have st : ∀ j v, w.cell? ⟨g, j, none⟩ = some v → (w.setCell ⟨g, j, none⟩ (.int .i64 nv)).cell? ⟨g, j, none⟩ = some (.int .i64 nv) := fun j v hj => by
    rw [cell_blk hB] at hj
    exact set_cell_at hB (Array.getElem?_eq_some_iff.1 hj).1 _
  obtain ⟨h0, h1, h2, h3, h4, h5⟩ := HI
  by_cases e : i = q
  · subst e
    have hg : (ops.set i (opPut (ops.getD i HOp.zero) k nv)).getD i HOp.zero = opPut (ops.getD i HOp.zero) k nv := by simp [List.getD_eq_getElem?_getD, hi]
    rw [hg]
    rw [Nat.zero_add] at h0 h1 h2 h3 h4 h5 ⊢
    rcases (show k = 0 ∨ k = 1 ∨ k = 2 ∨ k = 3 ∨ k = 4 by omega) with rfl | rfl | rfl | rfl | rfl
    · exact ⟨st _ _ h0, (cell_set_ne (.inr (by simp [opOff]))).trans h1, (cell_set_ne (.inr (by simp [opOff]))).trans h2, (cell_set_ne (.inr (by simp [opOff]))).trans h3, (cell_set_ne (.inr (by simp [opOff]))).trans h4, (cell_set_ne (.inr (by simp [opOff]))).trans h5⟩
    · exact ⟨(cell_set_ne (.inr (by simp [opOff]))).trans h0, (cell_set_ne (.inr (by simp [opOff]))).trans h1, st _ _ h2, (cell_set_ne (.inr (by simp [opOff]))).trans h3, (cell_set_ne (.inr (by simp [opOff]))).trans h4, (cell_set_ne (.inr (by simp [opOff]))).trans h5⟩
    · exact ⟨(cell_set_ne (.inr (by simp [opOff]))).trans h0, (cell_set_ne (.inr (by simp [opOff]))).trans h1, (cell_set_ne (.inr (by simp [opOff]))).trans h2, st _ _ h3, (cell_set_ne (.inr (by simp [opOff]))).trans h4, (cell_set_ne (.inr (by simp [opOff]))).trans h5⟩
    · exact ⟨(cell_set_ne (.inr (by simp [opOff]))).trans h0, (cell_set_ne (.inr (by simp [opOff]))).trans h1, (cell_set_ne (.inr (by simp [opOff]))).trans h2, (cell_set_ne (.inr (by simp [opOff]))).trans h3, st _ _ h4, (cell_set_ne (.inr (by simp [opOff]))).trans h5⟩
    · exact ⟨(cell_set_ne (.inr (by simp [opOff]))).trans h0, (cell_set_ne (.inr (by simp [opOff]))).trans h1, (cell_set_ne (.inr (by simp [opOff]))).trans h2, (cell_set_ne (.inr (by simp [opOff]))).trans h3, (cell_set_ne (.inr (by simp [opOff]))).trans h4, st _ _ h5⟩
  · have hg : (ops.set q (opPut (ops.getD q HOp.zero) k nv)).getD i HOp.zero = ops.getD i HOp.zero := by
      rw [List.getD_eq_getElem?_getD, List.getElem?_set_ne (by omega), List.getD_eq_getElem?_getD]
    rw [hg]
    exact ⟨(cell_set_ne (.inr (by omega))).trans h0, (cell_set_ne (.inr (by omega))).trans h1, (cell_set_ne (.inr (by omega))).trans h2, (cell_set_ne (.inr (by omega))).trans h3, (cell_set_ne (.inr (by omega))).trans h4, (cell_set_ne (.inr (by omega))).trans h5⟩
theorem inV_put {ops : List HOp} (h : inV ops) (q k : Nat) {nv : Int} (hnv : inI nv) : inV (ops.set q (opPut (ops.getD q HOp.zero) k nv)) := by
  intro i hi
  rw [List.length_set] at hi
  by_cases e : i = q
  · subst e
    have hg : (ops.set i (opPut (ops.getD i HOp.zero) k nv)).getD i HOp.zero = opPut (ops.getD i HOp.zero) k nv := by simp [List.getD_eq_getElem?_getD, hi]
    rw [hg]
    have := h i hi
    unfold inI at hnv
    unfold opPut
    split
    · exact this
    · split
      · exact this
      · split
        · exact this
        · split
          · exact this
          · exact hnv
  · have hg : (ops.set q (opPut (ops.getD q HOp.zero) k nv)).getD i HOp.zero = ops.getD i HOp.zero := by
      rw [List.getD_eq_getElem?_getD, List.getElem?_set_ne (by omega), List.getD_eq_getElem?_getD]
    rw [hg]
    exact h i hi

theorem blk_old_to {w V : World} {b : Nat} {o o' : Obj} (hV : V = w.alloc o') (h : w.heap[b]? = some o) : V.heap[b]? = some o := by subst hV; rw [blk_alloc_old (lt_of_blk h)]; exact h
theorem inI_wrap (z : Int) : inI (wrap64 z) := by unfold inI wrap64; omega
theorem inI_wrap2 (z : Int) : inI (IntKind.i64.wrap z) := by rw [IntWalk.i64_left]; exact inI_wrap z
/-- The number that is changed: its address, what it holds, and what stands after the store. -/
theorem target_any {W : World} {g pb mb q on xcp kk : Nat} {ops : List HOp} {c1 : Int} {cur : Array Value} {T T2 T3 : TypeId}
    (hmb : W.heap[mb]? = some (.cells #[.pointer (some ⟨g, q * 6, none⟩), .pointer (some ⟨g, q * 6 + 2, none⟩), .pointer (some ⟨g, q * 6 + 3, none⟩), .pointer (some ⟨g, q * 6 + 4, none⟩), .pointer (some ⟨g, q * 6 + 5, none⟩), .pointer (some ⟨pb, 0, none⟩)] T (0, 0)))
    (hgb : W.heap[g]? = some (.cells cur T2 (0, 0))) (hOL : OL W (.slice (some ⟨g, 0, none⟩) on xcp) ops) (hon : on = ops.length) (hq : q < on) (hpb : W.heap[pb]? = some (.cells #[.int .i64 c1] T3 (0, 0))) (hg : pb ≠ g) (hV : inV ops) (hk : kk < 6) :
    ∃ (tb tp : Nat) (tv : Int), (tb = g ∨ tb = pb) ∧ (∀ w', Only [] W w' → w'.cell? ⟨mb, kk, none⟩ = some (.pointer (some ⟨tb, tp, none⟩)) ∧ w'.cell? ⟨tb, tp, none⟩ = some (.int .i64 tv) ∧ w'.frozen? ⟨tb, tp, none⟩ = false) ∧
      ∀ w' nv, Only [] W w' → inI nv → ∃ (ops' : List HOp) (c' : Int), ops'.length = on ∧ inV ops' ∧ OL (w'.setCell ⟨tb, tp, none⟩ (.int .i64 nv)) (.slice (some ⟨g, 0, none⟩) on xcp) ops' ∧ (w'.setCell ⟨tb, tp, none⟩ (.int .i64 nv)).heap[pb]? = some (.cells #[.int .i64 c'] T3 (0, 0)) := by
  have ho := hOL
  obtain ⟨ao', cap', e, hc, hh⟩ := ho
  obtain ⟨b, off, e2, hat⟩ := hh (by omega)
  obtain ⟨rfl, rfl⟩ : g = b ∧ off = 0 := by cases e; cases e2; exact ⟨rfl, rfl⟩
  obtain ⟨h0, h1, h2, h3, h4, h5⟩ := hat q (by omega)
  rw [Nat.zero_add] at h0 h1 h2 h3 h4 h5
  have own : ∀ k, k < 5 → ∀ w' nv, Only [] W w' → inI nv → ∃ (ops' : List HOp) (c' : Int), ops'.length = on ∧ inV ops' ∧ OL (w'.setCell ⟨g, q * 6 + opOff k, none⟩ (.int .i64 nv)) (.slice (some ⟨g, 0, none⟩) on xcp) ops' ∧ (w'.setCell ⟨g, q * 6 + opOff k, none⟩ (.int .i64 nv)).heap[pb]? = some (.cells #[.int .i64 c'] T3 (0, 0)) := fun k hk w' nv o hnv =>
    ⟨_, c1, by rw [List.length_set]; exact hon.symm, inV_put hV q k hnv, op_put (o.keep hgb (by simp)) (hOL.keep o) hon hq hk nv, by rw [blk_setCell_ne hg]; exact o.keep hpb (by simp)⟩
  have pc : ∀ (w' : World), Only [] W w' → ∀ j, w'.cell? ⟨mb, j, none⟩ = _ := fun w' o j => cell_blk (o.keep hmb (by simp)) j
  rcases (show kk = 0 ∨ kk = 1 ∨ kk = 2 ∨ kk = 3 ∨ kk = 4 ∨ kk = 5 by omega) with rfl | rfl | rfl | rfl | rfl | rfl
  · exact ⟨g, q * 6, _, .inl rfl, fun w' o => ⟨pc w' o 0, o.keepCell h0 (by simp), free_blk (o.keep hgb (by simp)) _⟩, own 0 (by omega)⟩
  · exact ⟨g, q * 6 + 2, _, .inl rfl, fun w' o => ⟨pc w' o 1, o.keepCell h2 (by simp), free_blk (o.keep hgb (by simp)) _⟩, own 1 (by omega)⟩
  · exact ⟨g, q * 6 + 3, _, .inl rfl, fun w' o => ⟨pc w' o 2, o.keepCell h3 (by simp), free_blk (o.keep hgb (by simp)) _⟩, own 2 (by omega)⟩
  · exact ⟨g, q * 6 + 4, _, .inl rfl, fun w' o => ⟨pc w' o 3, o.keepCell h4 (by simp), free_blk (o.keep hgb (by simp)) _⟩, own 3 (by omega)⟩
  · exact ⟨g, q * 6 + 5, _, .inl rfl, fun w' o => ⟨pc w' o 4, o.keepCell h5 (by simp), free_blk (o.keep hgb (by simp)) _⟩, own 4 (by omega)⟩
  · exact ⟨pb, 0, c1, .inr rfl, fun w' o => ⟨pc w' o 5, cell_blk (o.keep hpb (by simp)) 0, free_blk (o.keep hpb (by simp)) _⟩, fun w' nv o hnv =>
      ⟨ops, nv, hon.symm, hV, by
        obtain ⟨a1, a2, a3, a4, a5⟩ := hOL.keep o
        refine ⟨a1, a2, a3, a4, fun hp => ?_⟩
        obtain ⟨b', off', e', hx⟩ := a5 hp
        refine ⟨b', off', e', fun i hi => ?_⟩
        have hbg : b' ≠ pb := by
          have e3 := a3
          rw [e'] at e3
          cases e3
          exact fun h => hg h.symm
        obtain ⟨y0, y1, y2, y3, y4, y5⟩ := hx i hi
        exact ⟨(cell_set_ne (.inl hbg)).trans y0, (cell_set_ne (.inl hbg)).trans y1, (cell_set_ne (.inl hbg)).trans y2, (cell_set_ne (.inl hbg)).trans y3, (cell_set_ne (.inl hbg)).trans y4, (cell_set_ne (.inl hbg)).trans y5⟩,
        by rw [blk_setCell (o.keep hpb (by simp)) 0]; rfl⟩⟩

theorem planRef_any (w : World) (cap : Int) (ob m : Nat) (raw : List Int) (k : Nat) (h : PlanAt w (.slice (some ⟨ob, 0, none⟩) m m) ((List.range m).map (planF m raw k))) (ao : Option Addr) (pcap : Nat) (picks : List Int) (np : Nat) (hn : np = picks.length) (hpk : CellsAt w ao (picks.map (.int .i64))) (hm : 1 ≤ m) (hm2 : m ≤ 100) (hk : k ≤ 1000) (hnp : np ≤ 100000) :
    Calls Tryz.prog 12 #[.int .i64 cap, .slice (some ⟨ob, 0, none⟩) m m, .slice ao np pcap] w (PlayPost w (planOps cap m raw k picks)) := by
  subst hn
  have ha := plan_acts (planF_ok m raw k) (planF_far m raw hm k)
  have hg : ∀ a, a < m → ((List.range m).map (planF m raw k)).getD a [] = planF m raw k a := fun a h => by simp [List.getD_eq_getElem?_getD, h]
  have hp := refPlay_any w cap _ _ h ao pcap picks hpk (by simpa using hm) (by simp; omega) (fun a ha => by
    have ha : a < m := by simpa using ha
    rw [hg a ha]
    have := plan_len m raw hm k a
    omega) hnp (fun x hx => by
      rw [ha] at hx
      have := ((planF_ok m raw k).own x hx).2
      unfold inI; omega) (by
      rw [ha, List.length_map, List.length_range, planF_sum m raw hm k]
      omega)
  rw [ha, List.length_map, List.length_range] at hp
  exact hp

set_option maxRecDepth 100000 in
set_option maxHeartbeats 4000000 in
theorem HistoryLinear_small (w : World) (lv : Value) (l : List HOp) (hl : OL w lv l) (l40 : l.length ≤ 40) (hwf : inV l) (cp which by' : Int) (hcp : inI cp) (raw : List Int) (v1 : Value) (h1 : Ns w v1 raw) (l1 : raw.length ≤ 400) (picks : List Int) (v2 : Value) (h2 : Ns w v2 picks) (l2 : picks.length ≤ 400) :
    Calls Tryz.prog 4 #[lv, .int .i64 cp, v1, v2, .int .i64 which, .int .i64 by'] w fun e w' => e = .returned (.bool true) ∧ Only [] w w' := by
  have H1 := Lib.hid h1
  have H2 := Lib.hid h2
  have HL := Lib.hid hl
  have WF := Lib.hid hwf
  obtain ⟨ao, cp0, rfl, hlc, -⟩ := hl
  obtain ⟨ao1, cap1, rfl, -, -, -⟩ := h1
  obtain ⟨ao2, cap2, rfl, hc2, -, -⟩ := h2
  have HC2 := Lib.hid hc2
  obtain ⟨n, hn⟩ : ∃ n, n = l.length := ⟨_, rfl⟩
  obtain ⟨n1, hn1⟩ : ∃ n1, n1 = raw.length := ⟨_, rfl⟩
  obtain ⟨n2, hn2⟩ : ∃ n2, n2 = picks.length := ⟨_, rfl⟩
  obtain ⟨c, hc⟩ : ∃ c : Int, c = numZ [cp] 0 3 := ⟨_, rfl⟩
  have hcb := numZ_bd [cp] 0 (n := 3) (by omega)
  rw [← hc] at hcb
  have CC := Lib.hid hc
  rw [← hn] at HL l40 hlc ⊢
  rw [← hn1] at H1 l1 ⊢
  rw [← hn2] at H2 l2 ⊢
  have N0 := Lib.hid hn
  have N1 := Lib.hid hn1
  have N2 := Lib.hid hn2
  have SH := fun w' => Lib.hid (short_any (w'.alloc (.cells #[.slice ao1 n1 cap1, .slice ao2 n2 cap2] 23)) none 0 0 (by omega) w'.heap.size 23 (0, 0) [(ao1, n1, cap1), (ao2, n2, cap2)] 2 rfl (by omega) (blk_alloc_new w' _) (by simp; omega))
  rw [show (decide (∀ x ∈ [(ao1, n1, cap1), (ao2, n2, cap2)], x.2.1 ≤ 400) && decide (0 ≤ 400)) = true from by simp; omega] at SH
  have SH1 := SH (w.alloc (.cells #[.int .i64 cp] 3))
  simp only [World.size_alloc] at SH1
  clear hc hn1 hn2 hc2 hwf hn SH
  go_enter Tryz.func4, Tryz.ntmps4
  go_wp2_with fail
  refine SH1.out.mono ?_; rintro e w1 ⟨rfl, rfl⟩
  clear SH1
  go_upto_region 3 with fail
  go_cut [33] (fun s33 wx => ∃ s : Bool, s33 = .bool s ∧ (s = true ↔ 7 < n ∧ n ≤ 12) ∧ wx = (w.alloc (.cells #[.int .i64 cp] 3)).alloc (.cells #[.slice ao1 n1 cap1, .slice ao2 n2 cap2] 23))
  case first =>
    by_cases h7 : 7 < n
    · by_cases h12 : n ≤ 12
      · go_wp2_with fail
        go_meet
        exact ⟨true, by simp; omega, by simp; omega, rfl⟩
      · have h13 : 12 < n := by omega
        go_wp2_with fail
        go_meet
        exact ⟨false, by simp; omega, by simp; omega, rfl⟩
    · have h8 : n ≤ 7 := by omega
      go_wp2_with fail
      go_meet
      exact ⟨false, by rfl, by simp; omega, rfl⟩
  case rest =>
   obtain ⟨s, rfl, hs, rfl⟩ := hcut
   have HS := Lib.hid hs
   clear hs
   go_upto_if 33 with fail
   go_cut [0] (fun s0 wx => ∃ (k : Nat) (l' : List HOp), s0 = .slice ao k cp0 ∧ k = l'.length ∧ k ≤ 40 ∧ OL w (.slice ao k cp0) l' ∧ inV l' ∧ wx = (w.alloc (.cells #[.int .i64 cp] 3)).alloc (.cells #[.slice ao1 n1 cap1, .slice ao2 n2 cap2] 23))
   case first =>
    cases s with
    | true =>
      have h7 : 7 < n := (HS.out.1 rfl).1
      go_wp2_with fail
      go_meet
      exact ⟨7, l.take 7, by first | rfl | (simp; done), by rw [List.length_take, ← N0.out]; omega, by omega, ol_take HL.out 7 (by omega), inV_take WF.out 7, rfl⟩
    | false =>
      go_wp2_with fail
      go_meet
      exact ⟨n, l, rfl, N0.out, l40, HL.out, WF.out, rfl⟩
   case rest =>
    obtain ⟨k, l', rfl, hk, hk40, hol, hin, rfl⟩ := hcut
    have K0 := Lib.hid hk
    have OLD := Lib.hid hol
    have INV := Lib.hid hin
    clear hk hol hin HL WF N0 l40 hlc
    obtain ⟨W2, hW2⟩ : ∃ W2, W2 = (w.alloc (.cells #[.int .i64 cp] 3)).alloc (.cells #[.slice ao1 n1 cap1, .slice ao2 n2 cap2] 23) := ⟨_, rfl⟩
    rw [← hW2]
    obtain ⟨pb, hpb⟩ : ∃ pb, pb = w.heap.size := ⟨_, rfl⟩
    rw [← hpb]
    have O2 : Hid (Only [] w W2) := Lib.hid (by rw [hW2]; exact ((Only.refl _ _).alloc _).alloc _)
    have hB : W2.heap[pb]? = some (.cells #[.int .i64 cp] 3 (0, 0)) := by
      rw [hW2, hpb, blk_alloc_old (by simp)]; exact blk_alloc_new w _
    have hpw : w.heap.size ≤ pb := by omega
    have HB := Lib.hid hB
    have PCELL : ∀ w', Only [] W2 w' → w'.cell? ⟨pb, 0, none⟩ = some (.int .i64 cp) := fun w' o => cell_blk (o.keep hB (by simp)) 0
    have AW := fun w' => Lib.hid (awake_any w')
    have L1 := fun w' (o : Only [] W2 w') => Lib.hid (linear_any w' (.slice ao k cp0) l' cp (OLD.out.keep (O2.out.then0 o)) INV.out)
    have L2 := fun w' (o : Only [] W2 w') => Lib.hid (refLinear_any w' (.slice ao k cp0) l' cp (OLD.out.keep (O2.out.then0 o)) (by rw [← K0.out]; omega))
    obtain ⟨r, hr⟩ : ∃ r, r = linB l' cp := ⟨_, rfl⟩
    rw [← hr] at L1 L2
    clear hr hW2 hpb hB
    go_upto_region 5 with fail
    go_cut [46] (fun s46 wx => s46 = .bool false ∧ Only [] W2 wx)
    case first =>
      go_region_held3 (fun w' => w'.cell? ⟨pb, 0, none⟩ = some (.int .i64 cp))
        (with_reducible refine PCELL _ ?_; (repeat (with_reducible refine Only.drew ?_)); (first | with_reducible exact Only.refl _ _ | with_reducible assumption))
        ((first
          | (go_at_call 9
             refine (AW _).out.mono ?_
             rintro e w3 ⟨rfl, o3⟩
             have QA : Only [] W2 w3 := Only.then0 (by (repeat (with_reducible refine Only.drew ?_)); (first | with_reducible exact Only.refl _ _ | with_reducible assumption)) o3
             clear o3)
          | (go_at_call 13
             refine (L1 _ (by (repeat (with_reducible refine Only.drew ?_)); (first | with_reducible exact Only.refl _ _ | with_reducible assumption))).out.mono ?_
             rintro e w4 ⟨rfl, o4⟩
             have QB : Only [] W2 w4 := Only.then0 (by (repeat (with_reducible refine Only.drew ?_)); (first | with_reducible exact Only.refl _ _ | with_reducible assumption)) o4
             clear o4)
          | (go_at_call 14
             refine (L2 _ (by (repeat (with_reducible refine Only.drew ?_)); (first | with_reducible exact Only.refl _ _ | with_reducible assumption))).out.mono ?_
             rintro e w5 ⟨rfl, o5⟩
             have QC : Only [] W2 w5 := Only.then0 (by (repeat (with_reducible refine Only.drew ?_)); (first | with_reducible exact Only.refl _ _ | with_reducible assumption)) o5
             clear o5)))
      all_goals
        go_wp2_with fail
        go_meet
        exact ⟨rfl, by (repeat (with_reducible refine Only.drew ?_)); (first | with_reducible exact Only.refl _ _ | with_reducible assumption)⟩
    case rest =>
      obtain ⟨rfl, hO⟩ := hcut
      have O3 := Lib.hid (O2.out.then0 hO)
      have HB3 := Lib.hid (hO.keep HB.out (by simp))
      have pc3 := cell_blk HB3.out 0
      simp at pc3
      obtain ⟨W3, hW3⟩ : ∃ W3, W3 = wc := ⟨_, rfl⟩
      subst hW3
      have NM := Lib.hid (number_any (W3.alloc (.cells #[.int .i64 cp] 3)) (.slice (some ⟨W3.heap.size, 0, none⟩) 1 1) [cp] 0 3 (ns_new (T := 3) (f := (0, 0)) [cp] (blk_alloc_new W3 _) rfl) (by omega) (by simp) (by omega))
      rw [← CC.out] at NM
      clear hO HB AW L1 L2 PCELL O2 OLD INV K0 HS
      go_wp2_with fail
      refine NM.out.mono ?_; rintro e w4 ⟨rfl, o4⟩
      have O34 := ((Only.refl [] W3).alloc (.cells #[.int .i64 cp] 3)).then0 o4
      have HB4 := Lib.hid (O34.keep HB3.out (by simp))
      have O4 := Lib.hid (O3.out.then0 O34)
      clear O34 o4 NM pc3 HB3 O3
      have pb4 := cell_blk HB4.out 0
      simp at pb4
      have ff := free_blk HB4.out 0
      have hpl := lt_of_blk HB4.out
      go_upto_region 8 with fail
      obtain ⟨w5, hw5⟩ : ∃ w5, w5 = w4.setCell ⟨pb, 0, none⟩ (.int .i64 (1 + c)) := ⟨_, rfl⟩
      rw [← hw5]
      have HB5 := Lib.hid (show w5.heap[pb]? = some (.cells #[.int .i64 (1 + c)] 3 (0, 0)) from by rw [hw5, blk_setCell HB4.out 0]; rfl)
      have O5 : Hid (Only [] w w5) := Lib.hid (by rw [hw5]; exact O4.out.setCell (.inr hpw) _)
      have hpl5 := lt_of_blk HB5.out
      clear pb4 ff hpl O4 HB4 hw5
      have PCELL : ∀ w', Only [] w5 w' → w'.cell? ⟨pb, 0, none⟩ = some (.int .i64 (1 + c)) := fun w' o => cell_blk (o.keep HB5.out (by simp)) 0
      have PL := fun w' (o : Only [] w5 w') => Lib.hid (plan_any w' (.slice ao1 n1 cap1) raw 7 (by have := H1.out.keep (O5.out.then0 o); exact this) (by rw [← N1.out]; omega) (by omega))
      have hnb := numZ_bd raw 0 (n := 3) (by omega)
      obtain ⟨S, hS⟩ : ∃ S, S = min (raw.length - 1) 7 := ⟨_, rfl⟩
      have hS7 : S ≤ 7 := by omega
      have SH2 := Lib.hid hS
      clear hS
      go_cut [13] (fun s13 wx => ∃ (on : Nat) (ops : List HOp) (xao : Option Addr) (xcp : Nat), s13 = .slice xao on xcp ∧ on = ops.length ∧ on ≤ 7 ∧ inV ops ∧ wx.ownsRow (pb + 1) 36 6 (.slice xao on xcp) on (flatO ops) ∧ wx.heap[pb]? = some (.cells #[.int .i64 (1 + c)] 3 (0, 0)) ∧ Only [] w wx)
      case first =>
        go_region_held3 (fun w' => w'.cell? ⟨pb, 0, none⟩ = some (.int .i64 (1 + c)))
          (with_reducible refine PCELL _ ?_; (repeat (with_reducible refine Only.drew ?_)); (first | with_reducible exact Only.refl _ _ | with_reducible assumption))
          ((first
            | (go_at_call 7
               refine (PL _ (by (repeat (with_reducible refine Only.drew ?_)); (first | with_reducible exact Only.refl _ _ | with_reducible assumption))).out.mono ?_
               rintro e w6 ⟨m, ob, B, vs, hm, rfl, hP⟩
               rw [← SH2.out] at hP
               have Q6 : Only [] w5 w6 := Only.then0 (by (repeat (with_reducible refine Only.drew ?_)); (first | with_reducible exact Only.refl _ _ | with_reducible assumption)) hP.F
               have PA := Lib.hid hP.planAt
               have hm2 : 2 ≤ m ∧ m ≤ 4 := by omega
               clear hP hm)
            | (go_at_call 12
               refine (planRef_any _ (1 + c) ob m raw S (PA.out.keep0 (by (repeat (with_reducible refine Only.drew ?_)); (first | with_reducible exact Only.refl _ _ | with_reducible assumption))) ao2 cap2 picks n2 N2.out (HC2.out.keep0 (O5.out.then0 (by (repeat (with_reducible refine Only.drew ?_)); (first | with_reducible exact Only.refl _ _ | with_reducible assumption)))) (by omega) (by omega) (by omega) (by omega)).mono ?_
               rintro e w7 ⟨v, rfl, hown, o7⟩
               have Q7 : Only [] w5 w7 := Only.then0 (by (repeat (with_reducible refine Only.drew ?_)); (first | with_reducible exact Only.refl _ _ | with_reducible assumption)) o7
               have XO := Lib.hid (owns_mono hown (show pb + 1 ≤ _ from by have := Q6.size; simp; omega))
               obtain ⟨xao, xcp, rfl⟩ := owns_sl hown
               clear hown o7)))
        all_goals
          go_wp2_with fail
          go_meet
          have PD := planOps_spec (1 + c) m raw S picks (by omega) (by omega) (by rw [← N2.out]; omega)
          exact ⟨_, _, _, _, rfl, rfl, by rw [PD.len]; omega, getD_vals (planOps_vals PD), by exact XO.out, by exact Only.keep (by (repeat (with_reducible refine Only.drew ?_)); (first | with_reducible exact Only.refl _ _ | with_reducible assumption)) HB5.out (by simp), O5.out.then0 (by (repeat (with_reducible refine Only.drew ?_)); (first | with_reducible exact Only.refl _ _ | with_reducible assumption))⟩
      case rest =>
        obtain ⟨on, ops, xao, xcp, rfl, hon, hon7, hV, hXO, hHB, hO⟩ := hcut
        have ON := Lib.hid hon
        have VX := Lib.hid hV
        have XO := Lib.hid hXO
        have HB6 := Lib.hid hHB
        have O6 := Lib.hid hO
        clear hon hV hXO hHB hO PL PCELL HB5 O5 SH2 hS7 hnb hpl5 HC2 H1 H2 N1 N2 CC
        obtain ⟨w6, hw6⟩ : ∃ w6, w6 = wc := ⟨_, rfl⟩
        subst hw6
        go_upto_if 58 with fail
        go_cut [] (fun wx => ∃ (ops' : List HOp) (c' : Int), ops'.length = on ∧ inV ops' ∧ OL wx (.slice xao on xcp) ops' ∧ wx.heap[pb]? = some (.cells #[.int .i64 c'] 3 (0, 0)) ∧ Only [] w wx)
        case first =>
          obtain ⟨hxl, ⟨hx1, hx2⟩ | ⟨g, xcap, cur, hxe, hgb, hgh, hgn, hgc, hgs, hgt⟩⟩ := XO.out
          · simp at hx1
            obtain ⟨rfl, -, rfl⟩ := hx1
            subst hx2
            clear hxl
            go_wp2_with fail
            go_meet
            exact ⟨ops, 1 + c, ON.out.symm, VX.out, ops_owns XO.out ON.out, HB6.out, O6.out⟩
          · simp at hxe
            obtain ⟨rfl, rfl⟩ := hxe
            by_cases h0 : on = 0
            · subst h0
              clear hxl hgh hgn hgc hgs hgt
              go_wp2_with fail
              go_meet
              exact ⟨ops, 1 + c, ON.out.symm, VX.out, ops_owns XO.out ON.out, HB6.out, O6.out⟩
            · have hpos : 0 < on := by omega
              have GH := Lib.hid hgh
              have GB := Lib.hid hgb
              clear h0 hxl hgh hgn hgc hgs hgt
              have NM := fun z => Lib.hid (number_any (w6.alloc (.cells #[.int .i64 z] 3)) (.slice (some ⟨w6.heap.size, 0, none⟩) 1 1) [z] 0 on (ns_new (T := 3) (f := (0, 0)) [z] (blk_alloc_new w6 _) rfl) (by omega) (by simp) (by omega))
              have NB := fun z => Lib.hid (numZ_bd [z] 0 (n := (on : Int)) (by omega))
              go_wp2_with fail
              refine (NM _).out.mono ?_; rintro e w7 ⟨rfl, o7⟩
              obtain ⟨q, hq⟩ : ∃ q : Nat, (q : Int) = numZ [wrap64 (which.tdiv 6)] 0 on := ⟨(numZ [wrap64 (which.tdiv 6)] 0 on).toNat, by have := (NB (wrap64 (which.tdiv 6))).out; omega⟩
              have hqn : q < on := by have := (NB (wrap64 (which.tdiv 6))).out; omega
              rw [← hq]
              have Q7 : Hid (Only [] w6 w7) := Lib.hid (((Only.refl [] w6).alloc (.cells #[.int .i64 (wrap64 (which.tdiv 6))] 3)).then0 o7)
              clear NM NB hq o7
              go_upto_region 11 with fail
              go_region
              all_goals
                go_upto_region 12 with fail
                obtain ⟨mb, hmb⟩ : ∃ mb, mb = w7.heap.size := ⟨_, rfl⟩
                obtain ⟨W8, hW8⟩ : ∃ W8, W8 = (w7.alloc (.cells #[.pointer (some ⟨g, q * 6, none⟩), .pointer (some ⟨g, q * 6 + 2, none⟩), .pointer (some ⟨g, q * 6 + 3, none⟩), .pointer (some ⟨g, q * 6 + 4, none⟩), .pointer (some ⟨g, q * 6 + 5, none⟩), .pointer (some ⟨pb, 0, none⟩)] 37)).drew := ⟨_, rfl⟩
                rw [← hW8, ← hmb]
                have O78 : Only [] w7 W8 := by rw [hW8]; exact ((Only.refl _ _).alloc _).drew
                have MB : W8.heap[mb]? = some (.cells #[.pointer (some ⟨g, q * 6, none⟩), .pointer (some ⟨g, q * 6 + 2, none⟩), .pointer (some ⟨g, q * 6 + 3, none⟩), .pointer (some ⟨g, q * 6 + 4, none⟩), .pointer (some ⟨g, q * 6 + 5, none⟩), .pointer (some ⟨pb, 0, none⟩)] 37 (0, 0)) := by rw [hW8, hmb]; exact blk_alloc_new w7 _
                have O68 := Q7.out.then0 O78
                obtain ⟨kk, hkk⟩ : ∃ kk : Nat, (kk : Int) = numZ [which] 0 6 := ⟨(numZ [which] 0 6).toNat, by have := numZ_bd [which] 0 (n := 6) (by omega); omega⟩
                have hkb := numZ_bd [which] 0 (n := 6) (by omega)
                rw [← hkk] at hkb
                obtain ⟨tb, tp, tv, htb, TS, TP⟩ := target_any (kk := kk) (q := q) MB (O68.keep GH.out (by simp)) ((ops_owns XO.out ON.out).keep O68) ON.out hqn (O68.keep HB6.out (by simp)) (by have := GB.out; omega) VX.out (by omega)
                have htw : w.heap.size ≤ tb := by have := GB.out; omega
                obtain ⟨d, hd⟩ : ∃ d : Int, d = numZ [by'] 0 9 := ⟨_, rfl⟩
                have NA := fun w' b (hb : w'.heap[b]? = some (.cells #[.int .i64 which] 3 (0, 0))) => Lib.hid (number_any w' (.slice (some ⟨b, 0, none⟩) 1 1) [which] 0 6 (ns_new [which] hb rfl) (by omega) (by simp) (by omega))
                have NB := fun w' b (hb : w'.heap[b]? = some (.cells #[.int .i64 by'] 3 (0, 0))) => Lib.hid (number_any w' (.slice (some ⟨b, 0, none⟩) 1 1) [by'] 0 9 (ns_new [by'] hb rfl) (by omega) (by simp) (by omega))
                rw [← hkk] at NA
                rw [← hd] at NB
                have O8 := Lib.hid (O6.out.then0 O68)
                have TPH := Lib.hid TP
                have hne : mb ≠ tb := by
                  have h1 := lt_of_blk GH.out
                  have h2 := lt_of_blk HB6.out
                  have h3 := Q7.out.size
                  omega
                have S12 : ∀ w', Only [] W8 w' → w'.cell? ⟨mb, kk, none⟩ = some (.pointer (some ⟨tb, tp, none⟩)) := fun w' o => (TS w' o).1
                have S12s : ∀ w' u, Only [] W8 w' → (w'.setCell ⟨tb, tp, none⟩ u).cell? ⟨mb, kk, none⟩ = some (.pointer (some ⟨tb, tp, none⟩)) := fun w' u o => (cell_set_ne (.inl hne)).trans (TS w' o).1
                have FIN : ∀ (V : World) (nv : Int), Only [] W8 V → inI nv → ∃ (ops' : List HOp) (c' : Int), ops'.length = on ∧ inV ops' ∧ OL (V.setCell ⟨tb, tp, none⟩ (.int .i64 nv)) (.slice (some ⟨g, 0, none⟩) on xcp) ops' ∧ (V.setCell ⟨tb, tp, none⟩ (.int .i64 nv)).heap[pb]? = some (.cells #[.int .i64 c'] 3 (0, 0)) ∧ Only [] w (V.setCell ⟨tb, tp, none⟩ (.int .i64 nv)) := fun V nv o h => by
                  obtain ⟨ops', c', h1, h2, h3, h4⟩ := TPH.out V nv o h
                  exact ⟨ops', c', h1, h2, h3, h4, (O8.out.then0 o).setCell (.inr htw) _⟩
                clear hmb hW8 O78 MB O68 hkk htb hd TP hne
                refine wp_region_held_drew (S := fun w' => w'.cell? ⟨mb, kk, none⟩ = some (.pointer (some ⟨tb, tp, none⟩))) (by kernel_rfl) (S12 _ (Only.refl _ _).drew) (fun hHeld => ?_)
                obtain ⟨W9, hW9⟩ : ∃ W9, W9 = W8.drew := ⟨_, rfl⟩
                have QW9 : Only [] W8 W9 := by rw [hW9]; exact (Only.refl _ _).drew
                rw [← hW9]
                clear hW9
                --<R12
                refine wpAnyH_take (i := 0) (v := ?_) rfl (by kernel_rfl) (by kernel_rfl) (by kernel_rfl) (fun _ _ _ h => h) (Or.inl ⟨by rfl, ?_⟩) (S12 _ QW9) ?_
                rotate_left
                · (intro w hSw; (try dsimp only at hSw); go_simp; try with_reducible rfl)
                try simp only [Act.put, List.setIfInBounds_toArray, List.set_cons_zero, List.set_cons_succ]
                refine wpAnyH_take (i := 1) (v := ?_) rfl (by kernel_rfl) (by kernel_rfl) (by kernel_rfl) (fun _ _ _ h => h) (Or.inl ⟨by rfl, ?_⟩) (S12 _ QW9) ?_
                rotate_left
                · (intro w hSw; (try dsimp only at hSw); go_simp; try with_reducible rfl)
                try simp only [Act.put, List.setIfInBounds_toArray, List.set_cons_zero, List.set_cons_succ]
                refine wpAnyH_take (i := 8) (v := ?_) rfl (by kernel_rfl) (by kernel_rfl) (by kernel_rfl) (fun _ _ _ h => h) (Or.inl ⟨by rfl, ?_⟩) (S12 _ QW9) ?_
                rotate_left
                · (intro w hSw; (try dsimp only at hSw); go_simp; try with_reducible rfl)
                try simp only [Act.put, List.setIfInBounds_toArray, List.set_cons_zero, List.set_cons_succ]
                refine wpAnyH_ready (rs := [2, 9]) (by kernel_rfl) (by simp) ?_
                refine AllReadyH.cons rfl (fun K hK => ?_) (AllReadyH.cons rfl (fun K hK => ?_) AllReadyH.nil)
                · go_simp
                  obtain ⟨V1, hV⟩ : ∃ V, V = W9.alloc (.cells #[.int .i64 which] 3) := ⟨_, rfl⟩
                  rw [← hV]
                  obtain ⟨b1, hb⟩ : ∃ b, b = W9.heap.size := ⟨_, rfl⟩
                  try rw [← hb]
                  have F1 : V1.heap[b1]? = some (.cells #[.int .i64 which] 3 (0, 0)) := by rw [hV, hb]; exact blk_alloc_new _ _
                  have QV1 : Only [] W8 V1 := by rw [hV]; exact QW9.alloc _
                  clear hV hb
                  refine hK.out _ _ (S12 _ QV1) (fun hHeld => ?_)
                  clear hK K
                  try simp only [Act.put, List.setIfInBounds_toArray, List.set_cons_zero, List.set_cons_succ]
                  refine wpAnyH_ready (rs := [3, 9]) (by kernel_rfl) (by simp) ?_
                  refine AllReadyH.cons rfl (fun K hK => ?_) (AllReadyH.cons rfl (fun K hK => ?_) AllReadyH.nil)
                  · go_simp
                    refine (NA _ _ F1).out.mono ?_; rintro e V2 ⟨rfl, o⟩
                    have QV2 : Only [] W8 V2 := QV1.then0 o
                    clear o
                    refine hK.out _ _ (S12 _ QV2) (fun hHeld => ?_)
                    clear hK K
                    try simp only [Act.put, List.setIfInBounds_toArray, List.set_cons_zero, List.set_cons_succ]
                    refine wpAnyH_take (i := 4) (v := ?_) rfl (by kernel_rfl) (by kernel_rfl) (by kernel_rfl) (fun _ _ _ h => h) (Or.inl ⟨by rfl, ?_⟩) (S12 _ QV2) ?_
                    rotate_left
                    · (intro w hSw; (try dsimp only at hSw); go_simp; try with_reducible rfl)
                    try simp only [Act.put, List.setIfInBounds_toArray, List.set_cons_zero, List.set_cons_succ]
                    refine wpAnyH_take (i := 5) (v := ?_) rfl (by kernel_rfl) (by kernel_rfl) (by kernel_rfl) (fun _ _ _ h => h) (Or.inl ⟨by rfl, ?_⟩) (S12 _ QV2) ?_
                    rotate_left
                    · (intro w hSw; (try dsimp only at hSw); go_simp; try with_reducible rfl)
                    try simp only [Act.put, List.setIfInBounds_toArray, List.set_cons_zero, List.set_cons_succ]
                    refine wpAnyH_take (i := 6) (v := ?_) rfl (by kernel_rfl) (by kernel_rfl) (by kernel_rfl) (fun _ _ _ h => h) (Or.inl ⟨by rfl, ?_⟩) (S12 _ QV2) ?_
                    rotate_left
                    · (intro w hSw; (try dsimp only at hSw); go_simp; try with_reducible rfl)
                    try simp only [Act.put, List.setIfInBounds_toArray, List.set_cons_zero, List.set_cons_succ]
                    refine wpAnyH_ready (rs := [7, 9]) (by kernel_rfl) (by simp) ?_
                    refine AllReadyH.cons rfl (fun K hK => ?_) (AllReadyH.cons rfl (fun K hK => ?_) AllReadyH.nil)
                    · have c7 := (TS _ QV2).2.1
                      go_simp
                      refine hK.out _ _ (S12 _ QV2) (fun hHeld => ?_)
                      clear hK K c7
                      try simp only [Act.put, List.setIfInBounds_toArray, List.set_cons_zero, List.set_cons_succ]
                      refine wpAnyH_ready (rs := [9]) (by kernel_rfl) (by simp) ?_
                      refine AllReadyH.cons rfl (fun K hK => ?_) AllReadyH.nil
                      go_simp
                      obtain ⟨V4, hV⟩ : ∃ V, V = V2.alloc (.cells #[.int .i64 by'] 3) := ⟨_, rfl⟩
                      rw [← hV]
                      obtain ⟨b4, hb⟩ : ∃ b, b = V2.heap.size := ⟨_, rfl⟩
                      try rw [← hb]
                      have F4 : V4.heap[b4]? = some (.cells #[.int .i64 by'] 3 (0, 0)) := by rw [hV, hb]; exact blk_alloc_new _ _
                      have QV4 : Only [] W8 V4 := by rw [hV]; exact QV2.alloc _
                      clear hV hb
                      refine hK.out _ _ (S12 _ QV4) (fun hHeld => ?_)
                      clear hK K
                      try simp only [Act.put, List.setIfInBounds_toArray, List.set_cons_zero, List.set_cons_succ]
                      refine wpAnyH_ready (rs := [10]) (by kernel_rfl) (by simp) ?_
                      refine AllReadyH.cons rfl (fun K hK => ?_) AllReadyH.nil
                      go_simp
                      refine (NB _ _ F4).out.mono ?_; rintro e V5 ⟨rfl, o⟩
                      have QV5 : Only [] W8 V5 := QV4.then0 o
                      clear o
                      refine hK.out _ _ (S12 _ QV5) (fun hHeld => ?_)
                      clear hK K
                      try simp only [Act.put, List.setIfInBounds_toArray, List.set_cons_zero, List.set_cons_succ]
                      refine wpAnyH_take (i := 11) (v := ?_) rfl (by kernel_rfl) (by kernel_rfl) (by kernel_rfl) (fun _ _ _ h => h) (Or.inl ⟨by rfl, ?_⟩) (S12 _ QV5) ?_
                      rotate_left
                      · (intro w hSw; (try dsimp only at hSw); go_simp; try with_reducible rfl)
                      try simp only [Act.put, List.setIfInBounds_toArray, List.set_cons_zero, List.set_cons_succ]
                      refine wpAnyH_take (i := 12) (v := ?_) rfl (by kernel_rfl) (by kernel_rfl) (by kernel_rfl) (fun _ _ _ h => h) (Or.inl ⟨by rfl, ?_⟩) (S12 _ QV5) ?_
                      rotate_left
                      · (intro w hSw; (try dsimp only at hSw); go_simp; try with_reducible rfl)
                      try simp only [Act.put, List.setIfInBounds_toArray, List.set_cons_zero, List.set_cons_succ]
                      refine wpAnyH_take (i := 13) (v := ?_) rfl (by kernel_rfl) (by kernel_rfl) (by kernel_rfl) (fun _ _ _ h => h) (Or.inl ⟨by rfl, ?_⟩) (S12 _ QV5) ?_
                      rotate_left
                      · (intro w hSw; (try dsimp only at hSw); go_simp; try with_reducible rfl)
                      try simp only [Act.put, List.setIfInBounds_toArray, List.set_cons_zero, List.set_cons_succ]
                      refine wpAnyH_ready (rs := [14]) (by kernel_rfl) (by simp) ?_
                      refine AllReadyH.cons rfl (fun K hK => ?_) AllReadyH.nil
                      have c7 := (TS _ QV5).2.1
                      have f7 := (TS _ QV5).2.2
                      have l7 := lt_of_cell c7
                      go_simp
                      refine hK.out _ _ (S12s _ _ QV5) (fun hHeld => ?_)
                      clear hK K c7 f7 l7
                      try simp only [Act.put, List.setIfInBounds_toArray, List.set_cons_zero, List.set_cons_succ]
                      refine wpAnyH_done (by kernel_rfl) ?_ _
                      clear hHeld
                      go_wp2_with fail
                      go_meet
                      exact FIN V5 _ QV5 (by first | exact inI_wrap _ | exact inI_wrap2 _)
                    · go_simp
                      obtain ⟨V7, hV⟩ : ∃ V, V = V2.alloc (.cells #[.int .i64 by'] 3) := ⟨_, rfl⟩
                      rw [← hV]
                      obtain ⟨b7, hb⟩ : ∃ b, b = V2.heap.size := ⟨_, rfl⟩
                      try rw [← hb]
                      have F7 : V7.heap[b7]? = some (.cells #[.int .i64 by'] 3 (0, 0)) := by rw [hV, hb]; exact blk_alloc_new _ _
                      have QV7 : Only [] W8 V7 := by rw [hV]; exact QV2.alloc _
                      clear hV hb
                      refine hK.out _ _ (S12 _ QV7) (fun hHeld => ?_)
                      clear hK K
                      try simp only [Act.put, List.setIfInBounds_toArray, List.set_cons_zero, List.set_cons_succ]
                      refine wpAnyH_ready (rs := [7, 10]) (by kernel_rfl) (by simp) ?_
                      refine AllReadyH.cons rfl (fun K hK => ?_) (AllReadyH.cons rfl (fun K hK => ?_) AllReadyH.nil)
                      · have c7 := (TS _ QV7).2.1
                        go_simp
                        refine hK.out _ _ (S12 _ QV7) (fun hHeld => ?_)
                        clear hK K c7
                        try simp only [Act.put, List.setIfInBounds_toArray, List.set_cons_zero, List.set_cons_succ]
                        refine wpAnyH_ready (rs := [10]) (by kernel_rfl) (by simp) ?_
                        refine AllReadyH.cons rfl (fun K hK => ?_) AllReadyH.nil
                        go_simp
                        refine (NB _ _ F7).out.mono ?_; rintro e V9 ⟨rfl, o⟩
                        have QV9 : Only [] W8 V9 := QV7.then0 o
                        clear o
                        refine hK.out _ _ (S12 _ QV9) (fun hHeld => ?_)
                        clear hK K
                        try simp only [Act.put, List.setIfInBounds_toArray, List.set_cons_zero, List.set_cons_succ]
                        refine wpAnyH_take (i := 11) (v := ?_) rfl (by kernel_rfl) (by kernel_rfl) (by kernel_rfl) (fun _ _ _ h => h) (Or.inl ⟨by rfl, ?_⟩) (S12 _ QV9) ?_
                        rotate_left
                        · (intro w hSw; (try dsimp only at hSw); go_simp; try with_reducible rfl)
                        try simp only [Act.put, List.setIfInBounds_toArray, List.set_cons_zero, List.set_cons_succ]
                        refine wpAnyH_take (i := 12) (v := ?_) rfl (by kernel_rfl) (by kernel_rfl) (by kernel_rfl) (fun _ _ _ h => h) (Or.inl ⟨by rfl, ?_⟩) (S12 _ QV9) ?_
                        rotate_left
                        · (intro w hSw; (try dsimp only at hSw); go_simp; try with_reducible rfl)
                        try simp only [Act.put, List.setIfInBounds_toArray, List.set_cons_zero, List.set_cons_succ]
                        refine wpAnyH_take (i := 13) (v := ?_) rfl (by kernel_rfl) (by kernel_rfl) (by kernel_rfl) (fun _ _ _ h => h) (Or.inl ⟨by rfl, ?_⟩) (S12 _ QV9) ?_
                        rotate_left
                        · (intro w hSw; (try dsimp only at hSw); go_simp; try with_reducible rfl)
                        try simp only [Act.put, List.setIfInBounds_toArray, List.set_cons_zero, List.set_cons_succ]
                        refine wpAnyH_ready (rs := [14]) (by kernel_rfl) (by simp) ?_
                        refine AllReadyH.cons rfl (fun K hK => ?_) AllReadyH.nil
                        have c7 := (TS _ QV9).2.1
                        have f7 := (TS _ QV9).2.2
                        have l7 := lt_of_cell c7
                        go_simp
                        refine hK.out _ _ (S12s _ _ QV9) (fun hHeld => ?_)
                        clear hK K c7 f7 l7
                        try simp only [Act.put, List.setIfInBounds_toArray, List.set_cons_zero, List.set_cons_succ]
                        refine wpAnyH_done (by kernel_rfl) ?_ _
                        clear hHeld
                        go_wp2_with fail
                        go_meet
                        exact FIN V9 _ QV9 (by first | exact inI_wrap _ | exact inI_wrap2 _)
                      · go_simp
                        refine (NB _ _ F7).out.mono ?_; rintro e V11 ⟨rfl, o⟩
                        have QV11 : Only [] W8 V11 := QV7.then0 o
                        clear o
                        refine hK.out _ _ (S12 _ QV11) (fun hHeld => ?_)
                        clear hK K
                        try simp only [Act.put, List.setIfInBounds_toArray, List.set_cons_zero, List.set_cons_succ]
                        refine wpAnyH_take (i := 11) (v := ?_) rfl (by kernel_rfl) (by kernel_rfl) (by kernel_rfl) (fun _ _ _ h => h) (Or.inl ⟨by rfl, ?_⟩) (S12 _ QV11) ?_
                        rotate_left
                        · (intro w hSw; (try dsimp only at hSw); go_simp; try with_reducible rfl)
                        try simp only [Act.put, List.setIfInBounds_toArray, List.set_cons_zero, List.set_cons_succ]
                        refine wpAnyH_ready (rs := [7]) (by kernel_rfl) (by simp) ?_
                        refine AllReadyH.cons rfl (fun K hK => ?_) AllReadyH.nil
                        have c7 := (TS _ QV11).2.1
                        go_simp
                        refine hK.out _ _ (S12 _ QV11) (fun hHeld => ?_)
                        clear hK K c7
                        try simp only [Act.put, List.setIfInBounds_toArray, List.set_cons_zero, List.set_cons_succ]
                        refine wpAnyH_take (i := 12) (v := ?_) rfl (by kernel_rfl) (by kernel_rfl) (by kernel_rfl) (fun _ _ _ h => h) (Or.inl ⟨by rfl, ?_⟩) (S12 _ QV11) ?_
                        rotate_left
                        · (intro w hSw; (try dsimp only at hSw); go_simp; try with_reducible rfl)
                        try simp only [Act.put, List.setIfInBounds_toArray, List.set_cons_zero, List.set_cons_succ]
                        refine wpAnyH_take (i := 13) (v := ?_) rfl (by kernel_rfl) (by kernel_rfl) (by kernel_rfl) (fun _ _ _ h => h) (Or.inl ⟨by rfl, ?_⟩) (S12 _ QV11) ?_
                        rotate_left
                        · (intro w hSw; (try dsimp only at hSw); go_simp; try with_reducible rfl)
                        try simp only [Act.put, List.setIfInBounds_toArray, List.set_cons_zero, List.set_cons_succ]
                        refine wpAnyH_ready (rs := [14]) (by kernel_rfl) (by simp) ?_
                        refine AllReadyH.cons rfl (fun K hK => ?_) AllReadyH.nil
                        have c7 := (TS _ QV11).2.1
                        have f7 := (TS _ QV11).2.2
                        have l7 := lt_of_cell c7
                        go_simp
                        refine hK.out _ _ (S12s _ _ QV11) (fun hHeld => ?_)
                        clear hK K c7 f7 l7
                        try simp only [Act.put, List.setIfInBounds_toArray, List.set_cons_zero, List.set_cons_succ]
                        refine wpAnyH_done (by kernel_rfl) ?_ _
                        clear hHeld
                        go_wp2_with fail
                        go_meet
                        exact FIN V11 _ QV11 (by first | exact inI_wrap _ | exact inI_wrap2 _)
                  · go_simp
                    obtain ⟨V14, hV⟩ : ∃ V, V = V1.alloc (.cells #[.int .i64 by'] 3) := ⟨_, rfl⟩
                    rw [← hV]
                    obtain ⟨b14, hb⟩ : ∃ b, b = V1.heap.size := ⟨_, rfl⟩
                    try rw [← hb]
                    have F14 : V14.heap[b14]? = some (.cells #[.int .i64 by'] 3 (0, 0)) := by rw [hV, hb]; exact blk_alloc_new _ _
                    have G14 := blk_old_to hV F1
                    have QV14 : Only [] W8 V14 := by rw [hV]; exact QV1.alloc _
                    clear hV hb
                    refine hK.out _ _ (S12 _ QV14) (fun hHeld => ?_)
                    clear hK K
                    try simp only [Act.put, List.setIfInBounds_toArray, List.set_cons_zero, List.set_cons_succ]
                    refine wpAnyH_ready (rs := [3]) (by kernel_rfl) (by simp) ?_
                    refine AllReadyH.cons rfl (fun K hK => ?_) AllReadyH.nil
                    go_simp
                    refine (NA _ _ G14).out.mono ?_; rintro e V15 ⟨rfl, o⟩
                    have G15 := o.keep F14 (by simp)
                    have QV15 : Only [] W8 V15 := QV14.then0 o
                    clear o
                    refine hK.out _ _ (S12 _ QV15) (fun hHeld => ?_)
                    clear hK K
                    try simp only [Act.put, List.setIfInBounds_toArray, List.set_cons_zero, List.set_cons_succ]
                    refine wpAnyH_take (i := 4) (v := ?_) rfl (by kernel_rfl) (by kernel_rfl) (by kernel_rfl) (fun _ _ _ h => h) (Or.inl ⟨by rfl, ?_⟩) (S12 _ QV15) ?_
                    rotate_left
                    · (intro w hSw; (try dsimp only at hSw); go_simp; try with_reducible rfl)
                    try simp only [Act.put, List.setIfInBounds_toArray, List.set_cons_zero, List.set_cons_succ]
                    refine wpAnyH_take (i := 5) (v := ?_) rfl (by kernel_rfl) (by kernel_rfl) (by kernel_rfl) (fun _ _ _ h => h) (Or.inl ⟨by rfl, ?_⟩) (S12 _ QV15) ?_
                    rotate_left
                    · (intro w hSw; (try dsimp only at hSw); go_simp; try with_reducible rfl)
                    try simp only [Act.put, List.setIfInBounds_toArray, List.set_cons_zero, List.set_cons_succ]
                    refine wpAnyH_take (i := 6) (v := ?_) rfl (by kernel_rfl) (by kernel_rfl) (by kernel_rfl) (fun _ _ _ h => h) (Or.inl ⟨by rfl, ?_⟩) (S12 _ QV15) ?_
                    rotate_left
                    · (intro w hSw; (try dsimp only at hSw); go_simp; try with_reducible rfl)
                    try simp only [Act.put, List.setIfInBounds_toArray, List.set_cons_zero, List.set_cons_succ]
                    refine wpAnyH_ready (rs := [7, 10]) (by kernel_rfl) (by simp) ?_
                    refine AllReadyH.cons rfl (fun K hK => ?_) (AllReadyH.cons rfl (fun K hK => ?_) AllReadyH.nil)
                    · have c7 := (TS _ QV15).2.1
                      go_simp
                      refine hK.out _ _ (S12 _ QV15) (fun hHeld => ?_)
                      clear hK K c7
                      try simp only [Act.put, List.setIfInBounds_toArray, List.set_cons_zero, List.set_cons_succ]
                      refine wpAnyH_ready (rs := [10]) (by kernel_rfl) (by simp) ?_
                      refine AllReadyH.cons rfl (fun K hK => ?_) AllReadyH.nil
                      go_simp
                      refine (NB _ _ G15).out.mono ?_; rintro e V17 ⟨rfl, o⟩
                      have QV17 : Only [] W8 V17 := QV15.then0 o
                      clear o
                      refine hK.out _ _ (S12 _ QV17) (fun hHeld => ?_)
                      clear hK K
                      try simp only [Act.put, List.setIfInBounds_toArray, List.set_cons_zero, List.set_cons_succ]
                      refine wpAnyH_take (i := 11) (v := ?_) rfl (by kernel_rfl) (by kernel_rfl) (by kernel_rfl) (fun _ _ _ h => h) (Or.inl ⟨by rfl, ?_⟩) (S12 _ QV17) ?_
                      rotate_left
                      · (intro w hSw; (try dsimp only at hSw); go_simp; try with_reducible rfl)
                      try simp only [Act.put, List.setIfInBounds_toArray, List.set_cons_zero, List.set_cons_succ]
                      refine wpAnyH_take (i := 12) (v := ?_) rfl (by kernel_rfl) (by kernel_rfl) (by kernel_rfl) (fun _ _ _ h => h) (Or.inl ⟨by rfl, ?_⟩) (S12 _ QV17) ?_
                      rotate_left
                      · (intro w hSw; (try dsimp only at hSw); go_simp; try with_reducible rfl)
                      try simp only [Act.put, List.setIfInBounds_toArray, List.set_cons_zero, List.set_cons_succ]
                      refine wpAnyH_take (i := 13) (v := ?_) rfl (by kernel_rfl) (by kernel_rfl) (by kernel_rfl) (fun _ _ _ h => h) (Or.inl ⟨by rfl, ?_⟩) (S12 _ QV17) ?_
                      rotate_left
                      · (intro w hSw; (try dsimp only at hSw); go_simp; try with_reducible rfl)
                      try simp only [Act.put, List.setIfInBounds_toArray, List.set_cons_zero, List.set_cons_succ]
                      refine wpAnyH_ready (rs := [14]) (by kernel_rfl) (by simp) ?_
                      refine AllReadyH.cons rfl (fun K hK => ?_) AllReadyH.nil
                      have c7 := (TS _ QV17).2.1
                      have f7 := (TS _ QV17).2.2
                      have l7 := lt_of_cell c7
                      go_simp
                      refine hK.out _ _ (S12s _ _ QV17) (fun hHeld => ?_)
                      clear hK K c7 f7 l7
                      try simp only [Act.put, List.setIfInBounds_toArray, List.set_cons_zero, List.set_cons_succ]
                      refine wpAnyH_done (by kernel_rfl) ?_ _
                      clear hHeld
                      go_wp2_with fail
                      go_meet
                      exact FIN V17 _ QV17 (by first | exact inI_wrap _ | exact inI_wrap2 _)
                    · go_simp
                      refine (NB _ _ G15).out.mono ?_; rintro e V19 ⟨rfl, o⟩
                      have QV19 : Only [] W8 V19 := QV15.then0 o
                      clear o
                      refine hK.out _ _ (S12 _ QV19) (fun hHeld => ?_)
                      clear hK K
                      try simp only [Act.put, List.setIfInBounds_toArray, List.set_cons_zero, List.set_cons_succ]
                      refine wpAnyH_take (i := 11) (v := ?_) rfl (by kernel_rfl) (by kernel_rfl) (by kernel_rfl) (fun _ _ _ h => h) (Or.inl ⟨by rfl, ?_⟩) (S12 _ QV19) ?_
                      rotate_left
                      · (intro w hSw; (try dsimp only at hSw); go_simp; try with_reducible rfl)
                      try simp only [Act.put, List.setIfInBounds_toArray, List.set_cons_zero, List.set_cons_succ]
                      refine wpAnyH_ready (rs := [7]) (by kernel_rfl) (by simp) ?_
                      refine AllReadyH.cons rfl (fun K hK => ?_) AllReadyH.nil
                      have c7 := (TS _ QV19).2.1
                      go_simp
                      refine hK.out _ _ (S12 _ QV19) (fun hHeld => ?_)
                      clear hK K c7
                      try simp only [Act.put, List.setIfInBounds_toArray, List.set_cons_zero, List.set_cons_succ]
                      refine wpAnyH_take (i := 12) (v := ?_) rfl (by kernel_rfl) (by kernel_rfl) (by kernel_rfl) (fun _ _ _ h => h) (Or.inl ⟨by rfl, ?_⟩) (S12 _ QV19) ?_
                      rotate_left
                      · (intro w hSw; (try dsimp only at hSw); go_simp; try with_reducible rfl)
                      try simp only [Act.put, List.setIfInBounds_toArray, List.set_cons_zero, List.set_cons_succ]
                      refine wpAnyH_take (i := 13) (v := ?_) rfl (by kernel_rfl) (by kernel_rfl) (by kernel_rfl) (fun _ _ _ h => h) (Or.inl ⟨by rfl, ?_⟩) (S12 _ QV19) ?_
                      rotate_left
                      · (intro w hSw; (try dsimp only at hSw); go_simp; try with_reducible rfl)
                      try simp only [Act.put, List.setIfInBounds_toArray, List.set_cons_zero, List.set_cons_succ]
                      refine wpAnyH_ready (rs := [14]) (by kernel_rfl) (by simp) ?_
                      refine AllReadyH.cons rfl (fun K hK => ?_) AllReadyH.nil
                      have c7 := (TS _ QV19).2.1
                      have f7 := (TS _ QV19).2.2
                      have l7 := lt_of_cell c7
                      go_simp
                      refine hK.out _ _ (S12s _ _ QV19) (fun hHeld => ?_)
                      clear hK K c7 f7 l7
                      try simp only [Act.put, List.setIfInBounds_toArray, List.set_cons_zero, List.set_cons_succ]
                      refine wpAnyH_done (by kernel_rfl) ?_ _
                      clear hHeld
                      go_wp2_with fail
                      go_meet
                      exact FIN V19 _ QV19 (by first | exact inI_wrap _ | exact inI_wrap2 _)
                · go_simp
                  obtain ⟨V22, hV⟩ : ∃ V, V = W9.alloc (.cells #[.int .i64 by'] 3) := ⟨_, rfl⟩
                  rw [← hV]
                  obtain ⟨b22, hb⟩ : ∃ b, b = W9.heap.size := ⟨_, rfl⟩
                  try rw [← hb]
                  have F22 : V22.heap[b22]? = some (.cells #[.int .i64 by'] 3 (0, 0)) := by rw [hV, hb]; exact blk_alloc_new _ _
                  have QV22 : Only [] W8 V22 := by rw [hV]; exact QW9.alloc _
                  clear hV hb
                  refine hK.out _ _ (S12 _ QV22) (fun hHeld => ?_)
                  clear hK K
                  try simp only [Act.put, List.setIfInBounds_toArray, List.set_cons_zero, List.set_cons_succ]
                  refine wpAnyH_ready (rs := [2]) (by kernel_rfl) (by simp) ?_
                  refine AllReadyH.cons rfl (fun K hK => ?_) AllReadyH.nil
                  go_simp
                  obtain ⟨V23, hV⟩ : ∃ V, V = V22.alloc (.cells #[.int .i64 which] 3) := ⟨_, rfl⟩
                  rw [← hV]
                  obtain ⟨b23, hb⟩ : ∃ b, b = V22.heap.size := ⟨_, rfl⟩
                  try rw [← hb]
                  have F23 : V23.heap[b23]? = some (.cells #[.int .i64 which] 3 (0, 0)) := by rw [hV, hb]; exact blk_alloc_new _ _
                  have G23 := blk_old_to hV F22
                  have QV23 : Only [] W8 V23 := by rw [hV]; exact QV22.alloc _
                  clear hV hb
                  refine hK.out _ _ (S12 _ QV23) (fun hHeld => ?_)
                  clear hK K
                  try simp only [Act.put, List.setIfInBounds_toArray, List.set_cons_zero, List.set_cons_succ]
                  refine wpAnyH_ready (rs := [3]) (by kernel_rfl) (by simp) ?_
                  refine AllReadyH.cons rfl (fun K hK => ?_) AllReadyH.nil
                  go_simp
                  refine (NA _ _ F23).out.mono ?_; rintro e V24 ⟨rfl, o⟩
                  have G24 := o.keep G23 (by simp)
                  have QV24 : Only [] W8 V24 := QV23.then0 o
                  clear o
                  refine hK.out _ _ (S12 _ QV24) (fun hHeld => ?_)
                  clear hK K
                  try simp only [Act.put, List.setIfInBounds_toArray, List.set_cons_zero, List.set_cons_succ]
                  refine wpAnyH_take (i := 4) (v := ?_) rfl (by kernel_rfl) (by kernel_rfl) (by kernel_rfl) (fun _ _ _ h => h) (Or.inl ⟨by rfl, ?_⟩) (S12 _ QV24) ?_
                  rotate_left
                  · (intro w hSw; (try dsimp only at hSw); go_simp; try with_reducible rfl)
                  try simp only [Act.put, List.setIfInBounds_toArray, List.set_cons_zero, List.set_cons_succ]
                  refine wpAnyH_take (i := 5) (v := ?_) rfl (by kernel_rfl) (by kernel_rfl) (by kernel_rfl) (fun _ _ _ h => h) (Or.inl ⟨by rfl, ?_⟩) (S12 _ QV24) ?_
                  rotate_left
                  · (intro w hSw; (try dsimp only at hSw); go_simp; try with_reducible rfl)
                  try simp only [Act.put, List.setIfInBounds_toArray, List.set_cons_zero, List.set_cons_succ]
                  refine wpAnyH_take (i := 6) (v := ?_) rfl (by kernel_rfl) (by kernel_rfl) (by kernel_rfl) (fun _ _ _ h => h) (Or.inl ⟨by rfl, ?_⟩) (S12 _ QV24) ?_
                  rotate_left
                  · (intro w hSw; (try dsimp only at hSw); go_simp; try with_reducible rfl)
                  try simp only [Act.put, List.setIfInBounds_toArray, List.set_cons_zero, List.set_cons_succ]
                  refine wpAnyH_ready (rs := [7, 10]) (by kernel_rfl) (by simp) ?_
                  refine AllReadyH.cons rfl (fun K hK => ?_) (AllReadyH.cons rfl (fun K hK => ?_) AllReadyH.nil)
                  · have c7 := (TS _ QV24).2.1
                    go_simp
                    refine hK.out _ _ (S12 _ QV24) (fun hHeld => ?_)
                    clear hK K c7
                    try simp only [Act.put, List.setIfInBounds_toArray, List.set_cons_zero, List.set_cons_succ]
                    refine wpAnyH_ready (rs := [10]) (by kernel_rfl) (by simp) ?_
                    refine AllReadyH.cons rfl (fun K hK => ?_) AllReadyH.nil
                    go_simp
                    refine (NB _ _ G24).out.mono ?_; rintro e V26 ⟨rfl, o⟩
                    have QV26 : Only [] W8 V26 := QV24.then0 o
                    clear o
                    refine hK.out _ _ (S12 _ QV26) (fun hHeld => ?_)
                    clear hK K
                    try simp only [Act.put, List.setIfInBounds_toArray, List.set_cons_zero, List.set_cons_succ]
                    refine wpAnyH_take (i := 11) (v := ?_) rfl (by kernel_rfl) (by kernel_rfl) (by kernel_rfl) (fun _ _ _ h => h) (Or.inl ⟨by rfl, ?_⟩) (S12 _ QV26) ?_
                    rotate_left
                    · (intro w hSw; (try dsimp only at hSw); go_simp; try with_reducible rfl)
                    try simp only [Act.put, List.setIfInBounds_toArray, List.set_cons_zero, List.set_cons_succ]
                    refine wpAnyH_take (i := 12) (v := ?_) rfl (by kernel_rfl) (by kernel_rfl) (by kernel_rfl) (fun _ _ _ h => h) (Or.inl ⟨by rfl, ?_⟩) (S12 _ QV26) ?_
                    rotate_left
                    · (intro w hSw; (try dsimp only at hSw); go_simp; try with_reducible rfl)
                    try simp only [Act.put, List.setIfInBounds_toArray, List.set_cons_zero, List.set_cons_succ]
                    refine wpAnyH_take (i := 13) (v := ?_) rfl (by kernel_rfl) (by kernel_rfl) (by kernel_rfl) (fun _ _ _ h => h) (Or.inl ⟨by rfl, ?_⟩) (S12 _ QV26) ?_
                    rotate_left
                    · (intro w hSw; (try dsimp only at hSw); go_simp; try with_reducible rfl)
                    try simp only [Act.put, List.setIfInBounds_toArray, List.set_cons_zero, List.set_cons_succ]
                    refine wpAnyH_ready (rs := [14]) (by kernel_rfl) (by simp) ?_
                    refine AllReadyH.cons rfl (fun K hK => ?_) AllReadyH.nil
                    have c7 := (TS _ QV26).2.1
                    have f7 := (TS _ QV26).2.2
                    have l7 := lt_of_cell c7
                    go_simp
                    refine hK.out _ _ (S12s _ _ QV26) (fun hHeld => ?_)
                    clear hK K c7 f7 l7
                    try simp only [Act.put, List.setIfInBounds_toArray, List.set_cons_zero, List.set_cons_succ]
                    refine wpAnyH_done (by kernel_rfl) ?_ _
                    clear hHeld
                    go_wp2_with fail
                    go_meet
                    exact FIN V26 _ QV26 (by first | exact inI_wrap _ | exact inI_wrap2 _)
                  · go_simp
                    refine (NB _ _ G24).out.mono ?_; rintro e V28 ⟨rfl, o⟩
                    have QV28 : Only [] W8 V28 := QV24.then0 o
                    clear o
                    refine hK.out _ _ (S12 _ QV28) (fun hHeld => ?_)
                    clear hK K
                    try simp only [Act.put, List.setIfInBounds_toArray, List.set_cons_zero, List.set_cons_succ]
                    refine wpAnyH_take (i := 11) (v := ?_) rfl (by kernel_rfl) (by kernel_rfl) (by kernel_rfl) (fun _ _ _ h => h) (Or.inl ⟨by rfl, ?_⟩) (S12 _ QV28) ?_
                    rotate_left
                    · (intro w hSw; (try dsimp only at hSw); go_simp; try with_reducible rfl)
                    try simp only [Act.put, List.setIfInBounds_toArray, List.set_cons_zero, List.set_cons_succ]
                    refine wpAnyH_ready (rs := [7]) (by kernel_rfl) (by simp) ?_
                    refine AllReadyH.cons rfl (fun K hK => ?_) AllReadyH.nil
                    have c7 := (TS _ QV28).2.1
                    go_simp
                    refine hK.out _ _ (S12 _ QV28) (fun hHeld => ?_)
                    clear hK K c7
                    try simp only [Act.put, List.setIfInBounds_toArray, List.set_cons_zero, List.set_cons_succ]
                    refine wpAnyH_take (i := 12) (v := ?_) rfl (by kernel_rfl) (by kernel_rfl) (by kernel_rfl) (fun _ _ _ h => h) (Or.inl ⟨by rfl, ?_⟩) (S12 _ QV28) ?_
                    rotate_left
                    · (intro w hSw; (try dsimp only at hSw); go_simp; try with_reducible rfl)
                    try simp only [Act.put, List.setIfInBounds_toArray, List.set_cons_zero, List.set_cons_succ]
                    refine wpAnyH_take (i := 13) (v := ?_) rfl (by kernel_rfl) (by kernel_rfl) (by kernel_rfl) (fun _ _ _ h => h) (Or.inl ⟨by rfl, ?_⟩) (S12 _ QV28) ?_
                    rotate_left
                    · (intro w hSw; (try dsimp only at hSw); go_simp; try with_reducible rfl)
                    try simp only [Act.put, List.setIfInBounds_toArray, List.set_cons_zero, List.set_cons_succ]
                    refine wpAnyH_ready (rs := [14]) (by kernel_rfl) (by simp) ?_
                    refine AllReadyH.cons rfl (fun K hK => ?_) AllReadyH.nil
                    have c7 := (TS _ QV28).2.1
                    have f7 := (TS _ QV28).2.2
                    have l7 := lt_of_cell c7
                    go_simp
                    refine hK.out _ _ (S12s _ _ QV28) (fun hHeld => ?_)
                    clear hK K c7 f7 l7
                    try simp only [Act.put, List.setIfInBounds_toArray, List.set_cons_zero, List.set_cons_succ]
                    refine wpAnyH_done (by kernel_rfl) ?_ _
                    clear hHeld
                    go_wp2_with fail
                    go_meet
                    exact FIN V28 _ QV28 (by first | exact inI_wrap _ | exact inI_wrap2 _)
                --R12>
        case rest =>
          obtain ⟨ops', c', hl', hV', hOL, hHB, hO⟩ := hcut
          have OLD := Lib.hid hOL
          have VX2 := Lib.hid hV'
          have HB7 := Lib.hid hHB
          have O7 := Lib.hid hO
          have LEN := Lib.hid hl'
          clear hl' hV' hOL hHB hO
          obtain ⟨w7, hw7⟩ : ∃ w7, w7 = wc := ⟨_, rfl⟩
          subst hw7
          have PCELL : ∀ w', Only [] w7 w' → w'.cell? ⟨pb, 0, none⟩ = some (.int .i64 c') := fun w' o => cell_blk (o.keep HB7.out (by simp)) 0
          have L1 := fun w' (o : Only [] w7 w') => Lib.hid (linear_any w' (.slice xao on xcp) ops' c' (OLD.out.keep o) VX2.out)
          have L2 := fun w' (o : Only [] w7 w') => Lib.hid (refLinear_any w' (.slice xao on xcp) ops' c' (OLD.out.keep o) (by rw [LEN.out]; omega))
          obtain ⟨r2, hr2⟩ : ∃ r2, r2 = linB ops' c' := ⟨_, rfl⟩
          rw [← hr2] at L1 L2
          clear hr2
          go_upto_region 13 with fail
          go_region_held3 (fun w' => w'.cell? ⟨pb, 0, none⟩ = some (.int .i64 c'))
            (with_reducible refine PCELL _ ?_; (repeat (with_reducible refine Only.drew ?_)); (first | with_reducible exact Only.refl _ _ | with_reducible assumption))
            ((first
              | (go_at_call 13
                 refine (L1 _ (by (repeat (with_reducible refine Only.drew ?_)); (first | with_reducible exact Only.refl _ _ | with_reducible assumption))).out.mono ?_
                 rintro e w8 ⟨rfl, o8⟩
                 have QB : Only [] w7 w8 := Only.then0 (by (repeat (with_reducible refine Only.drew ?_)); (first | with_reducible exact Only.refl _ _ | with_reducible assumption)) o8
                 clear o8)
              | (go_at_call 14
                 refine (L2 _ (by (repeat (with_reducible refine Only.drew ?_)); (first | with_reducible exact Only.refl _ _ | with_reducible assumption))).out.mono ?_
                 rintro e w9 ⟨rfl, o9⟩
                 have QC : Only [] w7 w9 := Only.then0 (by (repeat (with_reducible refine Only.drew ?_)); (first | with_reducible exact Only.refl _ _ | with_reducible assumption)) o9
                 clear o9)))
          all_goals
            go_wp2_with fail
            go_ret
            exact ⟨by simp, O7.out.then0 (by (repeat (with_reducible refine Only.drew ?_)); (first | with_reducible exact Only.refl _ _ | with_reducible assumption))⟩
end Go.Proofs.YtfhkhknnoepfeaaGreat

/- Linear against the reference's: the law, for any arguments. -/
namespace Go.Proofs.YtfhkhknnoepfeaaGreat
open Go.RowKit
set_option linter.unusedVariables false

set_option maxRecDepth 100000 in
theorem HistoryLinear_any (w : World) (ao : Option Addr) (cap : Nat) (rows : List (List Int)) (hc : RowsAt w ao [.i64, .i64, .i64, .i64, .i64, .i64] rows) (hw : ∀ r ∈ rows, r.length = [IntKind.i64, .i64, .i64, .i64, .i64, .i64].length ∧ ∀ (j : Nat) (k : IntKind), [IntKind.i64, .i64, .i64, .i64, .i64, .i64][j]? = some k → (Lit.int k (r.getD j 0)).wf = true) (hl : rows.length ≤ cap) (hm : cap ≤ maxLen)
    (cp : Int) (wc : (Lit.int .i64 cp).wf = true) (raw : List Int) (v1 : Value) (h1 : Ns w v1 raw) (w1 : ∀ z ∈ raw, (Lit.int .i64 z).wf = true) (l1 : raw.length ≤ 9223372036854775807) (picks : List Int) (v2 : Value) (h2 : Ns w v2 picks) (w2 : ∀ z ∈ picks, (Lit.int .i64 z).wf = true) (l2 : picks.length ≤ 9223372036854775807) (which by' : Int) :
    Calls Tryz.prog 4 #[.slice ao rows.length cap, .int .i64 cp, v1, v2, .int .i64 which, .int .i64 by'] w fun e w' => e = .returned (.bool true) ∧ Only [] w w' := by
  by_cases h40 : rows.length ≤ 40
  · by_cases hs : raw.length ≤ 400 ∧ picks.length ≤ 400
    · refine HistoryLinear_small w _ (opsOf rows) (ol_rows hc hl) (by rw [opsOf_len]; exact h40) (fun i hi => ?_) cp which by' (wf_i64 wc) raw v1 h1 hs.1 picks v2 h2 hs.2
      rw [opsOf_len] at hi
      have e : ((opsOf rows).getD i HOp.zero).value = (rows.getD i []).getD 5 0 := by
        unfold opsOf
        rw [List.getD_eq_getElem?_getD, List.getElem?_map, List.getElem?_eq_getElem hi, List.getD_eq_getElem?_getD (l := rows), List.getElem?_eq_getElem hi]
        rfl
      rw [e, List.getD_eq_getElem?_getD (l := rows), List.getElem?_eq_getElem hi]
      exact wf_i64 ((hw rows[i] (List.getElem_mem hi)).2 5 .i64 rfl)
    · obtain ⟨ao1, cap1, rfl, -, -, -⟩ := h1
      obtain ⟨ao2, cap2, rfl, -, -, -⟩ := h2
      generalize raw.length = n1 at *
      generalize picks.length = n2 at *
      generalize rows.length = n at *
      have SH := fun w' => Lib.hid (short_any (w'.alloc (.cells #[.slice ao1 n1 cap1, .slice ao2 n2 cap2] 23)) none 0 0 (by omega) w'.heap.size 23 (0, 0) [(ao1, n1, cap1), (ao2, n2, cap2)] 2 rfl (by omega) (blk_alloc_new w' _) (by simp; omega))
      rw [show (decide (∀ x ∈ [(ao1, n1, cap1), (ao2, n2, cap2)], x.2.1 ≤ 400) && decide (0 ≤ 400)) = false from by simp; omega] at SH
      have SH1 := SH (w.alloc (.cells #[.int .i64 cp] 3))
      simp only [World.size_alloc] at SH1
      clear hs hc hw hl hm w1 w2 wc SH
      go_enter Tryz.func4, Tryz.ntmps4
      go_wp2_with fail
      refine SH1.out.mono ?_; rintro e w2 ⟨rfl, rfl⟩
      clear SH1
      go_wp2_with fail
      go_ret
      exact ⟨rfl, ((Only.refl _ _).alloc _).alloc _⟩
  · obtain ⟨ao1, cap1, rfl, -, -, -⟩ := h1
    obtain ⟨ao2, cap2, rfl, -, -, -⟩ := h2
    generalize raw.length = n1 at *
    generalize picks.length = n2 at *
    generalize rows.length = n at *
    have h41 : 40 < n := by omega
    clear hc hw hl hm w1 w2 wc h40
    go_enter Tryz.func4, Tryz.ntmps4
    go_wp2_with fail
    go_ret
    exact ⟨rfl, (Only.refl _ _).alloc _⟩
end Go.Proofs.YtfhkhknnoepfeaaGreat
