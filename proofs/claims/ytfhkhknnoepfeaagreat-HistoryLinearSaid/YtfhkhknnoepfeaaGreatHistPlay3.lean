/- Play, walked whole: its operations are those of the plain game. -/
import Derived.Test.YtfhkhknnoepfeaaGreatMgD
namespace Go.Proofs.YtfhkhknnoepfeaaGreat
open Go.RowKit
set_option linter.unusedVariables false

/-- The same as a step of a region that draws its order. -/
theorem step_append_ptr (w : World) {ops : Array Oper} {o : Oper} {a : Act} {K : Act → World → Prop} {Q : Exit → Act → World → Prop} {E : Prop} (hw : Region.wanted o (yielded ops a.tmps) = true) (s x : Operand)
    (ho : o.op = .call { callee := .builtin .append, args := #[s, x], argTypes := #[51, 51] })
    (base : Nat) (v : Value) (l : List Value) (hs : a.eval s = v) (hown : w.ownsRow base 54 1 v l.length l) (b : Nat) (y : Addr) (hx : a.eval x = .slice (some ⟨b, 0, none⟩) 1 1) (hnews : w.cell? ⟨b, 0, none⟩ = some (.pointer (some y)))
    (hlen : l.length ≤ 1000000) (hbase : base ≤ w.heap.size)
    (h : ∀ v' w', w'.ownsRow base 54 1 v' (l ++ [Value.pointer (some y)]).length (l ++ [Value.pointer (some y)]) → w.grownBy w' v.ownBlock → K (a.put o.dst v') w') :
    if Region.wanted o (yielded ops a.tmps) = true then Oper.wp Tryz.prog o a w K Q else E := by
  rw [if_pos hw]
  obtain ⟨i0, hi, hz0, hz1, hz2⟩ := info_parts infoPtr
  exact wp_append_own w s x 51 ho base 54 i0 (.pointer none) 1 8 Tryz.underlying51 hi hz0 hz1 hz2 rfl (by decide) v l.length l hs hown ⟨b, 0, none⟩ 1 1 [Value.pointer (some y)] hx (by simp)
    (fun j u hu => by
      match j, hu with
      | 0, hu =>
        simp only [List.getElem?_cons_zero, Option.some.injEq] at hu
        subst hu
        rw [Go.WideShapes.add_plain]
        exact hnews) (by simp [Value.oneCell']) (by unfold maxLen; omega) (by omega) hbase
    (fun v' w' h4 h5 h6 => h v' w' (by rw [List.length_append]; exact h4) h5)

/-- v is a plan: a slice of slices of acts. -/
def PlanAt (w : World) (v : Value) (pl : List (List (Int × Int))) : Prop :=
  ∃ ao cap, v = .slice ao pl.length cap ∧ pl.length ≤ cap ∧ (0 < pl.length → ∃ b off, ao = some ⟨b, off, none⟩ ∧ ∀ i, i < pl.length → ∃ vi, w.cell? ⟨b, off + i, none⟩ = some vi ∧ ActsAt w vi (pl.getD i []))
theorem PlanAt.keep0 {w w' : World} {v : Value} {pl : List (List (Int × Int))} (h : PlanAt w v pl) (o : Only [] w w') : PlanAt w' v pl := by
  obtain ⟨ao, cap, e, hc, h⟩ := h
  refine ⟨ao, cap, e, hc, fun hp => ?_⟩
  obtain ⟨b, off, e2, hh⟩ := h hp
  exact ⟨b, off, e2, fun i hi => by obtain ⟨vi, h1, h2⟩ := hh i hi; exact ⟨vi, o.keepCell h1 (by simp), h2.keep0 o⟩⟩

/-- What actor a of a plan has to do. -/
def planActs (pl : List (List (Int × Int))) (a : Nat) : List (Int × Int) := (pl.getD a []).filter (ableB a)
/-- The capacity of the game's deque. -/
def capN (c : Int) : Nat := (min (max c 1) 64).toNat

/-- What Play returns. -/
def PlayPost (w : World) (ops : List HOp) (e : Ending) (w' : World) : Prop := ∃ v, e = .returned v ∧ w'.ownsRow w.heap.size 36 6 v ops.length (flatO ops) ∧ Only [] w w'

/-- The number of the pick, out of the game's block. -/
def pickOf (w : World) (gb : Nat) : Nat := match w.cell? ⟨gb, 6, none⟩ with
  | some v => (intOf v).toNat
  | none => 0
theorem pickOf_gw {w0 w : World} {B n c gb en m bc ck rb : Nat} {abs : Nat → Nat} {rv : Value} {g : Gm} (h : GWx w0 B n c gb en m bc ck rb abs rv g w) : pickOf w gb = g.pick := by
  obtain ⟨ps, os, avs, opsV, h⟩ := h
  unfold pickOf
  rw [cell_blk (show w.heap[gb]? = some (.cells _ _ _) from h.G)]
  simp [intOf]

theorem gp_bound {c n : Nat} {acts : Nat → List (Int × Int)} {picks : List Nat} (hg : GX c (gstart c acts)) (hp : ∀ a ∈ picks, a < n) (hb : picks.length + 10 * sumL (fun a => (acts a).length) n < 900000) :
    GX c (gpicks (q0 c) (gstart c acts) picks) ∧ (gpicks (q0 c) (gstart c acts) picks).pick + (gpicks (q0 c) (gstart c acts) picks).cost n < 900000 := by
  obtain ⟨a1, a2, a3, a4, a5⟩ := gpicks_spec (n := n) picks _ hg hp (by show 0 + _ < _; omega)
  refine ⟨a1, ?_⟩
  have hcost : ∀ m, sumL (fun a => ((gpicks (q0 c) (gstart c acts) picks).acs a).work) m ≤ 10 * sumL (fun a => (acts a).length) m := by
    intro m
    induction m with
    | zero => exact Nat.le_refl _
    | succ m ih =>
      have h2 := a5 m
      have h3 : ((gstart c acts).acs m).work = 10 * (acts m).length := rfl
      rw [sumL, sumL]
      omega
  have h2 := hcost n
  have h3 : (gstart c acts).pick = 0 := rfl
  unfold Gm.cost
  omega
theorem sumL_mono {f : Nat → Nat} {n : Nat} : ∀ m, n ≤ m → sumL f n ≤ sumL f m := by
  intro m
  induction m with
  | zero => intro h; have e : n = 0 := by omega
            rw [e]; exact Nat.le_refl _
  | succ m ih =>
    intro h
    by_cases e : n = m + 1
    · rw [e]; exact Nat.le_refl _
    · have := ih (by omega)
      rw [show sumL f (m + 1) = sumL f m + f m from rfl]; omega

theorem idle_any {w0 w : World} {B n c gb en m bc ck rb : Nat} {abs : Nat → Nat} {rv : Value} {g : Gm} {a : Nat} (h : GWx w0 B n c gb en m bc ck rb abs rv g w) (ha : a < n) :
    Calls Tryz.prog 20 #[.pointer (some ⟨abs a, 0, none⟩)] w fun e w' => e = .returned (.bool (g.acs a).idle) ∧ w = w' := by
  obtain ⟨ps, os, avs, opsV, h⟩ := h
  have hA := h.A a ha
  obtain ⟨ao, cap, e1, _, _, _⟩ := h.V a ha
  cases hn : (g.acs a).now with
  | none =>
    simp only [pvO, hn] at hA
    rw [e1] at hA
    refine (idle_nil w (abs a) a ao _ cap (os a) hA).mono ?_
    rintro e w' ⟨rfl, rfl⟩
    refine ⟨ret_bool ?_, rfl⟩
    unfold Ac.idle
    rw [hn, Bool.eq_iff_iff]
    simp
  | some ko =>
    simp only [pvO, hn] at hA
    refine (idle_some w (abs a) a (avs a) ko.1.kind (ps a) (os a) hA).mono ?_
    rintro e w' ⟨rfl, rfl⟩
    refine ⟨ret_bool ?_, rfl⟩
    unfold Ac.idle
    rw [hn]
    rfl

set_option maxRecDepth 100000 in
theorem play_nil (w : World) (cap : Int) (cp : Nat) (pv : Value) : Calls Tryz.prog 11 #[.int .i64 cap, .slice none 0 cp, pv] w (PlayPost w []) := by
  go_enter Tryz.func11, Tryz.ntmps11
  go_wp2_with fail
  go_ret
  exact ⟨_, rfl, ⟨rfl, .inl ⟨rfl, rfl⟩⟩, Only.refl _ _⟩

set_option maxRecDepth 100000 in
set_option maxHeartbeats 4000000 in
theorem play_any (w : World) (cap : Int) (planV : Value) (pl : List (List (Int × Int))) (hpl : PlanAt w planV pl) (ao : Option Addr) (pcap : Nat) (picks : List Int) (hpk : CellsAt w ao (picks.map (.int .i64))) (hn : 1 ≤ pl.length) (hn2 : pl.length ≤ 1000) (hlen : ∀ a, a < pl.length → (pl.getD a []).length ≤ 1000) (hnp : picks.length ≤ 100000)
    (hin : ∀ x ∈ planActs pl 0, inI x.2) (hb : picks.length + 10 * sumL (fun a => (planActs pl a).length) pl.length < 900000) :
    Calls Tryz.prog 11 #[.int .i64 cap, planV, .slice ao picks.length pcap] w (PlayPost w (gplay (capN cap) pl.length (planActs pl) (picks.map (modN pl.length)))) := by
  obtain ⟨n, hnn⟩ : ∃ n, n = pl.length := ⟨_, rfl⟩
  obtain ⟨np, hnp2⟩ : ∃ np, np = picks.length := ⟨_, rfl⟩
  obtain ⟨c, hc⟩ : ∃ c, c = capN cap := ⟨_, rfl⟩
  obtain ⟨acts, hacts⟩ : ∃ f, f = planActs pl := ⟨_, rfl⟩
  have hc1 : 1 ≤ c ∧ c ≤ 64 := by rw [hc]; unfold capN; omega
  have hcI : min (max cap 1) 64 = (c : Int) := by rw [hc]; unfold capN; omega
  have GXS := Lib.hid (gstart_gx (c := c) (acts := acts) hc1.1 (by omega) (fun x hx => by
    refine ⟨?_, hin x (by rw [← hacts]; exact hx)⟩
    rw [hacts] at hx
    have := (List.mem_filter.1 hx).2
    simp [ableB] at this
    exact this) (fun a ha x hx => by
    rw [hacts] at hx
    have := (List.mem_filter.1 hx).2
    simp [ableB] at this
    omega))
  obtain ⟨pao, pcp, rfl, hpc, hph⟩ := hpl
  obtain ⟨pb, poff, rfl, hrows⟩ := hph (by omega)
  rw [← hnn] at hn hn2 hpc hrows hlen hb ⊢
  rw [← hnp2] at hnp hb ⊢
  rw [← hacts] at hb hin ⊢
  rw [← hc]
  have ACT := Lib.hid (fun a => show acts a = (pl.getD a []).filter (ableB a) from by rw [hacts]; rfl)
  have ROWS := Lib.hid hrows
  have PK := Lib.hid hpk
  have NP := Lib.hid hnp2
  have LEN := Lib.hid hlen
  have HB := Lib.hid hb
  have HIN := Lib.hid hin
  clear hpk hrows hacts hc hnp2 hnn hph hlen hb hin
  have hnz : ((n : Int) == 0) = false := by simp; omega
  go_enter Tryz.func11, Tryz.ntmps11
  go_upto_region 4 with fail
  rw [show (if (64 : Int) < if cap < 1 then 1 else cap then (64 : Int) else if cap < 1 then 1 else cap) = (c : Int) from by split <;> split <;> omega]
  generalize (if cap < 1 then (1 : Int) else cap) = mc
  clear hcI
  have BR := Lib.hid (machBare_any w ((2 : Int) + c) (2 + c) (by omega) (by omega))
  go_wp2_with fail
  refine BR.out.mono ?_; rintro e w1 ⟨en, m, bc, ck, rfl, o1, hE1, l1, l2, l3, l4, l5, l6, l7, l8⟩
  have O1 := Lib.hid o1
  have E1 := Lib.hid hE1
  clear o1 hE1 BR
  go_upto_region 5 with fail
  obtain ⟨w2, hw2⟩ : ∃ w2, w2 = w1.alloc (.cells #[.pointer (some ⟨en, 0, none⟩), .int .i64 0, .int .i64 1, .int .i64 2, .int .i64 c, .slice none 0 0, .int .i64 0, .slice none 0 0] 53) := ⟨_, rfl⟩
  obtain ⟨gb, hgb⟩ : ∃ gb, gb = w1.heap.size := ⟨_, rfl⟩
  rw [← hw2, ← hgb]
  have B0 : Hid (BL w c gb en m bc ck 0 acts (fun _ => 0) (fun _ => .slice none 0 0) (.slice none 0 0) w2) := Lib.hid (by
    have o2 : Only [] w1 w2 := by rw [hw2]; exact (Only.refl _ _).alloc _
    refine ⟨E1.out.keep0 o2, ⟨l2, l3, by rw [hgb]; exact O1.out.size⟩, ?_, (fun a ha => by omega), (fun a ha => by omega), (fun a b ha => by omega), ⟨rfl, .inl ⟨rfl, rfl⟩⟩, O1.out.then0 o2⟩
    rw [hw2, hgb, blk_alloc_new]
    rfl)
  clear hw2 hgb E1
  go_wp2_with fail
  go_loopw [29] (fun i wr => ∃ (k : Nat) (abs : Nat → Nat) (avs : Nat → Value) (rv : Value), k ≤ n ∧ i = .int .i64 k ∧ BL w c gb en m bc ck k acts abs avs rv wr) (fun i _ => n - (intOf i).toNat)
  case atStart => exact ⟨0, _, _, _, Nat.zero_le _, rfl, B0.out⟩
  case round =>
    obtain ⟨k, abs, avs, rv, hk, rfl, hBL⟩ := hrel
    have BB := Lib.hid hBL
    clear hBL B0
    by_cases hlt : k < n
    · obtain ⟨vi, hv1, hv2⟩ := ROWS.out k hlt
      have hlk := LEN.out k hlt
      obtain ⟨lk, hlk2⟩ : ∃ lk, lk = pl.getD k [] := ⟨_, rfl⟩
      have ACk : Hid (acts k = lk.filter (ableB k)) := Lib.hid (by rw [hlk2]; exact ACT.out k)
      rw [← hlk2] at hv2 hlk
      clear hlk2
      have cv := BB.out.F.keepCell hv1 (by simp)
      have VI := Lib.hid (hv2.keep0 BB.out.F)
      have cG := cell_blk (show wr.heap[gb]? = some (.cells _ _ _) from BB.out.G) 5
      simp at cG
      obtain ⟨sao, scp, hsl⟩ := owns_slice BB.out.R
      have hsl2 : rv = .slice sao k scp := by rw [hsl]; simp
      subst hsl2
      clear hsl
      have hgbR : Hid (∀ q, (Value.slice sao k scp).ownBlock = some q → q ≠ gb) := Lib.hid (fun q hq => by
        obtain ⟨_, arr, h2⟩ := row_blk BB.out.R q hq
        exact typ_ne h2 (show wr.heap[gb]? = some (.cells _ _ _) from BB.out.G) (by decide))
      have AB := Lib.hid (able_any wr.drew vi lk k (VI.out.keep0 (Only.refl _ _).drew) hlk)
      obtain ⟨via, vic, rfl, _⟩ := VI.out
      clear hv1 hv2
      go_wp2_with fail
      have c0 := cell_blk (show wr.heap[gb]? = some (.cells _ _ _) from BB.out.G) 0
      have fG := free_blk (show wr.heap[gb]? = some (.cells _ _ _) from BB.out.G) 5
      simp at c0
      have hgl := lt_of_blk BB.out.G
      have hfs := BB.out.F.size
      obtain ⟨XS, hXS⟩ : ∃ XS : List Value, XS = (List.range k).map fun a => Value.pointer (some ⟨abs a, 0, none⟩) := ⟨_, rfl⟩
      have HXS := Lib.hid hXS
      have RR := Lib.hid (show wr.ownsRow w.heap.size 54 1 (.slice sao k scp) XS.length XS from by rw [hXS]; exact BB.out.R)
      have hXl : XS.length ≤ 1000 := by rw [hXS]; simp; omega
      clear hXS
      go_region_law ((first
          | (refine step_append_ptr _ rfl (.tmp 38) (.tmp 45) rfl w.heap.size (.slice sao k scp) XS (by simp [Act.eval]) (owns_keep R3.out (((Only.refl _ _).alloc _).alloc _)) (w3.heap.size + 1) ⟨w3.heap.size, 0, none⟩ (by simp [Act.eval]) (by simp) (by omega) (by have := O3.out.size; simp; omega) ?_
             intro v' w5 hown5 hgrow
             obtain ⟨vo', vc', rfl⟩ := owns_slice hown5
             have HW5 := Lib.hid hown5
             have HG5 := Lib.hid hgrow
             have G5 := Lib.hid (((Only.refl _ _).grown hgrow (fun q hq => .inl (by rw [hq]; simp)) : Only ((Value.slice sao k scp).ownBlock.toList) _ w5).keep ((((Only.refl [] w3).alloc _).alloc _).keep G3.out (by simp)) (by
               intro hm
               cases e : (Value.slice sao k scp).ownBlock with
               | none => rw [e] at hm; cases hm
               | some q => rw [e] at hm; simp at hm; exact hgbR.out q e hm.symm))
             have s5 := cell_blk (show w5.heap[gb]? = some (.cells _ _ _) from G5.out) 5
             have y5 := free_blk (show w5.heap[gb]? = some (.cells _ _ _) from G5.out) 5
             simp at s5
             clear hown5 hgrow)
          | (go_simp; go_at_call 17; refine AB.out.mono ?_; rintro e w3 ⟨av, rfl, hown, o3⟩
             obtain ⟨avo, avc, rfl⟩ := owns_slice hown
             have O3 := Lib.hid o3.undrew
             have AV := Lib.hid hown
             have c3 := O3.out.keepCell c0 (by simp)
             have cG3 := O3.out.keepCell cG (by simp)
             have G3 := Lib.hid (O3.out.keep BB.out.G (by simp))
             have R3 := Lib.hid (owns_keep RR.out O3.out)
             have hg3 : gb < w3.heap.size := Nat.lt_of_lt_of_le hgl O3.out.size
             clear hown o3)))
      all_goals
        go_wp2_with fail
        go_roundw
        case rel =>
          refine ⟨k + 1, upd abs k w3.heap.size, upd avs k _, _, by omega, by go_num, BL.next (w := wr) (w1 := w3) BB.out O3.out (by rw [ACk.out]; exact AV.out) rfl ((Only.refl _ _).alloc _) HG5.out (by rw [← HXS.out]; exact HW5.out) (by simp)⟩
        case measure => simp [intOf]; omega
    · obtain rfl : n = k := by omega
      obtain ⟨rb, hD, hG⟩ := BB.out.start hn
      obtain ⟨Bb, hBb⟩ : ∃ Bb, Bb = wr.heap.size := ⟨_, rfl⟩
      rw [← hBb] at hD hG
      have DD := Lib.hid hD
      have GG := Lib.hid hG
      have HBb := Lib.hid (show w.heap.size ≤ Bb from by rw [hBb]; exact BB.out.F.size)
      clear hD hG hBb hlt BB hk O1
      go_wp2_with fail
      go_loopw [52] (fun i wr => ∃ (j : Nat), j ≤ np ∧ i = .int .i64 j ∧ GWx w Bb n c gb en m bc ck rb abs rv (gpicks (q0 c) (gstart c acts) ((picks.take j).map (modN n))) wr) (fun i _ => np - (intOf i).toNat)
      case atStart => exact ⟨0, Nat.zero_le _, rfl, GG.out⟩
      case round =>
        obtain ⟨j, hj, rfl, hGj⟩ := hrel
        have GJ := Lib.hid hGj
        clear hGj GG
        by_cases hlt : j < np
        · obtain ⟨pkb, pko, rfl, hcs⟩ := PK.out.ints (by have := NP.out; omega)
          have hcj := hcs j (by have := NP.out; omega)
          obtain ⟨x, hx⟩ : ∃ x, x = picks.getD j 0 := ⟨_, rfl⟩
          rw [← hx] at hcj
          have TK : Hid ((picks.take (j + 1)).map (modN n) = (picks.take j).map (modN n) ++ [modN n x]) := Lib.hid (by
            rw [List.take_succ_eq_append_getElem (by have := NP.out; omega), List.map_append, hx]
            congr 1
            rw [List.getD_eq_getElem?_getD, List.getElem?_eq_getElem (by have := NP.out; omega)]
            rfl)
          have LEN1 : ((picks.take j).map (modN n)).length = j := by rw [List.length_map, List.length_take]; have := NP.out; omega
          obtain ⟨gj, hgj⟩ : ∃ gj, gj = gpicks (q0 c) (gstart c acts) ((picks.take j).map (modN n)) := ⟨_, rfl⟩
          have SPEC := gpicks_spec (c := c) (n := n) ((picks.take j).map (modN n)) (gstart c acts) GXS.out (fun a ha => by
            obtain ⟨y, _, rfl⟩ := List.mem_map.1 ha
            exact modN_lt hn y) (by rw [LEN1]; show 0 + j < _; omega)
          have hcb := gpicks_cb (q := q0 c) ((picks.take j).map (modN n)) (g := gstart c acts) ⟨by simp [gstart], by simp [gstart]⟩
          rw [← hgj] at SPEC hcb GJ
          have GXJ := Lib.hid SPEC.1
          have hpk : gj.pick = j := by rw [SPEC.2.1, LEN1]; show 0 + j = j; omega
          have PA := Lib.hid (pick_any (w := wr.drew) (by obtain ⟨ps, os, avs, opsV, h⟩ := GJ.out; exact ⟨ps, os, avs, opsV, h.keep0 (Only.refl _ _).drew⟩) DD.out (modN_lt hn x) GXJ.out (by omega) (by omega) hcb)
          have HGJ := Lib.hid hgj
          have RR : Hid (∀ w', GWx w Bb n c gb en m bc ck rb abs rv (gstep (q0 c) gj (modN n x)) w' → w'.cell? ⟨gb, 5, none⟩ = some rv ∧ w'.cell? ⟨rb, modN n x, none⟩ = some (.pointer (some ⟨abs (modN n x), 0, none⟩))) := Lib.hid (fun w' h => by
            obtain ⟨ps, os, avs, opsV, h⟩ := h
            obtain ⟨rcap, arr, e1, e2, e3, e4⟩ := h.R
            exact ⟨by rw [cell_blk (show w'.heap[gb]? = some (.cells _ _ _) from h.G)]; rfl, by rw [cell_blk e3, e4 _ (modN_lt hn x)]⟩)
          have k12 : wr.cell? ⟨gb, 5, none⟩ = some rv ∧ wr.cell? ⟨rb, modN n x, none⟩ = some (.pointer (some ⟨abs (modN n x), 0, none⟩)) := by
            obtain ⟨ps, os, avs, opsV, h⟩ := GJ.out
            obtain ⟨rcap, arr, e1, e2, e3, e4⟩ := h.R
            exact ⟨by rw [cell_blk (show wr.heap[gb]? = some (.cells _ _ _) from h.G)]; rfl, by rw [cell_blk e3, e4 _ (modN_lt hn x)]⟩
          obtain ⟨k1, k2⟩ := k12
          have hrv : ∃ rcap, rv = .slice (some ⟨rb, 0, none⟩) n rcap ∧ n ≤ rcap := by
            obtain ⟨ps, os, avs, opsV, h⟩ := GJ.out
            obtain ⟨rcap, arr, e1, e2, e3, e4⟩ := h.R
            exact ⟨rcap, e1, e2⟩
          obtain ⟨rcap, rfl, hrc⟩ := hrv
          have cx : wr.cell? ⟨pkb, pko + j, none⟩ = some (.int .i64 x) := by
            obtain ⟨ps, os, avs, opsV, h⟩ := GJ.out
            exact h.F.keepCell hcj (by simp)
          have hml : modN n x < n := modN_lt hn x
          obtain ⟨md, hmd⟩ : ∃ md, md = modN n x := ⟨_, rfl⟩
          have MD := fun w => Lib.hid (mod_any w x n hn (by omega))
          rw [← hmd] at k2 hml PA RR TK
          have MD2 : ∀ w, Hid (Calls Tryz.prog 19 #[.int .i64 x, .int .i64 n] w fun e w' => e = .returned (.int .i64 md) ∧ w = w') := fun w => by rw [hmd]; exact MD w
          clear hcs hcj hx hgj SPEC hcb MD hmd LEN1
          go_wp2_with fail
          go_region_held3 (fun w' => w'.cell? ⟨gb, 5, none⟩ = some (.slice (some ⟨rb, 0, none⟩) n rcap) ∧ w'.cell? ⟨rb, md, none⟩ = some (.pointer (some ⟨abs md, 0, none⟩)))
            (first | exact ⟨k1, k2⟩ | exact RR.out _ G4.out)
            ((first
              | (go_at_call 19; refine (MD2 _).out.mono ?_; rintro e w3 ⟨rfl, rfl⟩)
              | (go_at_call 18; refine PA.out.mono ?_; rintro e w4 ⟨rfl, hG4⟩; have G4 := Lib.hid hG4; clear hG4)))
          go_wp2_with fail
          go_roundw
          case rel => exact ⟨j + 1, by omega, by go_num, by rw [TK.out, gpicks_snoc, ← HGJ.out]; exact G4.out⟩
          case measure => simp [intOf]; omega
        · obtain rfl : np = j := by omega
          have PKA : Hid (picks.take np = picks) := Lib.hid (by rw [NP.out, List.take_length])
          rw [PKA.out] at GJ
          clear hlt hj PKA
          obtain ⟨gP, hgP⟩ : ∃ gP, gP = gpicks (q0 c) (gstart c acts) (picks.map (modN n)) := ⟨_, rfl⟩
          have BND := gp_bound (n := n) (picks := picks.map (modN n)) GXS.out (fun a ha => by
            obtain ⟨y, _, rfl⟩ := List.mem_map.1 ha
            exact modN_lt hn y) (by rw [List.length_map, ← NP.out]; exact HB.out)
          have hcb0 := gpicks_cb (q := q0 c) (picks.map (modN n)) (g := gstart c acts) ⟨by simp [gstart], by simp [gstart]⟩
          have OPS : Hid (gplay c n acts (picks.map (modN n)) = (gall (q0 c) gP n).ops) := Lib.hid (by rw [hgP]; rfl)
          rw [← hgP] at BND hcb0 GJ
          have GS := Lib.hid (gall_spec BND.1 (n := n) BND.2)
          have BN := Lib.hid BND.2
          have CBA := Lib.hid (gall_cb (q := q0 c) hcb0)
          have k1 : wr.cell? ⟨gb, 5, none⟩ = some rv := by
            obtain ⟨ps, os, avs, opsV, h⟩ := GJ.out
            rw [cell_blk (show wr.heap[gb]? = some (.cells _ _ _) from h.G)]; rfl
          have hrv : ∃ rcap, rv = .slice (some ⟨rb, 0, none⟩) n rcap ∧ n ≤ rcap := by
            obtain ⟨ps, os, avs, opsV, h⟩ := GJ.out
            obtain ⟨rcap, arr, e1, e2, e3, e4⟩ := h.R
            exact ⟨rcap, e1, e2⟩
          obtain ⟨rcap, rfl, hrc⟩ := hrv
          clear BND hcb0 hgP
          go_wp2_with fail
          go_loopw [74] (fun i wr => ∃ (k : Nat), k ≤ n ∧ i = .int .i64 k ∧ GWx w Bb n c gb en m bc ck rb abs (.slice (some ⟨rb, 0, none⟩) n rcap) (gall (q0 c) gP k) wr) (fun i _ => n - (intOf i).toNat)
          case atStart => exact ⟨0, Nat.zero_le _, rfl, GJ.out⟩
          case round =>
            obtain ⟨k, hk, rfl, hGk⟩ := hrel
            have GK := Lib.hid hGk
            clear hGk GJ k1
            by_cases hlt : k < n
            · have hpt : wr.cell? ⟨rb, k, none⟩ = some (.pointer (some ⟨abs k, 0, none⟩)) := by
                obtain ⟨ps, os, avs, opsV, h⟩ := GK.out
                obtain ⟨rcap, arr, e1, e2, e3, e4⟩ := h.R
                rw [cell_blk e3, e4 _ hlt]
              have GSK := Lib.hid (GS.out k hk)
              obtain ⟨T, hT⟩ : ∃ T, T = gall (q0 c) gP (k + 1) := ⟨_, rfl⟩
              have HT := Lib.hid hT
              have HT2 : Hid (gdrain (q0 c) k ((gall (q0 c) gP k).acs k).work (gall (q0 c) gP k) = T) := Lib.hid (by rw [hT]; rfl)
              have PBd : Hid ((gall (q0 c) gP k).pick + ((gall (q0 c) gP k).acs k).work < 900000) := Lib.hid (by
                have h1 := GSK.out.2.2.2.1
                have h2 := GSK.out.2.2.1 k (Nat.le_refl _)
                have h3 := sumL_mono (f := fun a => (gP.acs a).work) (n := k + 1) n (by omega)
                have h4 := BN.out
                unfold Gm.cost at h4
                rw [sumL] at h3
                rw [h2]
                omega)
              clear hT
              go_wp2_with fail
              go_loopw [] (fun wr => ∃ (f : Nat) (g' : Gm), GWx w Bb n c gb en m bc ck rb abs (.slice (some ⟨rb, 0, none⟩) n rcap) g' wr ∧ GX c g' ∧ (g'.mem.count ≤ g'.pick ∧ g'.ops.length ≤ g'.pick) ∧ gdrain (q0 c) k f g' = T ∧ (g'.acs k).work ≤ f ∧ g'.pick + f < 900000) (fun wr => 900000 - pickOf wr gb)
              case atStart => exact ⟨_, _, GK.out, GSK.out.1, CBA.out k, HT2.out, Nat.le_refl _, PBd.out⟩
              case round =>
                obtain ⟨f, g', h1, h2, h3, h4, h5, h6⟩ := hrel
                have G1 := Lib.hid h1
                have G2 := Lib.hid h2
                have G3 := Lib.hid h3
                have G4 := Lib.hid h4
                have ID := Lib.hid (idle_any h1 hlt)
                have PA := Lib.hid (pick_any h1 DD.out hlt h2 (by omega) (by omega) h3)
                have PO := Lib.hid (pickOf_gw h1)
                obtain ⟨id, hid⟩ : ∃ id, id = (g'.acs k).idle := ⟨_, rfl⟩
                rw [← hid] at ID
                have HID := Lib.hid hid
                clear h1 h2 h3 h4 hid hpt
                cases id with
                | true =>
                  go_wp2_with fail
                  refine ID.out.mono ?_; rintro e w3 ⟨rfl, rfl⟩
                  go_wp2_with fail
                  go_roundw
                  case rel => exact ⟨k + 1, by omega, by go_num, by rw [← HT.out, ← G4.out, gdrain_idle HID.out.symm]; exact G1.out⟩
                  case measure => simp [intOf]; omega
                | false =>
                  go_wp2_with fail
                  refine ID.out.mono ?_; rintro e w3 ⟨rfl, rfl⟩
                  go_wp2_with fail
                  refine PA.out.mono ?_; rintro e w4 ⟨rfl, hG4⟩
                  have G5 := Lib.hid hG4
                  have PO2 := Lib.hid (pickOf_gw hG4)
                  clear hG4
                  go_wp2_with fail
                  go_roundw
                  case rel =>
                    have hw := gstep_work (q := q0 c) (g := g') (a := k) (fun k2 o2 e => ⟨(G2.out.live k k2 o2 e).1, (G2.out.live k k2 o2 e).2.1⟩) HID.out.symm
                    cases f with
                    | zero => omega
                    | succ f =>
                      have h7 := G4.out
                      rw [gdrain, if_neg (by rw [← HID.out]; simp)] at h7
                      exact ⟨f, _, G5.out, G2.out.gstep (by omega) k, gstep_cb G3.out, h7, by omega, by rw [gstep_pick]; omega⟩
                  case measure =>
                    have h7 := PO.out
                    have h8 := PO2.out
                    rw [gstep_pick] at h8
                    omega
            · obtain rfl : n = k := by omega
              obtain ⟨ps, os, avs, opsV, h⟩ := GK.out
              have q7 := cell_blk (show wr.heap[gb]? = some (.cells _ _ _) from h.G) 7
              simp at q7
              have HH := Lib.hid h
              clear h
              go_wp2_with fail
              go_ret
              exact ⟨opsV, rfl, by rw [OPS.out]; exact owns_mono HH.out.O HBb.out, HH.out.F⟩
end Go.Proofs.YtfhkhknnoepfeaaGreat
