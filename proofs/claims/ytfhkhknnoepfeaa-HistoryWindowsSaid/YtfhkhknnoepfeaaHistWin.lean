/- Small lists of operations that overlap: the law walked. -/
import Derived.Test.YtfhkhknnoepfeaaHistRef5
import Derived.Test.YtfhkhknnoepfeaaHistAwake
import Derived.BigRegion
import Derived.Test.YtfhkhknnoepfeaaHistWinP
namespace Go.Proofs.Ytfhkhknnoepfeaa
open Go.RowKit
set_option linter.unusedVariables false

theorem step_append_opB (w : World) {ops : Array Oper} {o : Oper} {a : Act} {Q : Exit → Act → World → Prop} {rest : List Oper} (hw : Region.wanted o (yielded ops a.tmps) = true) (s x : Operand)
    (ho : o.op = .call { callee := .builtin .append, args := #[s, x], argTypes := #[25, 25] })
    (base : Nat) (v : Value) (n : Nat) (l : List HOp) (hn : n = l.length) (hs : a.eval s = v) (hown : w.ownsRow base 28 6 v n (flatO l)) (ad : Addr) (y : HOp) (hx : a.eval x = .slice (some ad) 1 1) (hnews : ∀ j u, (flatO [y])[j]? = some u → w.cell? (ad.add j) = some u)
    (hlen : l.length ≤ 1000000) (hbase : base ≤ w.heap.size)
    (h : ∀ v' w', w'.ownsRow base 28 6 v' (l ++ [y]).length (flatO (l ++ [y])) → w.grownBy w' v.ownBlock → wpList Try.prog ops Q rest (a.put o.dst v') w') : wpList Try.prog ops Q (o :: rest) a w := by
  subst hn
  obtain ⟨i0, hi, hz0, hz1, hz2⟩ := info_parts infoOp
  exact BigFrame.wpList_want hw fun _ hK => wp_append_own w s x 25 ho base 28 i0 HOp.zero.v 6 48 Try.underlying25 hi hz0 hz1 hz2 rfl (by decide) v l.length (flatO l) hs hown ad 1 1 (flatO [y]) hx (by rw [flatO_len]; simp) hnews (flatO_one [y]) (by unfold maxLen; omega) (by omega) hbase
    (fun v' w' h4 h5 h6 => hK _ _ (h v' w' (by rw [flatO_app, List.length_append]; exact h4) h5))

theorem getD_vals2 {l : List HOp} (h : ∀ o ∈ l, inI o.value) : ∀ i, i < l.length → -9223372036854775808 ≤ (l.getD i HOp.zero).value ∧ (l.getD i HOp.zero).value ≤ 9223372036854775807 := by
  intro i hi
  have := h (l.getD i HOp.zero) (by rw [List.getD_eq_getElem?_getD, List.getElem?_eq_getElem hi]; exact List.getElem_mem hi)
  unfold inI at this; omega

set_option maxRecDepth 100000 in
set_option maxHeartbeats 4000000 in
theorem HistoryWindows_small (w : World) (ao : Option Addr) (cp : Nat) (zs : List Int) (hc : CellsAt w ao (zs.map (.int .u32))) (wz : ∀ z ∈ zs, (Lit.int .u32 z).wf = true) (hl : zs.length ≤ 7) (cap : Int) :
    Calls Try.prog 3 #[.slice ao zs.length cp, .int .i64 cap] w fun e w' => e = .returned (.bool true) ∧ Only [] w w' := by
  obtain ⟨n, hn⟩ : ∃ n, n = zs.length := ⟨_, rfl⟩
  obtain ⟨c, hcd⟩ : ∃ c : Int, c = numZ [cap] 0 4 := ⟨_, rfl⟩
  have hcb := numZ_bd [cap] 0 (n := 4) (by omega)
  rw [← hcd] at hcb
  have NM := Lib.hid (number_any (w.alloc (.cells #[.int .i64 cap] 3)) (.slice (some ⟨w.heap.size, 0, none⟩) 1 1) [cap] 0 4 (ns_new (T := 3) (f := (0, 0)) [cap] (blk_alloc_new w _) rfl) (by omega) (by simp) (by omega))
  rw [← hcd] at NM
  rw [← hn] at hl ⊢
  have HN := Lib.hid hn
  have HC := Lib.hid hc
  have WZ := Lib.hid wz
  clear hn hc wz hcd
  go_enter Try.func3, Try.ntmps3
  go_wp2_with fail
  refine NM.out.mono ?_; rintro e w1 ⟨rfl, o1⟩
  have O1 := Lib.hid (((Only.refl [] w).alloc _).then0 o1)
  clear o1 NM
  go_wp2_with fail
  go_loopw [5, 6] (fun xv iv wr => ∃ (i : Nat) (l : List HOp), i ≤ n ∧ iv = .int .i64 i ∧ l.length = i ∧ (∀ o ∈ l, inI o.value) ∧ wr.ownsRow w.heap.size 28 6 xv l.length (flatO l) ∧ Only [] w wr) (fun _ iv _ => n - (intOf iv).toNat)
  case atStart => exact ⟨0, [], Nat.zero_le _, rfl, rfl, by simp, ⟨rfl, .inl ⟨rfl, rfl⟩⟩, O1.out⟩
  case round =>
    obtain ⟨i, l, hi, rfl, hll, hlv, hown, hP⟩ := hrel
    have P := Lib.hid hP
    have W := Lib.hid hown
    have LV := Lib.hid hlv
    clear hP hown hlv
    by_cases hlt : i < n
    · obtain ⟨b, off, rfl, hcs⟩ := HC.out.ints (by have := HN.out; omega)
      obtain ⟨z, hz⟩ : ∃ z, z = zs.getD i 0 := ⟨_, rfl⟩
      have hzc : wr.cell? ⟨b, off + i, none⟩ = some (.int .u32 z) := by rw [hz]; exact P.out.keepCell (hcs i (by have := HN.out; omega)) (by simp)
      have hzb : 0 ≤ z ∧ z ≤ 4294967295 := by
        have := WZ.out z (by rw [hz, List.getD_eq_getElem?_getD, List.getElem?_eq_getElem (by have := HN.out; omega)]; exact List.getElem_mem _)
        simp [Lit.wf, IntKind.min, IntKind.max, IntKind.signed, IntKind.bits] at this
        omega
      have ZC : ∀ w', Only [] wr w' → w'.cell? ⟨b, off + i, none⟩ = some (.int .u32 z) := fun w' o => o.keepCell hzc (by simp)
      have zd := ZC _ (Only.refl _ _).drew
      have hbl : b < wr.heap.size := lt_of_cell hzc
      clear hz hcs
      go_wp2_with fail
      go_region
      obtain ⟨k, hk⟩ : ∃ k : Nat, (k : Int) = z % 3 := ⟨(z % 3).toNat, by omega⟩
      obtain ⟨fr, hfr⟩ : ∃ fr, fr = z / 3 % 6 := ⟨_, rfl⟩
      obtain ⟨vl, hvl⟩ : ∃ vl, vl = z / 18 % 2 := ⟨_, rfl⟩
      obtain ⟨dl, hdl⟩ : ∃ dl, z / 36 % 4 = dl := ⟨_, rfl⟩
      obtain ⟨cd, hcd⟩ : ∃ cd : Nat, z / 144 % 2 = (cd : Int) := ⟨(z / 144 % 2).toNat, by omega⟩
      have bk : k < 3 := by omega
      have bfr : 0 ≤ fr ∧ fr < 6 := by omega
      have bvl : 0 ≤ vl ∧ vl < 2 := by omega
      have bdl : 0 ≤ dl ∧ dl < 4 := by omega
      have bcd : cd < 2 := by omega
      rw [← hk, ← hfr, ← hvl]
      obtain ⟨ob, hob⟩ : ∃ ob, ob = wr.heap.size := ⟨_, rfl⟩
      obtain ⟨w2, hw2⟩ : ∃ w2, w2 = (wr.alloc (.cells #[.int .i64 k, .int .i64 i, .int .i64 fr, .int .i64 0, .int .i64 0, .int .i64 vl] 28)).drew := ⟨_, rfl⟩
      have o2 : Only [] wr w2 := by rw [hw2]; exact ((Only.refl _ _).alloc _).drew
      have B2 : w2.heap[ob]? = some (.cells #[.int .i64 k, .int .i64 i, .int .i64 fr, .int .i64 0, .int .i64 0, .int .i64 vl] 28 (0, 0)) := by rw [hw2, hob]; exact blk_alloc_new wr _
      rw [← hw2, ← hob]
      have hobl := lt_of_blk B2
      have hobw : w.heap.size ≤ ob := by rw [hob]; exact P.out.size
      have hobr : wr.heap.size ≤ ob := by rw [hob]; exact Nat.le_refl _
      have O2 := Lib.hid o2
      have z2 := ZC _ o2
      have zd2 := ZC _ o2.drew
      have c2 := cell_blk B2 2
      have c3 := cell_blk B2 3
      have f3 := free_blk B2 3
      simp at c2 c3
      have hbl2 : b < w2.heap.size := lt_of_cell z2
      have hne : b ≠ ob := by rw [hob]; omega
      have hne2 : ob ≠ b := fun e => hne e.symm
      have BB2 := Lib.hid B2
      clear hw2 hob hk hfr hvl zd o2 B2 hzc hbl
      go_wp2_with fail
      go_region
      obtain ⟨te, hte⟩ : ∃ te, te = fr + dl := ⟨_, rfl⟩
      rw [← hte]
      obtain ⟨w3, hw3⟩ : ∃ w3, w3 = (w2.setCell ⟨ob, 3, none⟩ (.int .i64 te)).drew := ⟨_, rfl⟩
      have O3 : Hid (Only [ob] wr w3) := Lib.hid (by rw [hw3]; exact ((O2.out.mono (by simp)).setCell (by simp) _).drew)
      have B3 : w3.heap[ob]? = some (.cells #[.int .i64 k, .int .i64 i, .int .i64 fr, .int .i64 te, .int .i64 0, .int .i64 vl] 28 (0, 0)) := by
        rw [hw3]
        have h := blk_setCell BB2.out 3 (.int .i64 te)
        simp at h
        exact h
      rw [← hw3]
      have BB3 := Lib.hid B3
      have z3 : w3.cell? ⟨b, off + i, none⟩ = some (.int .u32 z) := O3.out.keepCell (ZC _ (Only.refl _ _)) (by simp; exact hne)
      have d0 := cell_blk B3 0
      have d4 := cell_blk B3 4
      have f4 := free_blk B3 4
      simp at d0 d4
      have hobl3 := lt_of_blk B3
      have hbl3 : b < w3.heap.size := lt_of_cell z3
      have a1 : ob < w3.heap.size + 1 := by omega
      have a2 : ob < w3.heap.size + 1 + 1 := by omega
      have a3 : ob < w3.heap.size + 1 + 1 + 1 := by omega
      have b1 : b < w3.heap.size + 1 := by omega
      have b2 : b < w3.heap.size + 1 + 1 := by omega
      have b3 : b < w3.heap.size + 1 + 1 + 1 := by omega
      clear hw3 hte B3 z2 zd2 f3 c2 c3 hobl hbl2 ZC BB2 hdl
      go_upto_region 10 with fail
      go_cut [69] (fun s wx => ∃ cv : Int, wx.heap[ob]? = some (.cells #[.int .i64 k, .int .i64 i, .int .i64 fr, .int .i64 te, .int .i64 cv, .int .i64 vl] 28 (0, 0)) ∧ Only [ob] w3 wx)
      case first =>
        --<A
        have hsel := sel_slice bk
        have hsel2 := sel_list bk
        have hk3 : (k : Int) < 3 := by omega
        have hc2 : (cd : Int) < 2 := by omega
        have p0 := sel_perm0 w3 bk bcd
        have p1 := sel_perm1 w3 bk bcd
        have p2 := sel_perm2 w3 bk bcd
        have p3 := sel_perm3 w3 bk bcd
        have p4 := sel_perm4 w3 bk bcd
        have p5 := sel_perm5 w3 bk bcd
        go_region
        all_goals
          go_wp2_with fail
          go_meet
          refine ⟨tabV k cd, ?_, ?_⟩
          · have h := blk_setCell BB3.out 4 (.int .i64 (tabV k cd))
            simp only [List.setIfInBounds_toArray, List.set_cons_zero, List.set_cons_succ] at h
            exact (((((Only.refl [] _).alloc _).alloc _).alloc _).alloc _).drew.keep h (by simp)
          · exact ((((((Only.refl [ob] w3).setCell (.inl (by simp)) _).alloc _).alloc _).alloc _).alloc _).drew
        --A>
      case rest =>
        obtain ⟨cv, hB4, o4⟩ := hcut
        have B4 := Lib.hid hB4
        have R4 : Hid (Only [ob] wr wc) := Lib.hid (O3.out.trans o4 (fun t ht => .inl ht))
        have P4 : Hid (Only [] w wc) := Lib.hid ((P.out.mono (by simp)).trans R4.out (fun t ht => by
          have : t = ob := by simpa using ht
          subst this
          exact .inr hobw))
        have W4 : Hid (wc.ownsRow w.heap.size 28 6 u5 l.length (flatO l)) := Lib.hid (owns_keepS W.out R4.out (fun q hq => by have := (owns_lt W.out q hq).2; simp; omega))
        have hsz := P4.out.size
        obtain ⟨xo, xc, hx⟩ := owns_sl W4.out
        subst hx
        clear hB4 o4 z3 d0 d4 f4 hobl3 hbl3 a1 a2 a3 b1 b2 b3 hne hne2 BB3 hcd
        have LL := Lib.hid hll
        have hll2 : l.length ≤ 7 := by omega
        obtain ⟨ln, hln⟩ : ∃ ln, ln = l.length := ⟨_, rfl⟩
        have HLN := Lib.hid hln
        rw [← hln] at W4 hll2 ⊢
        clear hll hln
        have e0 := cell_blk B4.out 0
        have e1 := cell_blk B4.out 1
        have e2 := cell_blk B4.out 2
        have e3 := cell_blk B4.out 3
        have e4 := cell_blk B4.out 4
        have e5 := cell_blk B4.out 5
        have f5 := free_blk B4.out 5
        simp at e0 e1 e2 e3 e4 e5
        have fin : ∀ (y : HOp) (v' : Value) (w5 : World), inI y.value → w5.ownsRow w.heap.size 28 6 v' (l.length + 1) (flatO (l ++ [y])) → Only [] w w5 → ∃ (i' : Nat) (l' : List HOp), i' ≤ n ∧ ((i : Int) + 1) = i' ∧ l'.length = i' ∧ (∀ o ∈ l', inI o.value) ∧ w5.ownsRow w.heap.size 28 6 v' l'.length (flatO l') ∧ Only [] w w5 := fun y v' w5 hy h1 h2 =>
          ⟨i + 1, l ++ [y], by omega, by omega, by rw [List.length_append, LL.out]; rfl, fun o ho => by
            rw [List.mem_append, List.mem_singleton] at ho
            rcases ho with ho | rfl
            · exact LV.out o ho
            · exact hy, by rw [List.length_append]; exact h1, h2⟩
        by_cases h1 : cv = 1
        · subst h1
          go_wp2_with (at_builtin; refine step_append_opB _ rfl _ _ rfl w.heap.size (.slice xo ln xc) ln l HLN.out rfl (owns_keep W4.out ((Only.refl [] _).alloc _)) ⟨wc.heap.size, 0, none⟩ ⟨k, i, fr, te, 1, vl⟩ rfl (cells_newO ⟨k, i, fr, te, 1, vl⟩ rfl) (by have := HLN.out; omega) (by simp; omega) ?_)
          intro v' w5 hown hgrow
          have P5 := Lib.hid ((P4.out.alloc (.cells #[.int .i64 k, .int .i64 i, .int .i64 fr, .int .i64 te, .int .i64 1, .int .i64 vl] 28)).grown hgrow (fun q hq => .inr (owns_lt W4.out q hq).1))
          have W5 := Lib.hid hown
          obtain ⟨vo, vc, rfl⟩ := owns_sl hown
          clear hown hgrow
          go_wp2_with fail
          go_roundw
          case rel =>
            obtain ⟨i', l', r1, r2, r3, r4, r5, r6⟩ := fin ⟨k, i, fr, te, 1, vl⟩ _ _ (by show inI vl; unfold inI; omega) W5.out P5.out
            exact ⟨i', l', r1, by rw [← r2], r3, r4, r5, r6⟩
          case measure => simp [intOf]; omega
        · by_cases h0 : cv = 0
          · subst h0
            go_wp2_with (at_builtin; refine step_append_opB _ rfl _ _ rfl w.heap.size (.slice xo ln xc) ln l HLN.out rfl (owns_keep W4.out ((Only.refl [] _).alloc _)) ⟨wc.heap.size, 0, none⟩ ⟨k, i, fr, te, 0, vl⟩ rfl (cells_newO ⟨k, i, fr, te, 0, vl⟩ rfl) (by have := HLN.out; omega) (by simp; omega) ?_)
            intro v' w5 hown hgrow
            have P5 := Lib.hid ((P4.out.alloc (.cells #[.int .i64 k, .int .i64 i, .int .i64 fr, .int .i64 te, .int .i64 0, .int .i64 vl] 28)).grown hgrow (fun q hq => .inr (owns_lt W4.out q hq).1))
            have W5 := Lib.hid hown
            obtain ⟨vo, vc, rfl⟩ := owns_sl hown
            clear hown hgrow
            go_wp2_with fail
            go_roundw
            case rel =>
              obtain ⟨i', l', r1, r2, r3, r4, r5, r6⟩ := fin ⟨k, i, fr, te, 0, vl⟩ _ _ (by show inI vl; unfold inI; omega) W5.out P5.out
              exact ⟨i', l', r1, by rw [← r2], r3, r4, r5, r6⟩
            case measure => simp [intOf]; omega
          · have g1 : (cv != 1) = true := by simp [h1]
            have g0 : (cv != 0) = true := by simp [h0]
            obtain ⟨w6, hw6⟩ : ∃ w6, w6 = wc.setCell ⟨ob, 5, none⟩ (.int .i64 0) := ⟨_, rfl⟩
            have o6 : Only [ob] wc w6 := by rw [hw6]; exact (Only.refl _ _).setCell (.inl (by simp)) _
            have W6 : Hid (w6.ownsRow w.heap.size 28 6 (.slice xo ln xc) ln (flatO l)) := Lib.hid (owns_keepS W4.out o6 (fun q hq => by have := (owns_lt W.out q (by rw [← HLN.out]; exact hq)).2; simp; omega))
            have P6 : Hid (Only [] w w6) := Lib.hid (by rw [hw6]; exact P4.out.setCell (.inr hobw) _)
            have B6 : w6.heap[ob]? = some (.cells #[.int .i64 k, .int .i64 i, .int .i64 fr, .int .i64 te, .int .i64 cv, .int .i64 0] 28 (0, 0)) := by
              have h := blk_setCell B4.out 5 (.int .i64 0)
              simp only [List.setIfInBounds_toArray, List.set_cons_zero, List.set_cons_succ] at h
              rw [hw6]; exact h
            have hsz6 := P6.out.size
            have r0 := cell_blk B6 0
            have r1 := cell_blk B6 1
            have r2 := cell_blk B6 2
            have r3 := cell_blk B6 3
            have r4 := cell_blk B6 4
            have r5 := cell_blk B6 5
            simp at r0 r1 r2 r3 r4 r5
            clear h0 h1 o6 B6
            go_upto_region 13 with fail
            rw [← hw6]
            clear hw6
            go_wp2_with (at_builtin; refine step_append_opB _ rfl _ _ rfl w.heap.size (.slice xo ln xc) ln l HLN.out rfl (owns_keep W6.out ((Only.refl [] _).alloc _)) ⟨w6.heap.size, 0, none⟩ ⟨k, i, fr, te, cv, 0⟩ rfl (cells_newO ⟨k, i, fr, te, cv, 0⟩ rfl) (by have := HLN.out; omega) (by simp; omega) ?_)
            intro v' w5 hown hgrow
            have P5 := Lib.hid ((P6.out.alloc (.cells #[.int .i64 k, .int .i64 i, .int .i64 fr, .int .i64 te, .int .i64 cv, .int .i64 0] 28)).grown hgrow (fun q hq => .inr (owns_lt W6.out q hq).1))
            have W5 := Lib.hid hown
            obtain ⟨vo, vc, rfl⟩ := owns_sl hown
            clear hown hgrow
            go_wp2_with fail
            go_roundw
            case rel =>
              obtain ⟨i', l', r1, r2, r3, r4, r5, r6⟩ := fin ⟨k, i, fr, te, cv, 0⟩ _ _ (by show inI 0; unfold inI; omega) W5.out P5.out
              exact ⟨i', l', r1, by rw [← r2], r3, r4, r5, r6⟩
            case measure => simp [intOf]; omega
    · obtain rfl : n = i := by omega
      have OV := Lib.hid (ops_owns W.out rfl)
      obtain ⟨oao, ocap, rfl, -⟩ := id OV.out
      obtain ⟨ln, hln⟩ : ∃ ln, ln = l.length := ⟨_, rfl⟩
      have HLN := Lib.hid hln
      have hln7 : l.length ≤ 7 := by omega
      rw [← hln] at OV ⊢
      have AW := Lib.hid (awake_any wr)
      have VL := Lib.hid (getD_vals2 LV.out)
      obtain ⟨r, hr⟩ : ∃ r, r = linB l c := ⟨_, rfl⟩
      have HR := Lib.hid hr
      clear hln hll hr
      go_wp2_with fail
      refine AW.out.mono ?_; rintro e w5 ⟨rfl, o5⟩
      have O5 := Lib.hid (P.out.then0 o5)
      have LA := Lib.hid (linear_any w5 (.slice oao ln ocap) l c (OV.out.keep o5) VL.out)
      have OV5 := Lib.hid (OV.out.keep o5)
      rw [← HR.out] at LA
      clear o5 AW
      go_wp2_with fail
      refine LA.out.mono ?_; rintro e w6 ⟨rfl, o6⟩
      have O6 := Lib.hid (O5.out.then0 o6)
      have LB := Lib.hid (refLinear_any w6 (.slice oao ln ocap) l c (OV5.out.keep o6) (by omega))
      rw [← HR.out] at LB
      clear o6 LA
      go_wp2_with fail
      refine LB.out.mono ?_; rintro e w7 ⟨rfl, o7⟩
      have O7 := Lib.hid (O6.out.then0 o7)
      clear o7 LB
      go_wp2_with fail
      go_ret
      exact ⟨by simp, O7.out⟩

set_option maxRecDepth 100000 in
theorem HistoryWindows_any (w : World) (ao : Option Addr) (cp : Nat) (zs : List Int) (hc : CellsAt w ao (zs.map (.int .u32))) (wz : ∀ z ∈ zs, (Lit.int .u32 z).wf = true) (hcap : zs.length ≤ cp) (hmax : cp ≤ maxLen) (cap : Int) :
    Calls Try.prog 3 #[.slice ao zs.length cp, .int .i64 cap] w fun e w' => e = .returned (.bool true) ∧ Only [] w w' := by
  by_cases hl : zs.length ≤ 7
  · exact HistoryWindows_small w ao cp zs hc wz hl cap
  · have hbig : zs.length ≤ 9223372036854775807 := by unfold maxLen at hmax; omega
    generalize zs.length = n at *
    have h7 : 7 < n := by omega
    clear hl hc wz
    go_enter Try.func3, Try.ntmps3
    go_wp2_with fail
    go_ret
    exact ⟨rfl, Only.refl _ _⟩
end Go.Proofs.Ytfhkhknnoepfeaa
