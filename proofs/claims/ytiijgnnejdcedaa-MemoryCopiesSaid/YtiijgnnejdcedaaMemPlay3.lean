/- MemoryCopies of chapter 2, walked. -/
import Derived.Test.YtiijgnnejdcedaaMemPlay2
namespace Go.Proofs.Ytiijgnnejdcedaa
open Go.RowKit
set_option linter.unusedVariables false

/-- The reference's copy: its six words in a new block, its cells in another. -/
theorem Pair.two {w w2 : World} {m bc b rc k bk b2 rc2 : Nat} {s : MS} {v2 : Value} (h : Pair w m bc b rc s) (hk : MemAt w2 k bk s) (hb2 : w2.heap[b2]? = some (.cells #[v2, .int .i64 s.kind, .int .i64 s.cell, .int .u64 s.old, .int .u64 s.new, .int .i64 s.count] 49 (0, 0)))
    (hr : RowAt w2 v2 rc2 35 (s.cells.map (.int .u64))) (n1 : k ≠ b2) (n2 : k ≠ rc2) (n3 : bk ≠ b2) (n4 : bk ≠ rc2) (n5 : rc2 ≠ b2) : Pair w2 k bk b2 rc2 s :=
  ⟨hk, ⟨v2, hb2, hr, n5, by obtain ⟨_, _, _, _, h7⟩ := h.p; exact h7⟩, n1, n2, n3, n4, h.n⟩

set_option maxHeartbeats 2000000 in
theorem MemoryCopies_any (w : World) (c0 : Int) (ao : Option Addr) (cap : Nat) (rows : List (List Int)) (hao : RowsAt w ao callKs rows) (ao' : Option Addr) (cap' : Nat) (rows' : List (List Int)) (hao' : RowsAt w ao' callKs rows') :
    Calls Try.prog 11 #[.int .i64 c0, .slice ao rows.length cap, .slice ao' rows'.length cap'] w fun e w' => e = .returned (.bool true) ∧ Only [] w w' := by
  obtain ⟨i0, hi, hz0, hz1, hz2⟩ := info_parts info64
  have hdb := drw_bd c0 20
  obtain ⟨n, hn⟩ : ∃ n : Nat, drw c0 20 = (n : Int) := ⟨(drw c0 20).toNat, by omega⟩
  have hn20 : n ≤ 20 := by have := hdb.2 (by omega); omega
  obtain ⟨len, hlen⟩ : ∃ len, len = rows.length := ⟨_, rfl⟩
  obtain ⟨len', hlen'⟩ : ∃ len', len' = rows'.length := ⟨_, rfl⟩
  rw [← hlen, ← hlen']
  have HA := Lib.hid hao
  have HA' := Lib.hid hao'
  have HL := Lib.hid hlen
  have HL' := Lib.hid hlen'
  clear hao hlen hao' hlen' hdb
  go_enter Try.func11, Try.ntmps11
  go_wp2_with fail
  refine (refDraw_any _ _ _ (by omega)).mono ?_; rintro e w0 ⟨rfl, rfl⟩
  go_wp2_with fail
  refine (memNew_any _ _ _ n rfl (by omega) (by omega)).mono ?_; rintro e w1 ⟨m, bc, rfl, o1, h1, l1, l2, l3⟩
  go_wp2_with fail
  refine (refNew_any _ _ _ n rfl (by omega) (by omega)).mono ?_; rintro e w2 ⟨a, cp, rc, rfl, o2, h2, l4, l5⟩
  have lm := h1.lt
  have hw3 := Pair.start h1 o2 h2 l3 l4 l5
  have HP := Lib.hid hw3
  have p2 := o1.then0 o2
  have lw2 := p2.size
  have P2 : Hid (Only [] w (w2.alloc _)) := Lib.hid (p2.alloc (.cells #[.slice (some a) n cp, .int .i64 0, .int .i64 0, .int .u64 0, .int .u64 0, .int .i64 0] 49))
  clear o1 o2 h1 h2 hw3 p2
  go_wp2_with fail
  refine (memAwake_any _).mono ?_; rintro e w3 ⟨rfl, o3⟩
  have HP3 := Lib.hid (HP.out.keep o3 (by simp) (by simp) (by simp) (by simp))
  have P3 := Lib.hid (P2.out.then0 o3)
  have hs3 : w2.heap.size < w3.heap.size := by have := o3.size; simp at this; omega
  obtain ⟨b, hb2⟩ : ∃ b, b = w2.heap.size := ⟨_, rfl⟩
  have lb : w.heap.size ≤ b := by omega
  have lrc : w.heap.size ≤ rc := by omega
  have lb3 : b < w3.heap.size := by omega
  rw [← hb2] at HP3 ⊢
  clear HP P2 o3 hb2 hn
  go_wp2_with fail
  go_loopw [9] (fun i wr => ∃ (k : Nat) (s : MS), k ≤ len ∧ k ≤ 30 ∧ i = .int .i64 k ∧ Only [] w wr ∧ Pair wr m bc b rc s ∧ s.cells.length = n ∧ s.count ≤ k ∧ w3.heap.size ≤ wr.heap.size)
    (fun i _ => len - (intOf i).toNat)
  case atStart => exact ⟨0, _, Nat.zero_le _, by omega, rfl, P3.out, HP3.out, zeros_len n, by simp, Nat.le_refl _⟩
  case round =>
    obtain ⟨k, s, hk, hk30, rfl, hP, hPr, hsn, hcnt, hws⟩ := hrel
    have HP := Lib.hid hPr
    have P := Lib.hid hP
    have HS := Lib.hid hsn
    clear hP hPr hsn HP3 P3
    by_cases hgo : k < len ∧ k < 30
    · obtain ⟨hlt, h30⟩ := hgo
      obtain ⟨bl, off, rfl, hcl⟩ := HA.out (by have := HL.out; omega)
      have hc0 := P.out.keepCell (hcl k (by have := HL.out; omega) 0 _ rfl) (by simp)
      have hc1 := P.out.keepCell (hcl k (by have := HL.out; omega) 1 _ rfl) (by simp)
      have hc2 := P.out.keepCell (hcl k (by have := HL.out; omega) 2 _ rfl) (by simp)
      have hc3 := P.out.keepCell (hcl k (by have := HL.out; omega) 3 _ rfl) (by simp)
      simp only [callKs, List.length_cons, List.length_nil, Nat.zero_add, Nat.reduceAdd, Nat.add_zero] at hc0 hc1 hc2 hc3
      generalize (rows.getD k []).getD 0 0 = x0 at hc0
      generalize (rows.getD k []).getD 1 0 = x1 at hc1
      generalize (rows.getD k []).getD 2 0 = x2 at hc2
      generalize (rows.getD k []).getD 3 0 = x3 at hc3
      clear hcl
      have hbox : ∀ (y : Int), Only [] w (wr.alloc (.cells #[.int .i64 x0, .int .i64 y, .int .u64 x2, .int .u64 x3] 52)) := fun y => P.out.alloc _
      have hpair : ∀ (y : Int), Pair (wr.alloc (.cells #[.int .i64 x0, .int .i64 y, .int .u64 x2, .int .u64 x3] 52)) m bc b rc s := fun y => HP.out.keep ((Only.refl [] wr).alloc _) (by simp) (by simp) (by simp) (by simp)
      have HB := Lib.hid hbox
      have HQ := Lib.hid hpair
      clear hbox hpair
      go_wp2_with fail
      refine (refDraw_any _ _ _ (by omega)).mono ?_; rintro e w4 ⟨rfl, rfl⟩
      go_wp2_with fail
      refine (act_any _ m bc b rc s _ _ _ _ (HQ.out _) (by omega)).mono ?_
      rintro e w5 ⟨s', rfl, o5, h5, e5, n5⟩
      have hws5 : w3.heap.size ≤ w5.heap.size := Nat.le_trans hws (Nat.le_trans (by simp) o5.size)
      have P5 := Lib.hid ((HB.out _).trans o5 (by simp; omega))
      have Q5 := Lib.hid h5
      have E5 := Lib.hid e5
      clear o5 h5 e5
      go_wp2_with fail
      go_roundw
      case rel => exact ⟨k + 1, s', by omega, by omega, by go_num, P5.out, Q5.out, E5.out.trans HS.out, by omega, hws5⟩
      case measure => simp [intOf]; omega
    · have hcopy := Lib.hid (memCopy_any wr m bc s HP.out.p (by have := HS.out; omega))
      have hex : (k < len ∧ (30 : Int) ≤ (k : Int)) ∨ ¬ k < len := by omega
      clear hgo
      rcases hex with ⟨hlt, h30⟩ | hlt
      all_goals
        go_wp2_with fail
        refine hcopy.out.mono ?_; rintro e w4 ⟨kk, bk, rfl, o4, h4, l6, l7, l8⟩
        have HP4 := Lib.hid (HP.out.keep o4 (by simp) (by simp) (by simp) (by simp))
        have P4 := Lib.hid (P.out.then0 o4)
        have K4 := Lib.hid h4
        have lkk := h4.lt
        clear o4 h4
        obtain ⟨v, hv1, hv2, hv6, hv7⟩ := HP4.out.r
        obtain ⟨av, cv, rfl, hvc, _, _⟩ := hv2.cells
        simp only [List.nil_append, List.append_nil, List.length_map] at hv1
        have d0 := cell_blk hv1 0
        have d1 := cell_blk hv1 1
        have d2 := cell_blk hv1 2
        have d3 := cell_blk hv1 3
        have d4 := cell_blk hv1 4
        have d5 := cell_blk hv1 5
        simp at d0 d1 d2 d3 d4 d5
        have lbw := lt_of_blk hv1
        have HVC := Lib.hid hvc
        obtain ⟨X, hX⟩ : ∃ X, X = Obj.cells #[Value.slice (some av) s.cells.length cv, .int .i64 s.kind, .int .i64 s.cell, .int .u64 s.old, .int .u64 s.new, .int .i64 s.count] 49 (0, 0) := ⟨_, rfl⟩
        have HO : Hid (((w4.alloc X).alloc (.cells #[] 35)).ownsRow (w4.heap.size + 1) 35 1 (.slice (some ⟨w4.heap.size + 1, 0, none⟩) 0 0) 0 []) := Lib.hid (by simpa using World.ownsRow_made (w4.alloc X) #[] 0 (Nat.le_refl _) (by simp) rfl)
        have HN : Hid (∀ j u, (s.cells.map (Value.int .u64))[j]? = some u → ((w4.alloc X).alloc (.cells #[] 35)).cell? (av.add j) = some u) := Lib.hid (hvc.keep0 (((Only.refl [] w4).alloc _).alloc _)).news
        have H1 : Hid (∀ u ∈ s.cells.map (Value.int .u64), u.oneCell' = true) := Lib.hid (by intro u hu; simp at hu; obtain ⟨z, _, rfl⟩ := hu; rfl)
        subst hX
        clear hv1 hv2 hvc
        have hlen20 : s.cells.length ≤ 20 := by have := HS.out; omega
        go_wp2_with (at_builtin; refine wpList_append_own _ rfl _ _ 32 rfl (w4.heap.size + 1) 35 i0 (.int .u64 0) 1 8 Try.underlying32 hi hz0 hz1 hz2 rfl (by decide) _ _ _ rfl HO.out av s.cells.length cv (s.cells.map (.int .u64)) rfl (by simp) HN.out H1.out (by unfold maxLen; omega) (by omega) (by simp) ?_)
        intro v' w5 hown' hgrow hnil
        have hv : v' ≠ .slice none 0 0 := by simpa using hnil
        obtain ⟨rc2, hr, hb1, hb2⟩ := rowAt_of_owns hown' hv
        obtain ⟨a2, c2, rfl, hr2, hr3, hr4⟩ := hr
        simp only [List.length_map] at hr2 hr3 ⊢
        have hr' : RowAt w5 (.slice (some a2) s.cells.length c2) rc2 35 (s.cells.map (.int .u64)) := ⟨a2, c2, by rw [List.length_map], by rw [List.length_map]; exact hr2, hr3, hr4⟩
        have ho5 : Only [w4.heap.size + 1] ((w4.alloc (.cells #[.slice (some av) s.cells.length cv, .int .i64 s.kind, .int .i64 s.cell, .int .u64 s.old, .int .u64 s.new, .int .i64 s.count] 49)).alloc (.cells #[] 35)) w5 := (Only.refl _ _).grown hgrow (by simp [Value.ownBlock])
        have hx5 := ho5.keep (((Only.refl [] _).alloc _).keep (blk_alloc_new w4 _) (by simp)) (by simp)
        have ho45 : Only [] w4 w5 := (((Only.refl [] w4).alloc _).alloc _).thenN ho5 (by omega)
        have g0 := cell_blk hx5 0
        have f0 := free_blk hx5 0
        simp at g0
        have hlow5 : w4.heap.size < w5.heap.size := lt_of_blk hx5
        have HX5 := Lib.hid hx5
        have HO45 := Lib.hid ho45
        have HR5 := Lib.hid hr'
        have hrc2 : w4.heap.size < rc2 := by omega
        have hwr4 : wr.heap.size ≤ w4.heap.size := Nat.le_trans l6 (by omega)
        clear hown' hgrow hnil hv hr4 hr' ho5 hx5 ho45 d0 d1 d2 d3 d4 d5
        have Q6 := fun (w6 : World) (e : w6 = w5.setCell ⟨w4.heap.size, 0, none⟩ (.slice (some a2) s.cells.length c2)) => Pair.two HP4.out (w2 := w6) (by rw [e]; exact K4.out.keep ((HO45.out.mono (T := [w4.heap.size]) (by simp)).setCell (p := ⟨w4.heap.size, 0, none⟩) (by simp) _) (by simp; omega) (by simp; omega)) (v2 := .slice (some a2) s.cells.length c2) (by rw [e]; exact blk_setCell HX5.out 0 _) (by rw [e]; exact HR5.out.keep ((Only.refl [w4.heap.size] w5).setCell (p := ⟨w4.heap.size, 0, none⟩) (by simp) _) (by simp; omega)) (k := kk) (bk := bk) (b2 := w4.heap.size) (rc2 := rc2) (by omega) (by omega) (by omega) (by omega) (by omega)
        have HQ6 := Lib.hid (Q6 _ rfl)
        have HP6 := Lib.hid (HP4.out.keep ((HO45.out.mono (T := [w4.heap.size]) (by simp)).setCell (p := ⟨w4.heap.size, 0, none⟩) (by simp) (.slice (some a2) s.cells.length c2)) (by simp; omega) (by simp; omega) (by simp; omega) (by simp; omega))
        have P6 := Lib.hid ((P4.out.then0 HO45.out).setCell (p := ⟨w4.heap.size, 0, none⟩) (.inr (by have := P4.out.size; simp; omega)) (.slice (some a2) s.cells.length c2))
        clear Q6
        go_wp2_with fail
        refine (same_any _ kk bk w4.heap.size rc2 s HQ6.out (by omega)).mono ?_; rintro e w7 ⟨rfl, o7⟩
        have HQ7 := Lib.hid (HQ6.out.keep o7 (by simp) (by simp) (by simp) (by simp))
        have HP7 := Lib.hid (HP6.out.keep o7 (by simp) (by simp) (by simp) (by simp))
        have P7 := Lib.hid (P6.out.then0 o7)
        obtain ⟨b2, hb2e⟩ : ∃ b2, b2 = w4.heap.size := ⟨_, rfl⟩
        rw [← hb2e] at HQ7 ⊢
        have dis : (m ≠ kk ∧ m ≠ bk ∧ m ≠ b2 ∧ m ≠ rc2) ∧ (bc ≠ kk ∧ bc ≠ bk ∧ bc ≠ b2 ∧ bc ≠ rc2) ∧ (b ≠ kk ∧ b ≠ bk ∧ b ≠ b2 ∧ b ≠ rc2) ∧ (rc ≠ kk ∧ rc ≠ bk ∧ rc ≠ b2 ∧ rc ≠ rc2) := by omega
        have low : w.heap.size ≤ kk ∧ w.heap.size ≤ bk ∧ w.heap.size ≤ b2 ∧ w.heap.size ≤ rc2 := by have := P.out.size; omega
        have HD := Lib.hid dis
        have HLow := Lib.hid low
        clear o7 dis low HQ6 HP6 P6 HX5 HO45 HR5 g0 f0 K4 HP4 P4 HVC HO HN H1 hb2e lkk l8 hb1 hb2 hrc2 hwr4 hlow5 lbw
        go_wp2_with fail
        obtain ⟨wo, rfl⟩ : ∃ wo : World, wo = wr := ⟨_, rfl⟩
        go_loopw [13] (fun i wr => ∃ (j : Nat) (t : MS), j ≤ len' ∧ j ≤ 30 ∧ i = .int .i64 j ∧ Only [] w wr ∧ Pair wr m bc b rc s ∧ Pair wr kk bk b2 rc2 t ∧ t.cells.length = n ∧ t.count ≤ k + j)
          (fun i _ => len' - (intOf i).toNat)
        case atStart => exact ⟨0, s, Nat.zero_le _, by omega, rfl, P7.out, HP7.out, HQ7.out, HS.out, by omega⟩
        case round =>
          obtain ⟨j, t, hj, hj30, rfl, hP, hPr, hQr, htn, htc⟩ := hrel
          have P := Lib.hid hP
          have HP := Lib.hid hPr
          have HQ := Lib.hid hQr
          have HT := Lib.hid htn
          clear hP hPr hQr htn P7 HP7 HQ7
          by_cases hgo : j < len' ∧ j < 30
          · obtain ⟨hlt', h30'⟩ := hgo
            obtain ⟨bl, off, rfl, hcl⟩ := HA'.out (by have := HL'.out; omega)
            have hc0 := P.out.keepCell (hcl j (by have := HL'.out; omega) 0 _ rfl) (by simp)
            have hc1 := P.out.keepCell (hcl j (by have := HL'.out; omega) 1 _ rfl) (by simp)
            have hc2 := P.out.keepCell (hcl j (by have := HL'.out; omega) 2 _ rfl) (by simp)
            have hc3 := P.out.keepCell (hcl j (by have := HL'.out; omega) 3 _ rfl) (by simp)
            simp only [callKs, List.length_cons, List.length_nil, Nat.zero_add, Nat.reduceAdd, Nat.add_zero] at hc0 hc1 hc2 hc3
            generalize (rows'.getD j []).getD 0 0 = x0 at hc0
            generalize (rows'.getD j []).getD 1 0 = x1 at hc1
            generalize (rows'.getD j []).getD 2 0 = x2 at hc2
            generalize (rows'.getD j []).getD 3 0 = x3 at hc3
            clear hcl
            have hbox : ∀ (y : Int), Only [] w (wr.alloc (.cells #[.int .i64 x0, .int .i64 y, .int .u64 x2, .int .u64 x3] 52)) := fun y => P.out.alloc _
            have hpair : ∀ (y : Int), Pair (wr.alloc (.cells #[.int .i64 x0, .int .i64 y, .int .u64 x2, .int .u64 x3] 52)) m bc b rc s := fun y => HP.out.keep ((Only.refl [] wr).alloc _) (by simp) (by simp) (by simp) (by simp)
            have hpair2 : ∀ (y : Int), Pair (wr.alloc (.cells #[.int .i64 x0, .int .i64 y, .int .u64 x2, .int .u64 x3] 52)) kk bk b2 rc2 t := fun y => HQ.out.keep ((Only.refl [] wr).alloc _) (by simp) (by simp) (by simp) (by simp)
            have HB := Lib.hid hbox
            have HR := Lib.hid hpair
            have HR2 := Lib.hid hpair2
            clear hbox hpair hpair2
            go_wp2_with fail
            refine (refDraw_any _ _ _ (by omega)).mono ?_; rintro e w8 ⟨rfl, rfl⟩
            go_wp2_with fail
            refine (act_any _ kk bk b2 rc2 t _ _ _ _ (HR2.out _) (by omega)).mono ?_
            rintro e w9 ⟨t', rfl, o9, h9, e9, n9⟩
            have P9 := Lib.hid ((HB.out _).trans o9 (by have := HLow.out; simp; omega))
            have Q9 := Lib.hid h9
            have R9 := Lib.hid ((HR.out _).keep o9 (by have := HD.out; simp; omega) (by have := HD.out; simp; omega) (by have := HD.out; simp; omega) (by have := HD.out; simp; omega))
            have E9 := Lib.hid e9
            clear o9 h9 e9
            go_wp2_with fail
            refine (same_any _ m bc b rc s R9.out (by omega)).mono ?_; rintro e w10 ⟨rfl, o10⟩
            have P10 := Lib.hid (P9.out.then0 o10)
            have Q10 := Lib.hid (Q9.out.keep o10 (by simp) (by simp) (by simp) (by simp))
            have R10 := Lib.hid (R9.out.keep o10 (by simp) (by simp) (by simp) (by simp))
            clear o10 P9 Q9 R9
            go_wp2_with fail
            go_roundw
            case rel => exact ⟨j + 1, t', by omega, by omega, by go_num, P10.out, R10.out, Q10.out, E9.out.trans HT.out, by omega⟩
            case measure => simp [intOf]; omega
          · have hex : (j < len' ∧ (30 : Int) ≤ (j : Int)) ∨ ¬ j < len' := by omega
            have hcells := Lib.hid (memCells_any wr m bc s HP.out.p (by omega))
            clear hgo
            rcases hex with ⟨hlt', h30'⟩ | hlt'
            all_goals
              go_wp2_with fail
              refine hcells.out.mono ?_; rintro e w8 ⟨v8, b8, rfl, o8, r8, l8, l9⟩
              have P8 := Lib.hid (P.out.then0 o8)
              have HP8 := Lib.hid (HP.out.keep o8 (by simp) (by simp) (by simp) (by simp))
              have HQ8 := Lib.hid (HQ.out.keep o8 (by simp) (by simp) (by simp) (by simp))
              have r8' := Lib.hid r8
              obtain ⟨a8, c8, rfl, _, _⟩ := r8
              simp only [List.length_map, HS.out] at r8' ⊢
              have D8 : Hid (0 < n → m ≠ b8 ∧ bc ≠ b8 ∧ b ≠ b8 ∧ rc ≠ b8 ∧ kk ≠ b8 ∧ bk ≠ b8 ∧ b2 ≠ b8 ∧ rc2 ≠ b8) := Lib.hid (fun hp => by
                have e1 := HP.out.p.lt
                have e2 := HP.out.p.ltc (by have := HS.out; omega)
                have e3 := HP.out.ltb
                have e4 := HP.out.ltr (by have := HS.out; omega)
                have e5 := HQ.out.p.lt
                have e6 := HQ.out.p.ltc (by have := HT.out; omega)
                have e7 := HQ.out.ltb
                have e8 := HQ.out.ltr (by have := HT.out; omega)
                omega)
              have lb8 : w.heap.size ≤ b8 := by have := P.out.size; omega
              obtain ⟨ys, hys, hyl⟩ : ∃ ys, ys = s.cells ∧ ys.length = n := ⟨_, rfl, HS.out⟩
              rw [← hys] at r8'
              clear hys o8
              obtain ⟨w9, hw9⟩ : ∃ w9, w9 = w8 := ⟨_, rfl⟩
              go_wp2_with fail
              obtain ⟨wo2, rfl⟩ : ∃ wo2 : World, wo2 = wr := ⟨_, rfl⟩
              go_loopw [16] (fun i wr => ∃ (q : Nat) (ys : List Int), q ≤ n ∧ i = .int .i64 q ∧ ys.length = n ∧ RowAt wr (.slice (some a8) n c8) b8 35 (ys.map (.int .u64)) ∧ Only [] w wr ∧ Pair wr m bc b rc s ∧ Pair wr kk bk b2 rc2 t)
                (fun i _ => n - (intOf i).toNat)
              case atStart => exact ⟨0, ys, Nat.zero_le _, rfl, hyl, r8'.out, P8.out, HP8.out, HQ8.out⟩
              case round =>
                obtain ⟨q, zs, hq, rfl, hzl, hR, hP, hPr, hQr⟩ := hrel
                have R9 := Lib.hid hR
                have P9 := Lib.hid hP
                have HP9 := Lib.hid hPr
                have HQ9 := Lib.hid hQr
                clear hR hP hPr hQr P8 HP8 HQ8 r8' hyl
                by_cases hqn : q < n
                · obtain ⟨cap9, e9, _, hcap9, hcell, hfree, hset⟩ := R9.out.at (by simp; omega)
                  simp only [List.length_map, hzl, Value.slice.injEq, Option.some.injEq, true_and] at e9
                  obtain ⟨rfl, rfl⟩ := e9
                  have x1 := hcell q (by simp; omega)
                  have x2 := hfree q
                  simp only [List.getElem_map] at x1
                  obtain ⟨z, hz⟩ : ∃ z, z = zs[q]'(by omega) := ⟨_, rfl⟩
                  rw [← hz] at x1
                  have hset' := Lib.hid (hset q (.int .u64 (addB z 1)) _ (by simp; omega) rfl)
                  have HZL := Lib.hid hzl
                  clear hz hcell hfree hset
                  go_wp2_with fail
                  go_roundw
                  case rel => exact ⟨q + 1, zs.set q (addB z 1), by omega, by go_num, by simp [HZL.out], by rw [List.map_set]; exact hset'.out, P9.out.setCell (.inr lb8) _, HP9.out.keep ((Only.refl [b8] wr).setCell (by simp) _) (by have := D8.out (by omega); simp; omega) (by have := D8.out (by omega); simp; omega) (by have := D8.out (by omega); simp; omega) (by have := D8.out (by omega); simp; omega), HQ9.out.keep ((Only.refl [b8] wr).setCell (by simp) _) (by have := D8.out (by omega); simp; omega) (by have := D8.out (by omega); simp; omega) (by have := D8.out (by omega); simp; omega) (by have := D8.out (by omega); simp; omega)⟩
                  case measure => simp [intOf]; omega
                · go_wp2_with fail
                  refine (same_any _ kk bk b2 rc2 t HQ9.out (by have := HT.out; omega)).mono ?_; rintro e w10 ⟨rfl, o10⟩
                  have P10 := Lib.hid (P9.out.then0 o10)
                  have R10 := Lib.hid (HP9.out.keep o10 (by simp) (by simp) (by simp) (by simp))
                  clear o10
                  go_wp2_with fail
                  refine (same_any _ m bc b rc s R10.out (by have := HS.out; omega)).mono ?_; rintro e w11 ⟨rfl, o11⟩
                  have P11 := Lib.hid (P10.out.then0 o11)
                  clear o11
                  go_wp2_with fail
                  go_ret
                  exact ⟨rfl, P11.out⟩
end Go.Proofs.Ytiijgnnejdcedaa
