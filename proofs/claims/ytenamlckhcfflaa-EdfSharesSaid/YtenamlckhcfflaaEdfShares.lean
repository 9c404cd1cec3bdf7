/- EdfShares, walked. -/
import Derived.Test.YtenamlckhcfflaaEdfLaws3
namespace Go.Proofs.Ytenamlckhcfflaa
open Go.RowKit Go.Sort
set_option linter.unusedVariables false

/-- m words lie at the head of block g. -/
def HR (w : World) (g m : Nat) : Prop := ∃ arr T, w.heap[g]? = some (.cells arr T (0, 0)) ∧ ∀ j, j < m → ∃ y, arr[j]? = some (.int .u64 y)
theorem HR.keep {w w' : World} {g m : Nat} (h : HR w g m) (o : Only [] w w') : HR w' g m := by
  obtain ⟨arr, T, h1, h2⟩ := h
  exact ⟨arr, T, o.keep h1 (by simp), h2⟩
theorem HR.set {w : World} {g m : Nat} (h : HR w g m) (b i : Nat) (x : Int) : HR (w.setCell ⟨b, i, none⟩ (.int .u64 x)) g m := by
  obtain ⟨arr, T, h1, h2⟩ := h
  by_cases e : g = b
  · subst e
    refine ⟨_, T, blk_setCell h1 i _, fun j hj => ?_⟩
    obtain ⟨y, hy⟩ := h2 j hj
    have hja : j < arr.size := by
      rcases Nat.lt_or_ge j arr.size with g | g
      · exact g
      · rw [Array.getElem?_eq_none g] at hy; cases hy
    by_cases e : j = i
    · subst e
      exact ⟨x, by rw [Array.getElem?_setIfInBounds_self_of_lt hja]⟩
    · exact ⟨y, by rw [Array.getElem?_setIfInBounds_ne (Ne.symm e), hy]⟩
  · exact ⟨arr, T, by rw [blk_setCell_ne e, h1], h2⟩

/-- A slice of words in a block of its own, that lies between lo and hi. -/
def FV (lo hi : Nat) (w : World) (v : Value) : Prop := ∃ ao m cap, v = .slice ao m cap ∧ m ≤ 2000000 ∧ (0 < m → ∃ g, ao = some ⟨g, 0, none⟩ ∧ lo ≤ g ∧ g < hi ∧ HR w g m)
theorem FV.keep {lo hi : Nat} {w w' : World} {v : Value} (h : FV lo hi w v) (o : Only [] w w') : FV lo hi w' v := by
  obtain ⟨ao, m, cap, e, hm, h⟩ := h
  refine ⟨ao, m, cap, e, hm, fun hp => ?_⟩
  obtain ⟨g, e, h1, h2, h3⟩ := h hp
  exact ⟨g, e, h1, h2, h3.keep o⟩
theorem FV.set {lo hi : Nat} {w : World} {v : Value} (h : FV lo hi w v) (b i : Nat) (x : Int) : FV lo hi (w.setCell ⟨b, i, none⟩ (.int .u64 x)) v := by
  obtain ⟨ao, m, cap, e, hm, h⟩ := h
  refine ⟨ao, m, cap, e, hm, fun hp => ?_⟩
  obtain ⟨g, e, h1, h2, h3⟩ := h hp
  exact ⟨g, e, h1, h2, h3.set b i x⟩
theorem FV.lo {lo lo' hi : Nat} {w : World} {v : Value} (h : FV lo hi w v) (hl : lo' ≤ lo) : FV lo' hi w v := by
  obtain ⟨ao, m, cap, e, hm, h⟩ := h
  refine ⟨ao, m, cap, e, hm, fun hp => ?_⟩
  obtain ⟨g, e, h1, h2, h3⟩ := h hp
  exact ⟨g, e, by omega, h2, h3⟩
theorem FV.owns {lo hi : Nat} {T : TypeId} {w : World} {v : Value} {n : Nat} {xs : List Int} (h : w.ownsRow lo T 1 v n (xs.map (.int .u64))) (hn : n ≤ 2000000) (hw : w.heap.size ≤ hi) : FV lo hi w v := by
  obtain ⟨hl, ⟨rfl, rfl⟩ | ⟨g, cap, cur, rfl, hb, hh, h4, hc, hs, ht⟩⟩ := h
  · exact ⟨none, 0, 0, rfl, Nat.zero_le _, fun h => by omega⟩
  · simp only [Nat.mul_one] at hl ht
    have := lt_of_blk hh
    refine ⟨_, n, cap, rfl, hn, fun hp => ⟨g, rfl, hb, by omega, cur, T, hh, fun j hj => ?_⟩⟩
    have h6 : (cur.toList.take n)[j]? = (xs.map (Value.int .u64))[j]? := by rw [ht]
    have hjx : j < xs.length := by rw [List.length_map] at hl; omega
    rw [List.getElem?_take, if_pos hj, List.getElem?_map, List.getElem?_eq_getElem hjx] at h6
    exact ⟨xs[j], by simpa using h6⟩

theorem three_cell {w : World} {G : Nat} {a b c : Value} {T : TypeId} (h : w.heap[G]? = some (.cells #[a, b, c] T (0, 0))) {lo hi : Nat} (h1 : FV lo hi w a) (h2 : FV lo hi w b) (h3 : FV lo hi w c) (j : Nat) (hj : j < 3) : ∃ v, w.cell? ⟨G, j, none⟩ = some v ∧ FV lo hi w v := by
  match j, hj with
  | 0, _ => exact ⟨a, by rw [cell_blk h]; rfl, h1⟩
  | 1, _ => exact ⟨b, by rw [cell_blk h]; rfl, h2⟩
  | 2, _ => exact ⟨c, by rw [cell_blk h]; rfl, h3⟩

theorem sl_pre {w : World} {b off n cap : Nat} {xs : List Int} {y : Int} (hc : ∀ j, j < (xs ++ [y]).length → w.cell? ⟨b, off + j, none⟩ = some (.int .u64 ((xs ++ [y]).getD j 0))) (hn : n = xs.length) (h : n + 1 ≤ cap) : Sl w (.slice (some ⟨b, off, none⟩) n cap) xs := by
  subst hn
  refine ⟨some ⟨b, off, none⟩, cap, rfl, fun hp => ⟨b, off, rfl, fun j hj => ?_⟩, fun e => (by cases e), by omega⟩
  have hj' : j < xs.length := by simpa using hj
  rw [hc j (by simp; omega)]
  simp [List.getD, List.getElem?_append_left hj', List.getElem?_eq_getElem hj']

set_option maxRecDepth 100000 in
set_option maxHeartbeats 4000000 in
theorem EdfShares_any (w : World) (v : Value) (xs : List Int) (h : Sl w v xs) (hm : xs.length ≤ 9223372036854775807) (kk : Int) (_hk : (Lit.int .u64 kk).wf = true) :
    Calls Try.prog 7 #[v, .int .u64 kk] w fun e w' => e = .returned (.bool true) ∧ Only [] w w' := by
  have H := Lib.hid h
  obtain ⟨i0, hi, hz0, hz1, hz2⟩ := info_parts info64
  obtain ⟨ao, cap, rfl, h1, _, _⟩ := h
  obtain ⟨n, hnn⟩ : ∃ n, n = xs.length := ⟨_, rfl⟩
  rw [← hnn] at hm H ⊢
  have HN := Lib.hid hnn
  have H1 := Lib.hid h1
  clear hnn h1
  by_cases hbig : n ≤ 400
  · have hb : ¬ (400 : Int) < n := by omega
    by_cases hn0 : n = 0
    · subst hn0
      go_enter Try.func7, Try.ntmps7
      go_wp2_with fail
      go_ret
      exact ⟨rfl, Only.refl _ _⟩
    · have hn1 : 0 < n := by omega
      obtain ⟨b, off, rfl, hc⟩ := H1.out.ints (by have := HN.out; omega)
      have HO := Lib.hid (World.ownsRow_made w #[] 0 (Nat.le_refl _) (Nat.zero_le _) rfl : (w.alloc (.cells #[] 23)).ownsRow w.heap.size 23 1 (.slice (some ⟨w.heap.size, 0, none⟩) 0 0) 0 [])
      have C1 : Hid (∀ j u, (xs.map (Value.int .u64))[j]? = some u → (w.alloc (.cells #[] 23)).cell? ((⟨b, off, none⟩ : Addr).add j) = some u) := Lib.hid (H1.out.keep0 ((Only.refl [] w).alloc _)).news
      clear hc
      go_enter Try.func7, Try.ntmps7
      go_wp2_with (at_builtin; refine wpList_append_own _ rfl _ _ 22 rfl w.heap.size 23 i0 (.int .u64 0) 1 8 Try.underlying22 hi hz0 hz1 hz2 rfl (by decide) _ _ _ rfl HO.out ⟨b, off, none⟩ n cap (xs.map (.int .u64)) rfl (by rw [List.length_map, ← HN.out]; omega) C1.out (oneCell_u64 xs) (by unfold maxLen; omega) (by omega) (by simp) ?_)
      intro v1 w1 hown1 hgrow1 hnil1
      have P1 := Lib.hid (((Only.refl [] w).alloc (.cells #[] 23)).grown hgrow1 (by simp [Value.ownBlock]))
      have W1 := fun (o : Obj) => hown1.alloc o
      have sz1 := P1.out.size
      clear hown1 hgrow1 hnil1 C1 HO
      go_wp2_with (at_builtin; refine wpList_append_own _ rfl _ _ 22 rfl w.heap.size 23 i0 (.int .u64 0) 1 8 Try.underlying22 hi hz0 hz1 hz2 rfl (by decide) _ _ _ rfl (W1 _) ⟨w1.heap.size, 0, none⟩ 1 1 [.int .u64 77] rfl rfl (cell_one_new _ _ _) (by simp [Value.oneCell']) (by unfold maxLen; omega) (by omega) (by first | omega | (simp; omega)) ?_)
      intro v2 w2 hown2 hgrow2 hnil2
      have P2 := Lib.hid ((P1.out.alloc (.cells #[.int .u64 77] 23)).grown hgrow2 (fun q hq => .inr ((W1 (.cells #[.int .u64 77] 23)).lt q hq).1))
      have S2 : Sl w2 v2 (xs ++ [77]) := sl_owns (by simpa using hown2)
      clear hown2 hgrow2 hnil2 W1
      obtain ⟨ao2, cap2, rfl, c2, _, l2⟩ := S2
      obtain ⟨b2, off2, rfl, hc2⟩ := c2.ints (by simp)
      rw [List.length_append, ← HN.out, List.length_singleton] at l2 ⊢
      have HC2 := Lib.hid hc2
      have X2 : Hid (Sl w2 (.slice (some ⟨b2, off2, none⟩) n cap2) xs) := Lib.hid (sl_pre hc2 HN.out l2)
      have hcap : n ≤ cap2 := by omega
      clear c2 hc2
      have PU : Hid (Calls Try.prog 11 #[.slice (some ⟨b2, off2, none⟩) n cap2, .int .u64 kk] w2 fun e w' => ∃ v, e = .returned v ∧ Only [] w2 w' ∧ w'.ownsRow w2.heap.size 23 1 v (n + 1) ((pushL xs kk).map (.int .u64))) := Lib.hid (by
        obtain ⟨ao9, cap9, e9, c9, n9, _⟩ := X2.out
        cases e9
        have := push_any w2 _ cap2 xs kk c9 n9 (by have := HN.out; omega)
        rw [← HN.out] at this
        exact this)
      go_wp2_with fail
      refine PU.out.mono ?_; rintro e w3 ⟨v3, rfl, o3, hown3⟩
      obtain ⟨a3, c3, hv3, e3, _, _⟩ := owns_cells hown3
      rw [← e3] at hv3
      subst hv3
      have OW3 := Lib.hid hown3
      have Q3 := Lib.hid o3
      have X3 := Lib.hid (X2.out.keep o3)
      clear hown3 o3 PU e3
      go_wp2_with fail
      refine (pop_own w3 _ xs X3.out (by have := HN.out; omega)).mono ?_; rintro e w4 ⟨v4, rfl, o4, hown4⟩
      have OW4 := Lib.hid hown4
      have S34 := Lib.hid o4.size
      have Q34 := Lib.hid o4
      have Q4 := Lib.hid (Q3.out.then0 o4)
      have X4 := Lib.hid (X3.out.keep o4)
      clear hown4 o4
      go_wp2_with fail
      refine (sorted_sl w4 _ xs X4.out (by have := HN.out; omega)).mono ?_; rintro e w5 ⟨v5, rfl, o5, _, h5⟩
      have Q5 := Lib.hid (Q4.out.then0 o5)
      have F3 : Hid (FV w2.heap.size w5.heap.size w5 (.slice a3 (n + 1) c3)) := Lib.hid ((FV.owns OW3.out (by omega) (by have := S34.out; have := o5.size; omega)).keep (Q34.out.then0 o5))
      have F4 : Hid (FV w2.heap.size w5.heap.size w5 v4) := Lib.hid (((FV.owns OW4.out (by rw [popL_length]; have := HN.out; omega) o5.size).keep o5).lo Q3.out.size)
      have F5 : Hid (FV w2.heap.size w5.heap.size w5 v5) := Lib.hid (by
        rcases h5 with ⟨rfl, _⟩ | ⟨g, cap5, rfl, hg, d, ⟨arr, T, g1, g2⟩, hd⟩
        · exact ⟨none, 0, 0, rfl, Nat.zero_le _, fun h => by omega⟩
        · have hds : d.size = xs.length := by rw [← Array.length_toList, hd, sortR_length]
          exact ⟨_, _, cap5, rfl, by have := HN.out; omega, fun _ => ⟨g, rfl, by have := Q4.out.size; omega, lt_of_blk g1, arr, T, g1, fun j hj => ⟨_, g2 j (by omega)⟩⟩⟩)
      clear o5 h5
      obtain ⟨a4, m4, c4, rfl, -, -⟩ := F4.out
      obtain ⟨a5, m5, c5, rfl, -, -⟩ := F5.out
      have F0 := fun (o : Obj) => And.intro ((F3.out.keep ((Only.refl [] w5).alloc o))) (And.intro (F4.out.keep ((Only.refl [] w5).alloc o)) (F5.out.keep ((Only.refl [] w5).alloc o)))
      have FF := Lib.hid F0
      have QS := Lib.hid Q5.out.size
      clear F0 F3 F4 F5 OW3 OW4 S34 Q34 Q3 Q4 X3 X4
      go_wp2_with fail
      go_loopw [12, 13, 52] (fun lv iv jv wr => ∃ j : Nat, j ≤ 3 ∧ jv = .int .i64 j ∧ Only [] w2 wr ∧ wr.heap[w5.heap.size]? = some (.cells #[.slice a3 (n + 1) c3, .slice a4 m4 c4, .slice a5 m5 c5] 22 (0, 0)) ∧ FV w2.heap.size w5.heap.size wr (.slice a3 (n + 1) c3) ∧ FV w2.heap.size w5.heap.size wr (.slice a4 m4 c4) ∧ FV w2.heap.size w5.heap.size wr (.slice a5 m5 c5)) (fun _ _ j _ => 3 - (intOf j).toNat)
      case atStart => exact ⟨0, by omega, rfl, Q5.out.alloc _, blk_alloc_new _ _, (FF.out _).1, (FF.out _).2.1, (FF.out _).2.2⟩
      case round =>
        obtain ⟨j, hj, rfl, hP, hB, f3, f4, f5⟩ := hrel
        by_cases hlt : j < 3
        · obtain ⟨vl, hvl, fl⟩ := three_cell hB f3 f4 f5 j hlt
          obtain ⟨ao, m, cl, rfl, hm2, hg⟩ := fl
          have P := Lib.hid hP
          have B := Lib.hid hB
          have T3 := Lib.hid f3
          have T4 := Lib.hid f4
          have T5 := Lib.hid f5
          clear hP hB f3 f4 f5
          go_wp2_with fail
          go_loopw [13] (fun iv wr2 => ∃ i : Nat, i ≤ m ∧ iv = .int .i64 i ∧ Only [] w2 wr2 ∧ wr2.heap[w5.heap.size]? = some (.cells #[.slice a3 (n + 1) c3, .slice a4 m4 c4, .slice a5 m5 c5] 22 (0, 0)) ∧ FV w2.heap.size w5.heap.size wr2 (.slice a3 (n + 1) c3) ∧ FV w2.heap.size w5.heap.size wr2 (.slice a4 m4 c4) ∧ FV w2.heap.size w5.heap.size wr2 (.slice a5 m5 c5) ∧ (0 < m → ∃ g, ao = some ⟨g, 0, none⟩ ∧ w2.heap.size ≤ g ∧ g < w5.heap.size ∧ HR wr2 g m)) (fun i _ => m - (intOf i).toNat)
          case atStart => exact ⟨0, Nat.zero_le _, rfl, P.out, B.out, T3.out, T4.out, T5.out, hg⟩
          case round =>
            obtain ⟨i, him, rfl, hP2, hB2, f3, f4, f5, hg2⟩ := hrel
            have P2 := Lib.hid hP2
            have B2 := Lib.hid hB2
            have U3 := Lib.hid f3
            have U4 := Lib.hid f4
            have U5 := Lib.hid f5
            clear hP2 hB2 f3 f4 f5 hg
            by_cases hi2 : i < m
            · obtain ⟨g, rfl, g1, g2, hr⟩ := hg2 (by omega)
              have R := Lib.hid hr
              obtain ⟨arr, T, r1, r2⟩ := hr
              obtain ⟨y, hy⟩ := r2 i hi2
              have cy : wr.cell? ⟨g, i, none⟩ = some (.int .u64 y) := by rw [cell_blk r1, hy]
              have fy := free_blk r1 i
              have gne : w5.heap.size ≠ g := by omega
              have GNE := Lib.hid gne
              have G1 := Lib.hid g1
              have G2 := Lib.hid g2
              clear r1 r2 hy hg2 gne g1 g2
              go_wp2_with fail
              go_roundw
              case rel => exact ⟨i + 1, by omega, by go_num, P2.out.setCell (.inr G1.out) _, by rw [blk_setCell_ne GNE.out]; exact B2.out, U3.out.set g i _, U4.out.set g i _, U5.out.set g i _, fun _ => ⟨g, rfl, G1.out, G2.out, R.out.set g i _⟩⟩
              case measure => simp [intOf] <;> omega
            · obtain rfl : i = m := by omega
              clear hg2
              go_wp2_with fail
              go_roundw
              case rel => exact ⟨j + 1, by omega, by go_num, P2.out, B2.out, U3.out, U4.out, U5.out⟩
              case measure => simp [intOf] <;> omega
        · obtain rfl : j = 3 := by omega
          have P := Lib.hid hP
          clear hP hB f3 f4 f5
          go_wp2_with fail
          refine (awake_any _).mono ?_; rintro e w6 ⟨rfl, o6⟩
          have P6 := Lib.hid (P.out.then0 o6)
          clear o6
          go_wp2_with fail
          refine (same_sl w6 _ _ xs xs (X2.out.keep P6.out) (H.out.keep (P2.out.then0 P6.out)) rfl (by have := HN.out; omega)).mono ?_; rintro e w7 ⟨rfl, o7⟩
          have P7 := Lib.hid (P6.out.then0 o7)
          have c77 : w7.cell? ⟨b2, off2 + n, none⟩ = some (.int .u64 77) := by
            have := P7.out.keepCell (HC2.out n (by rw [List.length_append, ← HN.out]; simp)) (by simp)
            rw [this, HN.out]
            simp [List.getD]
          clear o7
          go_wp2_with fail
          go_ret
          exact ⟨rfl, P2.out.then0 P7.out⟩
  · have hb : (400 : Int) < n := by omega
    go_enter Try.func7, Try.ntmps7
    go_wp2_with fail
    go_ret
    exact ⟨rfl, Only.refl _ _⟩
end Go.Proofs.Ytenamlckhcfflaa
