/- EdfSorts, walked. -/
import Derived.Test.YtenamlckhcfflaaEdfRefSorted
namespace Go.Proofs.Ytenamlckhcfflaa
open Go.RowKit Go.Sort
set_option linter.unusedVariables false

theorem owns_keepS {S : List Nat} {w w' : World} {base : Nat} {T : TypeId} {sz : Nat} {v : Value} {n : Nat} {xs : List Value} (h : w.ownsRow base T sz v n xs) (ho : Only S w w') (hS : ∀ q ∈ S, q < base) : w'.ownsRow base T sz v n xs := by
  obtain ⟨h1, h2 | ⟨g, cap, cur, e, hg, hh, r⟩⟩ := h
  · exact ⟨h1, .inl h2⟩
  · exact ⟨h1, .inr ⟨g, cap, cur, e, hg, ho.keep hh (fun hq => by have := hS g hq; omega), r⟩⟩

/-- Pop, its rest in memory of its own. -/
theorem pop_own (w : World) (v : Value) (xs : List Int) (h : Sl w v xs) (hn : xs.length ≤ 1000000) :
    Calls Try.prog 14 #[v] w fun e w' => ∃ v', e = .returned (.tuple #[.int .u64 (xs.getD 0 0), v', .bool (decide (0 < xs.length))]) ∧ Only [] w w' ∧ w'.ownsRow w.heap.size 23 1 v' (popL xs).length ((popL xs).map (.int .u64)) := by
  obtain ⟨ao, cap, rfl, h1, h2, h3⟩ := h
  match xs, h1, h2, h3, hn with
  | [], _, _, _, _ =>
    refine (pop_empty w ao cap).mono ?_
    rintro e w1 ⟨rfl, rfl⟩
    exact ⟨_, rfl, Only.refl _ _, World.ownsRow_nil _ _ _ _⟩
  | [x], h1, h2, h3, hn =>
    refine (pop_one w ao cap x h1 h3).mono ?_
    rintro e w1 ⟨rfl, o⟩
    exact ⟨_, rfl, o, World.ownsRow_nil _ _ _ _⟩
  | x :: y :: xs, h1, h2, h3, hn =>
    refine (pop_more w ao cap _ (x :: y :: xs) h1 rfl h3 hn (by simp)).mono ?_
    rintro e w1 ⟨v, rfl, o, hown⟩
    exact ⟨v, by simp, o, by rw [popL_length]; exact hown⟩

theorem perm_take {xs hs : List Int} {k : Nat} (h : hs.Perm (xs.take k)) (hk : k < xs.length) : (xs.getD k 0 :: hs).Perm (xs.take (k + 1)) := by
  rw [List.take_succ_eq_append_getElem hk, show xs.getD k 0 = xs[k] from by simp [List.getD, hk]]
  exact (h.cons _).trans (List.perm_append_singleton _ _).symm

set_option maxRecDepth 100000 in
set_option maxHeartbeats 4000000 in
theorem EdfSorts_any (w : World) (v : Value) (xs : List Int) (h : Sl w v xs) (hm : xs.length ≤ 9223372036854775807) :
    Calls Try.prog 6 #[v] w fun e w' => e = .returned (.bool true) ∧ Only [] w w' := by
  have H := Lib.hid h
  obtain ⟨i0, hi, hz0, hz1, hz2⟩ := info_parts info64
  obtain ⟨ao, cap, rfl, h1, _, _⟩ := h
  obtain ⟨n, hnn⟩ : ∃ n, n = xs.length := ⟨_, rfl⟩
  rw [← hnn] at hm H ⊢
  have HN := Lib.hid hnn
  have H1 := Lib.hid h1
  clear hnn h1
  by_cases hbig : n ≤ 400
  · have hb : ¬ (400 : Int) < n := by omega
    go_enter Try.func6, Try.ntmps6
    go_wp2_with fail
    go_loopw [3, 5] (fun hv iv wr => ∃ (k : Nat) (hs : List Int), k ≤ n ∧ iv = .int .i64 k ∧ Sl wr hv hs ∧ hs.Perm (xs.take k) ∧ hs.length = k ∧ Heap hs ∧ Only [] w wr) (fun _ i _ => n - (intOf i).toNat)
    case atStart => exact ⟨0, [], Nat.zero_le _, rfl, Sl.nil _, by simp, rfl, nil_heap, Only.refl _ _⟩
    case round =>
      obtain ⟨k, hs, hk, rfl, hS, hpm, hlk, hH, hP⟩ := hrel
      have S := Lib.hid hS
      have PM := Lib.hid hpm
      have LK := Lib.hid hlk
      have HH := Lib.hid hH
      have P := Lib.hid hP
      clear hpm hlk hH
      by_cases hlt : k < n
      · obtain ⟨b, off, rfl, hc⟩ := H1.out.ints (by have := HN.out; omega)
        have c0 := hP.keepCell (hc k (by have := HN.out; omega)) (by simp)
        obtain ⟨x, hx⟩ : ∃ x, x = xs.getD k 0 := ⟨_, rfl⟩
        rw [← hx] at c0
        have HX := Lib.hid hx
        have PU := fun w' v' (h : Sl w' v' hs) => Lib.hid (push_sl w' v' hs x h (by have := LK.out; omega))
        clear hc hx hS hP
        go_wp2_with fail
        refine (PU _ _ S.out).out.mono ?_; rintro e w1 ⟨u, rfl, o1, hu⟩
        have P1 := Lib.hid (P.out.then0 o1)
        have U := Lib.hid hu
        clear o1 hu PU
        go_wp2_with fail
        go_roundw
        case rel => exact ⟨k + 1, pushL hs x, by omega, by go_num, U.out, (push_perm hs x).trans (by rw [HX.out]; exact perm_take PM.out (by rw [← HN.out]; exact hlt)), by rw [pushL_length, LK.out], push_heap hs x HH.out, P1.out⟩
        case measure => simp [intOf] <;> omega
      · obtain rfl : k = n := by omega
        have PS := Lib.hid (Popped.start (xs := xs) (h := hs) (by have := PM.out; rwa [HN.out, List.take_length] at this) HH.out)
        clear hS hP
        go_wp2_with fail
        go_loopw [3, 4, 26] (fun hv ov iv wr => ∃ (j : Nat) (hs out : List Int), j ≤ k ∧ iv = .int .i64 j ∧ Sl wr hv hs ∧ hs.length + j = k ∧ out.length = j ∧ Popped xs out hs ∧ wr.ownsRow w.heap.size 23 1 ov j (out.map (.int .u64)) ∧ Only [] w wr) (fun _ _ i _ => k - (intOf i).toNat)
        case atStart => exact ⟨0, hs, [], Nat.zero_le _, rfl, S.out, by have := LK.out; omega, rfl, PS.out, World.ownsRow_nil _ _ _ _, P.out⟩
        case round =>
          obtain ⟨j, hs2, out, hj, rfl, hS2, hl2, hlo, hpp, hown, hP2⟩ := hrel
          have S2 := Lib.hid hS2
          have PP := Lib.hid hpp
          have LO := Lib.hid hlo
          have L2 := Lib.hid hl2
          have P2 := Lib.hid hP2
          have OW := Lib.hid hown
          clear hS2 hpp hlo hP2 hown
          by_cases hjk : j < k
          · have h0 : 0 < hs2.length := by omega
            have NX := Lib.hid (PP.out.next h0)
            have PO := fun w' v' (h : Sl w' v' hs2) => Lib.hid (pop_own w' v' hs2 h (by omega))
            rw [decide_eq_true h0] at PO
            have LP := Lib.hid (popL_length hs2)
            obtain ⟨x, hx⟩ : ∃ x, x = hs2.getD 0 0 := ⟨_, rfl⟩
            rw [← hx] at PO NX
            clear hx hl2 h0
            go_wp2_with fail
            refine (PO _ _ S2.out).out.mono ?_; rintro e w3 ⟨u, rfl, o3, hu⟩
            have P3 := Lib.hid (P2.out.then0 o3)
            have U := Lib.hid hu
            have W0 := Lib.hid (owns_keep OW.out o3)
            have W := fun (o : Obj) => W0.out.alloc o
            have hsz := P3.out.size
            have BL := Lib.hid (fun q hq => (OW.out.lt q hq).2)
            clear o3 hu PO
            go_wp2_with (at_builtin; refine wpList_append_own _ rfl _ _ 22 rfl w.heap.size 23 i0 (.int .u64 0) 1 8 Try.underlying22 hi hz0 hz1 hz2 rfl (by decide) _ _ _ rfl (W _) ⟨w3.heap.size, 0, none⟩ 1 1 [.int .u64 x] rfl rfl (cell_one_new _ _ _) (by simp [Value.oneCell']) (by unfold maxLen; omega) (by omega) (by simp; omega) ?_)
            intro v' w4 hown4 hgrow hnil
            have P4 := Lib.hid ((P3.out.alloc (.cells #[.int .u64 x] 23)).grown hgrow (fun q hq => .inr ((W (.cells #[.int .u64 x] 23)).lt q hq).1))
            have o4 : Only (Value.ownBlock u4).toList w3 w4 := ((Only.refl _ w3).alloc (.cells #[.int .u64 x] 23)).grown hgrow (fun q hq => .inl (by rw [hq]; simp))
            have U4 := Lib.hid (sl_owns (owns_keepS U.out o4 (fun q hq => BL.out q (by simpa using hq))))
            have W4 := Lib.hid hown4
            clear hown4 hgrow hnil W o4
            go_wp2_with fail
            go_roundw
            case rel => exact ⟨j + 1, popL hs2, out ++ [x], by omega, by go_num, U4.out, by rw [LP.out]; have := L2.out; omega, by simp [LO.out], NX.out, by simpa using W4.out, P4.out⟩
            case measure => simp [intOf] <;> omega
          · obtain rfl : j = k := by omega
            have h0 : hs2 = [] := List.length_eq_zero_iff.1 (by omega)
            subst h0
            obtain ⟨ao2, cap2, rfl, -, -, -⟩ := S2.out
            have EO := Lib.hid PP.out.done
            have SO := Lib.hid (sl_owns OW.out)
            clear hl2
            go_wp2_with fail
            refine (awake_any _).mono ?_; rintro e w3 ⟨rfl, o3⟩
            have P3 := Lib.hid (P2.out.then0 o3)
            have S3 := Lib.hid (SO.out.keep o3)
            clear o3
            go_wp2_with fail
            refine (refSorted_sl w3 _ xs (H.out.keep P3.out) (by have := HN.out; omega)).mono ?_; rintro e w4 ⟨r4, rfl, o4, h4⟩
            have P4 := Lib.hid (P3.out.then0 o4)
            have S4 := Lib.hid (S3.out.keep o4)
            have R4 := Lib.hid h4
            clear o4 h4
            go_wp2_with fail
            refine (same_sl w4 _ _ _ _ S4.out R4.out EO.out (by rw [LO.out]; omega)).mono ?_; rintro e w5 ⟨rfl, o5⟩
            have P5 := Lib.hid (P4.out.then0 o5)
            have S5 := Lib.hid (S4.out.keep o5)
            clear o5
            go_wp2_with fail
            refine (sorted_sl w5 _ xs (H.out.keep P5.out) (by have := HN.out; omega)).mono ?_; rintro e w6 ⟨r6, rfl, o6, h6, _⟩
            have P6 := Lib.hid (P5.out.then0 o6)
            have S6 := Lib.hid (S5.out.keep o6)
            have R6 := Lib.hid h6
            clear o6 h6
            go_wp2_with fail
            refine (same_sl w6 _ _ _ _ S6.out R6.out EO.out (by rw [LO.out]; omega)).mono ?_; rintro e w7 ⟨rfl, o7⟩
            have P7 := Lib.hid (P6.out.then0 o7)
            clear o7
            go_wp2_with fail
            go_ret
            exact ⟨rfl, P7.out⟩
  · have hb : (400 : Int) < n := by omega
    go_enter Try.func6, Try.ntmps6
    go_wp2_with fail
    go_ret
    exact ⟨rfl, Only.refl _ _⟩
end Go.Proofs.Ytenamlckhcfflaa
