/- few, Same, awake and the laws EdfPushes and EdfPops, walked. -/
import Derived.Test.YtenamlckhcfflaaEdfWalks3
namespace Go.Proofs.Ytenamlckhcfflaa
open Go.RowKit
set_option linter.unusedVariables false

/-- v is a slice of words xs. -/
def Sl (w : World) (v : Value) (xs : List Int) : Prop := ∃ ao cap, v = .slice ao xs.length cap ∧ CellsAt w ao (xs.map (.int .u64)) ∧ (ao = none → xs = [] ∧ cap = 0) ∧ xs.length ≤ cap

theorem Sl.keep {w w' : World} {v : Value} {xs : List Int} (h : Sl w v xs) (o : Only [] w w') : Sl w' v xs := by
  obtain ⟨ao, cap, rfl, h1, h2, h3⟩ := h
  exact ⟨ao, cap, rfl, h1.keep0 o, h2, h3⟩

theorem Sl.nil (w : World) : Sl w (.slice none 0 0) [] := ⟨none, 0, rfl, CellsAt.nil _ _, fun _ => ⟨rfl, rfl⟩, Nat.le_refl _⟩

theorem sl_owns {w : World} {base : Nat} {T : TypeId} {v : Value} {n : Nat} {xs : List Int} (h : w.ownsRow base T 1 v n (xs.map (.int .u64))) : Sl w v xs := by
  obtain ⟨ao, cap, rfl, h2, h3, h4⟩ := owns_cells h
  refine ⟨ao, cap, by simp, h3, fun e => by simpa using h4 e, ?_⟩
  by_cases hv : (Value.slice ao (xs.map (Value.int .u64)).length cap) = .slice none 0 0
  · simp at hv; simp [hv]
  · obtain ⟨g, c, he, _, _, hc, _⟩ := owns_shape h hv
    simp at he
    omega

theorem push_sl (w : World) (v : Value) (xs : List Int) (k : Int) (h : Sl w v xs) (hn : xs.length ≤ 1000000) :
    Calls Try.prog 11 #[v, .int .u64 k] w fun e w' => ∃ v', e = .returned v' ∧ Only [] w w' ∧ Sl w' v' (pushL xs k) := by
  obtain ⟨ao, cap, rfl, h1, h2, h3⟩ := h
  refine (push_any w ao cap xs k h1 h2 hn).mono ?_
  rintro e w1 ⟨v, rfl, o, hown⟩
  exact ⟨v, rfl, o, sl_owns hown⟩

theorem refPush_sl (w : World) (v : Value) (xs : List Int) (k : Int) (h : Sl w v xs) (hn : xs.length ≤ 1000000) :
    Calls Try.prog 12 #[v, .int .u64 k] w fun e w' => ∃ v', e = .returned v' ∧ Only [] w w' ∧ Sl w' v' (pushL xs k) := by
  obtain ⟨ao, cap, rfl, h1, h2, h3⟩ := h
  refine (refPush_any w ao cap xs k h1 h2 hn).mono ?_
  rintro e w1 ⟨v, rfl, o, hown⟩
  exact ⟨v, rfl, o, sl_owns hown⟩

theorem pop_sl (w : World) (v : Value) (xs : List Int) (h : Sl w v xs) (hn : xs.length ≤ 1000000) :
    Calls Try.prog 14 #[v] w fun e w' => ∃ v', e = .returned (.tuple #[.int .u64 (xs.getD 0 0), v', .bool (decide (0 < xs.length))]) ∧ Only [] w w' ∧ Sl w' v' (popL xs) := by
  obtain ⟨ao, cap, rfl, h1, h2, h3⟩ := h
  match xs, h1, h2, h3, hn with
  | [], _, _, _, _ =>
    refine (pop_empty w ao cap).mono ?_
    rintro e w1 ⟨rfl, rfl⟩
    exact ⟨_, rfl, Only.refl _ _, Sl.nil _⟩
  | [x], h1, h2, h3, hn =>
    refine (pop_one w ao cap x h1 h3).mono ?_
    rintro e w1 ⟨rfl, o⟩
    exact ⟨_, rfl, o, Sl.nil _⟩
  | x :: y :: xs, h1, h2, h3, hn =>
    refine (pop_more w ao cap _ (x :: y :: xs) h1 rfl h3 hn (by simp)).mono ?_
    rintro e w1 ⟨v, rfl, o, hown⟩
    exact ⟨v, by simp, o, sl_owns hown⟩

theorem refPop_sl (w : World) (v : Value) (xs : List Int) (h : Sl w v xs) (hn : xs.length ≤ 1000000) :
    Calls Try.prog 15 #[v] w fun e w' => ∃ v', e = .returned (.tuple #[.int .u64 (xs.getD 0 0), v', .bool (decide (0 < xs.length))]) ∧ Only [] w w' ∧ Sl w' v' (popL xs) := by
  obtain ⟨ao, cap, rfl, h1, h2, h3⟩ := h
  match xs, h1, h2, h3, hn with
  | [], _, _, _, _ =>
    refine (refPop_empty w ao cap).mono ?_
    rintro e w1 ⟨rfl, rfl⟩
    exact ⟨_, rfl, Only.refl _ _, Sl.nil _⟩
  | [x], h1, h2, h3, hn =>
    refine (refPop_one w ao cap x h1 h3).mono ?_
    rintro e w1 ⟨v, rfl, o, hown⟩
    exact ⟨v, rfl, o, sl_owns (xs := []) hown⟩
  | x :: y :: xs, h1, h2, h3, hn =>
    refine (refPop_more w ao cap _ (x :: y :: xs) h1 rfl h3 hn (by simp)).mono ?_
    rintro e w1 ⟨v, rfl, o, hown⟩
    exact ⟨v, by simp, o, sl_owns hown⟩

/-- Two slices that hold the same words are the same. -/
theorem refSame_any (w : World) (ao bo : Option Addr) (c1 c2 : Nat) (xs : List Int) (h1 : CellsAt w ao (xs.map (.int .u64))) (h2 : CellsAt w bo (xs.map (.int .u64))) (hn : xs.length ≤ 4000000000000) :
    Calls Try.prog 10 #[.slice ao xs.length c1, .slice bo xs.length c2] w fun e w' => e = .returned (.bool true) ∧ Only [] w w' := by
  have H1 := Lib.hid h1
  have H2 := Lib.hid h2
  clear h1 h2
  go_enter Try.func10, Try.ntmps10
  go_wp2_with fail
  go_loopw [5] (fun i wr => ∃ k : Nat, k ≤ xs.length ∧ i = .int .i64 k ∧ Only [] w wr) (fun i _ => xs.length - (intOf i).toNat)
  case atStart => exact ⟨0, Nat.zero_le _, rfl, Only.refl _ _⟩
  case round =>
    obtain ⟨k, hk, rfl, ho⟩ := hrel
    by_cases hlt : k < xs.length
    · obtain ⟨b1, o1, rfl, hc1⟩ := H1.out.ints (by omega)
      obtain ⟨b2, o2, rfl, hc2⟩ := H2.out.ints (by omega)
      have d1 := ho.keepCell (hc1 k hlt) (by simp)
      have d2 := ho.keepCell (hc2 k hlt) (by simp)
      clear hc1 hc2
      have hk0 : (0 : Int) ≤ (k : Int) := by omega
      have hk1 : (k : Int) < (xs.length : Int) := by omega
      go_wp2_with fail
      go_quiet (fail)
      go_wp2_with fail
      go_roundw
      case rel => exact ⟨k + 1, by omega, by go_num, ho.drewN _⟩
      case measure => simp [intOf]; omega
    · go_wp2_with fail
      go_ret
      exact ⟨rfl, ho⟩

theorem same_sl (w : World) (v u : Value) (xs ys : List Int) (h1 : Sl w v xs) (h2 : Sl w u ys) (hxy : xs = ys) (hn : xs.length ≤ 4000000000000) :
    Calls Try.prog 10 #[v, u] w fun e w' => e = .returned (.bool true) ∧ Only [] w w' := by
  subst hxy
  obtain ⟨ao, cap, rfl, h1, _, _⟩ := h1
  obtain ⟨bo, cap, rfl, h2, _, _⟩ := h2
  exact refSame_any w ao bo _ _ xs h1 h2 hn

/-- What few makes of a list. -/
def few8 (xs : List Int) : List Int := xs.map (·.tmod 8)
theorem few8_length (xs : List Int) : (few8 xs).length = xs.length := by simp [few8]
theorem few8_succ (xs : List Int) (k : Nat) (h : k < xs.length) : (few8 (xs.take k)).map (Value.int .u64) ++ [.int .u64 ((xs.getD k 0).tmod 8)] = (few8 (xs.take (k + 1))).map (Value.int .u64) := by
  unfold few8
  rw [List.take_succ_eq_append_getElem h, List.map_append, List.map_append]
  simp only [List.map_cons, List.map_nil, List.getD, List.getElem?_eq_getElem h, Option.getD_some]

theorem few_sl (w : World) (v : Value) (xs : List Int) (h : Sl w v xs) (hn : xs.length ≤ 1000000) :
    Calls Try.prog 13 #[v] w fun e w' => ∃ v', e = .returned v' ∧ Only [] w w' ∧ Sl w' v' (few8 xs) := by
  obtain ⟨i0, hi, hz0, hz1, hz2⟩ := info_parts info64
  obtain ⟨ao, cap, rfl, h1, h2, h3⟩ := h
  obtain ⟨n, hnn⟩ : ∃ n, n = xs.length := ⟨_, rfl⟩
  rw [← hnn] at hn h3 ⊢
  have HN := Lib.hid hnn
  have H1 := Lib.hid h1
  clear h1 h2 hnn
  go_enter Try.func13, Try.ntmps13
  go_wp2_with fail
  go_loopw [3, 4] (fun o i wr => ∃ k : Nat, k ≤ n ∧ i = .int .i64 k ∧ wr.ownsRow w.heap.size 23 1 o k ((few8 (xs.take k)).map (.int .u64)) ∧ Only [] w wr) (fun _ i _ => n - (intOf i).toNat)
  case atStart => exact ⟨0, Nat.zero_le _, rfl, World.ownsRow_nil _ _ _ _, Only.refl _ _⟩
  case round =>
    obtain ⟨k, hk, rfl, hown, hP⟩ := hrel
    by_cases hlt : k < n
    · obtain ⟨b, off, rfl, hc⟩ := H1.out.ints (by have := HN.out; omega)
      have c0 := hP.keepCell (hc k (by have := HN.out; omega)) (by simp)
      have htk := few8_succ xs k (by have := HN.out; omega)
      have HT := Lib.hid htk
      obtain ⟨x, hxx⟩ : ∃ x, x = xs.getD k 0 := ⟨_, rfl⟩
      rw [← hxx] at c0 HT
      have W := fun (o : Obj) => hown.alloc o
      have P := Lib.hid hP
      have hs := hP.size
      clear hc htk hxx hown hP
      go_wp2_with (at_builtin; refine wpList_append_own _ rfl _ _ 22 rfl w.heap.size 23 i0 (.int .u64 0) 1 8 Try.underlying22 hi hz0 hz1 hz2 rfl (by decide) _ _ _ rfl (W _) ⟨wr.heap.size, 0, none⟩ 1 1 [.int .u64 (x.tmod 8)] rfl rfl (cell_one_new _ _ _) (by simp [Value.oneCell']) (by unfold maxLen; omega) (by omega) (by simp; omega) ?_)
      intro v' w2 hown2 hgrow hnil
      have P2 := Lib.hid ((P.out.alloc (.cells #[.int .u64 (x.tmod 8)] 23)).grown hgrow (fun q hq => .inr ((W (.cells #[.int .u64 (x.tmod 8)] 23)).lt q hq).1))
      have W2 := Lib.hid hown2
      clear hown2 hgrow hnil W P
      go_wp2_with fail
      go_roundw
      case rel => exact ⟨k + 1, by omega, by go_num, by rw [← HT.out]; exact W2.out, P2.out⟩
      case measure => simp [intOf]; omega
    · obtain rfl : k = n := by omega
      have W := Lib.hid hown
      clear hown
      go_wp2_with fail
      go_ret
      have := W.out
      rw [HN.out, List.take_length] at this
      exact ⟨_, rfl, hP, sl_owns this⟩

/-- The literal of awake's loop. -/
def seed4 : List Int := [5, 3, 4, 1]
theorem seed4_cell {w : World} {b : Nat} {T : TypeId} {f : Nat × Nat} (h : w.heap[b]? = some (.cells #[.int .u64 5, .int .u64 3, .int .u64 4, .int .u64 1] T f)) (k : Nat) (hk : k < 4) : w.cell? ⟨b, k, none⟩ = some (.int .u64 (seed4.getD k 0)) := by
  rw [cell_blk h]
  match k, hk with
  | 0, _ => rfl
  | 1, _ => rfl
  | 2, _ => rfl
  | 3, _ => rfl
theorem seed4_push (k : Nat) (hk : k < 4) : pushL ((seed4.take k).foldl pushL []) (seed4.getD k 0) = (seed4.take (k + 1)).foldl pushL [] := by
  match k, hk with
  | 0, _ => rfl
  | 1, _ => rfl
  | 2, _ => rfl
  | 3, _ => rfl
theorem seed4_len (k : Nat) (hk : k ≤ 4) : ((seed4.take k).foldl pushL []).length ≤ 1000000 := by
  match k, hk with
  | 0, _ => decide
  | 1, _ => decide
  | 2, _ => decide
  | 3, _ => decide
  | 4, _ => decide

theorem sl_new {w : World} {b n : Nat} {T : TypeId} {f : Nat × Nat} (xs : List Int) (hb : w.heap[b]? = some (.cells (xs.map (Value.int .u64)).toArray T f)) (hn : xs.length = n) : Sl w (.slice (some ⟨b, 0, none⟩) n n) xs := by
  subst hn
  refine ⟨_, _, rfl, fun hp => ⟨b, 0, rfl, fun j hj => ?_⟩, fun e => (by cases e), Nat.le_refl _⟩
  rw [cell_blk hb]
  simp at hj
  simp [hj]

set_option maxHeartbeats 400000 in
theorem awake_any (w : World) : Calls Try.prog 9 #[] w fun e w' => e = .returned (.bool true) ∧ Only [] w w' := by
  go_enter Try.func9, Try.ntmps9
  go_wp2_with fail
  go_loopw [1, 9] (fun h i wr => ∃ k : Nat, k ≤ 4 ∧ i = .int .i64 k ∧ Sl wr h ((seed4.take k).foldl pushL []) ∧ Only [] w wr ∧ wr.heap[w.heap.size]? = some (.cells #[.int .u64 5, .int .u64 3, .int .u64 4, .int .u64 1] 23 (0, 0))) (fun _ i _ => 4 - (intOf i).toNat)
  case atStart => exact ⟨0, by omega, rfl, Sl.nil _, (Only.refl _ _).alloc _, blk_alloc_new _ _⟩
  case round =>
    obtain ⟨k, hk, rfl, hS, hP, hb⟩ := hrel
    by_cases hlt : k < 4
    · have c0 := seed4_cell hb k hlt
      have HS := Lib.hid (push_sl wr _ _ (seed4.getD k 0) hS (seed4_len k hk))
      rw [seed4_push k hlt] at HS
      obtain ⟨x, hx⟩ : ∃ x, x = seed4.getD k 0 := ⟨_, rfl⟩
      rw [← hx] at c0 HS
      clear hS hx
      have hB := Lib.hid hb
      clear hb
      go_wp2_with fail
      refine HS.out.mono ?_; rintro e w1 ⟨v, rfl, o, s⟩
      have S1 := Lib.hid s
      have O1 := Lib.hid o
      clear s o HS
      go_wp2_with fail
      go_roundw
      case rel => exact ⟨k + 1, by omega, by go_num, S1.out, hP.then0 O1.out, O1.out.keep hB.out (by simp)⟩
      case measure => simp [intOf]; omega
    · obtain rfl : k = 4 := by omega
      have HS : Hid (Sl wr _ [1, 3, 4, 5]) := Lib.hid hS
      have O0 := Lib.hid (Only.refl [] wr)
      clear hS hb
      go_wp2_with fail
      refine (pop_sl _ _ _ HS.out (by simp)).mono ?_; rintro e w1 ⟨v, rfl, o1, s1⟩
      have h1 := Lib.hid (HS.out.keep o1)
      have o2 := Lib.hid (hP.then0 o1)
      have s2 : Hid (Sl w1 v [3, 5, 4]) := Lib.hid s1
      clear HS o1 s1 hP O0
      go_wp2_with fail
      refine (same_sl _ _ _ [1, 3, 4, 5] _ (h1.out.keep ((Only.refl [] _).alloc _)) (sl_new [1, 3, 4, 5] (blk_alloc_new _ _) rfl) rfl (by simp)).mono ?_; rintro e w2 ⟨rfl, o3⟩
      have h2 := Lib.hid (s2.out.keep (((Only.refl [] _).alloc _).then0 o3))
      have o4 := Lib.hid ((o2.out.alloc _).then0 o3)
      clear o3 o2 h1 s2
      go_wp2_with fail
      refine (same_sl _ _ _ [3, 5, 4] _ (h2.out.keep ((Only.refl [] _).alloc _)) (sl_new [3, 5, 4] (blk_alloc_new _ _) rfl) rfl (by simp)).mono ?_; rintro e w3 ⟨rfl, o5⟩
      have o6 := Lib.hid ((o4.out.alloc _).then0 o5)
      clear o5 o4 h2
      go_wp2_with fail
      go_ret
      exact ⟨rfl, o6.out⟩

theorem EdfPushes_any (w : World) (v : Value) (xs : List Int) (h : Sl w v xs) (hm : xs.length ≤ 9223372036854775807) (k : Int) (_hk : (Lit.int .u64 k).wf = true) :
    Calls Try.prog 3 #[v, .int .u64 k] w fun e w' => e = .returned (.bool true) ∧ Only [] w w' := by
  have H := Lib.hid h
  obtain ⟨ao, cap, rfl, h1, h2, h3⟩ := h
  obtain ⟨n, hn⟩ : ∃ n, n = xs.length := ⟨_, rfl⟩
  rw [← hn] at hm h3 H ⊢
  have HN := Lib.hid hn
  clear h1 h2 hn
  by_cases hbig : 400 < n
  · go_enter Try.func3, Try.ntmps3
    go_wp2_with fail
    go_ret
    exact ⟨rfl, Only.refl _ _⟩
  · have L : xs.length ≤ 1000000 := by have := HN.out; omega
    have HL := Lib.hid L
    clear L
    go_enter Try.func3, Try.ntmps3
    go_wp2_with fail
    refine (awake_any _).mono ?_; rintro e w1 ⟨rfl, o1⟩
    have H1 := Lib.hid (H.out.keep o1)
    have O1 := Lib.hid o1
    clear o1
    go_wp2_with fail
    refine (push_sl _ _ xs _ H1.out HL.out).mono ?_; rintro e w2 ⟨v2, rfl, o2, s2⟩
    have H2 := Lib.hid (H1.out.keep o2)
    have S2 := Lib.hid s2
    have O2 := Lib.hid (O1.out.then0 o2)
    clear o2 s2 O1 H1
    go_wp2_with fail
    refine (refPush_sl _ _ xs _ H2.out HL.out).mono ?_; rintro e w3 ⟨v3, rfl, o3, s3⟩
    have H3 := Lib.hid (H2.out.keep o3)
    have S3 := Lib.hid (S2.out.keep o3)
    have T3 := Lib.hid s3
    have O3 := Lib.hid (O2.out.then0 o3)
    clear o3 s3 O2 H2 S2
    go_wp2_with fail
    refine (same_sl _ _ _ _ _ S3.out T3.out rfl (by rw [pushL_length]; have := HL.out; omega)).mono ?_; rintro e w4 ⟨rfl, o4⟩
    have H4 := Lib.hid (H3.out.keep o4)
    have O4 := Lib.hid (O3.out.then0 o4)
    clear o4 O3 H3 S3 T3
    go_wp2_with fail
    refine (few_sl _ _ xs H4.out HL.out).mono ?_; rintro e w5 ⟨v5, rfl, o5, s5⟩
    have H5 := Lib.hid (H4.out.keep o5)
    have S5 := Lib.hid s5
    have O5 := Lib.hid (O4.out.then0 o5)
    clear o5 s5 O4 H4
    go_wp2_with fail
    refine (push_sl _ _ _ _ S5.out (by rw [few8_length]; exact HL.out)).mono ?_; rintro e w6 ⟨v6, rfl, o6, s6⟩
    have H6 := Lib.hid (H5.out.keep o6)
    have S6 := Lib.hid s6
    have O6 := Lib.hid (O5.out.then0 o6)
    clear o6 s6 O5 H5 S5
    go_wp2_with fail
    refine (few_sl _ _ xs H6.out HL.out).mono ?_; rintro e w7 ⟨v7, rfl, o7, s7⟩
    have S7 := Lib.hid (S6.out.keep o7)
    have T7 := Lib.hid s7
    have O7 := Lib.hid (O6.out.then0 o7)
    clear o7 s7 O6 H6 S6
    go_wp2_with fail
    refine (refPush_sl _ _ _ _ T7.out (by rw [few8_length]; exact HL.out)).mono ?_; rintro e w8 ⟨v8, rfl, o8, s8⟩
    have S8 := Lib.hid (S7.out.keep o8)
    have T8 := Lib.hid s8
    have O8 := Lib.hid (O7.out.then0 o8)
    clear o8 s8 O7 S7 T7
    go_wp2_with fail
    refine (same_sl _ _ _ _ _ S8.out T8.out rfl (by rw [pushL_length, few8_length]; have := HL.out; omega)).mono ?_; rintro e w9 ⟨rfl, o9⟩
    have O9 := Lib.hid (O8.out.then0 o9)
    clear o9 O8 S8 T8
    go_wp2_with fail
    go_ret
    exact ⟨rfl, O9.out⟩

theorem EdfPops_any (w : World) (v : Value) (xs : List Int) (h : Sl w v xs) (hm : xs.length ≤ 9223372036854775807) :
    Calls Try.prog 4 #[v] w fun e w' => e = .returned (.bool true) ∧ Only [] w w' := by
  have H := Lib.hid h
  obtain ⟨ao, cap, rfl, h1, h2, h3⟩ := h
  obtain ⟨n, hn⟩ : ∃ n, n = xs.length := ⟨_, rfl⟩
  rw [← hn] at hm h3 H ⊢
  have HN := Lib.hid hn
  clear h1 h2 hn
  by_cases hbig : 400 < n
  · go_enter Try.func4, Try.ntmps4
    go_wp2_with fail
    go_ret
    exact ⟨rfl, Only.refl _ _⟩
  · have L : xs.length ≤ 1000000 := by have := HN.out; omega
    have HL := Lib.hid L
    clear L
    go_enter Try.func4, Try.ntmps4
    go_wp2_with fail
    refine (pop_sl _ _ xs H.out HL.out).mono ?_; rintro e w1 ⟨v1, rfl, o1, s1⟩
    have H1 := Lib.hid (H.out.keep o1)
    have S1 := Lib.hid s1
    have O1 := Lib.hid o1
    clear o1 s1
    go_wp2_with fail
    refine (refPop_sl _ _ xs H1.out HL.out).mono ?_; rintro e w2 ⟨v2, rfl, o2, s2⟩
    have H2 := Lib.hid (H1.out.keep o2)
    have S2 := Lib.hid (S1.out.keep o2)
    have T2 := Lib.hid s2
    have O2 := Lib.hid (O1.out.then0 o2)
    clear o2 s2 O1 H1 S1
    go_wp2_with fail
    refine (few_sl _ _ xs H2.out HL.out).mono ?_; rintro e w3 ⟨v3, rfl, o3, s3⟩
    have H3 := Lib.hid (H2.out.keep o3)
    have S3 := Lib.hid (S2.out.keep o3)
    have T3 := Lib.hid (T2.out.keep o3)
    have U3 := Lib.hid s3
    have O3 := Lib.hid (O2.out.then0 o3)
    clear o3 s3 O2 H2 S2 T2
    go_wp2_with fail
    refine (pop_sl _ _ _ U3.out (by rw [few8_length]; exact HL.out)).mono ?_; rintro e w4 ⟨v4, rfl, o4, s4⟩
    have H4 := Lib.hid (H3.out.keep o4)
    have S4 := Lib.hid (S3.out.keep o4)
    have T4 := Lib.hid (T3.out.keep o4)
    have U4 := Lib.hid s4
    have O4 := Lib.hid (O3.out.then0 o4)
    clear o4 s4 O3 H3 S3 T3 U3
    go_wp2_with fail
    refine (few_sl _ _ xs H4.out HL.out).mono ?_; rintro e w5 ⟨v5, rfl, o5, s5⟩
    have S5 := Lib.hid (S4.out.keep o5)
    have T5 := Lib.hid (T4.out.keep o5)
    have U5 := Lib.hid (U4.out.keep o5)
    have V5 := Lib.hid s5
    have O5 := Lib.hid (O4.out.then0 o5)
    clear o5 s5 O4 H4 S4 T4 U4
    go_wp2_with fail
    refine (refPop_sl _ _ _ V5.out (by rw [few8_length]; exact HL.out)).mono ?_; rintro e w6 ⟨v6, rfl, o6, s6⟩
    have S6 := Lib.hid (S5.out.keep o6)
    have T6 := Lib.hid (T5.out.keep o6)
    have U6 := Lib.hid (U5.out.keep o6)
    have V6 := Lib.hid s6
    have O6 := Lib.hid (O5.out.then0 o6)
    clear o6 s6 O5 S5 T5 U5 V5
    go_wp2_with fail
    refine (awake_any _).mono ?_; rintro e w7 ⟨rfl, o7⟩
    have S7 := Lib.hid (S6.out.keep o7)
    have T7 := Lib.hid (T6.out.keep o7)
    have U7 := Lib.hid (U6.out.keep o7)
    have V7 := Lib.hid (V6.out.keep o7)
    have O7 := Lib.hid (O6.out.then0 o7)
    clear o7 O6 S6 T6 U6 V6
    go_wp2_with fail
    refine (same_sl _ _ _ _ _ S7.out T7.out rfl (by rw [popL_length]; have := HL.out; omega)).mono ?_; rintro e w8 ⟨rfl, o8⟩
    have U8 := Lib.hid (U7.out.keep o8)
    have V8 := Lib.hid (V7.out.keep o8)
    have O8 := Lib.hid (O7.out.then0 o8)
    clear o8 O7 S7 T7 U7 V7
    go_wp2_with fail
    refine (same_sl _ _ _ _ _ U8.out V8.out rfl (by rw [popL_length, few8_length]; have := HL.out; omega)).mono ?_; rintro e w9 ⟨rfl, o9⟩
    have O9 := Lib.hid (O8.out.then0 o9)
    clear o9 O8 U8 V8
    go_wp2_with fail
    go_ret
    exact ⟨rfl, O9.out⟩
end Go.Proofs.Ytenamlckhcfflaa
