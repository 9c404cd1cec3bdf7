/- What valid and Encode compute, the program's and the reference's. -/
import Derived.Test.YtfhmphbfngdkeaaScriptKit2
namespace Go.Proofs.Ytfhmphbfngdkeaa
open Go.RowKit
set_option linter.unusedVariables false

/-- Is an entry valid? -/
def validB (e : E) : Bool := decide ((e.1 = 0 ∨ e.1 = 2) ∧ 0 ≤ e.2 ∧ e.2 ≤ 255 ∨ (e.1 = 1 ∨ e.1 = 3) ∧ e.2 = 0)

theorem valid_any (a b : Int) (w : World) :
    Calls Try.prog 33 #[.agg #[.int .i64 a, .int .i64 b]] w fun e w' => e = .returned (.bool (validB (a, b))) ∧ Only [] w w' := by
  obtain ⟨r, hr⟩ : ∃ r, r = validB (a, b) := ⟨_, rfl⟩
  rw [← hr]
  have HR := Lib.hid hr
  clear hr
  by_cases h0 : a = 0
  · subst h0
    by_cases p : 0 ≤ b
    · by_cases q : b ≤ 255
      · have hv : Hid (r = true) := Lib.hid (by rw [HR.out]; unfold validB; simp; omega)
        go_enter Try.func33, Try.ntmps33
        go_wp2_with fail
        go_ret
        exact ⟨ret_bool hv.out.symm, (Only.refl _ _).alloc _⟩
      · have hv : Hid (r = false) := Lib.hid (by rw [HR.out]; unfold validB; simp; omega)
        have q2 : 255 < b := by omega
        go_enter Try.func33, Try.ntmps33
        go_wp2_with fail
        go_ret
        exact ⟨ret_bool hv.out.symm, (Only.refl _ _).alloc _⟩
    · have hv : Hid (r = false) := Lib.hid (by rw [HR.out]; unfold validB; simp; omega)
      have p2 : b < 0 := by omega
      go_enter Try.func33, Try.ntmps33
      go_wp2_with fail
      go_ret
      exact ⟨ret_bool hv.out.symm, (Only.refl _ _).alloc _⟩
  by_cases h2 : a = 2
  · subst h2
    by_cases p : 0 ≤ b
    · by_cases q : b ≤ 255
      · have hv : Hid (r = true) := Lib.hid (by rw [HR.out]; unfold validB; simp; omega)
        go_enter Try.func33, Try.ntmps33
        go_wp2_with fail
        go_ret
        exact ⟨ret_bool hv.out.symm, (Only.refl _ _).alloc _⟩
      · have hv : Hid (r = false) := Lib.hid (by rw [HR.out]; unfold validB; simp; omega)
        have q2 : 255 < b := by omega
        go_enter Try.func33, Try.ntmps33
        go_wp2_with fail
        go_ret
        exact ⟨ret_bool hv.out.symm, (Only.refl _ _).alloc _⟩
    · have hv : Hid (r = false) := Lib.hid (by rw [HR.out]; unfold validB; simp; omega)
      have p2 : b < 0 := by omega
      go_enter Try.func33, Try.ntmps33
      go_wp2_with fail
      go_ret
      exact ⟨ret_bool hv.out.symm, (Only.refl _ _).alloc _⟩
  by_cases h1 : a = 1
  · subst h1
    by_cases p : b = 0
    · subst p
      have hv : Hid (r = true) := Lib.hid (by rw [HR.out]; rfl)
      go_enter Try.func33, Try.ntmps33
      go_wp2_with fail
      go_ret
      exact ⟨ret_bool hv.out.symm, (Only.refl _ _).alloc _⟩
    · have hv : Hid (r = false) := Lib.hid (by rw [HR.out]; unfold validB; simp; omega)
      have p2 : (b == 0) = false := by simpa using p
      go_enter Try.func33, Try.ntmps33
      go_wp2_with fail
      go_ret
      exact ⟨ret_bool hv.out.symm, (Only.refl _ _).alloc _⟩
  by_cases h3 : a = 3
  · subst h3
    by_cases p : b = 0
    · subst p
      have hv : Hid (r = true) := Lib.hid (by rw [HR.out]; rfl)
      go_enter Try.func33, Try.ntmps33
      go_wp2_with fail
      go_ret
      exact ⟨ret_bool hv.out.symm, (Only.refl _ _).alloc _⟩
    · have hv : Hid (r = false) := Lib.hid (by rw [HR.out]; unfold validB; simp; omega)
      have p2 : (b == 0) = false := by simpa using p
      go_enter Try.func33, Try.ntmps33
      go_wp2_with fail
      go_ret
      exact ⟨ret_bool hv.out.symm, (Only.refl _ _).alloc _⟩
  have hv : Hid (r = false) := Lib.hid (by rw [HR.out]; unfold validB; simp; omega)
  have e0 : (a == 0) = false := by simpa using h0
  have e1 : (a == 1) = false := by simpa using h1
  have e2 : (a == 2) = false := by simpa using h2
  have e3 : (a == 3) = false := by simpa using h3
  go_enter Try.func33, Try.ntmps33
  go_wp2_with fail
  go_ret
  exact ⟨ret_bool hv.out.symm, (Only.refl _ _).alloc _⟩

theorem refValid_any (a b : Int) (w : World) :
    Calls Try.prog 34 #[.agg #[.int .i64 a, .int .i64 b]] w fun e w' => e = .returned (.bool (validB (a, b))) ∧ Only [] w w' := by
  obtain ⟨r, hr⟩ : ∃ r, r = validB (a, b) := ⟨_, rfl⟩
  rw [← hr]
  have HR := Lib.hid hr
  clear hr
  by_cases h0 : a = 0
  · subst h0
    by_cases p : 0 ≤ b
    · by_cases q : b ≤ 255
      · have hv : Hid (r = true) := Lib.hid (by rw [HR.out]; unfold validB; simp; omega)
        go_enter Try.func34, Try.ntmps34
        go_wp2_with fail
        go_ret
        exact ⟨ret_bool hv.out.symm, (Only.refl _ _).alloc _⟩
      · have hv : Hid (r = false) := Lib.hid (by rw [HR.out]; unfold validB; simp; omega)
        have q2 : 255 < b := by omega
        go_enter Try.func34, Try.ntmps34
        go_wp2_with fail
        go_ret
        exact ⟨ret_bool hv.out.symm, (Only.refl _ _).alloc _⟩
    · have hv : Hid (r = false) := Lib.hid (by rw [HR.out]; unfold validB; simp; omega)
      have p2 : b < 0 := by omega
      go_enter Try.func34, Try.ntmps34
      go_wp2_with fail
      go_ret
      exact ⟨ret_bool hv.out.symm, (Only.refl _ _).alloc _⟩
  by_cases h2 : a = 2
  · subst h2
    by_cases p : 0 ≤ b
    · by_cases q : b ≤ 255
      · have hv : Hid (r = true) := Lib.hid (by rw [HR.out]; unfold validB; simp; omega)
        go_enter Try.func34, Try.ntmps34
        go_wp2_with fail
        go_ret
        exact ⟨ret_bool hv.out.symm, (Only.refl _ _).alloc _⟩
      · have hv : Hid (r = false) := Lib.hid (by rw [HR.out]; unfold validB; simp; omega)
        have q2 : 255 < b := by omega
        go_enter Try.func34, Try.ntmps34
        go_wp2_with fail
        go_ret
        exact ⟨ret_bool hv.out.symm, (Only.refl _ _).alloc _⟩
    · have hv : Hid (r = false) := Lib.hid (by rw [HR.out]; unfold validB; simp; omega)
      have p2 : b < 0 := by omega
      go_enter Try.func34, Try.ntmps34
      go_wp2_with fail
      go_ret
      exact ⟨ret_bool hv.out.symm, (Only.refl _ _).alloc _⟩
  by_cases h1 : a = 1
  · subst h1
    by_cases p : b = 0
    · subst p
      have hv : Hid (r = true) := Lib.hid (by rw [HR.out]; rfl)
      go_enter Try.func34, Try.ntmps34
      go_wp2_with fail
      go_ret
      exact ⟨ret_bool hv.out.symm, (Only.refl _ _).alloc _⟩
    · have hv : Hid (r = false) := Lib.hid (by rw [HR.out]; unfold validB; simp; omega)
      have p2 : (b == 0) = false := by simpa using p
      go_enter Try.func34, Try.ntmps34
      go_wp2_with fail
      go_ret
      exact ⟨ret_bool hv.out.symm, (Only.refl _ _).alloc _⟩
  by_cases h3 : a = 3
  · subst h3
    by_cases p : b = 0
    · subst p
      have hv : Hid (r = true) := Lib.hid (by rw [HR.out]; rfl)
      go_enter Try.func34, Try.ntmps34
      go_wp2_with fail
      go_ret
      exact ⟨ret_bool hv.out.symm, (Only.refl _ _).alloc _⟩
    · have hv : Hid (r = false) := Lib.hid (by rw [HR.out]; unfold validB; simp; omega)
      have p2 : (b == 0) = false := by simpa using p
      go_enter Try.func34, Try.ntmps34
      go_wp2_with fail
      go_ret
      exact ⟨ret_bool hv.out.symm, (Only.refl _ _).alloc _⟩
  have hv : Hid (r = false) := Lib.hid (by rw [HR.out]; unfold validB; simp; omega)
  have e0 : (a == 0) = false := by simpa using h0
  have e1 : (a == 1) = false := by simpa using h1
  have e2 : (a == 2) = false := by simpa using h2
  have e3 : (a == 3) = false := by simpa using h3
  go_enter Try.func34, Try.ntmps34
  go_wp2_with fail
  go_ret
  exact ⟨ret_bool hv.out.symm, (Only.refl _ _).alloc _⟩


/-- The bytes of entries. -/
def encB : List E → List Int
  | [] => []
  | e :: l => e.1 :: e.2 :: encB l
theorem encB_length (l : List E) : (encB l).length = 2 * l.length := by
  induction l with
  | nil => rfl
  | cons e l ih => simp [encB, ih]; omega
theorem encB_append (a b : List E) : encB (a ++ b) = encB a ++ encB b := by
  induction a with
  | nil => rfl
  | cons e l ih => simp [encB, ih]

/-- What a call of Encode leaves. -/
def EncPost (w : World) (l : List E) (e : Ending) (w' : World) : Prop :=
  Only [] w w' ∧ ((l.all validB = true ∧ ∃ v, e = .returned (.tuple #[v, .int .i64 0]) ∧ w'.ownsRow w.heap.size 5 1 v (2 * l.length) ((encB l).map (.int .u8))) ∨ (l.all validB = false ∧ e = .returned (.tuple #[.slice none 0 0, .int .i64 1])))

theorem infoU8 : (Try.prog.info? 5).map (fun i => (i.zero, i.size, i.bytes)) = some (some (.int .u8 0), 1, 1) := by kernel_rfl

theorem oneCell_u8 (xs : List Int) : ∀ u ∈ xs.map (Value.int .u8), u.oneCell' = true := by
  intro u hu; simp at hu; obtain ⟨z, _, rfl⟩ := hu; rfl

/-- 'append(v, u...)' of bytes, v the call's own. -/
theorem wpList_append_by (w : World) {ops : Array Oper} {rest : List Oper} {o : Oper} {a : Act} {Q : Exit → Act → World → Prop} (hw : Region.wanted o (yielded ops a.tmps) = true) (s x : Operand)
    (ho : o.op = .call { callee := .builtin .append, args := #[s, x], argTypes := #[22, 22] })
    (base : Nat) (v : Value) (n : Nat) (l : List Int) (hs : a.eval s = v) (hown : w.ownsRow base 5 1 v n (l.map (.int .u8))) (u : Value) (l2 : List Int) (hx : a.eval x = u) (hu : By w u l2)
    (hlen : n + l2.length ≤ 1000000) (hbase : base ≤ w.heap.size)
    (h : ∀ v' w', w'.ownsRow base 5 1 v' (n + l2.length) ((l ++ l2).map (.int .u8)) → w.grownBy w' v.ownBlock → (v' = .slice none 0 0 ↔ v = .slice none 0 0 ∧ l2.length = 0) → wpList Try.prog ops Q rest (a.put o.dst v') w') : wpList Try.prog ops Q (o :: rest) a w := by
  obtain ⟨i0, hi, hz0, hz1, hz2⟩ := info_parts infoU8
  obtain ⟨ao, cap, rfl, h1, h2, h3⟩ := hu
  refine wpList_append_cells w hw s x 22 ho base 5 i0 (.int .u8 0) 1 1 Try.underlying22 hi hz0 hz1 hz2 rfl (by decide) v n (l.map (.int .u8)) hs hown ao l2.length cap (l2.map (.int .u8)) hx (fun e => by obtain ⟨rfl, hc⟩ := h2 e; exact ⟨rfl, hc⟩) (by simp)
    (fun ad e => by subst e; exact h1.news) (oneCell_u8 l2) (by unfold maxLen; omega) (by omega) hbase ?_
  intro v' w' h4 h5 h6
  exact h v' w' (by rw [List.map_append]; exact h4) h5 h6

/-- The same, as a step of a region that draws its order. -/
theorem step_append_by (w : World) {ops : Array Oper} {o : Oper} {a : Act} {K : Act → World → Prop} {Q : Exit → Act → World → Prop} {E : Prop} (hw : Region.wanted o (yielded ops a.tmps) = true) (s x : Operand)
    (ho : o.op = .call { callee := .builtin .append, args := #[s, x], argTypes := #[22, 22] })
    (base : Nat) (v : Value) (n : Nat) (l : List Int) (hs : a.eval s = v) (hown : w.ownsRow base 5 1 v n (l.map (.int .u8))) (ao : Addr) (cap : Nat) (l2 : List Int) (hx : a.eval x = .slice (some ao) l2.length cap) (hu : CellsAt w (some ao) (l2.map (.int .u8)))
    (hlen : n + l2.length ≤ 1000000) (hbase : base ≤ w.heap.size)
    (h : ∀ v' w', w'.ownsRow base 5 1 v' (n + l2.length) ((l ++ l2).map (.int .u8)) → w.grownBy w' v.ownBlock → (v' = .slice none 0 0 ↔ v = .slice none 0 0 ∧ l2.length = 0) → K (a.put o.dst v') w') :
    if Region.wanted o (yielded ops a.tmps) = true then Oper.wp Try.prog o a w K Q else E := by
  rw [if_pos hw]
  obtain ⟨i0, hi, hz0, hz1, hz2⟩ := info_parts infoU8
  exact wp_append_own w s x 22 ho base 5 i0 (.int .u8 0) 1 1 Try.underlying22 hi hz0 hz1 hz2 rfl (by decide) v n (l.map (.int .u8)) hs hown ao l2.length cap (l2.map (.int .u8)) hx (by simp) hu.news (oneCell_u8 l2) (by unfold maxLen; omega) (by omega) hbase
    (fun v' w' h4 h5 h6 => h v' w' (by rw [List.map_append]; exact h4) h5 h6)

theorem cells_new8 {w : World} {b : Nat} {T : TypeId} {f : Nat × Nat} (xs : List Int) (hb : w.heap[b]? = some (.cells (xs.map (Value.int .u8)).toArray T f)) : CellsAt w (some ⟨b, 0, none⟩) (xs.map (.int .u8)) := by
  intro hp
  refine ⟨b, 0, rfl, fun j hj => ?_⟩
  rw [cell_blk hb]
  simp at hj
  simp [hj]

theorem valid_bd {a b : Int} (h : validB (a, b) = true) : 0 ≤ a ∧ a ≤ 3 ∧ 0 ≤ b ∧ b ≤ 255 := by
  unfold validB at h
  simp at h
  omega

theorem encB_step {l : List E} {k : Nat} (h : k < l.length) : encB (l.take (k + 1)) = encB (l.take k) ++ [(l.getD k (0, 0)).1, (l.getD k (0, 0)).2] := by
  rw [List.take_succ_eq_append_getElem h, encB_append]
  simp [encB, List.getD, List.getElem?_eq_getElem h]
theorem all_step {l : List E} {k : Nat} (h : k < l.length) : (l.take (k + 1)).all validB = ((l.take k).all validB && validB (l.getD k (0, 0))) := by
  rw [List.take_succ_eq_append_getElem h, List.all_append]
  simp [List.getD, List.getElem?_eq_getElem h]
theorem all_false {l : List E} {k : Nat} (h : k < l.length) (hv : validB (l.getD k (0, 0)) = false) : l.all validB = false := by
  rw [List.all_eq_false]
  exact ⟨l[k], List.getElem_mem h, by rw [show l.getD k (0, 0) = l[k] by simp [List.getD, List.getElem?_eq_getElem h]] at hv; rw [hv]; simp⟩

set_option maxRecDepth 100000 in
set_option maxHeartbeats 800000 in
theorem enc_at (w : World) (ao : Option Addr) (cap n : Nat) (l : List E) (h : CellsAt w ao (flat l)) (hn : n = l.length) (hn2 : n ≤ 60000) :
    Calls Try.prog 22 #[.slice ao n cap] w (EncPost w l) := by
  have HN := Lib.hid hn
  have H := Lib.hid h
  have hd : decide (65536 < (n : Int)) = false := decide_eq_false (by omega)
  have hd2 : decide (65536 < n) = false := decide_eq_false (by omega)
  clear h hn
  go_enter Try.func22, Try.ntmps22
  go_wp2_with fail
  clear hd hd2
  go_loopw [4, 12] (fun o i wr => ∃ k : Nat, k ≤ n ∧ i = .int .i64 k ∧ wr.ownsRow w.heap.size 5 1 o (2 * k) ((encB (l.take k)).map (.int .u8)) ∧ (l.take k).all validB = true ∧ Only [] w wr) (fun _ i _ => n - (intOf i).toNat)
  case atStart => exact ⟨0, Nat.zero_le _, rfl, World.ownsRow_nil _ _ _ _, rfl, Only.refl _ _⟩
  case round =>
    obtain ⟨k, hk, rfl, hown, hall, hP⟩ := hrel
    have W := Lib.hid hown
    have P := Lib.hid hP
    have HA := Lib.hid hall
    by_cases hlt : k < n
    · obtain ⟨b, off, rfl, hc⟩ := cells_entry H.out (by have := HN.out; omega)
      have c0 := hP.keepCell (hc k (by have := HN.out; omega)).1 (by simp)
      have c1 := hP.keepCell (hc k (by have := HN.out; omega)).2 (by simp)
      have HE := Lib.hid (encB_step (l := l) (k := k) (by have := HN.out; omega))
      have HS := Lib.hid (all_step (l := l) (k := k) (by have := HN.out; omega))
      have HF : Hid (validB (l.getD k (0, 0)) = false → l.all validB = false) := Lib.hid (all_false (by have := HN.out; omega))
      obtain ⟨e, he⟩ : ∃ e, e = l.getD k (0, 0) := ⟨_, rfl⟩
      rw [← he] at c0 c1 HE HS HF
      clear hc he hP hown hall
      obtain ⟨a1, a2⟩ := e
      simp only at c0 c1 HE
      obtain ⟨r, hr⟩ : ∃ r, r = validB (a1, a2) := ⟨_, rfl⟩
      have HR := Lib.hid hr
      cases r with
      | false =>
        clear hr
        go_wp2_with fail
        refine (valid_any a1 a2 _).mono ?_; rintro e w1 ⟨rfl, o1⟩
        rw [← HR.out]
        have O1 := Lib.hid (P.out.then0 (((Only.refl [] wr).alloc _).then0 o1))
        clear o1
        go_wp2_with fail
        go_ret2
        exact ⟨O1.out, .inr ⟨HF.out HR.out.symm, rfl⟩⟩
      | true =>
        obtain ⟨b1, b2, b3, b4⟩ := valid_bd hr.symm
        clear hr
        go_wp2_with fail
        refine (valid_any a1 a2 _).mono ?_; rintro e w1 ⟨rfl, o1⟩
        rw [← HR.out]
        have hb1 := o1.keep (blk_alloc_new _ _) (by simp)
        have c2 := cell_blk hb1 0
        have c3 := cell_blk hb1 1
        simp at c2 c3
        clear hb1
        have Q1 : Hid (Only [] wr w1) := Lib.hid (((Only.refl [] wr).alloc _).then0 o1)
        have O1 := Lib.hid (P.out.then0 Q1.out)
        have hs1 := Q1.out.size
        have hs0 := P.out.size
        clear o1
        go_wp2_with (at_builtin; refine wpList_append_by _ rfl _ _ rfl w.heap.size _ (2 * k) (encB (l.take k)) rfl (owns_keep W.out (Q1.out.alloc _)) _ [a1, a2] rfl (by_new [a1, a2] (blk_alloc_new _ _) rfl) (by simp; omega) (by simp; omega) ?_)
        intro v' w2 hown2 hgrow hnil
        have P2 := Lib.hid ((O1.out.alloc (.cells #[.int .u8 a1, .int .u8 a2] 5)).grown hgrow (fun q hq => .inr (W.out.lt q hq).1))
        have W2 : Hid (w2.ownsRow w.heap.size 5 1 v' (2 * (k + 1)) ((encB (l.take (k + 1))).map (.int .u8))) := Lib.hid (by rw [HE.out, List.map_append]; exact hown2)
        clear hown2 hgrow hnil
        go_wp2_with fail
        go_roundw
        case rel => exact ⟨k + 1, by omega, by go_num, W2.out, by rw [HS.out, HA.out, ← HR.out]; rfl, P2.out⟩
        case measure => simp [intOf]; omega
    · obtain rfl : k = n := by omega
      clear hown hall hP
      go_wp2_with fail
      go_ret2
      have e := HN.out
      refine ⟨P.out, .inl ⟨?_, _, rfl, ?_⟩⟩
      · have := HA.out; rwa [e, List.take_length] at this
      · have := W.out; rw [e, List.take_length] at this; exact this

end Go.Proofs.Ytfhmphbfngdkeaa
