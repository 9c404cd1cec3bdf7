/- The reference's 'apply' on a list of values, walked. -/
import Derived.Test.YtfhkhknnoepfeaaGreatMgA
import Derived.Test.YtfhkhknnoepfeaaGreatRowBlk
import Derived.Test.YtfhkhknnoepfeaaGreatDqKeep
import Derived.Test.YtfhkhknnoepfeaaGreatHistKit
import Derived.Deep.RegionLaw
namespace Go.Proofs.YtfhkhknnoepfeaaGreat
open Go.RowKit
set_option linter.unusedVariables false

theorem infoIntE : (Tryz.prog.info? 3).map (fun i => (i.zero, i.size, i.bytes)) = some (some (.int .i64 0), 1, 8) := by kernel_rfl
def zI (zs : List Int) : List Value := zs.map (.int .i64)
theorem zI_len (zs : List Int) : (zI zs).length = zs.length := by simp [zI]
theorem zI_one (zs : List Int) : ∀ u ∈ zI zs, u.oneCell' = true := by
  intro u hu
  obtain ⟨z, _, rfl⟩ := List.mem_map.1 hu
  rfl
theorem zI_app (a b : List Int) : zI (a ++ b) = zI a ++ zI b := by simp [zI]

/-- 'append(v, xs...)' of numbers, v the call's own. -/
theorem wp_append_zs {w : World} {o : Oper} {a : Act} {K : Act → World → Prop} {Q : Exit → Act → World → Prop} (s x : Operand)
    (ho : o.op = .call { callee := .builtin .append, args := #[s, x], argTypes := #[23, 23] })
    (base : Nat) (v : Value) (zs : List Int) (hs : a.eval s = v) (hown : w.ownsRow base 3 1 v zs.length (zI zs)) (ao : Option Addr) (c : Nat) (ys : List Int) (hx : a.eval x = .slice ao ys.length c) (hnone : ao = none → ys = [] ∧ c = 0) (hnews : CellsAt w ao (zI ys))
    (hlen : zs.length ≤ 1000000) (hys : ys.length ≤ 1000000) (hbase : base ≤ w.heap.size)
    (h : ∀ v' w', w'.ownsRow base 3 1 v' (zs ++ ys).length (zI (zs ++ ys)) → w.grownBy w' v.ownBlock → K (a.put o.dst v') w') : o.wp Tryz.prog a w K Q := by
  obtain ⟨i0, hi, hz0, hz1, hz2⟩ := info_parts infoIntE
  cases ao with
  | some ad =>
    refine wp_append_own w s x 23 ho base 3 i0 (.int .i64 0) 1 8 Tryz.underlying23 hi hz0 hz1 hz2 rfl (by decide) v zs.length (zI zs) hs hown ad ys.length c (zI ys) hx (by rw [zI_len]; simp) (fun j u hu => ?_) (zI_one ys) (by unfold maxLen; omega) (by omega) hbase
      (fun v' w' h4 h5 h6 => h v' w' (by rw [zI_app, List.length_append]; exact h4) h5)
    obtain ⟨hj, rfl⟩ := List.getElem?_eq_some_iff.1 hu
    obtain ⟨b, off, e, hc⟩ := hnews (by rw [zI_len] at hj ⊢; omega)
    cases e
    rw [Go.WideShapes.add_plain]
    exact hc j hj
  | none =>
    obtain ⟨rfl, rfl⟩ := hnone rfl
    have hrun := run_append_owned_none (P := Tryz.prog) (w := w) base 23 o.type 3 i0 1 Tryz.underlying23 hi v zs.length (zI zs) hown
    unfold Oper.wp
    simp [execOp, ho, resolve, invoke, builtin, hs, hx, hrun, Result.andThen]
    exact h v w (by simpa using hown) ⟨rfl, rfl, rfl, Nat.le_refl _, fun _ _ _ => rfl⟩
theorem step_append_zs (w : World) {ops : Array Oper} {o : Oper} {a : Act} {K : Act → World → Prop} {Q : Exit → Act → World → Prop} {E : Prop} (hw : Region.wanted o (yielded ops a.tmps) = true) (s x : Operand)
    (ho : o.op = .call { callee := .builtin .append, args := #[s, x], argTypes := #[23, 23] })
    (base : Nat) (v : Value) (zs : List Int) (hs : a.eval s = v) (hown : w.ownsRow base 3 1 v zs.length (zI zs)) (ao : Option Addr) (c : Nat) (ys : List Int) (hx : a.eval x = .slice ao ys.length c) (hnone : ao = none → ys = [] ∧ c = 0) (hnews : CellsAt w ao (zI ys))
    (hlen : zs.length ≤ 1000000) (hys : ys.length ≤ 1000000) (hbase : base ≤ w.heap.size)
    (h : ∀ v' w', w'.ownsRow base 3 1 v' (zs ++ ys).length (zI (zs ++ ys)) → w.grownBy w' v.ownBlock → K (a.put o.dst v') w') :
    if Region.wanted o (yielded ops a.tmps) = true then Oper.wp Tryz.prog o a w K Q else E := by
  rw [if_pos hw]; exact wp_append_zs s x ho base v zs hs hown ao c ys hx hnone hnews hlen hys hbase h

theorem ns_owns {w : World} {base : Nat} {T : TypeId} {v : Value} {zs : List Int} (h : w.ownsRow base T 1 v zs.length (zI zs)) : Ns w v zs := by
  obtain ⟨hl, ⟨rfl, hn⟩ | ⟨g, cap, cur, rfl, hb, hh, hn, hc, hs, ht⟩⟩ := h
  · have : zs = [] := List.eq_nil_of_length_eq_zero hn
    subst this
    exact ⟨none, 0, rfl, CellsAt.nil _ _, fun _ => ⟨rfl, rfl⟩, Nat.le_refl _⟩
  · refine ⟨_, cap, rfl, fun hp => ⟨g, 0, rfl, fun j hj => ?_⟩, (fun e => by cases e), hn⟩
    rw [cell_blk hh, Nat.zero_add]
    have h6 : (cur.toList.take (zs.length * 1))[j]? = some (zI zs)[j] := by rw [ht]; exact List.getElem?_eq_getElem hj
    rw [List.getElem?_take] at h6
    have hj2 : j < zs.length * 1 := by have : j < (zI zs).length := hj; rw [zI_len] at this; omega
    rw [if_pos hj2] at h6
    simpa [zI] using h6
theorem own_new0 {w : World} {base : Nat} (hb : base ≤ w.heap.size) : (w.alloc (.cells #[] 3)).ownsRow base 3 1 (.slice (some ⟨w.heap.size, 0, none⟩) 0 0) ([] : List Int).length (zI []) :=
  World.ownsRow_lit w #[] 0 hb (by decide) rfl
theorem cells_new1 {w : World} (x : Int) : CellsAt (w.alloc (.cells #[.int .i64 x] 3)) (some ⟨w.heap.size, 0, none⟩) (zI [x]) := by
  intro _
  refine ⟨_, 0, rfl, fun j hj => ?_⟩
  have : j = 0 := by simp [zI] at hj; omega
  subst this
  rw [cell_blk (blk_alloc_new w _)]; rfl

theorem Ns.cells {w : World} {ao : Option Addr} {n c : Nat} {zs : List Int} (h : Ns w (.slice ao n c) zs) : CellsAt w ao (zI zs) := by
  obtain ⟨ao', c', e, hc, _⟩ := h
  cases e; exact hc

/-- What the reference's 'apply' returns. -/
def RApp (w : World) (o : HOp) (l : List Int) (cap : Int) (e : Ending) (w' : World) : Prop :=
  ∃ ao n c ok, e = .returned (.tuple #[.slice ao n c, .bool ok]) ∧ Only [] w w' ∧ ((ok = true ∧ ∃ l', o.act l cap = some l' ∧ Ns w' (.slice ao n c) l') ∨ (ok = false ∧ o.act l cap = none))

set_option maxRecDepth 100000 in
set_option maxHeartbeats 4000000 in
theorem refApply_fine (w : World) (o : HOp) (v : Value) (l : List Int) (cap : Int) (hv : Ns w v l) (hl : l.length ≤ 1000) (hc : o.code = 0) :
    Calls Tryz.prog 37 #[o.v, v, .int .i64 cap] w (RApp w o l cap) := by
  have HV := Lib.hid hv
  have ACT : Hid (o.act l cap = if (l.length : Int) < cap then some (l ++ [o.value]) else none) := Lib.hid (by unfold HOp.act; rw [if_pos hc])
  obtain ⟨ao, c, rfl, -, hno, hcap⟩ := hv
  obtain ⟨k0, m0, f0, t0, d0, v0⟩ := o
  simp only at hc ACT
  subst hc
  obtain ⟨n, hn⟩ : ∃ n, n = l.length := ⟨_, rfl⟩
  have HN := Lib.hid hn
  have NO := Lib.hid hno
  rw [← hn] at HV ACT hl hcap ⊢
  simp only [HOp.v]
  clear hn hno
  obtain ⟨fits, hfits⟩ : ∃ fits, fits = decide ((n : Int) < cap) := ⟨_, rfl⟩
  have HF := Lib.hid hfits
  have hF := hfits.symm
  clear hfits
  go_enter Tryz.func37, Tryz.ntmps37
  go_wp2_with fail
  obtain ⟨w1, hw1⟩ : ∃ w1, w1 = w.alloc (.cells #[.int .i64 k0, .int .i64 m0, .int .i64 f0, .int .i64 t0, .int .i64 0, .int .i64 v0] 36) := ⟨_, rfl⟩
  obtain ⟨b, hb⟩ : ∃ b, b = w.heap.size := ⟨_, rfl⟩
  have o1 : Only [] w w1 := by rw [hw1]; exact (Only.refl _ _).alloc _
  have B1 : w1.heap[b]? = some (.cells #[.int .i64 k0, .int .i64 m0, .int .i64 f0, .int .i64 t0, .int .i64 0, .int .i64 v0] 36 (0, 0)) := by rw [hw1, hb]; exact blk_alloc_new w _
  rw [← hw1, ← hb]
  have V1 := Lib.hid (HV.out.keep o1)
  have O1 := Lib.hid o1
  have c5 := cell_blk B1 5
  simp at c5
  have hbl := lt_of_blk B1
  have KEEP : ∀ w', Only [] w1 w' → w'.cell? ⟨b, 5, none⟩ = some (.int .i64 v0) := fun w' o => o.keepCell c5 (by simp)
  clear hw1 hb o1 B1
  go_region_law ((first
    | (refine step_append_zs _ rfl (.tmp 12) (.tmp 13) rfl w1.heap.size (.slice (some ⟨w1.heap.size, 0, none⟩) 0 0) [] (by simp [Act.eval]) (own_new0 (by simp)) ao c l (by simp [Act.eval]; exact HN.out) NO.out (V1.out.keep ((Only.refl _ _).drew.alloc _)).cells (by simp) (by rw [← HN.out]; omega) (by simp <;> omega) ?_
       intro v' w4 hown hgrow
       have HW4 := Lib.hid (show w4.ownsRow w1.heap.size 3 1 v' l.length (zI l) from hown)
       have o4 : Only [] w1 w4 := (((Only.refl _ _).drew.alloc _)).grown hgrow (fun q hq => by cases hq; exact .inr (by simp))
       have O4 := Lib.hid o4
       have c54 := KEEP _ o4
       obtain ⟨va, vc, rfl⟩ := owns_sl HW4.out
       have hs4 := o4.size
       clear hown hgrow o4)
    | (refine step_append_zs _ rfl (.tmp 12) (.tmp 13) rfl w1.heap.size (.slice (some ⟨w1.heap.size, 0, none⟩) 0 0) [] (by simp [Act.eval]) ((own_new0 (by simp)).alloc _) ao c l (by simp [Act.eval]; exact HN.out) NO.out (V1.out.keep (((Only.refl _ _).drew.alloc _).alloc _)).cells (by simp) (by rw [← HN.out]; omega) (by simp <;> omega) ?_
       intro v' w4 hown hgrow
       have HW4 := Lib.hid (show w4.ownsRow w1.heap.size 3 1 v' l.length (zI l) from hown)
       have o4 : Only [] w1 w4 := ((((Only.refl _ _).drew.alloc _).alloc _)).grown hgrow (fun q hq => by cases hq; exact .inr (by simp))
       have O4 := Lib.hid o4
       have c54 := KEEP _ o4
       have XC := Lib.hid (show CellsAt w4 (some ⟨w1.heap.size + 1, 0, none⟩) (zI [v0]) from CellsAt.keep (S := [w1.heap.size]) (by have h := cells_new1 (w := w1.drew.alloc (.cells #[] 3)) v0; simp only [World.size_alloc] at h; exact h) ((Only.refl _ _).grown hgrow (fun q hq => by cases hq; exact .inl (by simp))) (fun p hp => by cases hp; simp <;> omega))
       obtain ⟨va, vc, rfl⟩ := owns_sl HW4.out
       have hs4 := o4.size
       clear hown hgrow o4)
    | (refine step_append_zs _ rfl (.tmp 12) (.tmp 13) rfl w1.heap.size (.slice (some ⟨w1.heap.size + 1, 0, none⟩) 0 0) [] (by simp [Act.eval]) (by have h := own_new0 (w := w1.drew.alloc (.cells #[.int .i64 v0] 3)) (base := w1.heap.size) (by simp); simp only [World.size_alloc] at h; exact h) ao c l (by simp [Act.eval]; exact HN.out) NO.out (V1.out.keep (((Only.refl _ _).drew.alloc _).alloc _)).cells (by simp) (by rw [← HN.out]; omega) (by simp <;> omega) ?_
       intro v' w4 hown hgrow
       have HW4 := Lib.hid (show w4.ownsRow w1.heap.size 3 1 v' l.length (zI l) from hown)
       have o4 : Only [] w1 w4 := ((((Only.refl _ _).drew.alloc _).alloc _)).grown hgrow (fun q hq => by cases hq; exact .inr (by simp))
       have O4 := Lib.hid o4
       have c54 := KEEP _ o4
       have XC := Lib.hid (show CellsAt w4 (some ⟨w1.heap.size, 0, none⟩) (zI [v0]) from CellsAt.keep (S := [w1.heap.size + 1]) ((cells_new1 (w := w1.drew) v0).keep0 ((Only.refl _ _).alloc _)) ((Only.refl _ _).grown hgrow (fun q hq => by cases hq; exact .inl (by simp))) (fun p hp => by cases hp; simp <;> omega))
       obtain ⟨va, vc, rfl⟩ := owns_sl HW4.out
       have hs4 := o4.size
       clear hown hgrow o4)
    | (refine step_append_zs _ rfl (.tmp 14) (.tmp 17) rfl w1.heap.size (.slice va l.length vc) l (by simp [Act.eval]) (HW4.out.alloc _) (some ⟨w4.heap.size, 0, none⟩) 1 [v0] (by simp [Act.eval]) (fun e => by cases e) (cells_new1 v0) (by rw [← HN.out]; omega) (by simp) (by first | omega | (simp; omega)) ?_
       intro v' w5 hown hgrow
       have HW5 := Lib.hid (show w5.ownsRow w1.heap.size 3 1 v' (l ++ [v0]).length (zI (l ++ [v0])) from hown)
       have o5 : Only [] w1 w5 := (O4.out.alloc _).grown hgrow (fun q hq => .inr (owns_lt HW4.out q hq).1)
       have O5 := Lib.hid o5
       have c55 := KEEP _ o5
       obtain ⟨va', vc', rfl⟩ := owns_sl HW5.out
       clear hown hgrow o5)
    | (refine step_append_zs _ rfl (.tmp 14) (.tmp 17) rfl w1.heap.size (.slice va l.length vc) l (by simp [Act.eval]) HW4.out (some ⟨w1.heap.size + 1, 0, none⟩) 1 [v0] (by simp [Act.eval]) (fun e => by cases e) XC.out (by rw [← HN.out]; omega) (by simp) (by first | omega | (simp; omega)) ?_
       intro v' w5 hown hgrow
       have HW5 := Lib.hid (show w5.ownsRow w1.heap.size 3 1 v' (l ++ [v0]).length (zI (l ++ [v0])) from hown)
       have o5 : Only [] w1 w5 := O4.out.grown hgrow (fun q hq => .inr (owns_lt HW4.out q hq).1)
       have O5 := Lib.hid o5
       have c55 := KEEP _ o5
       obtain ⟨va', vc', rfl⟩ := owns_sl HW5.out
       clear hown hgrow o5)
    | (refine step_append_zs _ rfl (.tmp 14) (.tmp 17) rfl w1.heap.size (.slice va l.length vc) l (by simp [Act.eval]) HW4.out (some ⟨w1.heap.size, 0, none⟩) 1 [v0] (by simp [Act.eval]) (fun e => by cases e) XC.out (by rw [← HN.out]; omega) (by simp) (by first | omega | (simp; omega)) ?_
       intro v' w5 hown hgrow
       have HW5 := Lib.hid (show w5.ownsRow w1.heap.size 3 1 v' (l ++ [v0]).length (zI (l ++ [v0])) from hown)
       have o5 : Only [] w1 w5 := O4.out.grown hgrow (fun q hq => .inr (owns_lt HW4.out q hq).1)
       have O5 := Lib.hid o5
       have c55 := KEEP _ o5
       obtain ⟨va', vc', rfl⟩ := owns_sl HW5.out
       clear hown hgrow o5)))
  all_goals
    go_wp2_with fail
    go_ret2
    refine ⟨va', _, vc', fits, rfl, O1.out.then0 O5.out, ?_⟩
    rw [ACT.out]
    cases fits with
    | true => exact .inl ⟨rfl, _, if_pos (of_decide_eq_true HF.out.symm), by have h := ns_owns HW5.out; rwa [List.length_append] at h⟩
    | false => exact .inr ⟨rfl, if_neg (of_decide_eq_false HF.out.symm)⟩

theorem Ns.init {w : World} {ao : Option Addr} {n c : Nat} {zs : List Int} (h : Ns w (.slice ao n c) zs) : Ns w (.slice ao (n - 1) c) zs.dropLast := by
  obtain ⟨ao', c', e, hc, hno, hcap⟩ := h
  cases e
  refine ⟨_, _, by rw [List.length_dropLast], fun hp => ?_, fun e => ?_, by simp; omega⟩
  · obtain ⟨b, off, e2, hh⟩ := hc (by simp at hp ⊢; omega)
    refine ⟨b, off, e2, fun j hj => ?_⟩
    have hj2 : j < zs.length - 1 := by simpa using hj
    rw [hh j (by simp; omega)]
    simp
  · obtain ⟨rfl, h2⟩ := hno e; exact ⟨rfl, h2⟩
theorem Ns.tail {w : World} {b off n c : Nat} {zs : List Int} (h : Ns w (.slice (some ⟨b, off, none⟩) n c) zs) (off' : Nat) (ho : c = 1 ∨ off' = off + 1) : Ns w (.slice (some ⟨b, off', none⟩) (n - 1) (c - 1)) zs.tail := by
  obtain ⟨ao', c', e, hc, hno, hcap⟩ := h
  cases e
  refine ⟨_, _, by rw [List.length_tail], fun hp => ?_, (fun e => by cases e), by simp; omega⟩
  obtain ⟨b', off2, e2, hh⟩ := hc (by simp at hp ⊢; omega)
  cases e2
  have hl : 1 < zs.length := by simp at hp; omega
  refine ⟨b, off', rfl, fun j hj => ?_⟩
  have hj2 : j < zs.length - 1 := by simpa using hj
  have := hh (j + 1) (by simp; omega)
  rcases ho with h1 | h1
  · omega
  · rw [h1, show off + 1 + j = off + (j + 1) by omega, this]
    simp

set_option maxRecDepth 100000 in
set_option maxHeartbeats 4000000 in
theorem refApply_rest (w : World) (o : HOp) (v : Value) (l : List Int) (cap : Int) (hv : Ns w v l) (hl : l.length ≤ 1000) (hc : ¬ o.code = 0) (hf : o.formed = true) (hsp : o.code = 3 ∨ o.code = 2 ∨ o.code = 4 ∨ l = []) :
    Calls Tryz.prog 37 #[o.v, v, .int .i64 cap] w (RApp w o l cap) := by
  have HV := Lib.hid hv
  obtain ⟨ao, c, rfl, -, hno, hcap⟩ := hv
  have ACT : Hid (o.act l cap = if o.code = 3 then if cap ≤ (l.length : Int) then some l else none else if o.code = 2 then if l = [] then some l else none else if o.code = 4 then some l else if l = [] then none else if o.kind = 1 then if l.getLastD 0 = o.value then some l.dropLast else none else if l.headD 0 = o.value then some l.tail else none) := Lib.hid (by unfold HOp.act; rw [if_neg hc])
  obtain ⟨k0, m0, f0, t0, d0, v0⟩ := o
  simp only at hc ACT hsp
  obtain ⟨n, hn⟩ : ∃ n, n = l.length := ⟨_, rfl⟩
  have HN := Lib.hid hn
  have LN : Hid (l = [] ↔ n = 0) := Lib.hid (by rw [hn]; exact List.length_eq_zero_iff.symm)
  rw [← hn] at HV ACT hl hcap ⊢
  simp only [HOp.v]
  have hc' : (d0 == 0) = false := by simp [hc]
  clear hn hno hf
  by_cases c3 : d0 = 3
  · subst c3
    obtain ⟨fits, hfits⟩ : ∃ fits, fits = decide (cap ≤ (n : Int)) := ⟨_, rfl⟩
    have HF := Lib.hid hfits
    have hF := hfits.symm
    clear hfits
    go_enter Tryz.func37, Tryz.ntmps37
    go_wp2_with fail
    go_ret2
    refine ⟨ao, n, c, fits, rfl, (Only.refl _ _).alloc _, ?_⟩
    rw [ACT.out, if_pos (by trivial)]
    cases fits with
    | true => exact .inl ⟨rfl, _, if_pos (of_decide_eq_true HF.out.symm), HV.out.keep ((Only.refl _ _).alloc _)⟩
    | false => exact .inr ⟨rfl, if_neg (of_decide_eq_false HF.out.symm)⟩
  · have c3' : (d0 == 3) = false := by simp [c3]
    by_cases c2 : d0 = 2
    · subst c2
      obtain ⟨fits, hfits⟩ : ∃ fits, fits = ((n : Int) == 0) := ⟨_, rfl⟩
      have HF := Lib.hid hfits
      have hF := hfits.symm
      clear hfits
      go_enter Tryz.func37, Tryz.ntmps37
      go_wp2_with fail
      go_ret2
      refine ⟨ao, n, c, fits, rfl, (Only.refl _ _).alloc _, ?_⟩
      rw [ACT.out, if_neg (by simp), if_pos (by trivial)]
      cases fits with
      | true =>
        have h0 : n = 0 := by have := HF.out.symm; simp at this; omega
        exact .inl ⟨rfl, _, if_pos (LN.out.2 h0), HV.out.keep ((Only.refl _ _).alloc _)⟩
      | false =>
        have h0 : ¬ n = 0 := by have := HF.out.symm; simp at this; omega
        exact .inr ⟨rfl, if_neg (fun e => h0 (LN.out.1 e))⟩
    · have c2' : (d0 == 2) = false := by simp [c2]
      by_cases c4 : d0 = 4
      · subst c4
        go_enter Tryz.func37, Tryz.ntmps37
        go_wp2_with fail
        go_ret2
        refine ⟨ao, n, c, true, rfl, (Only.refl _ _).alloc _, .inl ⟨rfl, _, ?_, HV.out.keep ((Only.refl _ _).alloc _)⟩⟩
        rw [ACT.out, if_neg (by simp), if_neg (by simp), if_pos (by trivial)]
      · have c4' : (d0 == 4) = false := by simp [c4]
        have h0 : n = 0 := by
          rcases hsp with h | h | h | h
          · exact absurd h c3
          · exact absurd h c2
          · exact absurd h c4
          · exact LN.out.1 h
        have ACT2 : Hid ((⟨k0, m0, f0, t0, d0, v0⟩ : HOp).act l cap = none) := Lib.hid (by rw [ACT.out, if_neg c3, if_neg c2, if_neg c4, if_pos (LN.out.2 h0)])
        subst h0
        clear ACT hsp c3 c2 c4 hc
        go_enter Tryz.func37, Tryz.ntmps37
        go_wp2_with fail
        go_ret2
        exact ⟨none, 0, 0, false, rfl, (Only.refl _ _).alloc _, .inr ⟨rfl, ACT2.out⟩⟩
end Go.Proofs.YtfhkhknnoepfeaaGreat
