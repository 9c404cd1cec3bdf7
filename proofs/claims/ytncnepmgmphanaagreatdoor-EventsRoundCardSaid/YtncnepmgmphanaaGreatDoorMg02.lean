/- The tables of forms, the fields of an event and which of them are used: walked. No condition. -/
import Derived.Test.YtncnepmgmphanaaGreatDoorMg01
import Derived.Test.YtncnepmgmphanaaGreatDoorProg
import Derived.WalkSpells
import Derived.WalkLawsBesides
import Derived.Deep.QuietTactic
import Derived.BigQuiet
import Derived.Deep.DeepCutAuto
import Derived.WalkSmall
import Derived.Lib.LaidTab
import Derived.Lib.ItoaNum
import Derived.Lib.AtoiAll
import Derived.Lib.AppendIntMem
import Derived.Lib.AtoiErrMem
import Derived.Test.YtncnepmgmphanaaGreatDoorMg00
import Derived.Test.YtncnepmgmphanaaGreatDoorTie
import Derived.Test.YtncnepmgmphanaaGreatDoorCards
import Derived.SevenTiedAt
import Derived.LaidMore
import Derived.Stop.Joined
import Derived.Stop.LaidErr
import Derived.Shelf.Vars
set_option linter.unusedVariables false
set_option linter.unusedSimpArgs false
set_option linter.unusedSectionVars false
namespace Go.Proofs.YtncnepmgmphanaaGreatDoor
open Go.RowKit
def evV (e : Evt) : Value := .agg #[.int .i64 e.kind, .int .i64 e.worker, .int .i64 e.task, .int .i64 e.other, .int .i64 e.level]
def fmV (f : EForm) : Value := .agg #[.string ⟨f.word.toArray⟩, .bool f.t, .bool f.o, .bool f.l]
set_option maxRecDepth 100000 in
set_option maxHeartbeats 4000000 in
theorem forms_any (w : World) : Calls Tryz.prog 40 #[] w fun e w' => e = .returned (.slice (some ⟨w.heap.size, 0, none⟩) 19 19) ∧ w' = w.alloc (.cells formsL.toArray 97) := by
  go_enter Tryz.func40, Tryz.ntmps40
  go_wp2
  go_ret
  exact ⟨rfl, rfl⟩
theorem used_any (w : World) (f : EForm) : Calls Tryz.prog 41 #[fmV f] w fun e w' => e = .returned (.agg #[.bool true, .bool f.t, .bool f.o, .bool f.l]) ∧ Only [] w w' := by
  unfold fmV
  go_enter Tryz.func41, Tryz.ntmps41
  go_wp2
  exact bodyPost_ret (v := .agg #[.bool true, .bool f.t, .bool f.o, .bool f.l]) (by simp [results, Tryz.results41, go_sem]) rfl ⟨rfl, ((Only.refl _ _).alloc _).alloc _⟩
theorem fields_any (w : World) (v : Evt) : Calls Tryz.prog 42 #[evV v] w fun e w' => e = .returned (.agg #[.int .i64 v.worker, .int .i64 v.task, .int .i64 v.other, .int .i64 v.level]) ∧ Only [] w w' := by
  unfold evV
  go_enter Tryz.func42, Tryz.ntmps42
  go_wp2
  exact bodyPost_ret (v := .agg #[.int .i64 v.worker, .int .i64 v.task, .int .i64 v.other, .int .i64 v.level]) (by simp [results, Tryz.results42, go_sem]) rfl ⟨rfl, ((Only.refl _ _).alloc _).alloc _⟩
end Go.Proofs.YtncnepmgmphanaaGreatDoor

namespace Go.Proofs.YtncnepmgmphanaaGreatDoor
open Go.RowKit
theorem forms_at (w : World) : Calls Tryz.prog 40 #[] w fun e w' => ∃ b, e = .returned (.slice (some ⟨b, 0, none⟩) 19 19) ∧ w'.heap[b]? = some (.cells formsL.toArray 97 (0, 0)) ∧ w.heap.size ≤ b ∧ Only [] w w' :=
  (forms_any w).mono (by rintro e w' ⟨rfl, rfl⟩; exact ⟨_, rfl, blk_alloc_new _ _, Nat.le_refl _, (Only.refl _ _).alloc _⟩)
def flAt (e : Evt) (k : Nat) : Int := if k = 0 then e.worker else if k = 1 then e.task else if k = 2 then e.other else e.level
def usAt (f : EForm) (k : Nat) : Bool := if k = 0 then true else if k = 1 then f.t else if k = 2 then f.o else f.l
theorem valid_all {e : Evt} (h1 : 1 ≤ e.kind) (h2 : e.kind ≤ 19) (h : ∀ j, j < 4 → fldOK (flAt e j) (usAt (formAt (e.kind - 1).toNat) j) = true) : validB e = true := by
  have a0 := h 0 (by omega)
  have a1 := h 1 (by omega)
  have a2 := h 2 (by omega)
  have a3 := h 3 (by omega)
  simp [flAt, usAt] at a0 a1 a2 a3
  simp [validB, h1, h2, a0, a1, a2, a3]
theorem valid_not {e : Evt} {j : Nat} (hj : j < 4) (h : fldOK (flAt e j) (usAt (formAt (e.kind - 1).toNat) j) = false) : validB e = false := by
  rcases (show j = 0 ∨ j = 1 ∨ j = 2 ∨ j = 3 from by omega) with rfl | rfl | rfl | rfl <;> simp [flAt, usAt] at h <;> simp [validB, h]
theorem valid_kind {e : Evt} (h : ¬ (1 ≤ e.kind ∧ e.kind ≤ 19)) : validB e = false := by
  unfold validB
  by_cases h1 : 1 ≤ e.kind
  · rw [decide_eq_false (show ¬ e.kind ≤ 19 by omega)]; simp
  · rw [decide_eq_false h1]; simp
set_option maxRecDepth 100000 in
theorem idx_f (e : Evt) (k : Nat) (hk : k < 4) : ∀ w, (Instr.index 99 (.agg #[.int .i64 e.worker, .int .i64 e.task, .int .i64 e.other, .int .i64 e.level]) (.int .i64 k)).run Tryz.prog w = .ok (.int .i64 (flAt e k)) w := by
  rcases (show k = 0 ∨ k = 1 ∨ k = 2 ∨ k = 3 from by omega) with rfl | rfl | rfl | rfl <;> exact fun _ => by kernel_rfl
theorem formsL_cells {w : World} {b i : Nat} (h : w.heap[b]? = some (.cells formsL.toArray 97 (0, 0))) (hi : i < 19) :
    w.cell? ⟨b, i * 4, none⟩ = some (.string ⟨(formAt i).word.toArray⟩) ∧ w.cell? ⟨b, i * 4 + 1, none⟩ = some (.bool (formAt i).t) ∧ w.cell? ⟨b, i * 4 + 2, none⟩ = some (.bool (formAt i).o) ∧ w.cell? ⟨b, i * 4 + 3, none⟩ = some (.bool (formAt i).l) := by
  obtain ⟨h1, h2, h3, h4⟩ := formsL_at hi
  simp only [cell_blk h, List.getElem?_toArray]
  exact ⟨h1, h2, h3, h4⟩
set_option maxRecDepth 100000 in
set_option maxHeartbeats 4000000 in
theorem valid_any (w : World) (v : Evt) : Calls Tryz.prog 27 #[evV v] w fun e w' => e = .returned (.bool (validB v)) ∧ Only [] w w' := by
  rcases v with ⟨K, wk, tk, ot, lv⟩
  by_cases hk : 1 ≤ K ∧ K ≤ 19
  · obtain ⟨i, rfl, hi⟩ : ∃ i : Nat, K = (i : Int) + 1 ∧ i < 19 := ⟨(K - 1).toNat, by omega, by omega⟩
    obtain ⟨q, hq⟩ : ∃ q, q = validB ⟨(i : Int) + 1, wk, tk, ot, lv⟩ := ⟨_, rfl⟩
    have hii : ((i : Int) + 1 - 1).toNat = i := by omega
    have VA : Hid ((∀ j, j < 4 → fldOK (flAt ⟨(i : Int) + 1, wk, tk, ot, lv⟩ j) (usAt (formAt i) j) = true) → q = true) := Lib.hid (fun h => by rw [hq]; exact valid_all hk.1 hk.2 (by rw [hii]; exact h))
    have VN : Hid (∀ j, j < 4 → fldOK (flAt ⟨(i : Int) + 1, wk, tk, ot, lv⟩ j) (usAt (formAt i) j) = false → q = false) := Lib.hid (fun j hj h => by rw [hq]; exact valid_not hj (by rw [hii]; exact h))
    rw [← hq]
    have UF0 := fun w' => used_any w' (formAt i)
    have VF0 := fun w' => fields_any w' ⟨(i : Int) + 1, wk, tk, ot, lv⟩
    unfold fmV at UF0
    unfold evV at VF0 ⊢
    have UF := Lib.hid UF0
    have VF := Lib.hid VF0
    obtain ⟨bx, hbx⟩ : ∃ bx, bx = w.heap.size := ⟨_, rfl⟩
    have HBX := Lib.hid hbx
    have hw0 := blk_alloc_new w (.cells #[.int .i64 ((i : Int) + 1), .int .i64 wk, .int .i64 tk, .int .i64 ot, .int .i64 lv] 27)
    rw [← hbx] at hw0
    have HW0 := Lib.hid hw0
    clear hq hii hk hbx hw0 UF0 VF0
    go_enter Tryz.func27, Tryz.ntmps27
    go_wp2_with fail
    rw [← HBX.out]
    refine (forms_at _).mono ?_; rintro e w1 ⟨b, rfl, hb, hle, o1⟩
    have HB := Lib.hid hb
    have O1 := Lib.hid (((Only.refl [] w).alloc _).then0 o1)
    have hx1 := o1.keep HW0.out (by simp)
    have c0 := cell_blk hx1 0
    have c1 := cell_blk hx1 1
    have c2 := cell_blk hx1 2
    have c3 := cell_blk hx1 3
    have c4 := cell_blk hx1 4
    simp at c0 c1 c2 c3 c4
    obtain ⟨d0, d1, d2, d3⟩ := formsL_cells hb hi
    have hlx := lt_of_blk hx1
    have HX1 := Lib.hid hx1
    clear hb hle o1 hx1
    go_wp2_with fail
    refine (UF.out _).mono ?_; rintro e w2 ⟨rfl, o2⟩
    have O2 := Lib.hid (O1.out.then0 o2)
    have hx2 := o2.keep HX1.out (by simp)
    have c0 := cell_blk hx2 0
    have c1 := cell_blk hx2 1
    have c2 := cell_blk hx2 2
    have c3 := cell_blk hx2 3
    have c4 := cell_blk hx2 4
    simp at c0 c1 c2 c3 c4
    have hlx := lt_of_blk hx2
    have HX2 := Lib.hid hx2
    clear hx2 o2 d0 d1 d2 d3
    go_wp2_with fail
    refine (VF.out _).mono ?_; rintro e w3 ⟨rfl, o3⟩
    obtain ⟨ub, hub⟩ : ∃ ub, ub = w2.heap.size := ⟨_, rfl⟩
    rw [← hub]
    have hU : w3.heap[ub]? = some (.cells #[.bool true, .bool (formAt i).t, .bool (formAt i).o, .bool (formAt i).l] 95 (0, 0)) := by
      rw [hub]; exact o3.keep (blk_alloc_new w2 _) (by simp)
    have HU := Lib.hid hU
    have O3 := Lib.hid ((O2.out.alloc (.cells #[.bool true, .bool (formAt i).t, .bool (formAt i).o, .bool (formAt i).l] 95)).then0 o3)
    clear hub o3 hU c0 c1 c2 c3 c4 hlx
    go_wp2_with fail
    go_loop [5, 6, 27] (fun _ _ r => ∃ k : Nat, r = .int .i64 k ∧ k ≤ 4 ∧ ∀ j, j < k → fldOK (flAt ⟨(i : Int) + 1, wk, tk, ot, lv⟩ j) (usAt (formAt i) j) = true) (fun _ _ r => 4 - (intOf r).toNat)
    case atStart => exact ⟨0, rfl, by omega, fun j hj => by omega⟩
    case round =>
      obtain ⟨k, rfl, hk4, hpre⟩ := hrel
      have PRE := Lib.hid hpre
      clear hpre
      by_cases hk : k < 4
      · have hix := idx_f ⟨(i : Int) + 1, wk, tk, ot, lv⟩ k hk
        have hcu : w3.cell? ⟨ub, k, none⟩ = some (.bool (usAt (formAt i) k)) := by
          rw [cell_blk HU.out]
          rcases (show k = 0 ∨ k = 1 ∨ k = 2 ∨ k = 3 from by omega) with rfl | rfl | rfl | rfl <;> rfl
        obtain ⟨x, hx⟩ : ∃ x, x = flAt ⟨(i : Int) + 1, wk, tk, ot, lv⟩ k := ⟨_, rfl⟩
        obtain ⟨u, hu⟩ : ∃ u, u = usAt (formAt i) k := ⟨_, rfl⟩
        simp only at hix
        have NX : Hid (fldOK x u = true → ∀ j, j < k + 1 → fldOK (flAt ⟨(i : Int) + 1, wk, tk, ot, lv⟩ j) (usAt (formAt i) j) = true) := Lib.hid (fun h j hj => by
          by_cases e : j = k
          · subst e; rw [← hx, ← hu]; exact h
          · exact PRE.out j (by omega))
        have NO : Hid (fldOK x u = false → q = false) := Lib.hid (fun h => VN.out k hk (by rw [← hx, ← hu]; exact h))
        rw [← hx] at hix
        rw [← hu] at hcu
        clear hx hu PRE
        by_cases h1 : x < 0
        · go_wp2_with fail
          go_ret
          exact ⟨by rw [NO.out (by simp [fldOK]; omega)]; rfl, O3.out⟩
        · by_cases h2 : 256 < x
          · go_wp2_with fail
            go_ret
            exact ⟨by rw [NO.out (by simp [fldOK]; omega)]; rfl, O3.out⟩
          · cases u with
            | true =>
              go_wp2_with fail
              go_round
              case rel => exact ⟨k + 1, by go_num, by omega, NX.out (by simp [fldOK]; omega)⟩
              case measure => simp [intOf]; omega
            | false =>
              by_cases h3 : x = 0
              · subst h3
                go_wp2_with fail
                go_round
                case rel => exact ⟨k + 1, by go_num, by omega, NX.out (by simp [fldOK])⟩
                case measure => simp [intOf]; omega
              · go_wp2_with fail
                go_ret
                exact ⟨by rw [NO.out (by simp [fldOK]; omega)]; rfl, O3.out⟩
      · obtain rfl : k = 4 := by omega
        go_wp2_with fail
        go_ret
        exact ⟨by rw [VA.out PRE.out]; rfl, O3.out⟩
  · have hq := valid_kind (e := ⟨K, wk, tk, ot, lv⟩) hk
    rw [hq]
    unfold evV
    obtain ⟨bx, hbx⟩ : ∃ bx, bx = w.heap.size := ⟨_, rfl⟩
    have HBX := Lib.hid hbx
    have hw0 := blk_alloc_new w (.cells #[.int .i64 K, .int .i64 wk, .int .i64 tk, .int .i64 ot, .int .i64 lv] 27)
    rw [← hbx] at hw0
    have HW0 := Lib.hid hw0
    clear hbx hw0 hq
    go_enter Tryz.func27, Tryz.ntmps27
    go_wp2_with fail
    rw [← HBX.out]
    refine (forms_at _).mono ?_; rintro e w1 ⟨b, rfl, hb, hle, o1⟩
    have O1 := Lib.hid (((Only.refl [] w).alloc _).then0 o1)
    have hx1 := o1.keep HW0.out (by simp)
    have c0 := cell_blk hx1 0
    simp at c0
    clear hb hle o1 hx1
    by_cases h1 : K < 1
    · go_wp2_with fail
      go_ret
      exact ⟨rfl, O1.out⟩
    · have h2 : 19 < K := by omega
      go_wp2_with fail
      go_ret
      exact ⟨rfl, O1.out⟩
end Go.Proofs.YtncnepmgmphanaaGreatDoor

namespace Go.Proofs.YtncnepmgmphanaaGreatDoor
open Go.RowKit
structure LibAt (w : World) : Prop where
  m : ∃ m, w.cell? ⟨0, 0, none⟩ = some (.int .i64 m)
  tab : Lib.TabIs Tryz.prog w "internal/strconv.uint64pow10" .u64 Lib.pow10Tab
  syn : ∃ te pe, w.cell? ⟨1, 0, none⟩ = some (.iface te pe)
  rng : ∃ te pe, w.cell? ⟨2, 0, none⟩ = some (.iface te pe)
theorem LibAt.keep {S : List Nat} {w w' : World} (h : LibAt w) (o : Only S w w') (hS : ∀ b ∈ S, 20 ≤ b) : LibAt w' := by
  have hn : ∀ b, b < 20 → b ∉ S := fun b hb hm => by have := hS b hm; omega
  obtain ⟨m, hm⟩ := h.m
  obtain ⟨te, pe, hs⟩ := h.syn
  obtain ⟨tr, pr, hr⟩ := h.rng
  have hg : Tryz.prog.globalNamed "internal/strconv.uint64pow10" = some 3 := by kernel_rfl
  have hc := h.tab.cell hg 0 (by decide)
  have hl : 3 < w.heap.size := lt_of_cell hc
  refine ⟨⟨m, o.keepCell hm (hn _ (by decide))⟩, ?_, ⟨te, pe, o.keepCell hs (hn _ (by decide))⟩, ⟨tr, pr, o.keepCell hr (hn _ (by decide))⟩⟩
  have ht := h.tab
  unfold Lib.TabIs at ht ⊢
  unfold World.var? at ht ⊢
  rw [hg] at ht ⊢
  simp only [Option.bind_some] at ht ⊢
  rw [o.block _ hl (hn _ (by decide))]
  exact ht
theorem LibAt.keep0 {w w' : World} (h : LibAt w) (o : Only [] w w') : LibAt w' := h.keep o (by simp)
theorem only_of_below {w w' : World} (h : Below w.heap.size w w') : Only [] w w' := ⟨h.os, h.tape, h.output, h.size, fun k hk _ => h.block k hk⟩
theorem itoa_any (w : World) (hL : LibAt w) (n : Int) (h0 : -9223372036854775808 ≤ n) (h1 : n ≤ 9223372036854775807) :
    Calls Tryz.prog 44 #[.int .i64 n] w fun e w' => e = .returned (.string ⟨(Lib.itoa n).toArray⟩) ∧ Only [] w w' :=
  (Tryz.strconv_Itoa n h0 h1 w hL.tab).mono (by
    rintro e w' ⟨rfl, k, os, rfl⟩
    exact ⟨rfl, only_of_below (Lib.below_grow _ _ (Nat.le_refl _) k os)⟩)
def atoiN (l : List UInt8) : Option Int := match Lib.atoiAll l with
  | .ok v => some v
  | _ => none
def AtoiPost (s : ByteArray) (w : World) (e : Ending) (w' : World) : Prop :=
  Only [] w w' ∧ ((∃ v, atoiN s.data.toList = some v ∧ e = .returned (.tuple #[.int .i64 v, .nilIface])) ∨ (atoiN s.data.toList = none ∧ ∃ v te p, e = .returned (.tuple #[.int .i64 v, .iface te p])))
theorem atoi_any (w : World) (hL : LibAt w) (s : ByteArray) (hs : s.size ≤ 281474976710656) : Calls Tryz.prog 50 #[.string s] w (AtoiPost s w) := by
  rcases h : Lib.atoiAll s.data.toList with v | _ | _
  · refine (Tryz.strconv_Atoi_ok s (by omega) v h w).mono ?_
    rintro e w' ⟨rfl, hw⟩
    refine ⟨?_, .inl ⟨v, by simp [atoiN, h], rfl⟩⟩
    rcases hw with rfl | ⟨t, rfl⟩
    · exact Only.refl _ _
    · exact only_of_below (Lib.bytesWorld_below _ _ _)
  · obtain ⟨te, pe, hc⟩ := hL.syn
    refine (Tryz.strconv_Atoi_syntax s hs h _ w hc (.inr ⟨te, pe, rfl⟩)).mono ?_
    rintro e w' ⟨N, rfl, -, -, hb⟩
    exact ⟨only_of_below hb, .inr ⟨by simp [atoiN, h], _, _, _, rfl⟩⟩
  · obtain ⟨te, pe, hc⟩ := hL.rng
    refine (Tryz.strconv_Atoi_range s hs h _ w hc (.inr ⟨te, pe, rfl⟩)).mono ?_
    rintro e w' ⟨N, rfl, -, -, hb⟩
    exact ⟨only_of_below hb, .inr ⟨by simp [atoiN, h], _, _, _, rfl⟩⟩
theorem cut_any (w : World) (hL : LibAt w) (s sep : ByteArray) (hs : s.size < 4294967281) :
    Calls Tryz.prog 33 #[.string s, .string sep] w fun e w' => e = .returned (.tuple #[.string ⟨(Lib.cut s.data.toList sep.data.toList).1.toArray⟩, .string ⟨(Lib.cut s.data.toList sep.data.toList).2.1.toArray⟩, .bool (Lib.cut s.data.toList sep.data.toList).2.2]) ∧ Only [] w w' := by
  obtain ⟨m, hm⟩ := hL.m
  refine (Tryz.strings_Cut s sep m w hs hm).mono ?_
  rintro e w' ⟨rfl, n, rfl⟩
  exact ⟨rfl, (Only.refl _ _).drewN n⟩
theorem split_any (w : World) (hL : LibAt w) (s sep : ByteArray) (hs : s.size < 4294967281) (h1 : 1 ≤ sep.size) :
    Calls Tryz.prog 49 #[.string s, .string sep] w fun e w' => ∃ b, e = .returned (.slice (some ⟨b, 0, none⟩) (Lib.splitB sep 0 (Lib.countB s sep) s).length (Lib.splitB sep 0 (Lib.countB s sep) s).length) ∧ w'.heap[b]? = some (.cells ((Lib.splitB sep 0 (Lib.countB s sep) s).map Value.string).toArray 9 (0, 0)) ∧ w.heap.size ≤ b ∧ Only [] w w' := by
  obtain ⟨m, hm⟩ := hL.m
  refine (Tryz.strings_Split s sep m w hs hm h1).mono ?_
  rintro e w' ⟨rfl, rfl⟩
  rw [Lib.splitB_all sep h1 0 _ s rfl]
  exact ⟨_, rfl, blk_alloc_new _ _, Nat.le_refl _, (Only.refl _ _).alloc _⟩
end Go.Proofs.YtncnepmgmphanaaGreatDoor

namespace Go.Proofs.YtncnepmgmphanaaGreatDoor
open Go.ChangeShapes Go.WideShapes Go.ChangeAt Go.RowKit
def laidE : List (String × DataW Unit) := [("math/bits.deBruijn32tab", Rows.laid_math_bits_deBruijn32tab), ("math/bits.deBruijn64tab", Rows.laid_math_bits_deBruijn64tab), ("internal/strconv.uint64pow10", Rows.laid_internal_strconv_uint64pow10), ("unicode/utf8.acceptRanges", Rows.laid_unicode_utf8_acceptRanges), ("strconv.ErrRange", Rows.laid_strconv_ErrRange), ("strconv.ErrSyntax", Rows.laid_strconv_ErrSyntax), ("unicode/utf8.first", Rows.laid_unicode_utf8_first)]
theorem starE : "*" ++ "errors.errorString" = "*errors.errorString" := by decide
theorem rowE (u : TypeId) (h : Tryz.prog.typeName? 3 u = some "*errors.errorString") : u = 212 :=
  typeName_ptr_named (nm := "errors.errorString") (by rw [starE]; kernel_rfl) (by kernel_rfl) (by decide) u (by rw [starE]; exact h)
theorem cellsErr : Tryz.prog.cellsOf 214 = 1 := by kernel_rfl
theorem cellsStr : Tryz.prog.cellsOf 9 = 1 := by kernel_rfl
theorem lib_of_laid {W : World} (h : laidMetH Tryz.prog laidE W) (hsh : W.ShapedOpen Tryz.prog) : LibAt W := by
  have h' : laidMet Tryz.prog laidE W := h
  have h2 : laidMet Tryz.prog (("internal/strconv.uint64pow10", Lib.tabData .u64 Lib.pow10Tab) :: laidE.drop 3) W := h'.tail.tail
  have hR : laidMet Tryz.prog (("strconv.ErrRange", .iface "*errors.errorString" (.ptr (.agg [.lit (.string [118, 97, 108, 117, 101, 32, 111, 117, 116, 32, 111, 102, 32, 114, 97, 110, 103, 101])]))) :: laidE.drop 5) W := h'.tail.tail.tail.tail
  have hS : laidMet Tryz.prog (("strconv.ErrSyntax", .iface "*errors.errorString" (.ptr (.agg [.lit (.string [105, 110, 118, 97, 108, 105, 100, 32, 115, 121, 110, 116, 97, 120])]))) :: laidE.drop 6) W := h'.tail.tail.tail.tail.tail
  have gR : Tryz.prog.globalNamed "strconv.ErrRange" = some 2 := by kernel_rfl
  have gS : Tryz.prog.globalNamed "strconv.ErrSyntax" = some 1 := by kernel_rfl
  obtain ⟨a0, s0, hv0, -, -, -⟩ := laid_sentinel hR gR (by kernel_rfl) Tryz.underlying77 rowE Tryz.underlying212 Tryz.underlying214 rfl rfl Tryz.underlying9 cellsErr cellsStr
  obtain ⟨a1, s1, hv1, -, -, -⟩ := laid_sentinel hS gS (by kernel_rfl) Tryz.underlying77 rowE Tryz.underlying212 Tryz.underlying214 rfl rfl Tryz.underlying9 cellsErr cellsStr
  refine ⟨?_, ?_, ⟨_, _, by have h0 := World.var?_cell gS hv1 0; simpa using h0⟩, ⟨_, _, by have h0 := World.var?_cell gR hv0 0; simpa using h0⟩⟩
  · exact Go.Proofs.cell_of_shapedOpen_int (zero := #[.int .i64 0]) (t := 3) hsh (of_decide_eq_true (by kernel_rfl)) (by kernel_rfl) rfl (by kernel_rfl) (by kernel_rfl) Tryz.underlying3
  · exact Lib.tabIs_of_head (g := 3) (by kernel_rfl) (by kernel_rfl) Tryz.underlying207 Tryz.underlying59 (by kernel_rfl) (by kernel_rfl) h2
theorem standIns_none {P : Program} {ts : Array TypeId} (h : ts.toList.all (fun t => !P.wantsStandIn t) = true) : ∀ (j : Nat) (t : TypeId), ts[j]? = some t → P.wantsStandIn t = false := by
  intro j t ht
  have := List.all_eq_true.1 h t (by rw [← Array.getElem?_toList] at ht; exact List.mem_of_getElem? ht)
  simpa using this
section
variable {H : Type} {enc : TypeId × Value → H}
theorem wrap_shaped {a : Assume} {C : Checked} {os : Os} {f : FuncId} {fn : Func} {s : ChangeSpec} {conds : List PathCond} {apart fresh handsOn again : Bool} {X : World → Array Value → Prop}
    (hX : ∀ (w w' : World) (args : Array Value), w.heap = w'.heap → X w args → X w' args)
    (own : ownKnob C.prog.godebug = none) (started : os.Started) (noInit : C.prog.inits.idxOf? f = none) (hfn : C.prog.funcs[f]? = some fn)
    (witness : ∃ (w : World) (tape : Tape) (i : Input), w.os = os ∧ (w.forCall tape i).Shaped C.prog ∧ i.vars = [] ∧ Input.okWide C.prog (w.forCall tape i) .any w.heap.size f i ∧
      ((s.pre enc C.prog fn conds apart (w.forCall tape i).memory i.args ∧ X (w.forCall tape i).memory i.args) ∧ sizedMet enc C.prog fn (OpenSpec.ofChange s) apart (w.forCall tape i).memory i.args) ∧ a.holds C.prog (lone (Frame.enter C.prog f i.args .normal) [] (w.forCall tape i)))
    (contract : ∀ (W : World) (base : Nat) (args : Array Value) (ds gs : List (DataW H)) (before : List MemPlace),
      (∀ (j : Nat) t v, fn.params[j]? = some t → args[j]? = some v → Value.okWide C.prog W .any base t v) →
      DataW.Whole enc C.prog fn.params.toList s.vars apart W args.toList ds gs before →
      X W args → W.ShapedOpen C.prog →
      Calls C.prog f args W fun e W' => ∃ v, e = .returned v ∧ s.post enc C.prog fn apart fresh handsOn again W args v W') :
    ReturnsInHanded a C os f .any (fun w args => (s.pre enc C.prog fn conds apart w args ∧ X w args) ∧ sizedMet enc C.prog fn (OpenSpec.ofChange s) apart w args) (s.post enc C.prog fn apart fresh handsOn again) := by
  refine returnsInHanded_of_calls own started noInit witness ?_
  intro w tape i _ hsh _ hok hpre _
  obtain ⟨_, _, _, fn', hfn', _, _, _, _, hval⟩ := hok
  have e : fn' = fn := Option.some.inj (hfn'.symm.trans hfn)
  subst e
  obtain ⟨⟨⟨ds, gs, before, hw, _⟩, hx⟩, _⟩ := hpre
  have hw' := DataW.Whole.of_heap (w' := w.forCall tape i) (by rfl) hw
  refine (contract (w.forCall tape i) w.heap.size i.args ds gs before hval hw' (hX _ _ _ (by rfl) hx) hsh).mono fun e W' ⟨v, he, hp⟩ => ?_
  subst he
  exact ChangeSpec.post_blind hp
def LawWalkE (F : FuncId) (f : Func) : Prop :=
  ∀ (H : Type) (enc : TypeId × Value → H) (W : World) (base : Nat) (args : Array Value) (ds : List (DataW H)) (ps : List MemPlace),
    (∀ (j : Nat) t v, f.params[j]? = some t → args[j]? = some v → Value.okWide Tryz.prog W .any base t v) →
    DataW.TrodAll enc Tryz.prog W 0 (fun _ => true) true f.params.toList args.toList ds ps →
    LibAt W →
    Calls Tryz.prog F args W fun e W' => e = .returned (.bool true) ∧ Only [] W W'
set_option maxRecDepth 100000 in
theorem law_lifted_E {F : FuncId} {f : Func} {s : ChangeSpec} {os : Os} (started : os.Started) (noInit : Tryz.prog.inits.idxOf? F = none) (hf : Tryz.prog.funcs[F]? = some f) (hv : s.vars = [])
    (witness : ∃ (w : World) (tape : Tape) (i : Input), w.os = os ∧ (w.forCall tape i).Shaped Tryz.prog ∧ i.vars = [] ∧ Input.okWide Tryz.prog (w.forCall tape i) .any w.heap.size F i ∧
      ((s.pre enc Tryz.prog f [] false (w.forCall tape i).memory i.args ∧ laidMetH Tryz.prog laidE (w.forCall tape i).memory) ∧ sizedMet enc Tryz.prog f (OpenSpec.ofChange s) false (w.forCall tape i).memory i.args) ∧ ({} : Assume).holds Tryz.prog (lone (Frame.enter Tryz.prog F i.args .normal) [] (w.forCall tape i)))
    (hres : f.resultTypes = #[4]) (hread : ∀ t ∈ f.params.toList, Tryz.prog.readableRec t = true ∧ t < Tryz.prog.types.size)
    (hspec : ∀ ds : List (DataW H), ds.length = f.params.toList.length → (s.fn H ds).results = [.lit (.bool true)] ∧ (s.fn H ds).args = ds ∧ (s.fn H ds).vars = [])
    (walk : LawWalkE F f) :
    ReturnsInHanded {} Tryz.checked os F .any (fun w args => (s.pre enc Tryz.prog f [] false w args ∧ laidMetH Tryz.prog laidE w) ∧ sizedMet enc Tryz.prog f (OpenSpec.ofChange s) false w args) (s.post enc Tryz.prog f false true false false) := by
  refine wrap_shaped (C := Tryz.checked) (X := fun w _ => laidMetH Tryz.prog laidE w) (fun _ _ _ hh h => h.of_heap hh) own started noInit hf witness ?_
  intro W base args ds gs before hval0 hW hL hsh
  have hW' := hW
  obtain ⟨p, q, hA, hV, rfl, _, _⟩ := hW
  rw [hv] at hV
  obtain ⟨rfl, rfl⟩ := trodVars_none hV
  simp only [List.append_nil] at hW'
  have hlt : ∀ x ∈ p, x.block < W.heap.size := fun x hx => by simpa using hW'.lt x hx
  refine (walk H enc W base args ds p hval0 hA (lib_of_laid hL hsh)).mono fun e W' ⟨he, ho⟩ => ?_
  subst he
  have hb := ho.below (by simp)
  obtain ⟨h1, h2, h3⟩ := hspec ds (trodAll_length hA)
  refine ⟨_, rfl, ds, [], p, [], p, [], hW', ?_, ?_, ?_, hb.frame _, fun h => by cases h⟩
  · rw [List.append_nil, h1, hres]
    exact trodAll_cons_mk (shut_bool Tryz.underlying4 _) trodAll_mk0
  · rw [List.append_nil, h2]
    exact trodAll_below laidOut hb hA hread hlt
  · rw [List.append_nil, h3, hv]
    exact rfl
end
end Go.Proofs.YtncnepmgmphanaaGreatDoor
