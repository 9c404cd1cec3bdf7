/- strings.Builder at this dump: its copy check and WriteString, walked (turned from the shelf's own walks). No condition. -/
import Derived.Test.YtncnepmgmphanaaGreatDoorMg00
import Derived.Test.YtncnepmgmphanaaGreatDoorProg
import Derived.Lib.Builder
import Derived.Lib.AppendStr
import Derived.Lib.Strings
import Derived.Lib.Slices
import Derived.Lib.Walk
import Derived.Laws.Externs
import Derived.Laws.BitsLemmas
import Derived.WalkSpells
import Derived.WalkLawsBesides
import Derived.Deep.QuietTactic
import Derived.BigQuiet
import Derived.Deep.DeepCutAuto
import Derived.WalkSmall
import Derived.Lib.LaidTab
import Derived.Lib.ItoaNum
import Derived.Lib.AtoiAll
import Derived.Lib.AppendIntMem
import Derived.Lib.AtoiErrMem
set_option linter.unusedVariables false
set_option linter.unusedSimpArgs false
set_option linter.unusedSectionVars false
namespace Go.Proofs.YtncnepmgmphanaaGreatDoor
open Go.RowKit
theorem sizeBld : (Tryz.prog.info? 74).map (·.size) = some 2 := by kernel_rfl
theorem liesBld : liesAt Tryz.prog Tryz.prog.depth 74 (2 / Tryz.prog.cellsOf 74) 0 74 1 = true := by kernel_rfl
theorem infoByte : (Tryz.prog.info? 5).map (fun i => (i.zero, i.size, i.bytes)) = some (some (.int .u8 0), 1, 1) := by kernel_rfl
set_option maxHeartbeats 1000000 in
set_option maxRecDepth 100000 in
theorem copyCheck_used (b : Nat) (w : World) (h0 : w.cell? ⟨b, 0, none⟩ = some (.pointer (some ⟨b, 0, none⟩))) :
    Calls Tryz.prog 43 #[.pointer (some ⟨b, 0, none⟩)] w fun e w' => e = .returned (.tuple #[]) ∧ w' = w := by
  obtain ⟨j, hj, _⟩ := Option.map_eq_some_iff.1 sizeBld
  go_enter Tryz.func43, Tryz.ntmps43
  go_wp2
  rw [Lib.run_neq_ptr_same w _ Tryz.underlying72 hj]
  go_wp2
  go_end0
  exact ⟨rfl, rfl⟩
set_option maxHeartbeats 1000000 in
set_option maxRecDepth 100000 in
theorem copyCheck_fresh (b : Nat) (w : World) (h0 : w.cell? ⟨b, 0, none⟩ = some (.pointer none)) (hsh : w.shape? b = some (74, 2)) (hfz : w.frozen? ⟨b, 0, none⟩ = false) (hlt : b < w.heap.size) :
    Calls Tryz.prog 43 #[.pointer (some ⟨b, 0, none⟩)] w fun e w' => e = .returned (.tuple #[]) ∧ w' = w.setCell ⟨b, 0, none⟩ (.pointer (some ⟨b, 0, none⟩)) := by
  obtain ⟨j, hj, hjs⟩ := Option.map_eq_some_iff.1 sizeBld
  go_enter Tryz.func43, Tryz.ntmps43
  go_wp2
  rw [Lib.run_to_unsafe w ⟨b, 0, none⟩ Tryz.underlying72 Tryz.underlying129 hj (by rw [hjs]; decide) hsh (Nat.zero_lt_succ 1)]
  simp only [Result.andThen]
  rw [Oper.upon_value]
  go_wp2
  rw [run_callFunc_extern Tryz.func57 (by kernel_rfl) (by kernel_rfl) (by kernel_rfl) (e := Extern.AbiNoEscape.same) (by kernel_rfl)]
  rw [Lib.run_noEscape]
  simp only [Result.andThen]
  rw [Oper.upon_value]
  go_wp2
  rw [Lib.run_from_unsafe w ⟨b, 0, none⟩ Tryz.underlying129 Tryz.underlying72 hj hsh liesBld]
  simp only [Result.andThen]
  rw [Oper.upon_value]
  go_wp2
  go_end0
  exact ⟨rfl, rfl⟩
theorem copyCheck_any (B b : Nat) (bs : List Value) (w : World) (h : Lib.IsBuilder 74 5 B b bs w) :
    Calls Tryz.prog 43 #[.pointer (some ⟨b, 0, none⟩)] w fun e w' => e = .returned (.tuple #[]) ∧ (Lib.BuilderAt 74 5 B b (.pointer (some ⟨b, 0, none⟩)) bs w' ∧ Below B w w') := by
  rcases h with h | h
  · refine (copyCheck_fresh b w h.cell0 h.shape h.frozen0 h.lt).mono ?_
    rintro e w' ⟨rfl, rfl⟩
    exact ⟨rfl, h.used _, (Below.refl B w).setCell (p := ⟨b, 0, none⟩) h.1 _⟩
  · refine (copyCheck_used b w h.cell0).mono ?_
    rintro e w' ⟨rfl, rfl⟩
    exact ⟨rfl, h, Below.refl B _⟩
set_option maxHeartbeats 2000000 in
set_option maxRecDepth 100000 in
theorem writeString_any (B b : Nat) (bs : List Value) (s : ByteArray) (w : World) (h : Lib.IsBuilder 74 5 B b bs w) (hlen : bs.length + s.size ≤ 140737488355328) (hBw : B ≤ w.heap.size) :
    Calls Tryz.prog 28 #[.pointer (some ⟨b, 0, none⟩), .string s] w fun e w' => e = .returned (.tuple #[.int .i64 s.size, .nilIface]) ∧ (Lib.BuilderAt 74 5 B b (.pointer (some ⟨b, 0, none⟩)) (bs ++ Lib.strCells s) w' ∧ Below B w w') := by
  obtain ⟨i0, hi, hz0, hz1, hz2⟩ := info_parts infoByte
  go_enter Tryz.func28, Tryz.ntmps28
  go_wp2_with (go_at_call 43; refine (copyCheck_any B b bs _ h).mono ?_)
  rintro e w1 ⟨rfl, h1, hb1⟩
  obtain ⟨hB, v, hbk, hown, hne⟩ := h1
  have c0 : w1.cell? ⟨b, 0, none⟩ = some (.pointer (some ⟨b, 0, none⟩)) := by rw [Lib.cell_of_heap hbk]; rfl
  have c1 : w1.cell? ⟨b, 1, none⟩ = some v := by rw [Lib.cell_of_heap hbk]; rfl
  go_wp2_with (at_builtin; refine Lib.wpList_append_own_string _ rfl _ _ 23 9 rfl B 5 i0 Tryz.underlying23 Tryz.underlying9 hi hz0 hz1 hz2 _ _ _ rfl hown s rfl ?c3 ?c4 ?c5 ?_)
  case c3 => unfold maxLen; omega
  case c4 => omega
  case c5 => have := hb1.size; omega
  intro v' w2 hown' hgrow _
  have hlt : b < w1.heap.size := lt_of_blk hbk
  have hb2 : w2.heap[b]? = some (.cells #[.pointer (some ⟨b, 0, none⟩), v] 74 (0, 0)) := by
    rw [hgrow.block b hlt (fun e => hne e.symm)]
    exact hbk
  have d0 : w2.cell? ⟨b, 0, none⟩ = some (.pointer (some ⟨b, 0, none⟩)) := by rw [Lib.cell_of_heap hb2]; rfl
  have d1 : w2.cell? ⟨b, 1, none⟩ = some v := by rw [Lib.cell_of_heap hb2]; rfl
  have f1 : w2.frozen? ⟨b, 1, none⟩ = false := Lib.frozen_of_heap hb2 1
  obtain ⟨ao, n', cap, rfl⟩ : ∃ ao n' cap, v' = .slice ao n' cap := by
    rcases hown'.2 with ⟨hv, _⟩ | ⟨g, cap, cur, hv, _⟩
    · exact ⟨_, _, _, hv⟩
    · exact ⟨_, _, _, hv⟩
  go_wp2
  go_ret2
  refine ⟨rfl, ?_, ?_⟩
  · exact Lib.BuilderAt.put (T := 74) (e := 5) hB hb2 (bs' := bs ++ Lib.strCells s) (by simpa [Lib.strCells_length] using hown') (by decide)
  · exact (hb1.grown hgrow (by have := hb1.size; omega) (fun k hk => (hown.lt k hk).1)).setCell (p := ⟨b, 1, none⟩) hB _
end Go.Proofs.YtncnepmgmphanaaGreatDoor

namespace Go.Proofs.YtncnepmgmphanaaGreatDoor
structure EForm where
  word : List UInt8
  t : Bool
  o : Bool
  l : Bool
deriving DecidableEq
structure Evt where
  kind : Int
  worker : Int
  task : Int
  other : Int
  level : Int
deriving DecidableEq
def evForms : List EForm := [⟨[97, 99, 99, 101, 112, 116], true, true, true⟩, ⟨[114, 101, 106, 101, 99, 116], false, true, true⟩, ⟨[115, 112, 97, 119, 110], true, true, true⟩, ⟨[114, 101, 102, 117, 115, 101], true, false, false⟩, ⟨[115, 116, 97, 114, 116], true, false, false⟩, ⟨[98, 108, 111, 99, 107], true, true, false⟩, ⟨[115, 101, 116, 116, 108, 101], true, false, true⟩, ⟨[106, 111, 105, 110], true, true, false⟩, ⟨[114, 101, 115, 117, 109, 101], true, false, false⟩, ⟨[102, 105, 110, 105, 115, 104], true, false, false⟩, ⟨[98, 111, 111, 115, 116], true, false, true⟩, ⟨[97, 103, 101], true, false, true⟩, ⟨[114, 101, 109, 111, 118, 101], true, false, false⟩, ⟨[115, 116, 101, 97, 108], true, true, true⟩, ⟨[115, 107, 105, 112], true, false, false⟩, ⟨[112, 97, 114, 107], false, false, false⟩, ⟨[117, 110, 112, 97, 114, 107], false, true, false⟩, ⟨[119, 97, 107, 101], false, true, false⟩, ⟨[110, 111, 114, 111, 111, 109], true, false, true⟩]
def formAt (i : Nat) : EForm := evForms.getD i ⟨[], false, false, false⟩
def fldOK (v : Int) (u : Bool) : Bool := decide (0 ≤ v) && decide (v ≤ 256) && (u || decide (v = 0))
def validB (e : Evt) : Bool :=
  decide (1 ≤ e.kind) && decide (e.kind ≤ 19) && fldOK e.worker true && fldOK e.task (formAt (e.kind - 1).toNat).t && fldOK e.other (formAt (e.kind - 1).toNat).o && fldOK e.level (formAt (e.kind - 1).toNat).l
def formsL : List Value := [.string ⟨#[97, 99, 99, 101, 112, 116]⟩, .bool true, .bool true, .bool true, .string ⟨#[114, 101, 106, 101, 99, 116]⟩, .bool false, .bool true, .bool true, .string ⟨#[115, 112, 97, 119, 110]⟩, .bool true, .bool true, .bool true, .string ⟨#[114, 101, 102, 117, 115, 101]⟩, .bool true, .bool false, .bool false, .string ⟨#[115, 116, 97, 114, 116]⟩, .bool true, .bool false, .bool false, .string ⟨#[98, 108, 111, 99, 107]⟩, .bool true, .bool true, .bool false, .string ⟨#[115, 101, 116, 116, 108, 101]⟩, .bool true, .bool false, .bool true, .string ⟨#[106, 111, 105, 110]⟩, .bool true, .bool true, .bool false, .string ⟨#[114, 101, 115, 117, 109, 101]⟩, .bool true, .bool false, .bool false, .string ⟨#[102, 105, 110, 105, 115, 104]⟩, .bool true, .bool false, .bool false, .string ⟨#[98, 111, 111, 115, 116]⟩, .bool true, .bool false, .bool true, .string ⟨#[97, 103, 101]⟩, .bool true, .bool false, .bool true, .string ⟨#[114, 101, 109, 111, 118, 101]⟩, .bool true, .bool false, .bool false, .string ⟨#[115, 116, 101, 97, 108]⟩, .bool true, .bool true, .bool true, .string ⟨#[115, 107, 105, 112]⟩, .bool true, .bool false, .bool false, .string ⟨#[112, 97, 114, 107]⟩, .bool false, .bool false, .bool false, .string ⟨#[117, 110, 112, 97, 114, 107]⟩, .bool false, .bool true, .bool false, .string ⟨#[119, 97, 107, 101]⟩, .bool false, .bool true, .bool false, .string ⟨#[110, 111, 114, 111, 111, 109]⟩, .bool true, .bool false, .bool true]
theorem nat19 {i : Nat} (h : i < 19) : i = 0 ∨ i = 1 ∨ i = 2 ∨ i = 3 ∨ i = 4 ∨ i = 5 ∨ i = 6 ∨ i = 7 ∨ i = 8 ∨ i = 9 ∨ i = 10 ∨ i = 11 ∨ i = 12 ∨ i = 13 ∨ i = 14 ∨ i = 15 ∨ i = 16 ∨ i = 17 ∨ i = 18 := by omega
theorem formsL_at {i : Nat} (h : i < 19) : formsL[i * 4]? = some (.string ⟨(formAt i).word.toArray⟩) ∧ formsL[i * 4 + 1]? = some (.bool (formAt i).t) ∧ formsL[i * 4 + 2]? = some (.bool (formAt i).o) ∧ formsL[i * 4 + 3]? = some (.bool (formAt i).l) := by
  rcases nat19 h with rfl | rfl | rfl | rfl | rfl | rfl | rfl | rfl | rfl | rfl | rfl | rfl | rfl | rfl | rfl | rfl | rfl | rfl | rfl <;> exact ⟨rfl, rfl, rfl, rfl⟩
end Go.Proofs.YtncnepmgmphanaaGreatDoor

namespace Go.Proofs.YtncnepmgmphanaaGreatDoor
open Go.RowKit
def evV (e : Evt) : Value := .agg #[.int .i64 e.kind, .int .i64 e.worker, .int .i64 e.task, .int .i64 e.other, .int .i64 e.level]
def fmV (f : EForm) : Value := .agg #[.string ⟨f.word.toArray⟩, .bool f.t, .bool f.o, .bool f.l]
set_option maxRecDepth 100000 in
set_option maxHeartbeats 4000000 in
theorem forms_any (w : World) : Calls Tryz.prog 40 #[] w fun e w' => e = .returned (.slice (some ⟨w.heap.size, 0, none⟩) 19 19) ∧ w' = w.alloc (.cells formsL.toArray 97) := by
  go_enter Tryz.func40, Tryz.ntmps40
  go_wp2
  go_ret
  exact ⟨rfl, rfl⟩
theorem used_any (w : World) (f : EForm) : Calls Tryz.prog 41 #[fmV f] w fun e w' => e = .returned (.agg #[.bool true, .bool f.t, .bool f.o, .bool f.l]) ∧ Only [] w w' := by
  unfold fmV
  go_enter Tryz.func41, Tryz.ntmps41
  go_wp2
  exact bodyPost_ret (v := .agg #[.bool true, .bool f.t, .bool f.o, .bool f.l]) (by simp [results, Tryz.results41, go_sem]) rfl ⟨rfl, ((Only.refl _ _).alloc _).alloc _⟩
theorem fields_any (w : World) (v : Evt) : Calls Tryz.prog 42 #[evV v] w fun e w' => e = .returned (.agg #[.int .i64 v.worker, .int .i64 v.task, .int .i64 v.other, .int .i64 v.level]) ∧ Only [] w w' := by
  unfold evV
  go_enter Tryz.func42, Tryz.ntmps42
  go_wp2
  exact bodyPost_ret (v := .agg #[.int .i64 v.worker, .int .i64 v.task, .int .i64 v.other, .int .i64 v.level]) (by simp [results, Tryz.results42, go_sem]) rfl ⟨rfl, ((Only.refl _ _).alloc _).alloc _⟩
end Go.Proofs.YtncnepmgmphanaaGreatDoor

namespace Go.Proofs.YtncnepmgmphanaaGreatDoor
open Go.RowKit
theorem forms_at (w : World) : Calls Tryz.prog 40 #[] w fun e w' => ∃ b, e = .returned (.slice (some ⟨b, 0, none⟩) 19 19) ∧ w'.heap[b]? = some (.cells formsL.toArray 97 (0, 0)) ∧ w.heap.size ≤ b ∧ Only [] w w' :=
  (forms_any w).mono (by rintro e w' ⟨rfl, rfl⟩; exact ⟨_, rfl, blk_alloc_new _ _, Nat.le_refl _, (Only.refl _ _).alloc _⟩)
def flAt (e : Evt) (k : Nat) : Int := if k = 0 then e.worker else if k = 1 then e.task else if k = 2 then e.other else e.level
def usAt (f : EForm) (k : Nat) : Bool := if k = 0 then true else if k = 1 then f.t else if k = 2 then f.o else f.l
theorem valid_all {e : Evt} (h1 : 1 ≤ e.kind) (h2 : e.kind ≤ 19) (h : ∀ j, j < 4 → fldOK (flAt e j) (usAt (formAt (e.kind - 1).toNat) j) = true) : validB e = true := by
  have a0 := h 0 (by omega)
  have a1 := h 1 (by omega)
  have a2 := h 2 (by omega)
  have a3 := h 3 (by omega)
  simp [flAt, usAt] at a0 a1 a2 a3
  simp [validB, h1, h2, a0, a1, a2, a3]
theorem valid_not {e : Evt} {j : Nat} (hj : j < 4) (h : fldOK (flAt e j) (usAt (formAt (e.kind - 1).toNat) j) = false) : validB e = false := by
  rcases (show j = 0 ∨ j = 1 ∨ j = 2 ∨ j = 3 from by omega) with rfl | rfl | rfl | rfl <;> simp [flAt, usAt] at h <;> simp [validB, h]
theorem valid_kind {e : Evt} (h : ¬ (1 ≤ e.kind ∧ e.kind ≤ 19)) : validB e = false := by
  unfold validB
  by_cases h1 : 1 ≤ e.kind
  · rw [decide_eq_false (show ¬ e.kind ≤ 19 by omega)]; simp
  · rw [decide_eq_false h1]; simp
set_option maxRecDepth 100000 in
theorem idx_f (e : Evt) (k : Nat) (hk : k < 4) : ∀ w, (Instr.index 99 (.agg #[.int .i64 e.worker, .int .i64 e.task, .int .i64 e.other, .int .i64 e.level]) (.int .i64 k)).run Tryz.prog w = .ok (.int .i64 (flAt e k)) w := by
  rcases (show k = 0 ∨ k = 1 ∨ k = 2 ∨ k = 3 from by omega) with rfl | rfl | rfl | rfl <;> exact fun _ => by kernel_rfl
theorem formsL_cells {w : World} {b i : Nat} (h : w.heap[b]? = some (.cells formsL.toArray 97 (0, 0))) (hi : i < 19) :
    w.cell? ⟨b, i * 4, none⟩ = some (.string ⟨(formAt i).word.toArray⟩) ∧ w.cell? ⟨b, i * 4 + 1, none⟩ = some (.bool (formAt i).t) ∧ w.cell? ⟨b, i * 4 + 2, none⟩ = some (.bool (formAt i).o) ∧ w.cell? ⟨b, i * 4 + 3, none⟩ = some (.bool (formAt i).l) := by
  obtain ⟨h1, h2, h3, h4⟩ := formsL_at hi
  simp only [cell_blk h, List.getElem?_toArray]
  exact ⟨h1, h2, h3, h4⟩
set_option maxRecDepth 100000 in
set_option maxHeartbeats 4000000 in
theorem valid_any (w : World) (v : Evt) : Calls Tryz.prog 27 #[evV v] w fun e w' => e = .returned (.bool (validB v)) ∧ Only [] w w' := by
  rcases v with ⟨K, wk, tk, ot, lv⟩
  by_cases hk : 1 ≤ K ∧ K ≤ 19
  · obtain ⟨i, rfl, hi⟩ : ∃ i : Nat, K = (i : Int) + 1 ∧ i < 19 := ⟨(K - 1).toNat, by omega, by omega⟩
    obtain ⟨q, hq⟩ : ∃ q, q = validB ⟨(i : Int) + 1, wk, tk, ot, lv⟩ := ⟨_, rfl⟩
    have hii : ((i : Int) + 1 - 1).toNat = i := by omega
    have VA : Hid ((∀ j, j < 4 → fldOK (flAt ⟨(i : Int) + 1, wk, tk, ot, lv⟩ j) (usAt (formAt i) j) = true) → q = true) := Lib.hid (fun h => by rw [hq]; exact valid_all hk.1 hk.2 (by rw [hii]; exact h))
    have VN : Hid (∀ j, j < 4 → fldOK (flAt ⟨(i : Int) + 1, wk, tk, ot, lv⟩ j) (usAt (formAt i) j) = false → q = false) := Lib.hid (fun j hj h => by rw [hq]; exact valid_not hj (by rw [hii]; exact h))
    rw [← hq]
    have UF0 := fun w' => used_any w' (formAt i)
    have VF0 := fun w' => fields_any w' ⟨(i : Int) + 1, wk, tk, ot, lv⟩
    unfold fmV at UF0
    unfold evV at VF0 ⊢
    have UF := Lib.hid UF0
    have VF := Lib.hid VF0
    obtain ⟨bx, hbx⟩ : ∃ bx, bx = w.heap.size := ⟨_, rfl⟩
    have HBX := Lib.hid hbx
    have hw0 := blk_alloc_new w (.cells #[.int .i64 ((i : Int) + 1), .int .i64 wk, .int .i64 tk, .int .i64 ot, .int .i64 lv] 27)
    rw [← hbx] at hw0
    have HW0 := Lib.hid hw0
    clear hq hii hk hbx hw0 UF0 VF0
    go_enter Tryz.func27, Tryz.ntmps27
    go_wp2_with fail
    rw [← HBX.out]
    refine (forms_at _).mono ?_; rintro e w1 ⟨b, rfl, hb, hle, o1⟩
    have HB := Lib.hid hb
    have O1 := Lib.hid (((Only.refl [] w).alloc _).then0 o1)
    have hx1 := o1.keep HW0.out (by simp)
    have c0 := cell_blk hx1 0
    have c1 := cell_blk hx1 1
    have c2 := cell_blk hx1 2
    have c3 := cell_blk hx1 3
    have c4 := cell_blk hx1 4
    simp at c0 c1 c2 c3 c4
    obtain ⟨d0, d1, d2, d3⟩ := formsL_cells hb hi
    have hlx := lt_of_blk hx1
    have HX1 := Lib.hid hx1
    clear hb hle o1 hx1
    go_wp2_with fail
    refine (UF.out _).mono ?_; rintro e w2 ⟨rfl, o2⟩
    have O2 := Lib.hid (O1.out.then0 o2)
    have hx2 := o2.keep HX1.out (by simp)
    have c0 := cell_blk hx2 0
    have c1 := cell_blk hx2 1
    have c2 := cell_blk hx2 2
    have c3 := cell_blk hx2 3
    have c4 := cell_blk hx2 4
    simp at c0 c1 c2 c3 c4
    have hlx := lt_of_blk hx2
    have HX2 := Lib.hid hx2
    clear hx2 o2 d0 d1 d2 d3
    go_wp2_with fail
    refine (VF.out _).mono ?_; rintro e w3 ⟨rfl, o3⟩
    obtain ⟨ub, hub⟩ : ∃ ub, ub = w2.heap.size := ⟨_, rfl⟩
    rw [← hub]
    have hU : w3.heap[ub]? = some (.cells #[.bool true, .bool (formAt i).t, .bool (formAt i).o, .bool (formAt i).l] 95 (0, 0)) := by
      rw [hub]; exact o3.keep (blk_alloc_new w2 _) (by simp)
    have HU := Lib.hid hU
    have O3 := Lib.hid ((O2.out.alloc (.cells #[.bool true, .bool (formAt i).t, .bool (formAt i).o, .bool (formAt i).l] 95)).then0 o3)
    clear hub o3 hU c0 c1 c2 c3 c4 hlx
    go_wp2_with fail
    go_loop [5, 6, 27] (fun _ _ r => ∃ k : Nat, r = .int .i64 k ∧ k ≤ 4 ∧ ∀ j, j < k → fldOK (flAt ⟨(i : Int) + 1, wk, tk, ot, lv⟩ j) (usAt (formAt i) j) = true) (fun _ _ r => 4 - (intOf r).toNat)
    case atStart => exact ⟨0, rfl, by omega, fun j hj => by omega⟩
    case round =>
      obtain ⟨k, rfl, hk4, hpre⟩ := hrel
      have PRE := Lib.hid hpre
      clear hpre
      by_cases hk : k < 4
      · have hix := idx_f ⟨(i : Int) + 1, wk, tk, ot, lv⟩ k hk
        have hcu : w3.cell? ⟨ub, k, none⟩ = some (.bool (usAt (formAt i) k)) := by
          rw [cell_blk HU.out]
          rcases (show k = 0 ∨ k = 1 ∨ k = 2 ∨ k = 3 from by omega) with rfl | rfl | rfl | rfl <;> rfl
        obtain ⟨x, hx⟩ : ∃ x, x = flAt ⟨(i : Int) + 1, wk, tk, ot, lv⟩ k := ⟨_, rfl⟩
        obtain ⟨u, hu⟩ : ∃ u, u = usAt (formAt i) k := ⟨_, rfl⟩
        simp only at hix
        have NX : Hid (fldOK x u = true → ∀ j, j < k + 1 → fldOK (flAt ⟨(i : Int) + 1, wk, tk, ot, lv⟩ j) (usAt (formAt i) j) = true) := Lib.hid (fun h j hj => by
          by_cases e : j = k
          · subst e; rw [← hx, ← hu]; exact h
          · exact PRE.out j (by omega))
        have NO : Hid (fldOK x u = false → q = false) := Lib.hid (fun h => VN.out k hk (by rw [← hx, ← hu]; exact h))
        rw [← hx] at hix
        rw [← hu] at hcu
        clear hx hu PRE
        by_cases h1 : x < 0
        · go_wp2_with fail
          go_ret
          exact ⟨by rw [NO.out (by simp [fldOK]; omega)]; rfl, O3.out⟩
        · by_cases h2 : 256 < x
          · go_wp2_with fail
            go_ret
            exact ⟨by rw [NO.out (by simp [fldOK]; omega)]; rfl, O3.out⟩
          · cases u with
            | true =>
              go_wp2_with fail
              go_round
              case rel => exact ⟨k + 1, by go_num, by omega, NX.out (by simp [fldOK]; omega)⟩
              case measure => simp [intOf]; omega
            | false =>
              by_cases h3 : x = 0
              · subst h3
                go_wp2_with fail
                go_round
                case rel => exact ⟨k + 1, by go_num, by omega, NX.out (by simp [fldOK])⟩
                case measure => simp [intOf]; omega
              · go_wp2_with fail
                go_ret
                exact ⟨by rw [NO.out (by simp [fldOK]; omega)]; rfl, O3.out⟩
      · obtain rfl : k = 4 := by omega
        go_wp2_with fail
        go_ret
        exact ⟨by rw [VA.out PRE.out]; rfl, O3.out⟩
  · have hq := valid_kind (e := ⟨K, wk, tk, ot, lv⟩) hk
    rw [hq]
    unfold evV
    obtain ⟨bx, hbx⟩ : ∃ bx, bx = w.heap.size := ⟨_, rfl⟩
    have HBX := Lib.hid hbx
    have hw0 := blk_alloc_new w (.cells #[.int .i64 K, .int .i64 wk, .int .i64 tk, .int .i64 ot, .int .i64 lv] 27)
    rw [← hbx] at hw0
    have HW0 := Lib.hid hw0
    clear hbx hw0 hq
    go_enter Tryz.func27, Tryz.ntmps27
    go_wp2_with fail
    rw [← HBX.out]
    refine (forms_at _).mono ?_; rintro e w1 ⟨b, rfl, hb, hle, o1⟩
    have O1 := Lib.hid (((Only.refl [] w).alloc _).then0 o1)
    have hx1 := o1.keep HW0.out (by simp)
    have c0 := cell_blk hx1 0
    simp at c0
    clear hb hle o1 hx1
    by_cases h1 : K < 1
    · go_wp2_with fail
      go_ret
      exact ⟨rfl, O1.out⟩
    · have h2 : 19 < K := by omega
      go_wp2_with fail
      go_ret
      exact ⟨rfl, O1.out⟩
end Go.Proofs.YtncnepmgmphanaaGreatDoor

namespace Go.Proofs.YtncnepmgmphanaaGreatDoor
open Go.RowKit
structure LibAt (w : World) : Prop where
  m : ∃ m, w.cell? ⟨0, 0, none⟩ = some (.int .i64 m)
  tab : Lib.TabIs Tryz.prog w "internal/strconv.uint64pow10" .u64 Lib.pow10Tab
  syn : ∃ te pe, w.cell? ⟨1, 0, none⟩ = some (.iface te pe)
  rng : ∃ te pe, w.cell? ⟨2, 0, none⟩ = some (.iface te pe)
theorem LibAt.keep {S : List Nat} {w w' : World} (h : LibAt w) (o : Only S w w') (hS : ∀ b ∈ S, 20 ≤ b) : LibAt w' := by
  have hn : ∀ b, b < 20 → b ∉ S := fun b hb hm => by have := hS b hm; omega
  obtain ⟨m, hm⟩ := h.m
  obtain ⟨te, pe, hs⟩ := h.syn
  obtain ⟨tr, pr, hr⟩ := h.rng
  have hg : Tryz.prog.globalNamed "internal/strconv.uint64pow10" = some 3 := by kernel_rfl
  have hc := h.tab.cell hg 0 (by decide)
  have hl : 3 < w.heap.size := lt_of_cell hc
  refine ⟨⟨m, o.keepCell hm (hn _ (by decide))⟩, ?_, ⟨te, pe, o.keepCell hs (hn _ (by decide))⟩, ⟨tr, pr, o.keepCell hr (hn _ (by decide))⟩⟩
  have ht := h.tab
  unfold Lib.TabIs at ht ⊢
  unfold World.var? at ht ⊢
  rw [hg] at ht ⊢
  simp only [Option.bind_some] at ht ⊢
  rw [o.block _ hl (hn _ (by decide))]
  exact ht
theorem LibAt.keep0 {w w' : World} (h : LibAt w) (o : Only [] w w') : LibAt w' := h.keep o (by simp)
theorem only_of_below {w w' : World} (h : Below w.heap.size w w') : Only [] w w' := ⟨h.os, h.tape, h.output, h.size, fun k hk _ => h.block k hk⟩
theorem itoa_any (w : World) (hL : LibAt w) (n : Int) (h0 : -9223372036854775808 ≤ n) (h1 : n ≤ 9223372036854775807) :
    Calls Tryz.prog 44 #[.int .i64 n] w fun e w' => e = .returned (.string ⟨(Lib.itoa n).toArray⟩) ∧ Only [] w w' :=
  (Tryz.strconv_Itoa n h0 h1 w hL.tab).mono (by
    rintro e w' ⟨rfl, k, os, rfl⟩
    exact ⟨rfl, only_of_below (Lib.below_grow _ _ (Nat.le_refl _) k os)⟩)
def atoiN (l : List UInt8) : Option Int := match Lib.atoiAll l with
  | .ok v => some v
  | _ => none
def AtoiPost (s : ByteArray) (w : World) (e : Ending) (w' : World) : Prop :=
  Only [] w w' ∧ ((∃ v, atoiN s.data.toList = some v ∧ e = .returned (.tuple #[.int .i64 v, .nilIface])) ∨ (atoiN s.data.toList = none ∧ ∃ v te p, e = .returned (.tuple #[.int .i64 v, .iface te p])))
theorem atoi_any (w : World) (hL : LibAt w) (s : ByteArray) (hs : s.size ≤ 281474976710656) : Calls Tryz.prog 50 #[.string s] w (AtoiPost s w) := by
  rcases h : Lib.atoiAll s.data.toList with v | _ | _
  · refine (Tryz.strconv_Atoi_ok s (by omega) v h w).mono ?_
    rintro e w' ⟨rfl, hw⟩
    refine ⟨?_, .inl ⟨v, by simp [atoiN, h], rfl⟩⟩
    rcases hw with rfl | ⟨t, rfl⟩
    · exact Only.refl _ _
    · exact only_of_below (Lib.bytesWorld_below _ _ _)
  · obtain ⟨te, pe, hc⟩ := hL.syn
    refine (Tryz.strconv_Atoi_syntax s hs h _ w hc (.inr ⟨te, pe, rfl⟩)).mono ?_
    rintro e w' ⟨N, rfl, -, -, hb⟩
    exact ⟨only_of_below hb, .inr ⟨by simp [atoiN, h], _, _, _, rfl⟩⟩
  · obtain ⟨te, pe, hc⟩ := hL.rng
    refine (Tryz.strconv_Atoi_range s hs h _ w hc (.inr ⟨te, pe, rfl⟩)).mono ?_
    rintro e w' ⟨N, rfl, -, -, hb⟩
    exact ⟨only_of_below hb, .inr ⟨by simp [atoiN, h], _, _, _, rfl⟩⟩
theorem cut_any (w : World) (hL : LibAt w) (s sep : ByteArray) (hs : s.size < 4294967281) :
    Calls Tryz.prog 33 #[.string s, .string sep] w fun e w' => e = .returned (.tuple #[.string ⟨(Lib.cut s.data.toList sep.data.toList).1.toArray⟩, .string ⟨(Lib.cut s.data.toList sep.data.toList).2.1.toArray⟩, .bool (Lib.cut s.data.toList sep.data.toList).2.2]) ∧ Only [] w w' := by
  obtain ⟨m, hm⟩ := hL.m
  refine (Tryz.strings_Cut s sep m w hs hm).mono ?_
  rintro e w' ⟨rfl, n, rfl⟩
  exact ⟨rfl, (Only.refl _ _).drewN n⟩
theorem split_any (w : World) (hL : LibAt w) (s sep : ByteArray) (hs : s.size < 4294967281) (h1 : 1 ≤ sep.size) :
    Calls Tryz.prog 49 #[.string s, .string sep] w fun e w' => ∃ b, e = .returned (.slice (some ⟨b, 0, none⟩) (Lib.splitB sep 0 (Lib.countB s sep) s).length (Lib.splitB sep 0 (Lib.countB s sep) s).length) ∧ w'.heap[b]? = some (.cells ((Lib.splitB sep 0 (Lib.countB s sep) s).map Value.string).toArray 9 (0, 0)) ∧ w.heap.size ≤ b ∧ Only [] w w' := by
  obtain ⟨m, hm⟩ := hL.m
  refine (Tryz.strings_Split s sep m w hs hm h1).mono ?_
  rintro e w' ⟨rfl, rfl⟩
  rw [Lib.splitB_all sep h1 0 _ s rfl]
  exact ⟨_, rfl, blk_alloc_new _ _, Nat.le_refl _, (Only.refl _ _).alloc _⟩
end Go.Proofs.YtncnepmgmphanaaGreatDoor
