/- The text of a list of events, walked. No condition beside the library's variables. -/
import Derived.Test.YtncnepmgmphanaaGreatDoorMg25
import Derived.Test.YtncnepmgmphanaaGreatDoorMg02
import Derived.Test.YtncnepmgmphanaaGreatDoorMg06
import Derived.Deep.QuietTactic
import Derived.BigQuiet
import Derived.Test.YtncnepmgmphanaaGreatDoorMg03
import Derived.Laws.BytesArg
import Derived.Lib.ItoaNum
import Derived.Deep.LoopGhost
set_option linter.unusedVariables false
set_option linter.unusedSimpArgs false
set_option linter.unusedSectionVars false
namespace Go.Proofs.YtncnepmgmphanaaGreatDoor
open Go.RowKit
def EvCells (w : World) (b off : Nat) (e : Evt) : Prop :=
  w.cell? ⟨b, off, none⟩ = some (.int .i64 e.kind) ∧ w.cell? ⟨b, off + 1, none⟩ = some (.int .i64 e.worker) ∧ w.cell? ⟨b, off + 2, none⟩ = some (.int .i64 e.task) ∧ w.cell? ⟨b, off + 3, none⟩ = some (.int .i64 e.other) ∧ w.cell? ⟨b, off + 4, none⟩ = some (.int .i64 e.level)
theorem EvCells.keep {w w' : World} {b off : Nat} {e : Evt} (h : EvCells w b off e) (o : Only [] w w') : EvCells w' b off e := by
  obtain ⟨h0, h1, h2, h3, h4⟩ := h
  exact ⟨o.keepCell h0 (by simp), o.keepCell h1 (by simp), o.keepCell h2 (by simp), o.keepCell h3 (by simp), o.keepCell h4 (by simp)⟩
def Evt.zero : Evt := ⟨0, 0, 0, 0, 0⟩
def EL (w : World) (v : Value) (l : List Evt) : Prop :=
  ∃ ao cap, v = .slice ao l.length cap ∧ l.length ≤ cap ∧ (0 < l.length → ∃ b off, ao = some ⟨b, off, none⟩ ∧ ∀ i, i < l.length → EvCells w b (off + i * 5) (l.getD i Evt.zero))
theorem EL.keep {w w' : World} {v : Value} {l : List Evt} (h : EL w v l) (o : Only [] w w') : EL w' v l := by
  obtain ⟨ao, cap, e, hc, hh⟩ := h
  refine ⟨ao, cap, e, hc, fun hp => ?_⟩
  obtain ⟨b, off, e2, hg⟩ := hh hp
  exact ⟨b, off, e2, fun i hi => (hg i hi).keep o⟩
def fmtB (l : List Evt) : List UInt8 := l.flatMap lineB
def fmtRes (l : List Evt) : List UInt8 × Int := if 65536 < l.length then ([], 2) else if l.all validB then (fmtB l, 0) else ([], 6)
theorem lineTo_len (e : Evt) (f : EForm) (hf : f.word.length ≤ 6) (h : ∀ k, k < 4 → 0 ≤ flAt e k ∧ flAt e k ≤ 256) : ∀ k, k ≤ 4 → (lineTo e f k).length ≤ 6 + 4 * k := by
  intro k
  induction k with
  | zero => intro _; exact hf
  | succ k ih =>
    intro hk
    have := ih (by omega)
    have hx := h k (by omega)
    have hl := itoa_len hx.1 hx.2
    simp only [lineTo, List.length_append, segB]
    split
    · simp only [List.length_cons]; omega
    · simp; omega
theorem lineB_len {e : Evt} (h : validB e = true) : (lineB e).length ≤ 23 := by
  have := lineTo_len e (formAt (e.kind - 1).toNat) (word_len _) (valid_parts h).2.2 4 (by omega)
  simp only [lineB, List.length_append, List.length_cons, List.length_nil]; omega
theorem fmtB_len {l : List Evt} (h : ∀ e ∈ l, validB e = true) : (fmtB l).length ≤ 23 * l.length := by
  induction l with
  | nil => simp [fmtB]
  | cons a l ih =>
    have h1 := lineB_len (h a (by simp))
    have h2 := ih (fun e he => h e (by simp [he]))
    simp only [fmtB, List.flatMap_cons, List.length_append, List.length_cons] at h2 ⊢
    omega
theorem fmtB_snoc (l : List Evt) (e : Evt) : fmtB (l ++ [e]) = fmtB l ++ lineB e := by simp [fmtB]
theorem take_snoc_getD {α : Type} (l : List α) (d : α) (k : Nat) (h : k < l.length) : l.take (k + 1) = l.take k ++ [l.getD k d] := by
  rw [List.take_succ_eq_append_getElem h, List.getD_eq_getElem?_getD, List.getElem?_eq_getElem h]; rfl
theorem isBuilder_keep {T e : TypeId} {B b : Nat} {bs : List Value} {w w' : World} (h : Lib.IsBuilder T e B b bs w) (o : Only [] w w') : Lib.IsBuilder T e B b bs w' := by
  have g : w.grownBy w' none := ⟨o.os, o.tape, o.output, o.size, fun k hk _ => o.block k hk (by simp)⟩
  have aux : ∀ p, Lib.BuilderAt T e B b p bs w → Lib.BuilderAt T e B b p bs w' := by
    rintro p ⟨hB, v, hb, hown, hne⟩
    refine ⟨hB, v, o.keep hb (by simp), hown.kept g ?_, hne⟩
    cases hv : v.ownBlock with
    | none => exact .inl rfl
    | some k => exact .inr (by simp)
  rcases h with h | h
  · exact .inl (aux _ h)
  · exact .inr (aux _ h)
theorem only_then_below {w w1 w2 : World} {B : Nat} (h : Only [] w w1) (hB : w.heap.size ≤ B) (hb : Below B w1 w2) : Only [] w w2 :=
  ⟨hb.os.trans h.os, hb.tape.trans h.tape, hb.output.trans h.output, Nat.le_trans h.size hb.size, fun k hk hn => by rw [hb.block k (by omega)]; exact h.block k hk hn⟩
set_option maxRecDepth 100000 in
set_option maxHeartbeats 4000000 in
theorem format_any (w : World) (hL : LibAt w) (v : Value) (l : List Evt) (h : EL w v l) (hn : l.length ≤ 9223372036854775807) :
    Calls Tryz.prog 10 #[v] w fun e w' => e = .returned (.tuple #[.string ⟨(fmtRes l).1.toArray⟩, .int .i64 (fmtRes l).2]) ∧ Only [] w w' := by
  have HE := Lib.hid h
  obtain ⟨ao, cap, rfl, hc, hh⟩ := h
  by_cases hbig : 65536 < l.length
  · have e : fmtRes l = ([], 2) := if_pos hbig
    rw [e]
    obtain ⟨n, hnn⟩ : ∃ n, n = l.length := ⟨_, rfl⟩
    rw [← hnn] at hbig hn ⊢
    clear hh hc hnn e
    go_enter Tryz.func10, Tryz.ntmps10
    go_wp2_with fail
    go_ret2
    exact ⟨rfl, Only.refl _ _⟩
  · have e : fmtRes l = if l.all validB then (fmtB l, 0) else ([], 6) := if_neg hbig
    rw [e]
    have GO := Lib.hid (fun (hv : ∀ x ∈ l, validB x = true) => (if_pos (List.all_eq_true.2 hv) : (if l.all validB then (fmtB l, (0 : Int)) else ([], 6)) = _))
    have NO := Lib.hid (fun (x : Evt) (hx : x ∈ l) (hv : validB x = false) => (if_neg (fun hall => by have := List.all_eq_true.1 hall x hx; rw [hv] at this; cases this) : (if l.all validB then (fmtB l, (0 : Int)) else ([], 6)) = _))
    obtain ⟨R, hR⟩ : ∃ R, R = (if l.all validB then (fmtB l, (0 : Int)) else ([], 6)) := ⟨_, rfl⟩
    rw [← hR] at GO NO ⊢
    obtain ⟨n, hnn⟩ : ∃ n, n = l.length := ⟨_, rfl⟩
    have HN := Lib.hid hnn
    have HC := Lib.hid hh
    have HL := Lib.hid hL
    have hn2 : n ≤ 65536 := by omega
    rw [← hnn] at hc ⊢
    obtain ⟨bb, hbb⟩ : ∃ bb, bb = w.heap.size := ⟨_, rfl⟩
    have HBB := Lib.hid hbb
    obtain ⟨W0, hW0⟩ : ∃ W0, W0 = w.alloc (.cells #[.pointer none, .slice none 0 0] 74) := ⟨_, rfl⟩
    have HW0 := Lib.hid hW0
    have IB0 : Hid (Lib.IsBuilder 74 5 bb bb (Lib.byteCells (fmtB (l.take 0))) W0) := Lib.hid (.inl ⟨Nat.le_refl _, .slice none 0 0, by rw [hW0, hbb]; exact blk_alloc_new w _, World.ownsRow_nil _ _ _ _, by simp [Value.ownBlock]⟩)
    have O0 : Hid (Only [] w W0) := Lib.hid (by rw [hW0]; exact (Only.refl _ _).alloc _)
    have hbs : bb < W0.heap.size := by rw [hW0, hbb]; simp
    clear hbig hn hR hnn hh hL e hbb hW0
    go_enter Tryz.func10, Tryz.ntmps10
    go_wp2_with fail
    rw [← HBB.out, ← HW0.out]
    go_loopw [6, 12] (fun _ r wr => ∃ k : Nat, r = .int .i64 k ∧ k ≤ n ∧ (∀ x ∈ l.take k, validB x = true) ∧ Lib.IsBuilder 74 5 bb bb (Lib.byteCells (fmtB (l.take k))) wr ∧ Only [] w wr) (fun _ r _ => n - (intOf r).toNat)
    case atStart => exact ⟨0, rfl, by omega, by simp, IB0.out, O0.out⟩
    case round =>
      obtain ⟨k, rfl, hk, hv, hib, ho⟩ := hrel
      obtain ⟨w3, hw3⟩ : ∃ w3, w3 = wr := ⟨_, rfl⟩
      subst hw3
      have HV := Lib.hid hv
      have HIB := Lib.hid hib
      have OW := Lib.hid ho
      clear hv hib ho
      by_cases hkn : k < n
      · obtain ⟨b, off, hao, hg⟩ := HC.out (by rw [← HN.out]; omega)
        have hx := (hg k (by rw [← HN.out]; exact hkn)).keep OW.out
        obtain ⟨x, hxx⟩ : ∃ x, x = l.getD k Evt.zero := ⟨_, rfl⟩
        have HM : Hid (x ∈ l) := Lib.hid (by
          rw [hxx, List.getD_eq_getElem?_getD, List.getElem?_eq_getElem (by rw [← HN.out]; exact hkn)]
          exact List.getElem_mem _)
        have HT := Lib.hid (show l.take (k + 1) = l.take k ++ [x] from by rw [hxx]; exact take_snoc_getD l _ k (by rw [← HN.out]; exact hkn))
        rw [← hxx] at hx
        obtain ⟨c0, c1, c2, c3, c4⟩ := hx
        rw [hao]
        have hk1 : (0 : Int) ≤ (k : Int) := by omega
        have hk2 : (k : Int) < (n : Int) := by omega
        have VA := fun w' => valid_any w' x
        unfold evV at VA
        have VAH := Lib.hid VA
        have hbl := lt_of_cell c0
        clear hg hxx hao VA
        cases hvx : validB x with
        | false =>
          rw [hvx] at VAH
          have HX := Lib.hid hvx
          clear hvx
          go_wp2_with fail
          refine (VAH.out _).mono ?_; rintro e w4 ⟨rfl, o4⟩
          go_wp2_with fail
          go_ret2
          exact ⟨by rw [NO.out x HM.out HX.out]; rfl, (OW.out.alloc _).then0 o4⟩
        | true =>
          rw [hvx] at VAH
          have HX := Lib.hid hvx
          clear hvx
          go_wp2_with fail
          refine (VAH.out _).mono ?_; rintro e w4 ⟨rfl, o4⟩
          obtain ⟨eb, heb⟩ : ∃ eb, eb = w3.heap.size := ⟨_, rfl⟩
          rw [← heb]
          have hE := o4.keep (blk_alloc_new w3 (.cells #[.int .i64 x.kind, .int .i64 x.worker, .int .i64 x.task, .int .i64 x.other, .int .i64 x.level] 27)) (by simp)
          rw [← heb] at hE
          have d0 := cell_blk hE 0
          have d1 := cell_blk hE 1
          have d2 := cell_blk hE 2
          have d3 := cell_blk hE 3
          have d4 := cell_blk hE 4
          simp at d0 d1 d2 d3 d4
          have O34 := Lib.hid (((Only.refl [] w3).alloc (.cells #[.int .i64 x.kind, .int .i64 x.worker, .int .i64 x.task, .int .i64 x.other, .int .i64 x.level] 27)).then0 o4)
          have LN := line_any w4 (HL.out.keep0 (OW.out.then0 O34.out)) x HX.out
          unfold evV at LN
          have LNH := Lib.hid LN
          clear heb hE o4 LN c0 c1 c2 c3 c4 hbl
          go_wp2_with fail
          refine LNH.out.mono ?_; rintro e w5 ⟨rfl, o5⟩
          have O35 := Lib.hid (O34.out.then0 o5)
          have WS := Lib.hid (writeString_any bb bb _ ⟨(lineB x).toArray⟩ w5 (isBuilder_keep HIB.out O35.out) (by
            rw [Lib.byteCells_length, size_list]
            have h1 := fmtB_len HV.out
            have h2 := lineB_len HX.out
            have h3 := List.length_take_le k l
            omega) (by have := O35.out.size; have := OW.out.size; have := HBB.out; omega))
          clear o5 d0 d1 d2 d3 d4
          go_wp2_with fail
          refine WS.out.mono ?_; rintro e w6 ⟨rfl, hb6, b6⟩
          have HB6 := Lib.hid hb6
          have O6 : Hid (Only [] w w6) := Lib.hid (only_then_below (OW.out.then0 O35.out) (by rw [HBB.out]; exact Nat.le_refl _) b6)
          clear hb6 b6
          go_wp2_with fail
          go_roundw
          case rel => exact ⟨k + 1, by go_num, by omega, fun y hy => by
            rw [HT.out] at hy
            rcases List.mem_append.1 hy with h1 | h1
            · exact HV.out y h1
            · rw [List.mem_singleton.1 h1]; exact HX.out, .inr (by rw [HT.out, fmtB_snoc, Lib.byteCells_append]; exact HB6.out), O6.out⟩
          case measure => simp [intOf]; omega
      · obtain rfl : k = n := by omega
        have ht : l.take k = l := by rw [HN.out]; exact List.take_length
        have BS := Tryz.Builder_String_any bb bb (fmtB (l.take k)) w3 HIB.out (by have := OW.out.size; have := HBB.out; omega)
        rw [ht] at BS
        have HV2 := Lib.hid (show ∀ x ∈ l, validB x = true from by have := HV.out; rw [ht] at this; exact this)
        have BSH := Lib.hid BS
        clear ht BS
        go_wp2_with fail
        refine BSH.out.mono ?_; rintro e w4 ⟨rfl, b4⟩
        have O4 : Hid (Only [] w w4) := Lib.hid (only_then_below OW.out (by rw [HBB.out]; exact Nat.le_refl _) b4)
        clear b4
        go_wp2_with fail
        go_ret2
        exact ⟨by rw [GO.out HV2.out]; rfl, O4.out⟩
end Go.Proofs.YtncnepmgmphanaaGreatDoor

namespace Go.Proofs.YtncnepmgmphanaaGreatDoor
open Go.RowKit
variable {B N : Nat} {w w' : World} {v : Value}
theorem only_eff (g : Eff (fun k _ _ => w.heap.size ≤ k) w w') : Only [] w w' :=
  ⟨g.os, g.tape, g.output, g.size, fun k hk _ => by
    have h : w.heap[k]? = some w.heap[k] := Array.getElem?_eq_getElem hk
    rw [g.blk h fun _ _ hx => by omega, h]⟩
def intAt (v : Option Value) : Int := match v with
  | some (.int .i64 z) => z
  | _ => 0
theorem kEvt : kd.sig 27 = some cs_api_Event := by kernel_rfl
theorem el_of_ty (hw : WT kd.sig B N w) (h : CellOK w B N (.sl 27 5) v) : ∃ l, EL w v l ∧ l.length ≤ N := by
  obtain ⟨n, xs, hn, hl, ⟨rfl, e⟩ | ⟨b, cap, cur, rfl, h1, h2, h3, h4, h5, h6⟩⟩ := h
  · exact ⟨[], ⟨none, 0, rfl, Nat.le_refl _, fun h => absurd h (Nat.lt_irrefl _)⟩, Nat.zero_le _⟩
  · have hl : ((List.range n).map fun i => (⟨intAt cur[i * 5]?, intAt cur[i * 5 + 1]?, intAt cur[i * 5 + 2]?, intAt cur[i * 5 + 3]?, intAt cur[i * 5 + 4]?⟩ : Evt)).length = n := by simp
    refine ⟨_, ⟨_, cap, by rw [hl], by rw [hl]; exact h3, fun _ => ⟨b, 0, rfl, fun i hi => ?_⟩⟩, by rw [hl]; exact hn⟩
    rw [hl] at hi
    have hc : ∀ j, j < 5 → w.cell? ⟨b, i * 5 + j, none⟩ = some (.int .i64 (intAt cur[i * 5 + j]?)) := fun j hj => by
      have h5i : i * 5 + j < cur.size := by
        have : (i + 1) * 5 ≤ cap * 5 := Nat.mul_le_mul_right _ (by omega)
        omega
      obtain ⟨x, e, o⟩ := row_cell hw kEvt h1 h2 (i := i * 5 + j) (j := j) (ck := .int .i64) h5i (by show (i * 5 + j) % 5 = j; omega) (by
        rcases (show j = 0 ∨ j = 1 ∨ j = 2 ∨ j = 3 ∨ j = 4 from by omega) with rfl | rfl | rfl | rfl | rfl <;> rfl)
      rw [e]
      obtain ⟨z, rfl, -⟩ := o
      rw [cell_blk h2] at e
      rw [e]
      rfl
    rw [List.getD_eq_getElem?_getD, List.getElem?_map, List.getElem?_range hi]
    simp only [Option.map_some, Option.getD_some, Nat.zero_add]
    exact ⟨hc 0 (by omega), hc 1 (by omega), hc 2 (by omega), hc 3 (by omega), hc 4 (by omega)⟩
end Go.Proofs.YtncnepmgmphanaaGreatDoor

namespace Go.Proofs.YtncnepmgmphanaaGreatDoor
open Go.RowKit
def Ns (w : World) (v : Value) (zs : List Int) : Prop := ∃ ao cap, v = .slice ao zs.length cap ∧ CellsAt w ao (zs.map (.int .i64)) ∧ (ao = none → zs = [] ∧ cap = 0) ∧ zs.length ≤ cap
theorem ns_new {w : World} {b n : Nat} {T : TypeId} {f : Nat × Nat} (xs : List Int) (hb : w.heap[b]? = some (.cells (xs.map (Value.int .i64)).toArray T f)) (hn : xs.length = n) : Ns w (.slice (some ⟨b, 0, none⟩) n n) xs := by
  subst hn
  refine ⟨_, _, rfl, fun hp => ⟨b, 0, rfl, fun j hj => ?_⟩, (fun e => by cases e), Nat.le_refl _⟩
  rw [cell_blk hb]
  simp at hj
  simp [hj]
theorem number_any (w : World) (v : Value) (zs : List Int) (i : Nat) (n : Int) (h : Ns w v zs) (hn : n ≤ 9223372036854775807) (hl : zs.length ≤ 1000000) (hi : i ≤ 1000000) :
    Calls Tryz.prog 9 #[v, .int .i64 i, .int .i64 n] w fun e w' => ∃ r : Int, e = .returned (.int .i64 r) ∧ 0 ≤ r ∧ (1 ≤ n → r < n) ∧ Only [] w w' := by
  obtain ⟨ao, cap, rfl, h1, h2, h3⟩ := h
  obtain ⟨len, hlen⟩ : ∃ len, len = zs.length := ⟨_, rfl⟩
  rw [← hlen] at hl h3 ⊢
  have HL := Lib.hid hlen
  have HN := Lib.hid hn
  by_cases h0 : len = 0
  · subst h0
    clear hn
    go_enter Tryz.func9, Tryz.ntmps9
    go_wp2_with fail
    go_ret
    exact ⟨0, rfl, by omega, fun h => by omega, Only.refl _ _⟩
  · obtain ⟨b, off, rfl, hc⟩ := h1.ints (by omega)
    have hml : i % len < len := Nat.mod_lt _ (by omega)
    have c0 := fun (q : Nat) => (show (w.drewN q).cell? _ = _ from hc (i % len) (by omega))
    have d0 := hc (i % len) (by omega)
    have hl0 : ((len : Int) == 0) = false := by simp; omega
    have hlp : 0 < len := by omega
    have e1 : (i : Int) % (len : Int) = ((i % len : Nat) : Int) := by omega
    have e2 : (i : Int) / (len : Int) = ((i / len : Nat) : Int) := by omega
    obtain ⟨x, hx⟩ : ∃ x, x = zs.getD (i % len) 0 := ⟨_, rfl⟩
    rw [← hx] at c0 d0
    obtain ⟨p, hp⟩ : ∃ p, p = i % len := ⟨_, rfl⟩
    obtain ⟨q, hq⟩ : ∃ q, q = i / len := ⟨_, rfl⟩
    have hqi : q ≤ 1000000 := by rw [hq]; exact Nat.le_trans (Nat.div_le_self _ _) hi
    rw [← hp] at c0 d0 hml e1
    rw [← hq] at e2
    obtain ⟨s, hs⟩ : ∃ s, (q : Int) % 7 = s := ⟨_, rfl⟩
    have hs1 : 0 ≤ s := by omega
    have hs2 : s ≤ 6 := by omega
    obtain ⟨t, ht⟩ : ∃ t, 1 + s = t := ⟨_, rfl⟩
    have ht1 : 1 ≤ t := by omega
    have ht2 : t ≤ 7 := by omega
    have ht3 : (t == 0) = false := by simp; omega
    have D : ∀ (d : Int) (w : World), Hid (Calls Tryz.prog 26 #[.int .i64 d, .int .i64 n] w fun e w' => e = .returned (.int .i64 (drw d n)) ∧ w' = w) := fun d w' => Lib.hid ((refDraw_any n d w' hn).mono fun _ _ h => ⟨h.1, h.2.symm⟩)
    have B := fun (d : Int) => Lib.hid (drw_bd d n)
    clear h1 h2 h3 hc hx hp hq hlen hn HL
    go_enter Tryz.func9, Tryz.ntmps9
    go_wp2_with fail
    go_quiet ((go_at_call 26; exact Calls.quiet_of_same (D _ _).out))
    go_wp2_with fail
    go_ret
    exact ⟨_, rfl, (B _).out.1, (B _).out.2, (Only.refl _ _).drewN _⟩
end Go.Proofs.YtncnepmgmphanaaGreatDoor

namespace Go.Proofs.YtncnepmgmphanaaGreatDoor
open Go.ChangeShapes Go.WideShapes Go.ChangeAt Go.RowKit
section
variable {H : Type} {enc : TypeId × Value → H} {W : World} {base b0 : Nat} {v : Value} {d : DataW H} {ps : List MemPlace}
theorem maxLen63 : maxLen ≤ 9223372036854775807 := by unfold maxLen; omega
set_option maxRecDepth 10000
theorem bytes_of {ao : Option Addr} {zs : List Int} (h : CellsAt W ao (zs.map (.int .u8))) (hw : ∀ z ∈ zs, (Lit.int .u8 z).wf = true) : BytesAt W ao zs.length := fun i hi => by
  obtain ⟨b, off, e, hc⟩ := h (by rw [List.length_map]; omega)
  have hc1 := hc i (by rw [List.length_map]; exact hi)
  have hx := hw (zs.getD i 0) (by rw [List.getD_eq_getElem?_getD, List.getElem?_eq_getElem hi]; exact List.getElem_mem _)
  have hx' : 0 ≤ zs.getD i 0 ∧ zs.getD i 0 ≤ 255 := by
    obtain ⟨z, hz⟩ : ∃ z, z = zs.getD i 0 := ⟨_, rfl⟩
    rw [← hz] at hx ⊢
    exact wf_u8 hx
  refine ⟨b, off, e, zs.getD i 0, ?_, hx'.1, hx'.2⟩
  simpa [List.getD_eq_getElem?_getD, hi] using hc1
theorem open_bytes (hok : Value.okWide Tryz.prog W .any b0 23 v) (h : DataW.Trod enc Tryz.prog W base (fun _ => true) true 23 v d ps) :
    ∃ (ao : Option Addr) (n cap : Nat), v = .slice ao n cap ∧ BytesAt W ao n ∧ n ≤ 9223372036854775807 := by
  obtain ⟨ao, cap, zs, rfl, hc, hw, hl, hm⟩ := open_islice Tryz.underlying23 Tryz.underlying5 (by kernel_rfl) hok h
  exact ⟨ao, zs.length, cap, rfl, bytes_of hc hw, Nat.le_trans hl (Nat.le_trans hm maxLen63)⟩
def evOfR (r : List Int) : Evt := ⟨r.getD 0 0, r.getD 1 0, r.getD 2 0, r.getD 3 0, r.getD 4 0⟩
theorem open_evs (hok : Value.okWide Tryz.prog W .any b0 22 v) (h : DataW.Trod enc Tryz.prog W base (fun _ => true) true 22 v d ps) :
    ∃ l : List Evt, EL W v l ∧ l.length ≤ 9223372036854775807 := by
  obtain ⟨ao, cap, rows, rfl, hr, hw, hl, hm⟩ := open_sslice (ks := [.i64, .i64, .i64, .i64, .i64]) Tryz.underlying22 Tryz.underlying27 (by kernel_rfl) (by kernel_rfl) (by kernel_rfl) (by decide) hok h
  refine ⟨rows.map evOfR, ⟨ao, cap, by rw [List.length_map], by rw [List.length_map]; exact hl, fun hp => ?_⟩, by rw [List.length_map]; exact Nat.le_trans hl (Nat.le_trans hm maxLen63)⟩
  rw [List.length_map] at hp
  obtain ⟨b, off, e, hc⟩ := hr hp
  refine ⟨b, off, e, fun i hi => ?_⟩
  rw [List.length_map] at hi
  have hg : (rows.map evOfR).getD i Evt.zero = evOfR (rows.getD i []) := by
    rw [List.getD_eq_getElem?_getD, List.getElem?_map, List.getElem?_eq_getElem hi, List.getD_eq_getElem?_getD, List.getElem?_eq_getElem hi]
    rfl
  rw [hg]
  have h0 := hc i hi 0 .i64 rfl
  have h1 := hc i hi 1 .i64 rfl
  have h2 := hc i hi 2 .i64 rfl
  have h3 := hc i hi 3 .i64 rfl
  have h4 := hc i hi 4 .i64 rfl
  exact ⟨h0, h1, h2, h3, h4⟩
end
end Go.Proofs.YtncnepmgmphanaaGreatDoor

namespace Go.Proofs.YtncnepmgmphanaaGreatDoor
open Go.RowKit
theorem short0_any (w : World) (ao : Option Addr) (nb cap : Nat) (hnb : nb ≤ 9223372036854775807) :
    Calls Tryz.prog 7 #[.slice ao nb cap, .slice none 0 0] w fun e w' => e = .returned (.bool (decide (nb ≤ 400))) ∧ w = w' := by
  go_enter Tryz.func7, Tryz.ntmps7
  go_wp2_with fail
  go_loop [5] (fun i => i = .int .i64 0) (fun i => 1)
  case atStart => rfl
  case round =>
    subst hrel
    by_cases h : nb ≤ 400
    · have h' : (nb : Int) ≤ 400 := by omega
      go_wp2_with fail
      go_ret
      exact ⟨ret_bool (by simp [h]), rfl⟩
    · have h' : ¬ (nb : Int) ≤ 400 := by omega
      go_wp2_with fail
      go_ret
      exact ⟨ret_bool (by simp [h]), rfl⟩
end Go.Proofs.YtncnepmgmphanaaGreatDoor

namespace Go.Proofs.YtncnepmgmphanaaGreatDoor
open Go.RowKit
def digs : Nat → Nat → List UInt8 → List UInt8
  | 0, _, s => s
  | f + 1, n, s => if n = 0 then s else digs f (n / 10) (UInt8.ofNat (48 + n % 10) :: s)
def numB (n : Nat) : List UInt8 := digs 4 (n / 10) [UInt8.ofNat (48 + n % 10)]
theorem numB_itoa : ∀ n : Nat, n ≤ 256 → numB n = Lib.itoa (n : Int) := by
  intro n hn
  have h : (List.range 257).all (fun n => numB n == Lib.itoa (n : Int)) = true := by kernel_rfl
  have := List.all_eq_true.1 h n (List.mem_range.2 (by omega))
  simpa using this
theorem conv1 {w : World} {b : Nat} {d : Int} (h : w.heap[b]? = some (.cells #[.int .u8 d] 5 (0, 0))) : (convert 23 9 (.slice (some ⟨b, 0, none⟩) 1 1)).run Tryz.prog w = .ok (.string (strOfNums [d])) w :=
  run_convert_bytes_arg (P := Tryz.prog) w 23 5 Tryz.underlying23 Tryz.underlying5 b 0 1 1 [d] rfl (fun i hi => by
    obtain rfl : i = 0 := by omega
    rw [cell_blk h]
    rfl) 9 Tryz.underlying9
theorem str1 (n : Nat) : strOfNums [48 + ((n % 10 : Nat) : Int)] = ⟨#[UInt8.ofNat (48 + n % 10)]⟩ := by
  simp only [strOfNums, List.map_cons, List.map_nil]
  congr 3
def bs (l : List UInt8) : ByteArray := ⟨l.toArray⟩
theorem bs_app (a b : List UInt8) : bs a ++ bs b = bs (a ++ b) := by
  apply ByteArray.ext
  simp [bs, ByteArray.data_append]
set_option maxRecDepth 100000 in
set_option maxHeartbeats 4000000 in
theorem refNumber_any (w : World) (n : Nat) (hn : n ≤ 256) : Calls Tryz.prog 47 #[.int .i64 n] w fun e w' => e = .returned (.string ⟨(Lib.itoa (n : Int)).toArray⟩) ∧ Only [] w w' := by
  rw [← numB_itoa n hn]
  have CV : ∀ (w : World) (d : Int), (convert 23 9 (.slice (some ⟨w.heap.size, 0, none⟩) 1 1)).run Tryz.prog (w.alloc (.cells #[.int .u8 d] 5)) = .ok (.string (strOfNums [d])) (w.alloc (.cells #[.int .u8 d] 5)) := fun w d => conv1 (blk_alloc_new _ _)
  have hm : (n : Int).tmod 10 = ((n % 10 : Nat) : Int) := by rw [Int.tmod_eq_emod_of_nonneg (by omega)]; omega
  have hd : (n : Int).tdiv 10 = ((n / 10 : Nat) : Int) := by rw [Int.tdiv_eq_ediv_of_nonneg (by omega)]; omega
  go_enter Tryz.func47, Tryz.ntmps47
  go_wp2_with fail
  have st : strOfNums [48 + (n : Int) % 10] = bs [UInt8.ofNat (48 + n % 10)] := by
    have := str1 n
    rw [Int.natCast_emod] at this
    exact this
  rw [st]
  have hq : (n : Int) / 10 = ((n / 10 : Nat) : Int) := by omega
  rw [hq]
  have START := Lib.hid (show ∃ (m f : Nat) (s : List UInt8), (Value.int .i64 ((n / 10 : Nat) : Int) = .int .i64 m) ∧ Value.string (bs [UInt8.ofNat (48 + n % 10)]) = .string (bs s) ∧ m + 1 = n / 10 + 1 ∧ digs f m s = numB n ∧ s.length ≤ 5 - f ∧ ((f = 4 ∧ m ≤ 25) ∨ (f = 3 ∧ m ≤ 2) ∨ (f = 2 ∧ m = 0)) ∧ Only [] w (w.alloc (.cells #[.int .u8 (48 + (n : Int) % 10)] 5)) from ⟨n / 10, 4, _, rfl, rfl, rfl, rfl, by simp, .inl ⟨rfl, by omega⟩, (Only.refl _ _).alloc _⟩)
  clear hm hd st hq
  go_loopg [0, 3] (n / 10 + 1) (fun g s0 s3 wr => ∃ (m f : Nat) (s : List UInt8), s0 = .int .i64 m ∧ s3 = .string (bs s) ∧ m + 1 = g ∧ digs f m s = numB n ∧ s.length ≤ 5 - f ∧ ((f = 4 ∧ m ≤ 25) ∨ (f = 3 ∧ m ≤ 2) ∨ (f = 2 ∧ m = 0)) ∧ Only [] w wr)
  case atStart => exact START.out
  case round =>
    clear START
    obtain ⟨m, f, s, rfl, rfl, hg, hd, hsl, hf, ho⟩ := hrel
    have hs5 : (bs s).size ≤ 5 := by show s.toArray.size ≤ 5; simp; omega
    have HF := Lib.hid (And.intro hd (And.intro hf (And.intro ho hsl)))
    have hm25 : m ≤ 25 := by omega
    clear hd hf ho hsl
    by_cases hm0 : 0 < m
    · have hm0' : (0 : Int) < (m : Int) := by omega
      have hm : (m : Int).tmod 10 = ((m % 10 : Nat) : Int) := by rw [Int.tmod_eq_emod_of_nonneg (by omega)]; omega
      have hd : (m : Int).tdiv 10 = ((m / 10 : Nat) : Int) := by rw [Int.tdiv_eq_ediv_of_nonneg (by omega)]; omega
      have z1 : (strOfNums [48 + (m : Int) % 10]).size = 1 := strOfNums_size _
      go_wp2_with fail
      have st : strOfNums [48 + (m : Int) % 10] = bs [UInt8.ofNat (48 + m % 10)] := by
        have := str1 m
        rw [Int.natCast_emod] at this
        exact this
      rw [st, bs_app]
      go_roundg (m / 10 + 1)
      case measure => omega
      case rel => exact ⟨m / 10, f - 1, _, by first | rfl | (congr 1; omega), by rfl, rfl, by
        obtain ⟨h1, h2, h3, -⟩ := HF.out
        rcases h2 with ⟨rfl, h⟩ | ⟨rfl, h⟩ | ⟨rfl, h⟩
        · rw [← h1]; unfold digs; rw [if_neg (by omega)]; rfl
        · rw [← h1]; unfold digs; rw [if_neg (by omega)]; rfl
        · omega, by have := HF.out.2.2.2; have := HF.out.2.1; simp only [List.length_append, List.length_cons, List.length_nil]; omega, by have := HF.out.2.1; omega, HF.out.2.2.1.alloc _⟩
    · have hm0' : ¬ (0 : Int) < (m : Int) := by omega
      obtain rfl : m = 0 := by omega
      go_wp2_with fail
      go_ret
      refine ⟨?_, HF.out.2.2.1⟩
      have : s = numB n := by
        obtain ⟨h1, h2, h3, -⟩ := HF.out
        rw [← h1]
        rcases h2 with ⟨rfl, h⟩ | ⟨rfl, h⟩ | ⟨rfl, h⟩ <;> rfl
      rw [this]
      rfl
end Go.Proofs.YtncnepmgmphanaaGreatDoor
