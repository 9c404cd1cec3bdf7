/- The text of a list of events, walked. No condition beside the library's variables. -/
import Derived.Test.YtncnepmgmphanaaDoorEvLine
namespace Go.Proofs.YtncnepmgmphanaaDoor
open Go.RowKit
set_option linter.unusedVariables false
set_option linter.unusedSimpArgs false

/-- An event's five cells. -/
def EvCells (w : World) (b off : Nat) (e : Ev) : Prop :=
  w.cell? ⟨b, off, none⟩ = some (.int .i64 e.kind) ∧ w.cell? ⟨b, off + 1, none⟩ = some (.int .i64 e.worker) ∧ w.cell? ⟨b, off + 2, none⟩ = some (.int .i64 e.task) ∧ w.cell? ⟨b, off + 3, none⟩ = some (.int .i64 e.other) ∧ w.cell? ⟨b, off + 4, none⟩ = some (.int .i64 e.level)
theorem EvCells.keep {w w' : World} {b off : Nat} {e : Ev} (h : EvCells w b off e) (o : Only [] w w') : EvCells w' b off e := by
  obtain ⟨h0, h1, h2, h3, h4⟩ := h
  exact ⟨o.keepCell h0 (by simp), o.keepCell h1 (by simp), o.keepCell h2 (by simp), o.keepCell h3 (by simp), o.keepCell h4 (by simp)⟩
def Ev.zero : Ev := ⟨0, 0, 0, 0, 0⟩
/-- A slice of events. -/
def EL (w : World) (v : Value) (l : List Ev) : Prop :=
  ∃ ao cap, v = .slice ao l.length cap ∧ l.length ≤ cap ∧ (0 < l.length → ∃ b off, ao = some ⟨b, off, none⟩ ∧ ∀ i, i < l.length → EvCells w b (off + i * 5) (l.getD i Ev.zero))
theorem EL.keep {w w' : World} {v : Value} {l : List Ev} (h : EL w v l) (o : Only [] w w') : EL w' v l := by
  obtain ⟨ao, cap, e, hc, hh⟩ := h
  refine ⟨ao, cap, e, hc, fun hp => ?_⟩
  obtain ⟨b, off, e2, hg⟩ := hh hp
  exact ⟨b, off, e2, fun i hi => (hg i hi).keep o⟩

def fmtB (l : List Ev) : List UInt8 := l.flatMap lineB
def fmtRes (l : List Ev) : List UInt8 × Int := if 65536 < l.length then ([], 2) else if l.all validB then (fmtB l, 0) else ([], 6)

theorem lineTo_len (e : Ev) (f : EForm) (hf : f.word.length ≤ 6) (h : ∀ k, k < 4 → 0 ≤ flAt e k ∧ flAt e k ≤ 256) : ∀ k, k ≤ 4 → (lineTo e f k).length ≤ 6 + 4 * k := by
  intro k
  induction k with
  | zero => intro _; exact hf
  | succ k ih =>
    intro hk
    have := ih (by omega)
    have hx := h k (by omega)
    have hl := itoa_len hx.1 hx.2
    simp only [lineTo, List.length_append, segB]
    split
    · simp only [List.length_cons]; omega
    · simp; omega
theorem lineB_len {e : Ev} (h : validB e = true) : (lineB e).length ≤ 23 := by
  have := lineTo_len e (formAt (e.kind - 1).toNat) (word_len _) (valid_parts h).2.2 4 (by omega)
  simp only [lineB, List.length_append, List.length_cons, List.length_nil]; omega
theorem fmtB_len {l : List Ev} (h : ∀ e ∈ l, validB e = true) : (fmtB l).length ≤ 23 * l.length := by
  induction l with
  | nil => simp [fmtB]
  | cons a l ih =>
    have h1 := lineB_len (h a (by simp))
    have h2 := ih (fun e he => h e (by simp [he]))
    simp only [fmtB, List.flatMap_cons, List.length_append, List.length_cons] at h2 ⊢
    omega
theorem fmtB_snoc (l : List Ev) (e : Ev) : fmtB (l ++ [e]) = fmtB l ++ lineB e := by simp [fmtB]
theorem take_snoc_getD {α : Type} (l : List α) (d : α) (k : Nat) (h : k < l.length) : l.take (k + 1) = l.take k ++ [l.getD k d] := by
  rw [List.take_succ_eq_append_getElem h, List.getD_eq_getElem?_getD, List.getElem?_eq_getElem h]; rfl

theorem isBuilder_keep {T e : TypeId} {B b : Nat} {bs : List Value} {w w' : World} (h : Lib.IsBuilder T e B b bs w) (o : Only [] w w') : Lib.IsBuilder T e B b bs w' := by
  have g : w.grownBy w' none := ⟨o.os, o.tape, o.output, o.size, fun k hk _ => o.block k hk (by simp)⟩
  have aux : ∀ p, Lib.BuilderAt T e B b p bs w → Lib.BuilderAt T e B b p bs w' := by
    rintro p ⟨hB, v, hb, hown, hne⟩
    refine ⟨hB, v, o.keep hb (by simp), hown.kept g ?_, hne⟩
    cases hv : v.ownBlock with
    | none => exact .inl rfl
    | some k => exact .inr (by simp)
  rcases h with h | h
  · exact .inl (aux _ h)
  · exact .inr (aux _ h)
theorem only_then_below {w w1 w2 : World} {B : Nat} (h : Only [] w w1) (hB : w.heap.size ≤ B) (hb : Below B w1 w2) : Only [] w w2 :=
  ⟨hb.os.trans h.os, hb.tape.trans h.tape, hb.output.trans h.output, Nat.le_trans h.size hb.size, fun k hk hn => by rw [hb.block k (by omega)]; exact h.block k hk hn⟩

set_option maxRecDepth 100000 in
set_option maxHeartbeats 4000000 in
theorem format_any (w : World) (hL : LibAt w) (v : Value) (l : List Ev) (h : EL w v l) (hn : l.length ≤ 9223372036854775807) :
    Calls Tryd.prog 9 #[v] w fun e w' => e = .returned (.tuple #[.string ⟨(fmtRes l).1.toArray⟩, .int .i64 (fmtRes l).2]) ∧ Only [] w w' := by
  have HE := Lib.hid h
  obtain ⟨ao, cap, rfl, hc, hh⟩ := h
  by_cases hbig : 65536 < l.length
  · have e : fmtRes l = ([], 2) := if_pos hbig
    rw [e]
    obtain ⟨n, hnn⟩ : ∃ n, n = l.length := ⟨_, rfl⟩
    rw [← hnn] at hbig hn ⊢
    clear hh hc hnn e
    go_enter Tryd.func9, Tryd.ntmps9
    go_wp2_with fail
    go_ret2
    exact ⟨rfl, Only.refl _ _⟩
  · have e : fmtRes l = if l.all validB then (fmtB l, 0) else ([], 6) := if_neg hbig
    rw [e]
    have GO := Lib.hid (fun (hv : ∀ x ∈ l, validB x = true) => (if_pos (List.all_eq_true.2 hv) : (if l.all validB then (fmtB l, (0 : Int)) else ([], 6)) = _))
    have NO := Lib.hid (fun (x : Ev) (hx : x ∈ l) (hv : validB x = false) => (if_neg (fun hall => by have := List.all_eq_true.1 hall x hx; rw [hv] at this; cases this) : (if l.all validB then (fmtB l, (0 : Int)) else ([], 6)) = _))
    obtain ⟨R, hR⟩ : ∃ R, R = (if l.all validB then (fmtB l, (0 : Int)) else ([], 6)) := ⟨_, rfl⟩
    rw [← hR] at GO NO ⊢
    obtain ⟨n, hnn⟩ : ∃ n, n = l.length := ⟨_, rfl⟩
    have HN := Lib.hid hnn
    have HC := Lib.hid hh
    have HL := Lib.hid hL
    have hn2 : n ≤ 65536 := by omega
    rw [← hnn] at hc ⊢
    obtain ⟨bb, hbb⟩ : ∃ bb, bb = w.heap.size := ⟨_, rfl⟩
    have HBB := Lib.hid hbb
    obtain ⟨W0, hW0⟩ : ∃ W0, W0 = w.alloc (.cells #[.pointer none, .slice none 0 0] 53) := ⟨_, rfl⟩
    have HW0 := Lib.hid hW0
    have IB0 : Hid (Lib.IsBuilder 53 5 bb bb (Lib.byteCells (fmtB (l.take 0))) W0) := Lib.hid (.inl ⟨Nat.le_refl _, .slice none 0 0, by rw [hW0, hbb]; exact blk_alloc_new w _, World.ownsRow_nil _ _ _ _, by simp [Value.ownBlock]⟩)
    have O0 : Hid (Only [] w W0) := Lib.hid (by rw [hW0]; exact (Only.refl _ _).alloc _)
    have hbs : bb < W0.heap.size := by rw [hW0, hbb]; simp
    clear hbig hn hR hnn hh hL e hbb hW0
    go_enter Tryd.func9, Tryd.ntmps9
    go_wp2_with fail
    rw [← HBB.out, ← HW0.out]
    go_loopw [6, 12] (fun _ r wr => ∃ k : Nat, r = .int .i64 k ∧ k ≤ n ∧ (∀ x ∈ l.take k, validB x = true) ∧ Lib.IsBuilder 53 5 bb bb (Lib.byteCells (fmtB (l.take k))) wr ∧ Only [] w wr) (fun _ r _ => n - (intOf r).toNat)
    case atStart => exact ⟨0, rfl, by omega, by simp, IB0.out, O0.out⟩
    case round =>
      obtain ⟨k, rfl, hk, hv, hib, ho⟩ := hrel
      obtain ⟨w3, hw3⟩ : ∃ w3, w3 = wr := ⟨_, rfl⟩
      subst hw3
      have HV := Lib.hid hv
      have HIB := Lib.hid hib
      have OW := Lib.hid ho
      clear hv hib ho
      by_cases hkn : k < n
      · obtain ⟨b, off, hao, hg⟩ := HC.out (by rw [← HN.out]; omega)
        have hx := (hg k (by rw [← HN.out]; exact hkn)).keep OW.out
        obtain ⟨x, hxx⟩ : ∃ x, x = l.getD k Ev.zero := ⟨_, rfl⟩
        have HM : Hid (x ∈ l) := Lib.hid (by
          rw [hxx, List.getD_eq_getElem?_getD, List.getElem?_eq_getElem (by rw [← HN.out]; exact hkn)]
          exact List.getElem_mem _)
        have HT := Lib.hid (show l.take (k + 1) = l.take k ++ [x] from by rw [hxx]; exact take_snoc_getD l _ k (by rw [← HN.out]; exact hkn))
        rw [← hxx] at hx
        obtain ⟨c0, c1, c2, c3, c4⟩ := hx
        rw [hao]
        have hk1 : (0 : Int) ≤ (k : Int) := by omega
        have hk2 : (k : Int) < (n : Int) := by omega
        have VA := fun w' => valid_any w' x
        unfold evV at VA
        have VAH := Lib.hid VA
        have hbl := lt_of_cell c0
        clear hg hxx hao VA
        cases hvx : validB x with
        | false =>
          rw [hvx] at VAH
          have HX := Lib.hid hvx
          clear hvx
          go_wp2_with fail
          refine (VAH.out _).mono ?_; rintro e w4 ⟨rfl, o4⟩
          go_wp2_with fail
          go_ret2
          exact ⟨by rw [NO.out x HM.out HX.out]; rfl, (OW.out.alloc _).then0 o4⟩
        | true =>
          rw [hvx] at VAH
          have HX := Lib.hid hvx
          clear hvx
          go_wp2_with fail
          refine (VAH.out _).mono ?_; rintro e w4 ⟨rfl, o4⟩
          obtain ⟨eb, heb⟩ : ∃ eb, eb = w3.heap.size := ⟨_, rfl⟩
          rw [← heb]
          have hE := o4.keep (blk_alloc_new w3 (.cells #[.int .i64 x.kind, .int .i64 x.worker, .int .i64 x.task, .int .i64 x.other, .int .i64 x.level] 23)) (by simp)
          rw [← heb] at hE
          have d0 := cell_blk hE 0
          have d1 := cell_blk hE 1
          have d2 := cell_blk hE 2
          have d3 := cell_blk hE 3
          have d4 := cell_blk hE 4
          simp at d0 d1 d2 d3 d4
          have O34 := Lib.hid (((Only.refl [] w3).alloc (.cells #[.int .i64 x.kind, .int .i64 x.worker, .int .i64 x.task, .int .i64 x.other, .int .i64 x.level] 23)).then0 o4)
          have LN := line_any w4 (HL.out.keep0 (OW.out.then0 O34.out)) x HX.out
          unfold evV at LN
          have LNH := Lib.hid LN
          clear heb hE o4 LN c0 c1 c2 c3 c4 hbl
          go_wp2_with fail
          refine LNH.out.mono ?_; rintro e w5 ⟨rfl, o5⟩
          have O35 := Lib.hid (O34.out.then0 o5)
          have WS := Lib.hid (writeString_any bb bb _ ⟨(lineB x).toArray⟩ w5 (isBuilder_keep HIB.out O35.out) (by
            rw [Lib.byteCells_length, size_list]
            have h1 := fmtB_len HV.out
            have h2 := lineB_len HX.out
            have h3 := List.length_take_le k l
            omega) (by have := O35.out.size; have := OW.out.size; have := HBB.out; omega))
          clear o5 d0 d1 d2 d3 d4
          go_wp2_with fail
          refine WS.out.mono ?_; rintro e w6 ⟨rfl, hb6, b6⟩
          have HB6 := Lib.hid hb6
          have O6 : Hid (Only [] w w6) := Lib.hid (only_then_below (OW.out.then0 O35.out) (by rw [HBB.out]; exact Nat.le_refl _) b6)
          clear hb6 b6
          go_wp2_with fail
          go_roundw
          case rel => exact ⟨k + 1, by go_num, by omega, fun y hy => by
            rw [HT.out] at hy
            rcases List.mem_append.1 hy with h1 | h1
            · exact HV.out y h1
            · rw [List.mem_singleton.1 h1]; exact HX.out, .inr (by rw [HT.out, fmtB_snoc, Lib.byteCells_append]; exact HB6.out), O6.out⟩
          case measure => simp [intOf]; omega
      · obtain rfl : k = n := by omega
        have ht : l.take k = l := by rw [HN.out]; exact List.take_length
        have BS := Tryd.Builder_String_any bb bb (fmtB (l.take k)) w3 HIB.out (by have := OW.out.size; have := HBB.out; omega)
        rw [ht] at BS
        have HV2 := Lib.hid (show ∀ x ∈ l, validB x = true from by have := HV.out; rw [ht] at this; exact this)
        have BSH := Lib.hid BS
        clear ht BS
        go_wp2_with fail
        refine BSH.out.mono ?_; rintro e w4 ⟨rfl, b4⟩
        have O4 : Hid (Only [] w w4) := Lib.hid (only_then_below OW.out (by rw [HBB.out]; exact Nat.le_refl _) b4)
        clear b4
        go_wp2_with fail
        go_ret2
        exact ⟨by rw [GO.out HV2.out]; rfl, O4.out⟩
end Go.Proofs.YtncnepmgmphanaaDoor
