/- States as keys; operations on lists of places, walked. -/
import Derived.Test.YtfhkhknnoepfeaaHistLin5b
import Derived.Test.YtfhkhknnoepfeaaHistLin5c
import Derived.DeepKeys3
import Derived.Test.YtfhkhknnoepfeaaHistGameP3
namespace Go.Proofs.Ytfhkhknnoepfeaa
open Go.RowKit Go.ChangeMaps Go.MapKept Go.Maps
open Go.Maps (Keyed)
set_option linter.unusedVariables false

theorem wideSt : (match Try.prog.underlying 55 with | some (.array _ _) | some (.struct _) => true | _ => false) = true := by kernel_rfl
set_option maxRecDepth 100000 in
theorem lawSt0 : WideMaps.KeyLaw Try.prog 55 := deep_law (m := 3) (by omega) (by kernel_rfl) (by kernel_rfl) wideSt
theorem lawSt : Keyed Try.prog 55 := Keyed.of_law lawSt0

theorem keyT : Try.prog.keyType 55 = true := by kernel_rfl
theorem wfi {x : Int} (h : inI x) : (Lit.int .i64 x).wf = true := by
  obtain ⟨h1, h2⟩ := h
  simp [Lit.wf, IntKind.min, IntKind.max, IntKind.signed, IntKind.bits]; omega
theorem wf16 {x : Int} (h : 0 ≤ x ∧ x < 65536) : (Lit.int .u16 x).wf = true := by
  simp [Lit.wf, IntKind.min, IntKind.max, IntKind.signed, IntKind.bits]; omega
theorem formedSt (d : Int) (p : Nat → Int) (sz : Int) : (stA d p sz).formed Try.prog 55 = true := by kernel_rfl

theorem kl_int (k : Nat) {x : Int} (h : (Lit.int .i64 x).wf = true) : Try.prog.keyLits (k + 1) 3 [.int .i64 x] = some [.int .i64 x] := by
  unfold Program.keyLits
  rw [Try.underlying3]
  simp [h]
theorem kl_u16 (k : Nat) {x : Int} (h : (Lit.int .u16 x).wf = true) : Try.prog.keyLits (k + 1) 52 [.int .u16 x] = some [.int .u16 x] := by
  unfold Program.keyLits
  rw [Try.underlying52]
  simp [h]
theorem cellsInt : Try.prog.cellsOf 3 = 1 := by kernel_rfl
theorem cells16 : Try.prog.cellsOf 52 = 1 := by kernel_rfl
theorem cellsArr : Try.prog.cellsOf 53 = 12 := by kernel_rfl
theorem cellsSt : Try.prog.cellsOf 55 = 14 := by kernel_rfl

theorem kl_arr (k : Nat) {p : Nat → Int} (h : ∀ j, (Lit.int .i64 (p j)).wf = true) : ∃ ls, Try.prog.keyLits (k + 1 + 1) 53 [.int .i64 (p 0), .int .i64 (p 1), .int .i64 (p 2), .int .i64 (p 3), .int .i64 (p 4), .int .i64 (p 5), .int .i64 (p 6), .int .i64 (p 7), .int .i64 (p 8), .int .i64 (p 9), .int .i64 (p 10), .int .i64 (p 11)] = some ls := by
  unfold Program.keyLits
  rw [Try.underlying53]
  simp only [cellsArr, cellsInt, List.length_cons, List.length_nil, Nat.zero_add, Nat.reduceAdd, if_true]
  rw [show List.range 12 = [0, 1, 2, 3, 4, 5, 6, 7, 8, 9, 10, 11] from rfl]
  simp only [List.mapM_cons, List.mapM_nil, Nat.mul_one, List.drop_succ_cons, List.drop_zero, List.take_succ_cons, List.take_zero, kl_int k (h _)]
  exact ⟨_, rfl⟩

theorem key_st {d sz : Int} {p : Nat → Int} (hd : 0 ≤ d ∧ d < 65536) (hp : ∀ j, inI (p j)) (hs : inI sz) : ∃ kl, keyOf Try.prog 55 (stA d p sz) = some kl := by
  have h0 := wf16 hd
  have h1 := fun j => wfi (hp j)
  have h2 := wfi hs
  have hl : ∃ ls, Try.prog.keyLits (Try.prog.types.size + 1) 55 (stC d p sz).toList = some ls := by
    obtain ⟨la, hla⟩ := kl_arr (Try.prog.types.size - 2) h1
    rw [show Try.prog.types.size + 1 = (Try.prog.types.size - 2) + 1 + 1 + 1 from by kernel_rfl]
    unfold Program.keyLits
    rw [Try.underlying55]
    simp only [cellsSt, stC]
    rw [if_pos ⟨rfl, by simp⟩]
    simp only [List.mapM_cons, List.mapM_nil, cells16, cellsArr, cellsInt, List.drop_succ_cons, List.drop_zero, List.take_succ_cons, List.take_zero, kl_u16 _ h0, kl_int _ h2]
    rw [hla]
    exact ⟨_, rfl⟩
  obtain ⟨ls, hl⟩ := hl
  refine ⟨.string (keyBytes ls), ?_⟩
  unfold keyOf
  rw [Try.underlying55]
  simp only [keyT, formedSt, Bool.and_self, if_true]
  show (Program.keyLits _ _ _ (stC d p sz).toList).map _ = _
  rw [hl]
  rfl

theorem apply_any (w : World) (ov : Value) (l : List HOp) (hv : OL w ov l) (d : Nat) (p : Nat → Int) (sz i : Nat) (cap : Int) (hi : i < l.length) (hn : l.length ≤ 12) (hd : d < 65536) (hsz : sz ≤ 12) (hroom : sz ≤ 11 ∨ ¬ (l.getD i HOp.zero).kind = 0) (hp : ∀ j, j < sz → ∃ q : Nat, p j = q ∧ q < l.length) :
    Calls Try.prog 27 #[stA d p sz, ov, .int .i64 i, .int .i64 cap] w (ApRes w l ((d ||| 1 <<< i : Nat) : Int) p sz i cap) := by
  by_cases h : (l.getD i HOp.zero).kind = 0 ∨ (l.getD i HOp.zero).code = 2 ∨ (l.getD i HOp.zero).code = 4 ∨ sz = 0
  · exact apply_rest w ov l hv d p sz i cap hi hn hd hsz hroom hp h
  · have h1 : ¬ (l.getD i HOp.zero).kind = 0 := fun e => h (.inl e)
    have h2 : ¬ (l.getD i HOp.zero).code = 2 := fun e => h (.inr (.inl e))
    have h3 : ¬ (l.getD i HOp.zero).code = 4 := fun e => h (.inr (.inr (.inl e)))
    have h4 : ¬ sz = 0 := fun e => h (.inr (.inr (.inr e)))
    by_cases k2 : (l.getD i HOp.zero).kind = 2
    · exact apply_steal w ov l hv d p sz i cap hi hn hd hsz hroom hp h1 h2 h3 h4 k2
    · exact apply_pop w ov l hv d p sz i cap hi hn hd hsz hroom hp h1 h2 h3 h4 k2

theorem plc_push (L : List Nat) (i : Nat) : (fun j => if j = L.length then ((i : Nat) : Int) else plc L j) = plc (L ++ [i]) := by
  funext j
  unfold plc
  by_cases h : j = L.length
  · subst h; simp
  · rw [if_neg h]
    by_cases h2 : j < L.length
    · simp [List.getD_eq_getElem?_getD, List.getElem?_append_left h2]
    · have h3 : L.length + 1 ≤ j := by omega
      simp [List.getD_eq_getElem?_getD, List.getElem?_eq_none (show L.length ≤ j by omega), List.getElem?_eq_none (show (L ++ [i]).length ≤ j by simp; omega)]
theorem plc_pop (L : List Nat) : (fun j => if j = L.length - 1 then (0 : Int) else plc L j) = plc L.dropLast := by
  funext j
  unfold plc
  by_cases h : j = L.length - 1
  · rw [if_pos h, List.getD_eq_getElem?_getD, List.getElem?_eq_none (by simp; omega)]; rfl
  · rw [if_neg h]
    by_cases h2 : j < L.length
    · rw [List.getD_eq_getElem?_getD, List.getD_eq_getElem?_getD, List.getElem?_dropLast, if_pos (by omega)]
    · rw [List.getD_eq_getElem?_getD, List.getD_eq_getElem?_getD, List.getElem?_eq_none (by omega), List.getElem?_eq_none (by simp; omega)]
theorem plc_steal (L : List Nat) (hl : L.length ≤ 12) : (fun j => if j = L.length - 1 then (0 : Int) else if j < 11 then plc L (j + 1) else plc L j) = plc L.tail := by
  funext j
  unfold plc
  have ht : L.tail.getD j 0 = L.getD (j + 1) 0 := by
    rw [List.getD_eq_getElem?_getD, List.getD_eq_getElem?_getD, List.getElem?_tail]
  rw [ht]
  by_cases h : j = L.length - 1
  · rw [if_pos h, List.getD_eq_getElem?_getD, List.getElem?_eq_none (by omega)]; rfl
  · rw [if_neg h]
    by_cases h2 : j < 11
    · rw [if_pos h2]
    · rw [if_neg h2, List.getD_eq_getElem?_getD, List.getD_eq_getElem?_getD, List.getElem?_eq_none (by omega), List.getElem?_eq_none (by omega)]
theorem plc_head (L : List Nat) : (plc L 0).toNat = L.headD 0 := by
  unfold plc
  cases L <;> simp
theorem plc_last (L : List Nat) : (plc L (L.length - 1)).toNat = L.getLastD 0 := by
  unfold plc
  rw [List.getLastD_eq_getLast?, List.getLast?_eq_getElem?, List.getD_eq_getElem?_getD]
  simp

theorem ap_places {l : List HOp} {d : Int} {L : List Nat} {i : Nat} {cap : Int} {v : Value} {ok : Bool} (hl : L.length ≤ 12) (h : ApPost l d (plc L) L.length i cap v ok) :
    (ok = true ∧ ∃ L', plAct (fun a => l.getD a HOp.zero) i L cap = some L' ∧ v = stA d (plc L') L'.length) ∨ (ok = false ∧ plAct (fun a => l.getD a HOp.zero) i L cap = none) := by
  unfold ApPost at h
  unfold plAct
  simp only
  split at h
  · next hc =>
    rw [if_pos hc]
    split at h
    · next h2 =>
      rw [if_pos h2]
      obtain ⟨rfl, rfl⟩ := h
      refine .inl ⟨rfl, _, rfl, ?_⟩
      rw [plc_push]; simp
    · next h2 =>
      rw [if_neg h2]
      exact .inr ⟨h, rfl⟩
  · next hc =>
    rw [if_neg hc]
    split at h
    · next h2 =>
      rw [if_pos h2]
      obtain ⟨rfl, rfl⟩ := h
      by_cases h3 : cap ≤ (L.length : Int)
      · rw [if_pos h3]; exact .inl ⟨decide_eq_true h3, L, rfl, rfl⟩
      · rw [if_neg h3]; exact .inr ⟨decide_eq_false h3, rfl⟩
    · next h2 =>
      rw [if_neg h2]
      split at h
      · next h3 =>
        rw [if_pos h3]
        obtain ⟨rfl, rfl⟩ := h
        by_cases h4 : L = []
        · rw [if_pos h4]; exact .inl ⟨by rw [h4]; rfl, L, rfl, rfl⟩
        · rw [if_neg h4]
          have : ¬ L.length = 0 := fun e => h4 (List.eq_nil_of_length_eq_zero e)
          exact .inr ⟨decide_eq_false this, rfl⟩
      · next h3 =>
        rw [if_neg h3]
        split at h
        · next h4 =>
          rw [if_pos h4]
          obtain ⟨rfl, rfl⟩ := h
          exact .inl ⟨rfl, L, rfl, rfl⟩
        · next h4 =>
          rw [if_neg h4]
          split at h
          · next h5 =>
            rw [if_pos (List.eq_nil_of_length_eq_zero h5)]
            exact .inr ⟨h, rfl⟩
          · next h5 =>
            rw [if_neg (fun e => h5 (by rw [e]; rfl))]
            split at h
            · next h6 =>
              rw [if_pos h6]
              obtain ⟨h7, rfl⟩ := h
              rw [plc_head] at h7
              by_cases h8 : (l.getD (L.headD 0) HOp.zero).value = (l.getD i HOp.zero).value
              · rw [if_pos h8]
                refine .inl ⟨by rw [h7]; exact decide_eq_true h8, _, rfl, ?_⟩
                rw [plc_steal L hl, List.length_tail]
                congr 1; omega
              · rw [if_neg h8]; exact .inr ⟨by rw [h7]; exact decide_eq_false h8, rfl⟩
            · next h6 =>
              rw [if_neg h6]
              obtain ⟨h7, rfl⟩ := h
              rw [plc_last] at h7
              by_cases h8 : (l.getD (L.getLastD 0) HOp.zero).value = (l.getD i HOp.zero).value
              · rw [if_pos h8]
                refine .inl ⟨by rw [h7]; exact decide_eq_true h8, _, rfl, ?_⟩
                rw [plc_pop L, List.length_dropLast]
                congr 1; omega
              · rw [if_neg h8]; exact .inr ⟨by rw [h7]; exact decide_eq_false h8, rfl⟩

/-- What apply comes to, with lists of places. -/
theorem apply_places (w : World) (ov : Value) (l : List HOp) (hv : OL w ov l) (d : Nat) (L : List Nat) (i : Nat) (cap : Int) (hi : i < l.length) (hn : l.length ≤ 12) (hd : d < 65536) (hL : L.length ≤ 11) (hp : ∀ q ∈ L, q < l.length) :
    Calls Try.prog 27 #[stV d L, ov, .int .i64 i, .int .i64 cap] w fun e w' => ∃ v ok, e = .returned (.tuple #[v, .bool ok]) ∧ Only [] w w' ∧ (∃ a b c, v = stA a b c) ∧ ((ok = true ∧ ∃ L', plAct (fun a => l.getD a HOp.zero) i L cap = some L' ∧ v = stV (d ||| 1 <<< i) L') ∨ (ok = false ∧ plAct (fun a => l.getD a HOp.zero) i L cap = none)) := by
  refine (apply_any w ov l hv d (plc L) L.length i cap hi hn hd (by omega) (.inl hL) (fun j hj => ⟨L.getD j 0, rfl, hp _ (by rw [List.getD_eq_getElem?_getD, List.getElem?_eq_getElem hj]; exact List.getElem_mem hj)⟩)).mono ?_
  rintro e w' ⟨v, ok, h1, h2, h4, h3⟩
  exact ⟨v, ok, h1, h2, h4, ap_places (by omega) h3⟩
end Go.Proofs.Ytfhkhknnoepfeaa
