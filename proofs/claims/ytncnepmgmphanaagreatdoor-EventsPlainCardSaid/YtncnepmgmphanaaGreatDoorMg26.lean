/- The events of a text: plain. No condition. -/
import Derived.Test.YtncnepmgmphanaaGreatDoorMg25
import Derived.Test.YtncnepmgmphanaaGreatDoorEvRead
set_option linter.unusedVariables false
set_option linter.unusedSimpArgs false
set_option linter.unusedSectionVars false
namespace Go.Proofs.YtncnepmgmphanaaGreatDoor
open Go.RowKit
def parseR : Nat → List UInt8 → List Evt → Int → List Evt × Int × Int
  | 0, _, out, _ => (out, 0, 0)
  | f + 1, tx, out, n =>
    if tx = [] then (out, 0, 0) else
    if (Lib.cut tx [10]).2.2 = true then match readB ⟨(Lib.cut tx [10]).1.toArray⟩ with
      | none => ([], n, 4)
      | some e => if out.length = 65536 then ([], n, 2) else parseR f (Lib.cut tx [10]).2.1 (out ++ [e]) (n + 1)
    else ([], n, 4)
theorem parseR_succ (f : Nat) (tx : List UInt8) (out : List Evt) (n : Int) : parseR (f + 1) tx out n = if tx = [] then (out, 0, 0) else
    if (Lib.cut tx [10]).2.2 = true then match readB ⟨(Lib.cut tx [10]).1.toArray⟩ with
      | none => ([], n, 4)
      | some e => if out.length = 65536 then ([], n, 2) else parseR f (Lib.cut tx [10]).2.1 (out ++ [e]) (n + 1)
    else ([], n, 4) := rfl
def parseB (tx : List UInt8) : List Evt × Int × Int := if 4194304 < tx.length then ([], 0, 2) else parseR (tx.length + 1) tx [] 1
theorem cut_len {tx : List UInt8} (h : (Lib.cut tx [10]).2.2 = true) : (Lib.cut tx [10]).2.1.length < tx.length ∧ (Lib.cut tx [10]).1.length ≤ tx.length := by
  unfold Lib.cut at h ⊢
  split
  · rename_i hi
    simp only [List.length_drop, List.length_take, List.length_cons, List.length_nil]
    cases tx with
    | nil => exact absurd hi (by decide)
    | cons a l => simp only [List.length_cons]; omega
  · rename_i hi
    rw [if_neg hi] at h
    cases h
theorem cut_len1 (tx : List UInt8) : (Lib.cut tx [10]).1.length ≤ tx.length := by
  unfold Lib.cut
  split
  · simp only [List.length_take]; omega
  · exact Nat.le_refl _
def flatE (l : List Evt) : List Value := l.flatMap fun e => [.int .i64 e.kind, .int .i64 e.worker, .int .i64 e.task, .int .i64 e.other, .int .i64 e.level]
theorem flatE_snoc (l : List Evt) (e : Evt) : flatE (l ++ [e]) = flatE l ++ [.int .i64 e.kind, .int .i64 e.worker, .int .i64 e.task, .int .i64 e.other, .int .i64 e.level] := by simp [flatE]
theorem flatE_at (l : List Evt) : ∀ i, i < l.length → (flatE l)[i * 5]? = some (.int .i64 (l.getD i Evt.zero).kind) ∧ (flatE l)[i * 5 + 1]? = some (.int .i64 (l.getD i Evt.zero).worker) ∧ (flatE l)[i * 5 + 2]? = some (.int .i64 (l.getD i Evt.zero).task) ∧ (flatE l)[i * 5 + 3]? = some (.int .i64 (l.getD i Evt.zero).other) ∧ (flatE l)[i * 5 + 4]? = some (.int .i64 (l.getD i Evt.zero).level) := by
  induction l with
  | nil => intro i h; simp at h
  | cons a l ih =>
    intro i h
    cases i with
    | zero => exact ⟨rfl, rfl, rfl, rfl, rfl⟩
    | succ i =>
      obtain ⟨h0, h1, h2, h3, h4⟩ := ih i (by simpa using h)
      have e : ∀ j, (flatE (a :: l))[(i + 1) * 5 + j]? = (flatE l)[i * 5 + j]? := fun j => by
        rw [show (i + 1) * 5 + j = (i * 5 + j) + 5 by omega]; rfl
      have e0 := e 0
      simp only [Nat.add_zero] at e0
      rw [e0, e 1, e 2, e 3, e 4]
      exact ⟨h0, h1, h2, h3, h4⟩
theorem el_owns {w : World} {B : Nat} {T : TypeId} {v : Value} {l : List Evt} (h : w.ownsRow B T 5 v l.length (flatE l)) : EL w v l := by
  obtain ⟨hl, ⟨rfl, h0⟩ | ⟨g, cap, cur, rfl, hb, hh, hn, hm, hs, ht⟩⟩ := h
  · exact ⟨none, 0, by rw [h0], by omega, fun h => by omega⟩
  · refine ⟨_, cap, rfl, hn, fun _ => ⟨g, 0, rfl, fun i hi => ?_⟩⟩
    have at' : ∀ j v, (flatE l)[j]? = some v → w.cell? ⟨g, j, none⟩ = some v := fun j v hj => by
      rw [cell_blk hh]
      rw [← ht, List.getElem?_take] at hj
      split at hj
      · simpa using hj
      · cases hj
    obtain ⟨h0, h1, h2, h3, h4⟩ := flatE_at l i hi
    rw [Nat.zero_add]
    exact ⟨at' _ _ h0, at' _ _ h1, at' _ _ h2, at' _ _ h3, at' _ _ h4⟩
end Go.Proofs.YtncnepmgmphanaaGreatDoor

namespace Go.Proofs.YtncnepmgmphanaaGreatDoor
open Go.RowKit
theorem infoEv : (Tryz.prog.info? 27).map (fun i => (i.zero, i.size, i.bytes)) = some (some (.agg #[.int .i64 0, .int .i64 0, .int .i64 0, .int .i64 0, .int .i64 0]), 5, 40) := by kernel_rfl
theorem news_blk {w : World} {b : Nat} {l : List Value} {T : TypeId} {f : Nat × Nat} (h : w.heap[b]? = some (.cells l.toArray T f)) : ∀ j u, l[j]? = some u → w.cell? ((⟨b, 0, none⟩ : Addr).add j) = some u := by
  intro j u hu
  rw [Go.WideShapes.add_plain, Nat.zero_add, cell_blk h]
  simpa using hu
def strLen : Value → Nat
  | .string b => b.size
  | _ => 0
theorem owns_only {w w' : World} {B : Nat} {T : TypeId} {sz : Nat} {v : Value} {n : Nat} {xs : List Value} (h : w.ownsRow B T sz v n xs) (o : Only [] w w') : w'.ownsRow B T sz v n xs :=
  h.kept (row := none) ⟨o.os, o.tape, o.output, o.size, fun k hk _ => o.block k hk (by simp)⟩ (by cases v.ownBlock <;> simp)
theorem read_at (w : World) (hL : LibAt w) (s : ByteArray) (hs : s.size < 4294967281) :
    Calls Tryz.prog 34 #[.string s] w fun e w' => Only [] w w' ∧ ∃ (k a b c d : Int) (ok : Bool), e = .returned (.tuple #[.agg #[.int .i64 k, .int .i64 a, .int .i64 b, .int .i64 c, .int .i64 d], .bool ok]) ∧ (ok = true → readB s = some ⟨k, a, b, c, d⟩) ∧ (ok = false → readB s = none) :=
  (read_any w hL s hs).mono (by
    rintro e w' ⟨o, ⟨k, a, b, c, d⟩, ok, rfl, h1, h2⟩
    exact ⟨o, k, a, b, c, d, ok, rfl, h1, h2⟩)
def ParsePost (w : World) (r : List Evt × Int × Int) (e : Ending) (w' : World) : Prop :=
  Only [] w w' ∧ ∃ v, e = .returned (.tuple #[v, .int .i64 r.2.1, .int .i64 r.2.2]) ∧ EL w' v r.1
set_option maxRecDepth 100000 in
set_option maxHeartbeats 4000000 in
theorem parse_any (w : World) (hL : LibAt w) (s : ByteArray) (hs : s.size ≤ 9223372036854775807) :
    Calls Tryz.prog 14 #[.string s] w (ParsePost w (parseB s.data.toList)) := by
  by_cases hbig : 4194304 < s.size
  · have e : parseB s.data.toList = ([], 0, 2) := by
      unfold parseB; rw [if_pos (by rw [← Lib.size_eq]; exact hbig)]
    rw [e]
    clear e
    go_enter Tryz.func14, Tryz.ntmps14
    go_wp2_with fail
    go_ret3
    exact ⟨Only.refl _ _, _, rfl, none, 0, rfl, by simp, by simp⟩
  · have e : parseB s.data.toList = parseR (s.size + 1) s.data.toList [] 1 := by
      unfold parseB; rw [if_neg (by rw [← Lib.size_eq]; exact hbig), ← Lib.size_eq]
    obtain ⟨R, hR⟩ : ∃ R, R = parseB s.data.toList := ⟨_, rfl⟩
    rw [← hR] at e ⊢
    have RE := Lib.hid e
    have HL := Lib.hid hL
    have hs2 : s.size ≤ 4194304 := by omega
    clear hbig hR e hL hs
    obtain ⟨i0, hi0, hz0, hz1, hz2⟩ := info_parts infoEv
    go_enter Tryz.func14, Tryz.ntmps14
    go_wp2_with fail
    go_loopw [0, 5, 6] (fun s0 s5 s6 wr => ∃ (tx : ByteArray) (out : List Evt) (n f : Nat) (ao : Option Addr) (cap : Nat), s5 = .slice ao out.length cap ∧ s0 = .string tx ∧ tx.size ≤ 4194304 ∧ s6 = .int .i64 n ∧ n ≤ 4194304 + 1 - tx.size ∧ out.length ≤ 65536 ∧ wr.ownsRow w.heap.size 27 5 (.slice ao out.length cap) out.length (flatE out) ∧ tx.size < f ∧ R = parseR f tx.data.toList out n ∧ Only [] w wr) (fun s0 _ _ _ => strLen s0)
    case atStart => exact ⟨s, [], 1, s.size + 1, none, 0, rfl, rfl, hs2, rfl, by omega, by simp, World.ownsRow_nil _ _ _ _, by omega, RE.out, Only.refl _ _⟩
    case round =>
      obtain ⟨tx, out, n, f, ao, cap, rfl, rfl, htx, rfl, hn, hout, hown, hf, hR, ho⟩ := hrel
      obtain ⟨w3, hw3⟩ : ∃ w3, w3 = wr := ⟨_, rfl⟩
      subst hw3
      have OWN := Lib.hid hown
      have PR := Lib.hid hR
      have O3 := Lib.hid ho
      have HF := Lib.hid hf
      clear hown hR ho
      obtain ⟨m, hm⟩ : ∃ m, m = out.length := ⟨_, rfl⟩
      have HM := Lib.hid hm
      rw [← hm] at OWN hout ⊢
      clear hm
      by_cases hemp : tx.data.toList = []
      · have hte : tx.toList = [] := by rw [Lib.toList_data]; exact hemp
        have FIN : Hid (R = (out, 0, 0)) := Lib.hid (by
          rw [PR.out, hemp]
          cases f with
          | zero => rfl
          | succ f => unfold parseR; rw [if_pos rfl])
        clear hemp hf
        go_wp2_with fail
        go_ret3
        exact ⟨O3.out, .slice ao m cap, by rw [FIN.out]; rfl, by rw [FIN.out]; exact el_owns (by rw [← HM.out]; exact OWN.out)⟩
      · have hte : tx.toList.isEmpty = false := by rw [Lib.toList_data]; cases h : tx.data.toList with
          | nil => exact absurd h hemp
          | cons a l => rfl
        have hte2 : (!tx.toList.isEmpty) = true := by rw [hte]; rfl
        obtain ⟨f, rfl⟩ : ∃ f', f = f' + 1 := ⟨f - 1, by omega⟩
        have hcl := cut_len1 tx.data.toList
        have hcr := fun h => cut_len (tx := tx.data.toList) h
        have CT := cut_any w3 (HL.out.keep0 O3.out) tx ⟨#[10]⟩ (by omega)
        have hsep : (⟨#[10]⟩ : ByteArray).data.toList = [10] := rfl
        rw [hsep] at CT
        obtain ⟨line, hline⟩ : ∃ x, x = (Lib.cut tx.data.toList [10]).1 := ⟨_, rfl⟩
        obtain ⟨rest, hrest⟩ : ∃ x, x = (Lib.cut tx.data.toList [10]).2.1 := ⟨_, rfl⟩
        obtain ⟨wh, hwh⟩ : ∃ x, x = (Lib.cut tx.data.toList [10]).2.2 := ⟨_, rfl⟩
        have P1 : R = if wh = true then match readB ⟨line.toArray⟩ with
            | none => ([], (n : Int), 4)
            | some e => if out.length = 65536 then ([], (n : Int), 2) else parseR f rest (out ++ [e]) ((n : Int) + 1)
          else ([], (n : Int), 4) := by
          rw [PR.out, parseR_succ, if_neg hemp, hline, hrest, hwh]; try rfl
        rw [← hline, ← hrest, ← hwh] at CT
        rw [← hline, ← Lib.size_eq] at hcl
        rw [← hrest, ← hwh, ← Lib.size_eq] at hcr
        have HCR := Lib.hid hcr
        have PP := Lib.hid P1
        have CTH := Lib.hid CT
        have hll : (⟨line.toArray⟩ : ByteArray).size < 4294967281 := by rw [size_list]; omega
        have HLL := Lib.hid hll
        clear hline hrest hwh hsep hcr P1 CT hemp hf hcl hll PR
        go_wp2_with fail
        refine CTH.out.mono ?_; rintro e w4 ⟨rfl, o4⟩
        have O4 := Lib.hid (O3.out.then0 o4)
        have O34 := Lib.hid o4
        have RA := Lib.hid (read_at w4 (HL.out.keep0 O4.out) ⟨line.toArray⟩ HLL.out)
        clear o4
        go_wp2_with fail
        refine RA.out.mono ?_; rintro e w5 ⟨o5, k, a, b, c, d, ok, rfl, h1, h2⟩
        have O5 := Lib.hid (O4.out.then0 o5)
        have H1 := Lib.hid h1
        have H2 := Lib.hid h2
        have OW5 := Lib.hid (owns_only (owns_only OWN.out O34.out) o5)
        clear o5 h1 h2
        cases wh with
        | false =>
          have FIN : Hid (R = ([], (n : Int), 4)) := Lib.hid (by rw [PP.out]; rfl)
          go_wp2_with fail
          go_ret3
          exact ⟨O5.out.alloc _, .slice none 0 0, by rw [FIN.out]; rfl, by rw [FIN.out]; exact ⟨none, 0, rfl, by simp, by simp⟩⟩
        | true =>
          cases ok with
          | false =>
            have FIN : Hid (R = ([], (n : Int), 4)) := Lib.hid (by rw [PP.out, if_pos rfl, H2.out rfl])
            go_wp2_with fail
            go_ret3
            exact ⟨O5.out.alloc _, .slice none 0 0, by rw [FIN.out]; rfl, by rw [FIN.out]; exact ⟨none, 0, rfl, by simp, by simp⟩⟩
          | true =>
            by_cases hfull : m = 65536
            · subst hfull
              have FIN : Hid (R = ([], (n : Int), 2)) := Lib.hid (by rw [PP.out, if_pos rfl, H1.out rfl]; simp only; rw [if_pos HM.out.symm])
              go_wp2_with fail
              go_ret3
              exact ⟨O5.out.alloc _, .slice none 0 0, by rw [FIN.out]; rfl, by rw [FIN.out]; exact ⟨none, 0, rfl, by simp, by simp⟩⟩
            · have hm2 : ((m : Int) == 65536) = false := by simp; omega
              have FIN : Hid (R = parseR f rest (out ++ [⟨k, a, b, c, d⟩]) ((n : Int) + 1)) := Lib.hid (by rw [PP.out, if_pos rfl, H1.out rfl]; simp only; rw [if_neg (by rw [← HM.out]; exact hfull)])
              have LT := Lib.hid (HCR.out rfl).1
              have NEWS := Lib.hid (news_blk (w := (w5.alloc (.cells #[.int .i64 k, .int .i64 a, .int .i64 b, .int .i64 c, .int .i64 d] 27)).alloc (.cells #[.int .i64 k, .int .i64 a, .int .i64 b, .int .i64 c, .int .i64 d] 27)) (b := w5.heap.size + 1) (l := [.int .i64 k, .int .i64 a, .int .i64 b, .int .i64 c, .int .i64 d]) (T := 27) (f := (0, 0)) (by have h := blk_alloc_new (w5.alloc (.cells #[.int .i64 k, .int .i64 a, .int .i64 b, .int .i64 c, .int .i64 d] 27)) (.cells #[.int .i64 k, .int .i64 a, .int .i64 b, .int .i64 c, .int .i64 d] 27); simpa using h))
              have hsz := O5.out.size
              have hmm : m < 65536 := by omega
              clear hfull
              go_wp2_with (at_builtin; refine wpList_append_own _ rfl _ _ 22 rfl w.heap.size 27 i0 (.agg #[.int .i64 0, .int .i64 0, .int .i64 0, .int .i64 0, .int .i64 0]) 5 40 Tryz.underlying22 hi0 hz0 hz1 hz2 rfl (by decide) _ _ _ rfl ((OW5.out.alloc _).alloc _) ⟨w5.heap.size + 1, 0, none⟩ 1 1 [.int .i64 k, .int .i64 a, .int .i64 b, .int .i64 c, .int .i64 d] rfl rfl NEWS.out (by simp [Value.oneCell']) (by unfold maxLen; omega) (by omega) (by first | omega | (simp; omega)) ?_)
              intro v' w7 hown' hgrow _
              obtain ⟨ao7, cap7, hv7⟩ : ∃ ao7 cap7, v' = .slice ao7 (m + 1) cap7 := by
                rcases hown'.2 with ⟨_, h0⟩ | ⟨g, cap7, cur, hv, _⟩
                · omega
                · exact ⟨_, _, hv⟩
              rw [hv7] at hown' ⊢
              clear hv7
              have OW7 := Lib.hid hown'
              have O7 : Hid (Only [] w w7) := Lib.hid (((O5.out.alloc _).alloc _).grown hgrow (fun q hq => .inr (OW5.out.lt q hq).1))
              clear hown' hgrow
              go_wp2_with fail
              go_roundw
              case rel => exact ⟨⟨rest.toArray⟩, out ++ [⟨k, a, b, c, d⟩], n + 1, f, ao7, cap7, by rw [List.length_append, ← HM.out]; rfl, rfl, by rw [size_list]; have := LT.out; omega, by go_num, by rw [size_list]; have := LT.out; omega, by rw [List.length_append, ← HM.out]; simp; omega, by
                rw [flatE_snoc, List.length_append, ← HM.out]; exact OW7.out, by rw [size_list]; have := LT.out; have := HF.out; omega, by rw [FIN.out]; rfl, O7.out⟩
              case measure => simp only [strLen]; rw [size_list]; exact LT.out
end Go.Proofs.YtncnepmgmphanaaGreatDoor

namespace Go.Proofs.YtncnepmgmphanaaGreatDoor
open Go.RowKit
def StCells (w : World) (b off : Nat) (x : Int × Evt) : Prop := w.cell? ⟨b, off, none⟩ = some (.int .i64 x.1) ∧ w.cell? ⟨b, off + 1, none⟩ = some (.int .i64 x.2.kind) ∧ w.cell? ⟨b, off + 2, none⟩ = some (.int .i64 x.2.worker) ∧ w.cell? ⟨b, off + 3, none⟩ = some (.int .i64 x.2.task) ∧ w.cell? ⟨b, off + 4, none⟩ = some (.int .i64 x.2.other) ∧ w.cell? ⟨b, off + 5, none⟩ = some (.int .i64 x.2.level)
theorem StCells.keep {w w' : World} {b off : Nat} {x : Int × Evt} (h : StCells w b off x) (o : Only [] w w') : StCells w' b off x := by
  obtain ⟨h0, h1, h2, h3, h4, h5⟩ := h
  exact ⟨o.keepCell h0 (by simp), o.keepCell h1 (by simp), o.keepCell h2 (by simp), o.keepCell h3 (by simp), o.keepCell h4 (by simp), o.keepCell h5 (by simp)⟩
def STL (w : World) (v : Value) (l : List (Int × Evt)) : Prop :=
  ∃ ao cap, v = .slice ao l.length cap ∧ l.length ≤ cap ∧ (0 < l.length → ∃ b off, ao = some ⟨b, off, none⟩ ∧ ∀ i, i < l.length → StCells w b (off + i * 6) (l.getD i (0, Evt.zero)))
theorem STL.keep {w w' : World} {v : Value} {l : List (Int × Evt)} (h : STL w v l) (o : Only [] w w') : STL w' v l := by
  obtain ⟨ao, cap, e, hc, hh⟩ := h
  refine ⟨ao, cap, e, hc, fun hp => ?_⟩
  obtain ⟨b, off, e2, hg⟩ := hh hp
  exact ⟨b, off, e2, fun i hi => (hg i hi).keep o⟩
theorem owns_keepO {w w' : World} {base : Nat} {T : TypeId} {sz : Nat} {v : Value} {n : Nat} {xs : List Value} (h : w.ownsRow base T sz v n xs) (ho : Only [] w w') : w'.ownsRow base T sz v n xs := by
  obtain ⟨hl, ⟨rfl, h0⟩ | ⟨g, cap, cur, rfl, hb, hg, hn, hm, hs, ht⟩⟩ := h
  · exact ⟨hl, .inl ⟨rfl, h0⟩⟩
  · exact ⟨hl, .inr ⟨g, cap, cur, rfl, hb, ho.keep hg (by simp), hn, hm, hs, ht⟩⟩
theorem own_one (e : Evt) : ∀ u ∈ [Value.int .i64 e.kind, .int .i64 e.worker, .int .i64 e.task, .int .i64 e.other, .int .i64 e.level], u.oneCell' = true := fun u hu => by
  simp only [List.mem_cons, List.not_mem_nil, or_false] at hu
  rcases hu with rfl | rfl | rfl | rfl | rfl <;> rfl
set_option maxRecDepth 100000 in
set_option maxHeartbeats 4000000 in
theorem of_any (w : World) (v : Value) (l : List (Int × Evt)) (h : STL w v l) (hn : l.length ≤ 1000000) :
    Calls Tryz.prog 22 #[v] w fun e w' => ∃ v', e = .returned v' ∧ EL w' v' (l.map Prod.snd) ∧ Only [] w w' := by
  obtain ⟨ao, cap, rfl, hc, hh⟩ := h
  obtain ⟨n, hnn⟩ : ∃ n, n = l.length := ⟨_, rfl⟩
  obtain ⟨L, hL⟩ : ∃ L, L = l.map Prod.snd := ⟨_, rfl⟩
  have HN := Lib.hid hnn
  have HL := Lib.hid hL
  have HC := Lib.hid hh
  obtain ⟨i, hi, hz0, hsz, hby⟩ := info_parts infoEv
  rw [← hnn] at hn hc ⊢
  rw [← hL]
  clear hh hnn hL
  go_enter Tryz.func22, Tryz.ntmps22
  go_wp2_with fail
  go_loopw [3, 8] (fun o r wr => ∃ k : Nat, r = .int .i64 k ∧ k ≤ n ∧ wr.ownsRow w.heap.size 27 5 o k (flatE (L.take k)) ∧ Only [] w wr) (fun _ r _ => n - (intOf r).toNat)
  case atStart => exact ⟨0, rfl, by omega, World.ownsRow_nil _ _ _ _, Only.refl _ _⟩
  case round =>
    obtain ⟨k, rfl, hk, hown, ho⟩ := hrel
    have OWN := Lib.hid hown
    have OW := Lib.hid ho
    clear hown ho
    by_cases hkn : k < n
    · obtain ⟨b, off, rfl, hg⟩ := HC.out (by rw [← HN.out]; omega)
      have hx := (hg k (by rw [← HN.out]; exact hkn)).keep OW.out
      obtain ⟨x, hxx⟩ : ∃ x, x = l.getD k (0, Evt.zero) := ⟨_, rfl⟩
      have HT := Lib.hid (show L.take (k + 1) = L.take k ++ [x.2] from by
        have h2 : L.getD k Evt.zero = x.2 := by
          rw [hxx, HL.out, List.getD_eq_getElem?_getD, List.getElem?_map, List.getD_eq_getElem?_getD, List.getElem?_eq_getElem (by rw [← HN.out]; exact hkn)]
          rfl
        rw [← h2]
        exact take_snoc_getD L _ k (by rw [HL.out, List.length_map, ← HN.out]; exact hkn))
      rw [← hxx] at hx
      obtain ⟨hx0, c0, c1, c2, c3, c4⟩ := hx
      obtain ⟨z, y⟩ := x
      obtain ⟨K, a, tk, ot, lv⟩ := y
      simp only at hx0 c0 c1 c2 c3 c4
      have hk1 : (0 : Int) ≤ (k : Int) := by omega
      have hk2 : (k : Int) < (n : Int) := by omega
      have hbl := lt_of_cell hx0
      have hmx : k + 1 ≤ maxLen := by unfold maxLen; omega
      have hbx : (k + 1) * 40 ≤ 140737488355328 := by omega
      clear hg hxx
      go_wp2_with (at_builtin; refine wpList_append_own _ rfl _ _ 22 rfl w.heap.size 27 i _ 5 40 Tryz.underlying22 hi hz0 hsz hby rfl (by decide) u3 k (flatE (L.take k)) rfl ?ho ⟨wr.heap.size + 1, 0, none⟩ 1 1 [.int .i64 K, .int .i64 a, .int .i64 tk, .int .i64 ot, .int .i64 lv] rfl rfl ?hc (own_one ⟨K, a, tk, ot, lv⟩) hmx hbx ?hs ?_)
      try case ho => exact owns_keepO OWN.out (((Only.refl [] wr).alloc _).alloc _)
      try case hc =>
        intro j u hj
        have hb := blk_alloc_new (wr.alloc (.cells #[.int .i64 z, .int .i64 K, .int .i64 a, .int .i64 tk, .int .i64 ot, .int .i64 lv] 91)) (.cells #[.int .i64 K, .int .i64 a, .int .i64 tk, .int .i64 ot, .int .i64 lv] 27)
        rw [show (wr.alloc (.cells #[.int .i64 z, .int .i64 K, .int .i64 a, .int .i64 tk, .int .i64 ot, .int .i64 lv] 91)).heap.size = wr.heap.size + 1 by simp] at hb
        rw [Go.WideShapes.add_plain, Nat.zero_add, cell_blk hb]
        simpa using hj
      try case hs => have := OW.out.size; simp; omega
      intro v2 w2 hown2 hgrow2 hnil2
      have P2 := Lib.hid (((OW.out.alloc (.cells #[.int .i64 z, .int .i64 K, .int .i64 a, .int .i64 tk, .int .i64 ot, .int .i64 lv] 91)).alloc (.cells #[.int .i64 K, .int .i64 a, .int .i64 tk, .int .i64 ot, .int .i64 lv] 27)).grown hgrow2 (fun p hp => .inr (OWN.out.lt p hp).1))
      have W2 : Hid (w2.ownsRow w.heap.size 27 5 v2 (k + 1) (flatE (L.take (k + 1)))) := Lib.hid (by rw [HT.out, flatE_snoc]; exact hown2)
      clear hown2 hgrow2 hnil2 OWN c0 c1 c2 c3 c4 hx0
      go_wp2_with fail
      go_roundw
      case rel => exact ⟨k + 1, by first | rfl | (congr 1; omega), by omega, W2.out, P2.out⟩
      case measure => simp [intOf]; omega
    · have hk2 : ¬ (k : Int) < (n : Int) := by omega
      have hkn' : k = n := by omega
      subst hkn'
      go_wp2_with fail
      go_ret
      refine ⟨_, rfl, ?_, OW.out⟩
      have hL : L.length = k := by rw [HL.out, List.length_map, ← HN.out]
      have h2 := OWN.out
      rw [← hL, List.take_length] at h2
      exact el_owns h2
set_option maxRecDepth 100000 in
set_option maxHeartbeats 4000000 in
theorem refOf_any (w : World) (v : Value) (l : List (Int × Evt)) (h : STL w v l) (hn : l.length ≤ 1000000) :
    Calls Tryz.prog 23 #[v] w fun e w' => ∃ v', e = .returned v' ∧ EL w' v' (l.map Prod.snd) ∧ Only [] w w' := by
  obtain ⟨ao, cap, rfl, hc, hh⟩ := h
  obtain ⟨n, hnn⟩ : ∃ n, n = l.length := ⟨_, rfl⟩
  obtain ⟨L, hL⟩ : ∃ L, L = l.map Prod.snd := ⟨_, rfl⟩
  have HN := Lib.hid hnn
  have HL := Lib.hid hL
  have HC := Lib.hid hh
  obtain ⟨i, hi, hz0, hsz, hby⟩ := info_parts infoEv
  rw [← hnn] at hn hc ⊢
  rw [← hL]
  clear hh hnn hL
  go_enter Tryz.func23, Tryz.ntmps23
  go_wp2_with fail
  go_loopw [3, 4] (fun o r wr => ∃ k : Nat, r = .int .i64 k ∧ k ≤ n ∧ wr.ownsRow w.heap.size 27 5 o k (flatE (L.take k)) ∧ Only [] w wr) (fun _ r _ => n - (intOf r).toNat)
  case atStart => exact ⟨0, rfl, by omega, World.ownsRow_nil _ _ _ _, Only.refl _ _⟩
  case round =>
    obtain ⟨k, rfl, hk, hown, ho⟩ := hrel
    have OWN := Lib.hid hown
    have OW := Lib.hid ho
    clear hown ho
    by_cases hkn : k < n
    · obtain ⟨b, off, rfl, hg⟩ := HC.out (by rw [← HN.out]; omega)
      have hx := (hg k (by rw [← HN.out]; exact hkn)).keep OW.out
      obtain ⟨x, hxx⟩ : ∃ x, x = l.getD k (0, Evt.zero) := ⟨_, rfl⟩
      have HT := Lib.hid (show L.take (k + 1) = L.take k ++ [x.2] from by
        have h2 : L.getD k Evt.zero = x.2 := by
          rw [hxx, HL.out, List.getD_eq_getElem?_getD, List.getElem?_map, List.getD_eq_getElem?_getD, List.getElem?_eq_getElem (by rw [← HN.out]; exact hkn)]
          rfl
        rw [← h2]
        exact take_snoc_getD L _ k (by rw [HL.out, List.length_map, ← HN.out]; exact hkn))
      rw [← hxx] at hx
      obtain ⟨hx0, c0, c1, c2, c3, c4⟩ := hx
      obtain ⟨z, y⟩ := x
      obtain ⟨K, a, tk, ot, lv⟩ := y
      simp only at hx0 c0 c1 c2 c3 c4
      have hk1 : (0 : Int) ≤ (k : Int) := by omega
      have hk2 : (k : Int) < (n : Int) := by omega
      have hbl := lt_of_cell hx0
      have hmx : k + 1 ≤ maxLen := by unfold maxLen; omega
      have hbx : (k + 1) * 40 ≤ 140737488355328 := by omega
      clear hg hxx
      go_wp2_with (at_builtin; refine wpList_append_own _ rfl _ _ 22 rfl w.heap.size 27 i _ 5 40 Tryz.underlying22 hi hz0 hsz hby rfl (by decide) u3 k (flatE (L.take k)) rfl ?ho ⟨wr.heap.size, 0, none⟩ 1 1 [.int .i64 K, .int .i64 a, .int .i64 tk, .int .i64 ot, .int .i64 lv] rfl rfl ?hc (own_one ⟨K, a, tk, ot, lv⟩) hmx hbx ?hs ?_)
      try case ho => exact owns_keepO OWN.out ((Only.refl [] wr).alloc _)
      try case hc =>
        intro j u hj
        have hb := blk_alloc_new wr (.cells #[.int .i64 K, .int .i64 a, .int .i64 tk, .int .i64 ot, .int .i64 lv] 27)
        rw [Go.WideShapes.add_plain, Nat.zero_add, cell_blk hb]
        simpa using hj
      try case hs => have := OW.out.size; simp; omega
      intro v2 w2 hown2 hgrow2 hnil2
      have P2 := Lib.hid ((OW.out.alloc (.cells #[.int .i64 K, .int .i64 a, .int .i64 tk, .int .i64 ot, .int .i64 lv] 27)).grown hgrow2 (fun p hp => .inr (OWN.out.lt p hp).1))
      have W2 : Hid (w2.ownsRow w.heap.size 27 5 v2 (k + 1) (flatE (L.take (k + 1)))) := Lib.hid (by rw [HT.out, flatE_snoc]; exact hown2)
      clear hown2 hgrow2 hnil2 OWN c0 c1 c2 c3 c4 hx0
      go_wp2_with fail
      go_roundw
      case rel => exact ⟨k + 1, by first | rfl | (congr 1; omega), by omega, W2.out, P2.out⟩
      case measure => simp [intOf]; omega
    · have hk2 : ¬ (k : Int) < (n : Int) := by omega
      have hkn' : k = n := by omega
      subst hkn'
      go_wp2_with fail
      go_ret
      refine ⟨_, rfl, ?_, OW.out⟩
      have hL : L.length = k := by rw [HL.out, List.length_map, ← HN.out]
      have h2 := OWN.out
      rw [← hL, List.take_length] at h2
      exact el_owns h2
set_option maxRecDepth 100000 in
set_option maxHeartbeats 4000000 in
theorem refSame_any (w : World) (v1 v2 : Value) (l : List Evt) (h1 : EL w v1 l) (h2 : EL w v2 l) (hn : l.length ≤ 9223372036854775807) :
    Calls Tryz.prog 16 #[v1, v2] w fun e w' => e = .returned (.bool true) ∧ Only [] w w' := by
  obtain ⟨ao1, cap1, rfl, hc1, hh1⟩ := h1
  obtain ⟨ao2, cap2, rfl, hc2, hh2⟩ := h2
  obtain ⟨n, hnn⟩ : ∃ n, n = l.length := ⟨_, rfl⟩
  have HN := Lib.hid hnn
  have HC := Lib.hid (And.intro hh1 hh2)
  rw [← hnn] at hn hc1 hc2 ⊢
  clear hh1 hh2 hnn
  go_enter Tryz.func16, Tryz.ntmps16
  go_wp2_with fail
  go_loopw [5] (fun r wr => ∃ k : Nat, r = .int .i64 k ∧ k ≤ n ∧ Only [] w wr) (fun r _ => n - (intOf r).toNat)
  case atStart => exact ⟨0, rfl, by omega, Only.refl _ _⟩
  case round =>
    obtain ⟨k, rfl, hk, ho⟩ := hrel
    have OW := Lib.hid ho
    clear ho
    by_cases hkn : k < n
    · obtain ⟨b1, off1, rfl, hg1⟩ := HC.out.1 (by rw [← HN.out]; omega)
      obtain ⟨b2, off2, rfl, hg2⟩ := HC.out.2 (by rw [← HN.out]; omega)
      obtain ⟨c0, c1, c2, c3, c4⟩ := (hg1 k (by rw [← HN.out]; exact hkn)).keep OW.out
      obtain ⟨d0, d1, d2, d3, d4⟩ := (hg2 k (by rw [← HN.out]; exact hkn)).keep OW.out
      obtain ⟨x, hxx⟩ : ∃ x, x = l.getD k Evt.zero := ⟨_, rfl⟩
      rw [← hxx] at c0 c1 c2 c3 c4 d0 d1 d2 d3 d4
      obtain ⟨K, a, tk, ot, lv⟩ := x
      simp only at c0 c1 c2 c3 c4 d0 d1 d2 d3 d4
      have hk1 : (0 : Int) ≤ (k : Int) := by omega
      have hk2 : (k : Int) < (n : Int) := by omega
      clear hg1 hg2 hxx
      go_wp2_with fail
      go_region
      go_wp2_with fail
      go_roundw
      case rel => exact ⟨k + 1, by first | rfl | (congr 1; omega), by omega, OW.out.drew⟩
      case measure => simp [intOf]; omega
    · have hk2 : ¬ (k : Int) < (n : Int) := by omega
      go_wp2_with fail
      go_ret
      exact ⟨rfl, OW.out⟩
end Go.Proofs.YtncnepmgmphanaaGreatDoor

namespace Go.Proofs.YtncnepmgmphanaaGreatDoor
open Go.ChangeShapes Go.WideShapes Go.ChangeAt Go.RowKit
section
variable {H : Type} {enc : TypeId × Value → H} {W : World} {base b0 : Nat} {v : Value} {d : DataW H} {ps : List MemPlace}
set_option maxRecDepth 100000 in
theorem st_cells {spare : Nat → Bool} {held : Bool} {fuel : Nat} {cs : List Value} {x : DataW H × List MemPlace} (hl : cs.length = 6) (h : DataW.trod enc Tryz.prog W base spare held fuel 91 cs = some x) :
    ∃ z K a t o l : Int, cs = [.int .i64 z, .int .i64 K, .int .i64 a, .int .i64 t, .int .i64 o, .int .i64 l] ∧ (Lit.int .i64 t).wf = true := by
  have k1 : Tryz.prog.cellsOf 3 = 1 := by kernel_rfl
  have kE : Tryz.prog.cellsOf 27 = 5 := by kernel_rfl
  obtain ⟨ys, n, _, hx, _, hlen, hg⟩ := DataW.trod_struct Tryz.underlying91 h
  match cs, hl with
  | [c0, c1, c2, c3, c4, c5], _ =>
    match ys, hlen with
    | [y0, y1], _ =>
      have g0 := hg 0 _ rfl
      have g1 := hg 1 _ rfl
      obtain ⟨z0, e0, -⟩ := DataW.trod_int Tryz.underlying3 g0
      try simp only [kE] at g1
      obtain ⟨zs, n2, _, hx2, _, hlen2, hg2⟩ := DataW.trod_struct Tryz.underlying27 g1
      match zs, hlen2 with
      | [w0, w1, w2, w3, w4], _ =>
        have q0 := hg2 0 _ rfl
        have q1 := hg2 1 _ rfl
        have q2 := hg2 2 _ rfl
        have q3 := hg2 3 _ rfl
        have q4 := hg2 4 _ rfl
        obtain ⟨u0, f0, -⟩ := DataW.trod_int Tryz.underlying3 q0
        obtain ⟨u1, f1, -⟩ := DataW.trod_int Tryz.underlying3 q1
        obtain ⟨u2, f2, _, hw⟩ := DataW.trod_int Tryz.underlying3 q2
        obtain ⟨u3, f3, -⟩ := DataW.trod_int Tryz.underlying3 q3
        obtain ⟨u4, f4, -⟩ := DataW.trod_int Tryz.underlying3 q4
        simp [k1, kE] at e0 f0 f1 f2 f3 f4
        exact ⟨z0, u0, u1, u2, u3, u4, by rw [e0, f0, f1, f2, f3, f4], hw⟩
set_option maxRecDepth 100000 in
theorem open_sts (hok : Value.okWide Tryz.prog W .any b0 42 v) (h : DataW.Trod enc Tryz.prog W base (fun _ => true) true 42 v d ps) :
    ∃ l : List (Int × Evt), (STL W v l ∧ ∀ x ∈ l, (Lit.int .i64 x.2.task).wf = true) ∧ l.length ≤ 9223372036854775807 := by
  have kS : Tryz.prog.cellsOf 91 = 6 := by kernel_rfl
  obtain ⟨a0, len, cap, rfl⟩ := okWide_slice Tryz.underlying42 hok
  obtain ⟨fuel, hf⟩ := h
  rcases Go.Deep.open_slice Tryz.underlying42 hf with ⟨hcs, _⟩ | ⟨a, len', cap', m, n, D, Pl, hcs, hb, hl, hm, hmm, hx, hi⟩
  · simp [Value.cells] at hcs
    obtain ⟨rfl, rfl, rfl⟩ := hcs
    exact ⟨[], ⟨⟨none, 0, rfl, Nat.le_refl _, fun hp => absurd hp (Nat.lt_irrefl _)⟩, by simp⟩, by simp⟩
  · simp [Value.cells] at hcs
    obtain ⟨rfl, rfl, rfl⟩ := hcs
    simp only [if_true] at hmm
    subst hmm
    have cell : ∀ i, i < len → ∃ y : Int × Evt, (∀ j u, [Value.int .i64 y.1, .int .i64 y.2.kind, .int .i64 y.2.worker, .int .i64 y.2.task, .int .i64 y.2.other, .int .i64 y.2.level][j]? = some u → W.cell? (a.add (i * 6 + j)) = some u) ∧ (Lit.int .i64 y.2.task).wf = true := by
      intro i hil
      obtain ⟨cs', hc, ht'⟩ := hi i (by omega)
      rw [kS] at hc
      obtain ⟨_, hcl, hcat⟩ := World.cells?_some hc
      obtain ⟨z, K, x, t, o, l, rfl, hw⟩ := st_cells hcl ht'
      refine ⟨(z, ⟨K, x, t, o, l⟩), fun j u hj => ?_, hw⟩
      have hjl : j < 6 := (List.getElem?_eq_some_iff.1 hj).1
      rw [← Go.Deep.add_add, hcat j hjl]
      exact hj
    obtain ⟨f, hf2⟩ : ∃ f : Nat → Int × Evt, ∀ i, i < len → (∀ j u, [Value.int .i64 (f i).1, .int .i64 (f i).2.kind, .int .i64 (f i).2.worker, .int .i64 (f i).2.task, .int .i64 (f i).2.other, .int .i64 (f i).2.level][j]? = some u → W.cell? (a.add (i * 6 + j)) = some u) ∧ (Lit.int .i64 (f i).2.task).wf = true := by
      refine ⟨fun i => if h : i < len then (cell i h).choose else (0, Evt.zero), fun i hil => ?_⟩
      simp only [dif_pos hil]
      exact (cell i hil).choose_spec
    have hlen : ((List.range len).map f).length = len := by simp
    refine ⟨(List.range len).map f, ⟨⟨some a, _, by rw [hlen], by rw [hlen]; exact hl, fun hp => ?_⟩, fun x hx => ?_⟩, by rw [hlen]; exact Nat.le_trans hl (Nat.le_trans hm maxLen63)⟩
    · rw [hlen] at hp
      have h0 := (hf2 0 hp).1 0 _ rfl
      obtain ⟨b, off, spot⟩ := a
      have hspot : spot = none := by simpa [Addr.add] using World.cell?_spot h0
      subst hspot
      refine ⟨b, off, rfl, fun i hil => ?_⟩
      rw [hlen] at hil
      have hg : ((List.range len).map f).getD i (0, Evt.zero) = f i := by
        rw [List.getD_eq_getElem?_getD, List.getElem?_map, List.getElem?_range hil]
        rfl
      rw [hg]
      have q := (hf2 i hil).1
      have at' : ∀ j u, [Value.int .i64 (f i).1, .int .i64 (f i).2.kind, .int .i64 (f i).2.worker, .int .i64 (f i).2.task, .int .i64 (f i).2.other, .int .i64 (f i).2.level][j]? = some u → W.cell? ⟨b, off + i * 6 + j, none⟩ = some u := fun j u hj => by
        rw [Nat.add_assoc, ← add_plain]
        exact q j u hj
      exact ⟨at' 0 _ rfl, at' 1 _ rfl, at' 2 _ rfl, at' 3 _ rfl, at' 4 _ rfl, at' 5 _ rfl⟩
    · obtain ⟨i, hi2, rfl⟩ := List.mem_map.1 hx
      exact (hf2 i (List.mem_range.1 hi2)).2
end
end Go.Proofs.YtncnepmgmphanaaGreatDoor
