/- The events of a text, walked. No condition beside the library's variables. -/
import Derived.Test.YtncnepmgmphanaaDoorEvRead
import Derived.Test.YtncnepmgmphanaaDoorEvParseP
namespace Go.Proofs.YtncnepmgmphanaaDoor
open Go.RowKit
set_option linter.unusedVariables false
set_option linter.unusedSimpArgs false

theorem infoEv : (Tryd.prog.info? 23).map (fun i => (i.zero, i.size, i.bytes)) = some (some (.agg #[.int .i64 0, .int .i64 0, .int .i64 0, .int .i64 0, .int .i64 0]), 5, 40) := by kernel_rfl
theorem news_blk {w : World} {b : Nat} {l : List Value} {T : TypeId} {f : Nat × Nat} (h : w.heap[b]? = some (.cells l.toArray T f)) : ∀ j u, l[j]? = some u → w.cell? ((⟨b, 0, none⟩ : Addr).add j) = some u := by
  intro j u hu
  rw [Go.WideShapes.add_plain, Nat.zero_add, cell_blk h]
  simpa using hu

def strLen : Value → Nat
  | .string b => b.size
  | _ => 0
theorem owns_only {w w' : World} {B : Nat} {T : TypeId} {sz : Nat} {v : Value} {n : Nat} {xs : List Value} (h : w.ownsRow B T sz v n xs) (o : Only [] w w') : w'.ownsRow B T sz v n xs :=
  h.kept (row := none) ⟨o.os, o.tape, o.output, o.size, fun k hk _ => o.block k hk (by simp)⟩ (by cases v.ownBlock <;> simp)
theorem read_at (w : World) (hL : LibAt w) (s : ByteArray) (hs : s.size < 4294967281) :
    Calls Tryd.prog 21 #[.string s] w fun e w' => Only [] w w' ∧ ∃ (k a b c d : Int) (ok : Bool), e = .returned (.tuple #[.agg #[.int .i64 k, .int .i64 a, .int .i64 b, .int .i64 c, .int .i64 d], .bool ok]) ∧ (ok = true → readB s = some ⟨k, a, b, c, d⟩) ∧ (ok = false → readB s = none) :=
  (read_any w hL s hs).mono (by
    rintro e w' ⟨o, ⟨k, a, b, c, d⟩, ok, rfl, h1, h2⟩
    exact ⟨o, k, a, b, c, d, ok, rfl, h1, h2⟩)

/-- What Parse hands back. -/
def ParsePost (w : World) (r : List Ev × Int × Int) (e : Ending) (w' : World) : Prop :=
  Only [] w w' ∧ ∃ v, e = .returned (.tuple #[v, .int .i64 r.2.1, .int .i64 r.2.2]) ∧ EL w' v r.1

set_option maxRecDepth 100000 in
set_option maxHeartbeats 4000000 in
theorem parse_any (w : World) (hL : LibAt w) (s : ByteArray) (hs : s.size ≤ 9223372036854775807) :
    Calls Tryd.prog 10 #[.string s] w (ParsePost w (parseB s.data.toList)) := by
  by_cases hbig : 4194304 < s.size
  · have e : parseB s.data.toList = ([], 0, 2) := by
      unfold parseB; rw [if_pos (by rw [← Lib.size_eq]; exact hbig)]
    rw [e]
    clear e
    go_enter Tryd.func10, Tryd.ntmps10
    go_wp2_with fail
    go_ret3
    exact ⟨Only.refl _ _, _, rfl, none, 0, rfl, by simp, by simp⟩
  · have e : parseB s.data.toList = parseR (s.size + 1) s.data.toList [] 1 := by
      unfold parseB; rw [if_neg (by rw [← Lib.size_eq]; exact hbig), ← Lib.size_eq]
    obtain ⟨R, hR⟩ : ∃ R, R = parseB s.data.toList := ⟨_, rfl⟩
    rw [← hR] at e ⊢
    have RE := Lib.hid e
    have HL := Lib.hid hL
    have hs2 : s.size ≤ 4194304 := by omega
    clear hbig hR e hL hs
    obtain ⟨i0, hi0, hz0, hz1, hz2⟩ := info_parts infoEv
    go_enter Tryd.func10, Tryd.ntmps10
    go_wp2_with fail
    go_loopw [0, 5, 6] (fun s0 s5 s6 wr => ∃ (tx : ByteArray) (out : List Ev) (n f : Nat) (ao : Option Addr) (cap : Nat), s5 = .slice ao out.length cap ∧ s0 = .string tx ∧ tx.size ≤ 4194304 ∧ s6 = .int .i64 n ∧ n ≤ 4194304 + 1 - tx.size ∧ out.length ≤ 65536 ∧ wr.ownsRow w.heap.size 23 5 (.slice ao out.length cap) out.length (flatE out) ∧ tx.size < f ∧ R = parseR f tx.data.toList out n ∧ Only [] w wr) (fun s0 _ _ _ => strLen s0)
    case atStart => exact ⟨s, [], 1, s.size + 1, none, 0, rfl, rfl, hs2, rfl, by omega, by simp, World.ownsRow_nil _ _ _ _, by omega, RE.out, Only.refl _ _⟩
    case round =>
      obtain ⟨tx, out, n, f, ao, cap, rfl, rfl, htx, rfl, hn, hout, hown, hf, hR, ho⟩ := hrel
      obtain ⟨w3, hw3⟩ : ∃ w3, w3 = wr := ⟨_, rfl⟩
      subst hw3
      have OWN := Lib.hid hown
      have PR := Lib.hid hR
      have O3 := Lib.hid ho
      have HF := Lib.hid hf
      clear hown hR ho
      obtain ⟨m, hm⟩ : ∃ m, m = out.length := ⟨_, rfl⟩
      have HM := Lib.hid hm
      rw [← hm] at OWN hout ⊢
      clear hm
      by_cases hemp : tx.data.toList = []
      · have hte : tx.toList = [] := by rw [Lib.toList_data]; exact hemp
        have FIN : Hid (R = (out, 0, 0)) := Lib.hid (by
          rw [PR.out, hemp]
          cases f with
          | zero => rfl
          | succ f => unfold parseR; rw [if_pos rfl])
        clear hemp hf
        go_wp2_with fail
        go_ret3
        exact ⟨O3.out, .slice ao m cap, by rw [FIN.out]; rfl, by rw [FIN.out]; exact el_owns (by rw [← HM.out]; exact OWN.out)⟩
      · have hte : tx.toList.isEmpty = false := by rw [Lib.toList_data]; cases h : tx.data.toList with
          | nil => exact absurd h hemp
          | cons a l => rfl
        have hte2 : (!tx.toList.isEmpty) = true := by rw [hte]; rfl
        obtain ⟨f, rfl⟩ : ∃ f', f = f' + 1 := ⟨f - 1, by omega⟩
        have hcl := cut_len1 tx.data.toList
        have hcr := fun h => cut_len (tx := tx.data.toList) h
        have CT := cut_any w3 (HL.out.keep0 O3.out) tx ⟨#[10]⟩ (by omega)
        have hsep : (⟨#[10]⟩ : ByteArray).data.toList = [10] := rfl
        rw [hsep] at CT
        obtain ⟨line, hline⟩ : ∃ x, x = (Lib.cut tx.data.toList [10]).1 := ⟨_, rfl⟩
        obtain ⟨rest, hrest⟩ : ∃ x, x = (Lib.cut tx.data.toList [10]).2.1 := ⟨_, rfl⟩
        obtain ⟨wh, hwh⟩ : ∃ x, x = (Lib.cut tx.data.toList [10]).2.2 := ⟨_, rfl⟩
        have P1 : R = if wh = true then match readB ⟨line.toArray⟩ with
            | none => ([], (n : Int), 4)
            | some e => if out.length = 65536 then ([], (n : Int), 2) else parseR f rest (out ++ [e]) ((n : Int) + 1)
          else ([], (n : Int), 4) := by
          rw [PR.out, parseR_succ, if_neg hemp, hline, hrest, hwh]; rfl
        rw [← hline, ← hrest, ← hwh] at CT
        rw [← hline, ← Lib.size_eq] at hcl
        rw [← hrest, ← hwh, ← Lib.size_eq] at hcr
        have HCR := Lib.hid hcr
        have PP := Lib.hid P1
        have CTH := Lib.hid CT
        have hll : (⟨line.toArray⟩ : ByteArray).size < 4294967281 := by rw [size_list]; omega
        have HLL := Lib.hid hll
        clear hline hrest hwh hsep hcr P1 CT hemp hf hcl hll PR
        go_wp2_with fail
        refine CTH.out.mono ?_; rintro e w4 ⟨rfl, o4⟩
        have O4 := Lib.hid (O3.out.then0 o4)
        have O34 := Lib.hid o4
        have RA := Lib.hid (read_at w4 (HL.out.keep0 O4.out) ⟨line.toArray⟩ HLL.out)
        clear o4
        go_wp2_with fail
        refine RA.out.mono ?_; rintro e w5 ⟨o5, k, a, b, c, d, ok, rfl, h1, h2⟩
        have O5 := Lib.hid (O4.out.then0 o5)
        have H1 := Lib.hid h1
        have H2 := Lib.hid h2
        have OW5 := Lib.hid (owns_only (owns_only OWN.out O34.out) o5)
        clear o5 h1 h2
        cases wh with
        | false =>
          have FIN : Hid (R = ([], (n : Int), 4)) := Lib.hid (by rw [PP.out]; rfl)
          go_wp2_with fail
          go_ret3
          exact ⟨O5.out.alloc _, .slice none 0 0, by rw [FIN.out]; rfl, by rw [FIN.out]; exact ⟨none, 0, rfl, by simp, by simp⟩⟩
        | true =>
          cases ok with
          | false =>
            have FIN : Hid (R = ([], (n : Int), 4)) := Lib.hid (by rw [PP.out, if_pos rfl, H2.out rfl])
            go_wp2_with fail
            go_ret3
            exact ⟨O5.out.alloc _, .slice none 0 0, by rw [FIN.out]; rfl, by rw [FIN.out]; exact ⟨none, 0, rfl, by simp, by simp⟩⟩
          | true =>
            by_cases hfull : m = 65536
            · subst hfull
              have FIN : Hid (R = ([], (n : Int), 2)) := Lib.hid (by rw [PP.out, if_pos rfl, H1.out rfl]; simp only; rw [if_pos HM.out.symm])
              go_wp2_with fail
              go_ret3
              exact ⟨O5.out.alloc _, .slice none 0 0, by rw [FIN.out]; rfl, by rw [FIN.out]; exact ⟨none, 0, rfl, by simp, by simp⟩⟩
            · have hm2 : ((m : Int) == 65536) = false := by simp; omega
              have FIN : Hid (R = parseR f rest (out ++ [⟨k, a, b, c, d⟩]) ((n : Int) + 1)) := Lib.hid (by rw [PP.out, if_pos rfl, H1.out rfl]; simp only; rw [if_neg (by rw [← HM.out]; exact hfull)])
              have LT := Lib.hid (HCR.out rfl).1
              have NEWS := Lib.hid (news_blk (w := (w5.alloc (.cells #[.int .i64 k, .int .i64 a, .int .i64 b, .int .i64 c, .int .i64 d] 23)).alloc (.cells #[.int .i64 k, .int .i64 a, .int .i64 b, .int .i64 c, .int .i64 d] 23)) (b := w5.heap.size + 1) (l := [.int .i64 k, .int .i64 a, .int .i64 b, .int .i64 c, .int .i64 d]) (T := 23) (f := (0, 0)) (by have h := blk_alloc_new (w5.alloc (.cells #[.int .i64 k, .int .i64 a, .int .i64 b, .int .i64 c, .int .i64 d] 23)) (.cells #[.int .i64 k, .int .i64 a, .int .i64 b, .int .i64 c, .int .i64 d] 23); simpa using h))
              have hsz := O5.out.size
              have hmm : m < 65536 := by omega
              clear hfull
              go_wp2_with (at_builtin; refine wpList_append_own _ rfl _ _ 29 rfl w.heap.size 23 i0 (.agg #[.int .i64 0, .int .i64 0, .int .i64 0, .int .i64 0, .int .i64 0]) 5 40 Tryd.underlying29 hi0 hz0 hz1 hz2 rfl (by decide) _ _ _ rfl ((OW5.out.alloc _).alloc _) ⟨w5.heap.size + 1, 0, none⟩ 1 1 [.int .i64 k, .int .i64 a, .int .i64 b, .int .i64 c, .int .i64 d] rfl rfl NEWS.out (by simp [Value.oneCell']) (by unfold maxLen; omega) (by omega) (by first | omega | (simp; omega)) ?_)
              intro v' w7 hown' hgrow _
              obtain ⟨ao7, cap7, hv7⟩ : ∃ ao7 cap7, v' = .slice ao7 (m + 1) cap7 := by
                rcases hown'.2 with ⟨_, h0⟩ | ⟨g, cap7, cur, hv, _⟩
                · omega
                · exact ⟨_, _, hv⟩
              rw [hv7] at hown' ⊢
              clear hv7
              have OW7 := Lib.hid hown'
              have O7 : Hid (Only [] w w7) := Lib.hid (((O5.out.alloc _).alloc _).grown hgrow (fun q hq => .inr (OW5.out.lt q hq).1))
              clear hown' hgrow
              go_wp2_with fail
              go_roundw
              case rel => exact ⟨⟨rest.toArray⟩, out ++ [⟨k, a, b, c, d⟩], n + 1, f, ao7, cap7, by rw [List.length_append, ← HM.out]; rfl, rfl, by rw [size_list]; have := LT.out; omega, by go_num, by rw [size_list]; have := LT.out; omega, by rw [List.length_append, ← HM.out]; simp; omega, by
                rw [flatE_snoc, List.length_append, ← HM.out]; exact OW7.out, by rw [size_list]; have := LT.out; have := HF.out; omega, by rw [FIN.out]; rfl, O7.out⟩
              case measure => simp only [strLen]; rw [size_list]; exact LT.out
end Go.Proofs.YtncnepmgmphanaaDoor
