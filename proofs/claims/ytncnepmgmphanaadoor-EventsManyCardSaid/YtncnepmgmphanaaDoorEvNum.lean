/- Numbers out of lists. No condition. -/
import Derived.Test.YtncnepmgmphanaaDoorEvForms
import Derived.Deep.QuietTactic
import Derived.BigQuiet
namespace Go.Proofs.YtncnepmgmphanaaDoor
open Go.RowKit
set_option linter.unusedVariables false

theorem tmod_lo (d : Int) {n : Int} (h : 1 ≤ n) : -n < d.tmod n := by
  rw [Int.tmod_eq_emod]
  have h1 := Int.emod_nonneg d (show n ≠ 0 by omega)
  have h2 := Int.emod_lt_of_pos d (show 0 < n by omega)
  split <;> omega
/-- A draw modulo n. -/
def drw (d n : Int) : Int := if n < 1 then 0 else d % n
theorem drw_lt {d n : Int} (h : n < 1) : drw d n = 0 := if_pos h
theorem drw_neg {d n : Int} (h : 1 ≤ n) (hm : d.tmod n < 0) : drw d n = d.tmod n + n := by
  unfold drw; rw [if_neg (by omega), Int.tmod_eq_emod]
  rw [Int.tmod_eq_emod] at hm
  have h1 := Int.emod_nonneg d (show n ≠ 0 by omega)
  have h2 := Int.emod_lt_of_pos d (show 0 < n by omega)
  have e : (n.natAbs : Int) = n := by omega
  split at hm
  · omega
  · rw [if_neg (by assumption)]; omega
theorem drw_nonneg {d n : Int} (h : 1 ≤ n) (hm : 0 ≤ d.tmod n) : drw d n = d.tmod n := by
  unfold drw; rw [if_neg (by omega), Int.tmod_eq_emod]
  rw [Int.tmod_eq_emod] at hm
  have h1 := Int.emod_nonneg d (show n ≠ 0 by omega)
  have h2 := Int.emod_lt_of_pos d (show 0 < n by omega)
  have e : (n.natAbs : Int) = n := by omega
  split at hm
  · rw [if_pos (by assumption)]; omega
  · omega
theorem wrap_drw {d n : Int} (h : 1 ≤ n) (hn : n ≤ 9223372036854775807) (hm : d.tmod n < 0) : wrap64 (d.tmod n + n) = d.tmod n + n := by
  have := tmod_lo d h
  unfold wrap64; omega
theorem drw_bd (d n : Int) : 0 ≤ drw d n ∧ (1 ≤ n → drw d n < n) := by
  unfold drw
  split
  · omega
  · exact ⟨Int.emod_nonneg d (by omega), fun _ => Int.emod_lt_of_pos d (by omega)⟩

theorem refDraw_any (n d : Int) (w : World) (hn : n ≤ 9223372036854775807) :
   Calls Tryd.prog 16 #[.int .i64 d, .int .i64 n] w fun e w' => e = .returned (.int .i64 (drw d n)) ∧ w = w' := by
  have hn' : Hid (n ≤ 9223372036854775807) := hn
  clear hn
  go_enter Tryd.func16, Tryd.ntmps16
  go_wp2
  · go_ret
    exact ⟨ret_int (drw_lt (by assumption)).symm, rfl⟩
  · go_ret
    exact ⟨ret_int (by rw [drw_neg (by assumption) (by assumption)]; exact wrap_drw (by assumption) hn'.out (by assumption)), rfl⟩
  · go_ret
    exact ⟨ret_int (drw_nonneg (by assumption) (by assumption)).symm, rfl⟩


/-- v is a slice of numbers. -/
def Ns (w : World) (v : Value) (zs : List Int) : Prop := ∃ ao cap, v = .slice ao zs.length cap ∧ CellsAt w ao (zs.map (.int .i64)) ∧ (ao = none → zs = [] ∧ cap = 0) ∧ zs.length ≤ cap
theorem Ns.keep {w w' : World} {v : Value} {l : List Int} (h : Ns w v l) (o : Only [] w w') : Ns w' v l := by
  obtain ⟨ao, cap, rfl, h1, h2, h3⟩ := h
  exact ⟨ao, cap, rfl, h1.keep0 o, h2, h3⟩
theorem ns_new {w : World} {b n : Nat} {T : TypeId} {f : Nat × Nat} (xs : List Int) (hb : w.heap[b]? = some (.cells (xs.map (Value.int .i64)).toArray T f)) (hn : xs.length = n) : Ns w (.slice (some ⟨b, 0, none⟩) n n) xs := by
  subst hn
  refine ⟨_, _, rfl, fun hp => ⟨b, 0, rfl, fun j hj => ?_⟩, (fun e => by cases e), Nat.le_refl _⟩
  rw [cell_blk hb]
  simp at hj
  simp [hj]

theorem number_any (w : World) (v : Value) (zs : List Int) (i : Nat) (n : Int) (h : Ns w v zs) (hn : n ≤ 9223372036854775807) (hl : zs.length ≤ 1000000) (hi : i ≤ 1000000) :
    Calls Tryd.prog 8 #[v, .int .i64 i, .int .i64 n] w fun e w' => ∃ r : Int, e = .returned (.int .i64 r) ∧ 0 ≤ r ∧ (1 ≤ n → r < n) ∧ Only [] w w' := by
  obtain ⟨ao, cap, rfl, h1, h2, h3⟩ := h
  obtain ⟨len, hlen⟩ : ∃ len, len = zs.length := ⟨_, rfl⟩
  rw [← hlen] at hl h3 ⊢
  have HL := Lib.hid hlen
  have HN := Lib.hid hn
  by_cases h0 : len = 0
  · subst h0
    clear hn
    go_enter Tryd.func8, Tryd.ntmps8
    go_wp2_with fail
    go_ret
    exact ⟨0, rfl, by omega, fun h => by omega, Only.refl _ _⟩
  · obtain ⟨b, off, rfl, hc⟩ := h1.ints (by omega)
    have hml : i % len < len := Nat.mod_lt _ (by omega)
    have c0 := fun (q : Nat) => (show (w.drewN q).cell? _ = _ from hc (i % len) (by omega))
    have d0 := hc (i % len) (by omega)
    have hl0 : ((len : Int) == 0) = false := by simp; omega
    have hlp : 0 < len := by omega
    have e1 : (i : Int) % (len : Int) = ((i % len : Nat) : Int) := by omega
    have e2 : (i : Int) / (len : Int) = ((i / len : Nat) : Int) := by omega
    obtain ⟨x, hx⟩ : ∃ x, x = zs.getD (i % len) 0 := ⟨_, rfl⟩
    rw [← hx] at c0 d0
    obtain ⟨p, hp⟩ : ∃ p, p = i % len := ⟨_, rfl⟩
    obtain ⟨q, hq⟩ : ∃ q, q = i / len := ⟨_, rfl⟩
    have hqi : q ≤ 1000000 := by rw [hq]; exact Nat.le_trans (Nat.div_le_self _ _) hi
    rw [← hp] at c0 d0 hml e1
    rw [← hq] at e2
    obtain ⟨s, hs⟩ : ∃ s, (q : Int) % 7 = s := ⟨_, rfl⟩
    have hs1 : 0 ≤ s := by omega
    have hs2 : s ≤ 6 := by omega
    obtain ⟨t, ht⟩ : ∃ t, 1 + s = t := ⟨_, rfl⟩
    have ht1 : 1 ≤ t := by omega
    have ht2 : t ≤ 7 := by omega
    have ht3 : (t == 0) = false := by simp; omega
    have D : ∀ (d : Int) (w : World), Hid (Calls Tryd.prog 16 #[.int .i64 d, .int .i64 n] w fun e w' => e = .returned (.int .i64 (drw d n)) ∧ w' = w) := fun d w' => Lib.hid ((refDraw_any n d w' hn).mono fun _ _ h => ⟨h.1, h.2.symm⟩)
    have B := fun (d : Int) => Lib.hid (drw_bd d n)
    clear h1 h2 h3 hc hx hp hq hlen hn HL
    go_enter Tryd.func8, Tryd.ntmps8
    go_wp2_with fail
    go_quiet ((go_at_call 16; exact Calls.quiet_of_same (D _ _).out))
    go_wp2_with fail
    go_ret
    exact ⟨_, rfl, (B _).out.1, (B _).out.2, (Only.refl _ _).drewN _⟩
end Go.Proofs.YtncnepmgmphanaaDoor
