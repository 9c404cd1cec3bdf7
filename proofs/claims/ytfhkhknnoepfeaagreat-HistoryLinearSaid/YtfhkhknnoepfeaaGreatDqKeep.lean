/- Numbers, short lists, deques in the first cells: package workstealkeep. -/
import Derived.Test.YtfhkhknnoepfeaaGreatMachMem
import Derived.Deep.QuietTactic
import Derived.BigQuiet
namespace Go.Proofs.YtfhkhknnoepfeaaGreat
open Go.RowKit
set_option linter.unusedVariables false

theorem tmod_lo (d : Int) {n : Int} (h : 1 ≤ n) : -n < d.tmod n := by
  rw [Int.tmod_eq_emod]
  have h1 := Int.emod_nonneg d (show n ≠ 0 by omega)
  have h2 := Int.emod_lt_of_pos d (show 0 < n by omega)
  split <;> omega

/-- A draw modulo n. -/
def drw (d n : Int) : Int := if n < 1 then 0 else d % n
theorem drw_lt {d n : Int} (h : n < 1) : drw d n = 0 := if_pos h
theorem drw_neg {d n : Int} (h : 1 ≤ n) (hm : d.tmod n < 0) : drw d n = d.tmod n + n := by
  unfold drw; rw [if_neg (by omega), Int.tmod_eq_emod]
  rw [Int.tmod_eq_emod] at hm
  have h1 := Int.emod_nonneg d (show n ≠ 0 by omega)
  have h2 := Int.emod_lt_of_pos d (show 0 < n by omega)
  have e : (n.natAbs : Int) = n := by omega
  split at hm
  · omega
  · rw [if_neg (by assumption)]; omega
theorem drw_nonneg {d n : Int} (h : 1 ≤ n) (hm : 0 ≤ d.tmod n) : drw d n = d.tmod n := by
  unfold drw; rw [if_neg (by omega), Int.tmod_eq_emod]
  rw [Int.tmod_eq_emod] at hm
  have h1 := Int.emod_nonneg d (show n ≠ 0 by omega)
  have h2 := Int.emod_lt_of_pos d (show 0 < n by omega)
  have e : (n.natAbs : Int) = n := by omega
  split at hm
  · rw [if_pos (by assumption)]; omega
  · omega
theorem wrap_drw {d n : Int} (h : 1 ≤ n) (hn : n ≤ 9223372036854775807) (hm : d.tmod n < 0) : wrap64 (d.tmod n + n) = d.tmod n + n := by
  have := tmod_lo d h
  unfold wrap64; omega
theorem drw_bd (d n : Int) : 0 ≤ drw d n ∧ (1 ≤ n → drw d n < n) := by
  unfold drw
  split
  · omega
  · exact ⟨Int.emod_nonneg d (by omega), fun _ => Int.emod_lt_of_pos d (by omega)⟩

theorem refDraw_any (n d : Int) (w : World) (hn : n ≤ 9223372036854775807) :
   Calls Tryz.prog 15 #[.int .i64 d, .int .i64 n] w fun e w' => e = .returned (.int .i64 (drw d n)) ∧ w = w' := by
  have hn' : Hid (n ≤ 9223372036854775807) := hn
  clear hn
  go_enter Tryz.func15, Tryz.ntmps15
  go_wp2
  · go_ret
    exact ⟨ret_int (drw_lt (by assumption)).symm, rfl⟩
  · go_ret
    exact ⟨ret_int (by rw [drw_neg (by assumption) (by assumption)]; exact wrap_drw (by assumption) hn'.out (by assumption)), rfl⟩
  · go_ret
    exact ⟨ret_int (drw_nonneg (by assumption) (by assumption)).symm, rfl⟩


/-- v is a slice of numbers. -/
def Ns (w : World) (v : Value) (zs : List Int) : Prop := ∃ ao cap, v = .slice ao zs.length cap ∧ CellsAt w ao (zs.map (.int .i64)) ∧ (ao = none → zs = [] ∧ cap = 0) ∧ zs.length ≤ cap
theorem Ns.keep {w w' : World} {v : Value} {l : List Int} (h : Ns w v l) (o : Only [] w w') : Ns w' v l := by
  obtain ⟨ao, cap, rfl, h1, h2, h3⟩ := h
  exact ⟨ao, cap, rfl, h1.keep0 o, h2, h3⟩
theorem ns_new {w : World} {b n : Nat} {T : TypeId} {f : Nat × Nat} (xs : List Int) (hb : w.heap[b]? = some (.cells (xs.map (Value.int .i64)).toArray T f)) (hn : xs.length = n) : Ns w (.slice (some ⟨b, 0, none⟩) n n) xs := by
  subst hn
  refine ⟨_, _, rfl, fun hp => ⟨b, 0, rfl, fun j hj => ?_⟩, (fun e => by cases e), Nat.le_refl _⟩
  rw [cell_blk hb]
  simp at hj
  simp [hj]

/-- Element i of a list as a number from 0 to n - 1. -/
def numZ (zs : List Int) (i : Nat) (n : Int) : Int := if zs.length = 0 then 0 else drw (wrap64 ((zs.getD (i % zs.length) 0).tdiv (1 + ((i / zs.length : Nat) : Int) % 7))) n
theorem numZ_bd (zs : List Int) (i : Nat) {n : Int} (h : 1 ≤ n) : 0 ≤ numZ zs i n ∧ numZ zs i n < n := by
  unfold numZ
  by_cases h0 : zs.length = 0
  · rw [if_pos h0]; omega
  · rw [if_neg h0]; exact ⟨(drw_bd _ _).1, (drw_bd _ _).2 h⟩

theorem number_any (w : World) (v : Value) (zs : List Int) (i : Nat) (n : Int) (h : Ns w v zs) (hn : n ≤ 9223372036854775807) (hl : zs.length ≤ 1000000) (hi : i ≤ 1000000) :
    Calls Tryz.prog 8 #[v, .int .i64 i, .int .i64 n] w fun e w' => e = .returned (.int .i64 (numZ zs i n)) ∧ Only [] w w' := by
  obtain ⟨ao, cap, rfl, h1, h2, h3⟩ := h
  obtain ⟨len, hlen⟩ : ∃ len, len = zs.length := ⟨_, rfl⟩
  rw [← hlen] at hl h3 ⊢
  have HL := Lib.hid hlen
  have HN := Lib.hid hn
  by_cases h0 : len = 0
  · subst h0
    clear hn
    go_enter Tryz.func8, Tryz.ntmps8
    go_wp2_with fail
    go_ret
    exact ⟨ret_int (by rw [numZ, if_pos HL.out.symm]), Only.refl _ _⟩
  · obtain ⟨b, off, rfl, hc⟩ := h1.ints (by omega)
    have hml : i % len < len := Nat.mod_lt _ (by omega)
    have c0 := fun (q : Nat) => (show (w.drewN q).cell? _ = _ from hc (i % len) (by omega))
    have d0 := hc (i % len) (by omega)
    have hl0 : ((len : Int) == 0) = false := by simp; omega
    have hlp : 0 < len := by omega
    have e1 : (i : Int) % (len : Int) = ((i % len : Nat) : Int) := by omega
    have e2 : (i : Int) / (len : Int) = ((i / len : Nat) : Int) := by omega
    obtain ⟨x, hx⟩ : ∃ x, x = zs.getD (i % len) 0 := ⟨_, rfl⟩
    rw [← hx] at c0 d0
    obtain ⟨p, hp⟩ : ∃ p, p = i % len := ⟨_, rfl⟩
    obtain ⟨q, hq⟩ : ∃ q, q = i / len := ⟨_, rfl⟩
    have hqi : q ≤ 1000000 := by rw [hq]; exact Nat.le_trans (Nat.div_le_self _ _) hi
    rw [← hp] at c0 d0 hml e1
    rw [← hq] at e2
    obtain ⟨s, hs⟩ : ∃ s, (q : Int) % 7 = s := ⟨_, rfl⟩
    have hs1 : 0 ≤ s := by omega
    have hs2 : s ≤ 6 := by omega
    obtain ⟨t, ht⟩ : ∃ t, 1 + s = t := ⟨_, rfl⟩
    have ht1 : 1 ≤ t := by omega
    have ht2 : t ≤ 7 := by omega
    have ht3 : (t == 0) = false := by simp; omega
    have D : ∀ (d : Int) (w : World), Hid (Calls Tryz.prog 15 #[.int .i64 d, .int .i64 n] w fun e w' => e = .returned (.int .i64 (drw d n)) ∧ w' = w) := fun d w' => Lib.hid ((refDraw_any n d w' hn).mono fun _ _ h => ⟨h.1, h.2.symm⟩)
    have B := fun (d : Int) => Lib.hid (drw_bd d n)
    have HXX := Lib.hid hx
    have HPP := Lib.hid hp
    have HQQ := Lib.hid hq
    clear h1 h2 h3 hc hx hp hq hlen hn
    go_enter Tryz.func8, Tryz.ntmps8
    go_wp2_with fail
    go_quiet ((go_at_call 15; exact Calls.quiet_of_same (D _ _).out))
    go_wp2_with fail
    go_ret
    exact ⟨ret_int (by rw [numZ, if_neg (by rw [← HL.out]; omega)]; rw [HXX.out, ← ht, ← hs, HQQ.out, HL.out]), (Only.refl _ _).drewN _⟩

theorem blk_new {w : World} {b : Nat} (o : Obj) (h : b = w.heap.size) : (w.alloc o).heap[b]? = some o := by subst h; exact blk_alloc_new w o

/-- Slices by their address, length, capacity. -/
def sl3 (x : Option Addr × Nat × Nat) : Value := .slice x.1 x.2.1 x.2.2

theorem short_any (w : World) (ao : Option Addr) (nb cap : Nat) (hnb : nb ≤ 9223372036854775807) (B : Nat) (T : TypeId) (f : Nat × Nat) (ns : List (Option Addr × Nat × Nat)) (n : Nat) (hn : n = ns.length) (hn2 : n ≤ 100) (hb : w.heap[B]? = some (.cells (ns.map sl3).toArray T f))
    (hns : ∀ x ∈ ns, x.2.1 ≤ 9223372036854775807) :
    Calls Tryz.prog 6 #[.slice ao nb cap, .slice (some ⟨B, 0, none⟩) n n] w fun e w' => e = .returned (.bool (decide (∀ x ∈ ns, x.2.1 ≤ 400) && decide (nb ≤ 400))) ∧ w = w' := by
  have HN := Lib.hid hn
  have HB := Lib.hid hb
  have HS := Lib.hid hns
  obtain ⟨r, hr⟩ : ∃ r, r = (decide (∀ x ∈ ns, x.2.1 ≤ 400) && decide (nb ≤ 400)) := ⟨_, rfl⟩
  rw [← hr]
  have HR := Lib.hid hr
  clear hn hb hns hr
  go_enter Tryz.func6, Tryz.ntmps6
  go_wp2_with fail
  go_loop [5] (fun i => ∃ k : Nat, k ≤ n ∧ i = .int .i64 k ∧ ∀ j x, j < k → ns[j]? = some x → x.2.1 ≤ 400) (fun i => n - (intOf i).toNat)
  case atStart => exact ⟨0, Nat.zero_le _, rfl, fun j x hj => by omega⟩
  case round =>
    obtain ⟨k, hk, rfl, hall⟩ := hrel
    have HA := Lib.hid hall
    clear hall
    by_cases hlt : k < n
    · have hkn : k < ns.length := by have := HN.out; omega
      have c0 := cell_blk HB.out k
      have HX := Lib.hid (HS.out ns[k] (List.getElem_mem hkn))
      obtain ⟨x, hx⟩ : ∃ x, x = ns[k] := ⟨_, rfl⟩
      have HXK : Hid (ns[k]? = some x) := Lib.hid (by rw [List.getElem?_eq_getElem hkn, hx])
      have hmem : Hid (x ∈ ns) := Lib.hid (by rw [hx]; exact List.getElem_mem hkn)
      simp [hkn, ← hx] at c0
      rw [← hx] at HX
      clear hx
      obtain ⟨a, m, c⟩ := x
      simp only [sl3] at c0 HX
      have hx2 := HX.out
      by_cases h4 : m ≤ 400
      · have h5 : ¬ 400 < m := by omega
        go_wp2_with fail
        go_round
        case rel => exact ⟨k + 1, by omega, by go_num, fun j x hj hx => by
          by_cases e : j = k
          · subst e
            rw [HXK.out] at hx
            cases hx
            exact h4
          · exact HA.out j x (by omega) hx⟩
        case measure => simp [intOf]; omega
      · have h5 : 400 < m := by omega
        have hf : Hid ((decide (∀ x ∈ ns, x.2.1 ≤ 400) && decide (nb ≤ 400)) = false) := Lib.hid (by
          rw [decide_eq_false (fun h => h4 (h _ hmem.out))]; rfl)
        go_wp2_with fail
        go_ret
        exact ⟨ret_bool (by rw [HR.out]; exact hf.out.symm), rfl⟩
    · have hf : Hid (decide (∀ x ∈ ns, x.2.1 ≤ 400) = true) := Lib.hid (decide_eq_true (fun x hx => by
        obtain ⟨j, hj, rfl⟩ := List.getElem_of_mem hx
        exact HA.out j _ (by have := HN.out; omega) (List.getElem?_eq_getElem hj)))
      by_cases h4 : nb ≤ 400
      · go_wp2_with fail
        go_ret
        exact ⟨ret_bool (by rw [HR.out, hf.out, decide_eq_true h4]; simp; omega), rfl⟩
      · have h5 : 400 < nb := by omega
        go_wp2_with fail
        go_ret
        exact ⟨ret_bool (by rw [HR.out, hf.out, decide_eq_false h4]; simp; omega), rfl⟩


theorem ring_any (w : World) (q : Q4) (i : Int) (h0 : 0 ≤ i) (_h1 : i ≤ 18446744073709551615) (hr : -1 ≤ q.ring ∧ q.ring ≤ 1000000) (hc : q.cap ≤ 1000000) :
    Calls Tryz.prog 85 #[q.v, .int .u64 i] w fun e w' => e = .returned (.int .i64 (ringI q i)) ∧ Only [] w w' := by
  obtain ⟨qt, qb, qr, qc⟩ := q
  obtain ⟨r1, r2⟩ := hr
  simp only at r1 r2 hc
  have ER := Lib.hid (show ringI ⟨qt, qb, qr, qc⟩ i = if qc < 1 then -1 else qr + i % qc from rfl)
  by_cases h : qc < 1
  · go_enter Tryz.func85, Tryz.ntmps85
    simp only [Q4.v]
    go_wp2_with fail
    go_ret
    exact ⟨ret_int (by rw [ER.out, if_pos h]), (Only.refl _ _).alloc _⟩
  · have h2 : 1 ≤ qc := by omega
    obtain ⟨r, hr⟩ : ∃ r, r = i % qc := ⟨_, rfl⟩
    have hr1 : 0 ≤ r := by rw [hr]; exact Int.emod_nonneg _ (by omega)
    have hr2 : r < qc := by rw [hr]; exact Int.emod_lt_of_pos _ (by omega)
    have HR := Lib.hid hr
    have hq : (qc == 0) = false := by simp; omega
    have hw1 : IntKind.u64.wrap qc = qc := by rw [IntKind.wrap_u64]; omega
    have hw2 : i.tmod qc = r := by rw [hr, Int.tmod_eq_emod_of_nonneg h0]
    have hw3 : IntKind.u64.wrap r = r := by rw [IntKind.wrap_u64]; omega
    have hw4 : IntKind.i64.wrap r = r := IntWalk.i64_in _ (by omega)
    have hw5 : IntKind.i64.wrap (qr + r) = qr + r := IntWalk.i64_in _ (by omega)
    have hq0 : ¬ qc = 0 := by omega
    clear hr
    go_enter Tryz.func85, Tryz.ntmps85
    simp only [Q4.v]
    go_wp2_with fail
    go_quiet (fail)
    go_wp2_with fail
    go_ret
    exact ⟨ret_int (by rw [ER.out, if_neg (by omega), ← HR.out]), ((Only.refl _ _).alloc _).drewN _⟩


end Go.Proofs.YtfhkhknnoepfeaaGreat
