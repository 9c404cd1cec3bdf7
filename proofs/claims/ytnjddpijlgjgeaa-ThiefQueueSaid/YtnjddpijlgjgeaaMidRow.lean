/- A slice of the call's own whose elements may lie in the middle of a block: appended to, re-sliced from the front and from the end. -/
import Derived.Test.YtnjddpijlgjgeaaKit
import Derived.ArgAppend
namespace Go.Proofs.Ytnjddpijlgjgeaa
open Go.RowKit
set_option linter.unusedVariables false

/-- The elements xs lie from offset off of block g on; cap cells are there and may be written; the block is not older than base. -/
structure MidAt (w : World) (base g off n cap : Nat) (xs : List Value) : Prop where
  len : xs.length = n
  le : n ≤ cap
  capm : cap ≤ 9223372036854775807
  base : base ≤ g
  lt : g < w.heap.size
  get : ∀ j (h : j < xs.length), w.cell? ⟨g, off + j, none⟩ = some xs[j]
  room : ∀ j, j < cap → (w.cell? ⟨g, off + j, none⟩).isSome = true ∧ w.frozen? ⟨g, off + j, none⟩ = false

def Mid (w : World) (base : Nat) (v : Value) (n : Nat) (xs : List Value) : Prop := (xs = [] ∧ n = 0 ∧ v = .slice none 0 0) ∨ ∃ g off cap, v = .slice (some ⟨g, off, none⟩) n cap ∧ MidAt w base g off n cap xs

theorem Mid.nil (w : World) (base : Nat) : Mid w base (.slice none 0 0) 0 [] := .inl ⟨rfl, rfl, rfl⟩

theorem frozen_of_block {w w' : World} {a : Addr} (h : w'.heap[a.block]? = w.heap[a.block]?) : w'.frozen? a = w.frozen? a := by
  unfold World.frozen?
  rw [h]

theorem MidAt.keep {S : List Nat} {w w' : World} {base g off n cap : Nat} {xs : List Value} (h : MidAt w base g off n cap xs) (o : Only S w w') (hS : ∀ t ∈ S, t < base ∨ w.heap.size ≤ t) : MidAt w' base g off n cap xs := by
  have hg : g ∉ S := fun hm => by have := h.base; have := h.lt; rcases hS g hm with e | e <;> omega
  have hb := o.block g h.lt hg
  exact ⟨h.len, h.le, h.capm, h.base, Nat.lt_of_lt_of_le h.lt o.size, fun j hj => by rw [World.cell?_of_block (a := ⟨g, off + j, none⟩) hb]; exact h.get j hj, fun j hj => by
    rw [World.cell?_of_block (a := ⟨g, off + j, none⟩) hb, frozen_of_block (a := ⟨g, off + j, none⟩) hb]; exact h.room j hj⟩

theorem Mid.keep {S : List Nat} {w w' : World} {base : Nat} {v : Value} {n : Nat} {xs : List Value} (h : Mid w base v n xs) (o : Only S w w') (hS : ∀ t ∈ S, t < base ∨ w.heap.size ≤ t) : Mid w' base v n xs := by
  rcases h with h | ⟨g, off, cap, e, h⟩
  · exact .inl h
  · exact .inr ⟨g, off, cap, e, h.keep o hS⟩

theorem Mid.slice {w : World} {base : Nat} {v : Value} {n : Nat} {xs : List Value} (h : Mid w base v n xs) : (∃ ao cap, v = .slice ao n cap) ∧ xs.length = n := by
  rcases h with ⟨rfl, rfl, rfl⟩ | ⟨g, off, cap, rfl, h⟩
  · exact ⟨⟨none, 0, rfl⟩, rfl⟩
  · exact ⟨⟨_, cap, rfl⟩, h.len⟩

theorem mid_of_owns {w : World} {base : Nat} {T : TypeId} {v : Value} {n : Nat} {xs : List Value} (h : w.ownsRow base T 1 v n xs) : Mid w base v n xs := by
  obtain ⟨hl, ⟨rfl, rfl⟩ | ⟨g, cap, cur, rfl, hb, hh, hn, hc, hs, ht⟩⟩ := h
  · exact .inl ⟨List.eq_nil_of_length_eq_zero (by simpa using hl), rfl, rfl⟩
  · simp only [Nat.mul_one] at hl ht hs
    refine .inr ⟨g, 0, cap, rfl, ⟨hl, hn, by unfold maxLen at hc; omega, hb, lt_of_blk hh, fun j hj => ?_, fun j hj => ?_⟩⟩
    · rw [cell_blk hh, Nat.zero_add]
      have := take_get ht hj
      simpa using this
    · rw [cell_blk hh, Nat.zero_add]
      exact ⟨by rw [Array.getElem?_eq_getElem (by omega)]; rfl, free_blk hh j⟩

/-- Written behind the last element. -/
theorem MidAt.write {w : World} {base g off n cap : Nat} {xs : List Value} (h : MidAt w base g off n cap xs) (hr : n + 1 ≤ cap) (u : Value) (hu : u.oneCell' = true) : MidAt (w.setCells g (off + n) [u]) base g off (n + 1) cap (xs ++ [u]) := by
  have hl := h.len
  have hsz : (w.setCells g (off + n) [u]).heap.size = w.heap.size := by simp [World.setCells, World.setCell]
  refine ⟨by simp; omega, hr, h.capm, h.base, by rw [hsz]; exact h.lt, fun j hj => ?_, fun j hj => ?_⟩
  · by_cases e : j < xs.length
    · rw [List.getElem_append_left e, World.cell?_setCells_out _ _ _ _ _ (fun _ _ => .inl (by simp; omega))]
      exact h.get j e
    · have e2 : j = xs.length := by simp at hj; omega
      subst e2
      have h2 := World.cell?_setCells_in g [u] (off + n) w (fun j hj => by simp at hj; subst hj; exact (h.room n (by omega)).1) 0 (by simp)
      rw [Nat.add_zero, ← hl] at h2
      rw [← hl, h2]
      simp
  · have hf : (w.setCells g (off + n) [u]).frozen? ⟨g, off + j, none⟩ = w.frozen? ⟨g, off + j, none⟩ := World.frozen?_setCells _ _ _ _ _
    rw [hf]
    refine ⟨?_, (h.room j hj).2⟩
    by_cases e : j = n
    · subst e
      have h2 := World.cell?_setCells_in g [u] (off + j) w (fun i hi => by simp at hi; subst hi; exact (h.room j (by omega)).1) 0 (by simp)
      rw [Nat.add_zero] at h2
      rw [h2]; rfl
    · rw [World.cell?_setCells_out _ _ _ _ _ (fun _ _ => by simp; omega)]
      exact (h.room j hj).1

/-- Only new blocks, or blocks that are not older than base, have turned. -/
def Grew (base : Nat) (w w' : World) : Prop := ∃ S : List Nat, (∀ t ∈ S, base ≤ t ∧ t < w.heap.size) ∧ Only S w w'

/-- One element more: written behind the others, or all copied into a new block. -/
theorem wpList_append_mid {P : Program} (w : World) {ops : Array Oper} {rest : List Oper} {o : Oper} {a : Act} {Q : Exit → Act → World → Prop}
    (hg : o.guard = none) (s x : Operand) (t : TypeId) (hop : o.op = Op.call { callee := Callee.builtin Builtin.append, args := #[s, x], argTypes := #[t, t] })
    (base : Nat) (e : TypeId) (i : TypeInfo) (z : Value) (bytes : Nat) (h1 : P.underlying t = some (.slice e)) (h2 : P.info? e = some i) (h3 : i.zero = some z) (h4 : i.size = 1) (h5 : i.bytes = bytes) (h6 : z.cells.size = 1) (hby : bytes ≤ 64)
    (v : Value) (n : Nat) (xs : List Value) (hs : a.eval s = v) (hm : Mid w base v n xs) (hn : n ≤ 1000000) (hbase : base ≤ w.heap.size)
    (ad : Addr) (c : Nat) (u : Value) (hx : a.eval x = .slice (some ad) 1 c) (hc : w.cell? ad = some u) (hu : u.oneCell' = true)
    (hK : ∀ v' w', Mid w' base v' (n + 1) (xs ++ [u]) → Grew base w w' → wpList P ops Q rest (a.put o.dst v') w') :
    wpList P ops Q (o :: rest) a w := by
  have hcn : ∀ j y, [u][j]? = some y → w.cell? (ad.add j) = some y := fun j y hj => by
    have hj0 : j = 0 := by
      rcases Nat.eq_zero_or_pos j with h | h
      · exact h
      · simp [List.getElem?_eq_none (show [u].length ≤ j by simp; omega)] at hj
    subst hj0
    simp at hj
    subst hj
    have : ad.add 0 = ad := by unfold Addr.add; split <;> simp_all
    rw [this]; exact hc
  have hb2 : (n + 1) * bytes ≤ 140737488355328 := by
    have : (n + 1) * bytes ≤ 1000001 * 64 := Nat.mul_le_mul (by omega) hby
    omega
  rcases hm with ⟨rfl, rfl, rfl⟩ | ⟨g, off, cap, rfl, hm⟩
  · refine wpList_append_grows w hg s x t hop e i z 1 bytes h1 h2 h3 h4 h5 h6 (by omega) none 0 0 [] hs (fun _ => ⟨rfl, rfl⟩) rfl (fun b hb => by cases hb) ad 1 c [u] hx rfl hcn (by simpa using hu) (by omega) (by unfold maxLen; omega) hb2 ?_
    intro v' w' hown hgrow
    exact hK v' w' (mid_of_owns (by
      obtain ⟨l1, l2⟩ := hown
      exact ⟨l1, l2.imp id fun ⟨g, cap, cur, q1, q2, q3⟩ => ⟨g, cap, cur, q1, Nat.le_trans hbase q2, q3⟩⟩)) ⟨[], by simp, (Only.refl [] w).grown hgrow (by simp)⟩
  · refine wpList_append_arg w hg s x t hop e i z 1 bytes h1 h2 h3 h4 h5 h6 (by omega) g off n cap xs hs (by rw [hm.len]; omega) (fun j y hj => ?_) ad 1 c [u] hx rfl hcn (by simpa using hu) (fun hr j hj => ?_) (by unfold maxLen; omega) hb2 (fun hr => ?_) (fun hr v' w' hown hgrow => ?_)
    · obtain ⟨hj2, rfl⟩ := List.getElem?_eq_some_iff.1 hj
      exact hm.get j hj2
    · simp at hj
      subst hj
      simp only [Nat.mul_one, Nat.add_zero]
      exact hm.room n (by omega)
    · rw [Nat.mul_one]
      exact hK _ _ (.inr ⟨g, off, cap, rfl, hm.write hr u hu⟩) ⟨[g], by simp; exact ⟨hm.base, hm.lt⟩, (Only.refl [g] w).setCell (by simp) u⟩
    · exact hK v' w' (mid_of_owns (by
        obtain ⟨l1, l2⟩ := hown
        exact ⟨l1, l2.imp id fun ⟨g, cap, cur, q1, q2, q3⟩ => ⟨g, cap, cur, q1, Nat.le_trans hbase q2, q3⟩⟩)) ⟨[], by simp, (Only.refl [] w).grown hgrow (by simp)⟩

/-- The last element goes. -/
theorem Mid.shrink {w : World} {base : Nat} {v : Value} {n : Nat} {xs : List Value} {x : Value} (h : Mid w base v (n + 1) (xs ++ [x])) :
    ∃ g off cap, v = .slice (some ⟨g, off, none⟩) (n + 1) cap ∧ n + 1 ≤ cap ∧ cap ≤ 9223372036854775807 ∧ w.cell? ⟨g, off + n, none⟩ = some x ∧ Mid w base (.slice (some ⟨g, off, none⟩) n cap) n xs := by
  rcases h with ⟨_, h, _⟩ | ⟨g, off, cap, rfl, h⟩
  · omega
  · have hl := h.len
    simp at hl
    have hg := h.get n (by simp; omega)
    rw [List.getElem_append_right (by omega)] at hg
    simp [hl] at hg
    refine ⟨g, off, cap, rfl, h.le, h.capm, hg, .inr ⟨g, off, cap, rfl, ⟨hl, by have := h.le; omega, h.capm, h.base, h.lt, fun j hj => ?_, h.room⟩⟩⟩
    have := h.get j (by simp; omega)
    rw [List.getElem_append_left hj] at this
    exact this

/-- The first element goes. -/
theorem Mid.behead {w : World} {base : Nat} {v : Value} {n : Nat} {xs : List Value} {x : Value} (h : Mid w base v (n + 1) (x :: xs)) :
    ∃ g off cap, v = .slice (some ⟨g, off, none⟩) (n + 1) cap ∧ n + 1 ≤ cap ∧ cap ≤ 9223372036854775807 ∧ w.cell? ⟨g, off, none⟩ = some x ∧ (1 < cap → Mid w base (.slice (some ⟨g, off + 1, none⟩) n (cap - 1)) n xs) ∧ (cap = 1 → n = 0 ∧ xs = [] ∧ Mid w base (.slice (some ⟨g, off, none⟩) 0 0) 0 []) := by
  rcases h with ⟨h, _, _⟩ | ⟨g, off, cap, rfl, h⟩
  · cases h
  · have hl := h.len
    simp at hl
    have hle := h.le
    have hg := h.get 0 (by simp)
    simp at hg
    refine ⟨g, off, cap, rfl, hle, h.capm, hg, fun hc => .inr ⟨g, off + 1, cap - 1, rfl, ⟨hl, by omega, by have := h.capm; omega, h.base, h.lt, fun j hj => ?_, fun j hj => ?_⟩⟩, fun hc => ?_⟩
    · have := h.get (j + 1) (by simp; omega)
      simp only [List.getElem_cons_succ] at this
      rw [show off + 1 + j = off + (j + 1) from by omega]
      exact this
    · rw [show off + 1 + j = off + (j + 1) from by omega]
      exact h.room (j + 1) (by omega)
    · have hn0 : n = 0 := by omega
      subst hn0
      have hx0 : xs = [] := List.eq_nil_of_length_eq_zero hl
      exact ⟨rfl, hx0, .inr ⟨g, off, 0, rfl, ⟨rfl, Nat.le_refl _, by omega, h.base, h.lt, fun j hj => by simp at hj, fun j hj => by omega⟩⟩⟩
end Go.Proofs.Ytnjddpijlgjgeaa
