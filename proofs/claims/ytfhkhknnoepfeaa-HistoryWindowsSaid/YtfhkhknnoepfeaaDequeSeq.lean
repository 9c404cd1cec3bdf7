/- A machine that runs alone on a deque: what it does with the list of the entries. No program in sight. -/
import Derived.Test.YtfhkhknnoepfeaaMachPlain
namespace Go.Proofs.Ytfhkhknnoepfeaa
open Go.RowKit

theorem at_put (s : MS) (kd c x d : Int) : (s.put kd c x).at d = if d = c ∧ 0 ≤ c ∧ c < s.cells.length then x else s.at d := by
  unfold MS.put
  by_cases hc : 0 ≤ c ∧ c < s.cells.length
  · rw [if_pos hc]
    by_cases hd : d = c
    · rw [if_pos ⟨hd, hc⟩]
      subst hd
      unfold MS.at
      have hl : d.toNat < s.cells.length := by omega
      simp only [MS.acc, List.length_set]
      rw [if_pos hc, List.getD_eq_getElem?_getD, List.getElem?_set_self hl]; rfl
    · rw [if_neg (fun h => hd h.1)]
      unfold MS.at
      simp only [MS.acc, List.length_set]
      by_cases he : 0 ≤ d ∧ d < s.cells.length
      · rw [if_pos he, if_pos he, List.getD_eq_getElem?_getD, List.getD_eq_getElem?_getD, List.getElem?_set_ne (by omega)]
      · rw [if_neg he, if_neg he]
  · rw [if_neg hc, if_neg (fun h => hc h.2)]

theorem at_put_same {s : MS} {kd c x : Int} (h : 0 ≤ c ∧ c < s.cells.length) : (s.put kd c x).at c = x := by rw [at_put, if_pos ⟨rfl, h⟩]
theorem at_put_ne {s : MS} {kd c x d : Int} (h : d ≠ c) : (s.put kd c x).at d = s.at d := by rw [at_put, if_neg (fun e => h e.1)]
theorem at_put_at (s : MS) (kd c d : Int) : (s.put kd c (s.at c)).at d = s.at d := by
  rw [at_put]
  by_cases h : d = c ∧ 0 ≤ c ∧ c < s.cells.length
  · rw [if_pos h, h.1]
  · rw [if_neg h]

/-- A machine alone: its code, its value, its number of steps, the memory behind it. -/
def alone : Nat → K → MS → Int × Int × Nat × MS
  | 0, _, s => (-1, 0, 0, s)
  | n + 1, k, s => if (stepK k s).1.over then ((stepK k s).1.code, (stepK k s).1.val, 1, (stepK k s).2) else
      ((alone n (stepK k s).1 (stepK k s).2).1, (alone n (stepK k s).1 (stepK k s).2).2.1, (alone n (stepK k s).1 (stepK k s).2).2.2.1 + 1, (alone n (stepK k s).1 (stepK k s).2).2.2.2)

theorem alone_done {n : Nat} {k k' : K} {s s' : MS} (h : stepK k s = (k', s')) (ho : k'.over = true) : alone (n + 1) k s = (k'.code, k'.val, 1, s') := by
  rw [alone, h, if_pos ho]
theorem alone_more {n : Nat} {k k' : K} {s s' s2 : MS} {c v : Int} {m : Nat} (h : stepK k s = (k', s')) (ho : k'.over = false) (hr : alone n k' s' = (c, v, m, s2)) : alone (n + 1) k s = (c, v, m + 1, s2) := by
  rw [alone, h, if_neg (by rw [ho]; simp), hr]

def q0 (c : Nat) : Q4 := ⟨0, 1, 2, c⟩
def newPush (q : Q4) (v : Int) : K := ⟨0, q, v, 0, 1, 0, 0, 0, false, 0, 0⟩
def newPop (q : Q4) : K := ⟨1, q, 0, 0, 1, 0, 0, 0, false, 0, 0⟩
def newSteal (q : Q4) : K := ⟨2, q, 0, 0, 1, 0, 0, 0, false, 0, 0⟩
def newSet (cell bit : Int) : K := ⟨3, ⟨0, 0, 0, 0⟩, cell, bit, 1, 0, 0, 0, false, 0, 0⟩
def newClear (cell bit : Int) (q : Q4) : K := ⟨4, q, cell, bit, 1, 0, 0, 0, false, 0, 0⟩

/-- The memory holds a deque of capacity c in its first cells: its indices begin with t, its entries are L. -/
structure DQ (s : MS) (c t : Nat) (L : List Int) : Prop where
  one : 1 ≤ c
  len : (c : Int) + 2 ≤ s.cells.length
  top : s.at 0 = t
  bot : s.at 1 = t + L.length
  fit : L.length ≤ c
  big : t + c < 18446744073709551615
  cap : c < 1000
  ent : ∀ i (h : i < L.length), s.at (2 + ((t + i) % c : Nat)) = IntKind.u64.wrap L[i]

theorem sz_of {b t : Int} (n : Int) (h : b - t = n) (h0 : 0 ≤ n) (h1 : n < 1000000) : sz b t = n := by
  unfold sz
  rw [IntKind.wrap_u64, h, IntWalk.wrap64_in _ (by omega)]
  omega
theorem sz_neg {b t : Int} (n : Int) (h : b - t = -n) (h0 : 1 ≤ n) (h1 : n < 1000000) : sz b t = -n := by
  unfold sz
  rw [IntKind.wrap_u64, h]
  have : -n % 18446744073709551616 = 18446744073709551616 - n := by omega
  rw [this]
  unfold wrap64
  omega
theorem inc_of {x : Int} (h0 : 0 ≤ x) (h1 : x < 18446744073709551615) : inc x = x + 1 := by unfold inc; rw [IntKind.wrap_u64]; omega
theorem dec_of {x : Int} (h0 : 1 ≤ x) (h1 : x ≤ 18446744073709551615) : dec x = x - 1 := by unfold dec; rw [IntKind.wrap_u64]; omega

theorem ringI_of {c : Nat} (i : Nat) (h : 1 ≤ c) : ringI (q0 c) i = 2 + ((i % c : Nat) : Int) := by
  unfold ringI q0
  simp only
  rw [if_neg (by omega)]
  simp
theorem ring_bd {c : Nat} (i : Nat) (h : 1 ≤ c) : i % c < c := Nat.mod_lt _ h

/-- Two indices that are less than c apart lie in different places. -/
theorem mod_ne {c i j : Nat} (hij : i < j) (hd : j < i + c) : i % c ≠ j % c := by
  intro h
  have h1 : (j - i) % c = 0 := by
    have := Nat.sub_mod_eq_zero_of_mod_eq h.symm
    exact this
  rw [Nat.mod_eq_of_lt (by omega)] at h1
  omega

/-- The memory's cells are read as before: so is the deque. -/
theorem DQ.same {s s' : MS} {c t : Nat} {L : List Int} (h : DQ s c t L) (hl : s'.cells.length = s.cells.length) (ha : ∀ d, s'.at d = s.at d) : DQ s' c t L :=
  ⟨h.one, by rw [hl]; exact h.len, by rw [ha]; exact h.top, by rw [ha]; exact h.bot, h.fit, h.big, h.cap, fun i hi => by rw [ha]; exact h.ent i hi⟩
theorem DQ.load {s : MS} {c t : Nat} {L : List Int} (h : DQ s c t L) (kd d : Int) : DQ (s.put kd d (s.at d)) c t L := h.same (MS.put_len _ _ _ _) (fun e => at_put_at s kd d e)

theorem DQ.has {s : MS} {c t : Nat} {L : List Int} (h : DQ s c t L) {d : Int} (h0 : 0 ≤ d) (h1 : d < c + 2) : 0 ≤ d ∧ d < s.cells.length := ⟨h0, by have := h.len; omega⟩

/-- Entry by entry, behind a store. -/
theorem DQ.stored {s : MS} {c t : Nat} {L : List Int} (h : DQ s c t L) (x : Int) (hn : L.length < c) :
    let s1 := s.put 2 (2 + ((t + L.length) % c : Nat)) (IntKind.u64.wrap x)
    DQ s1 c t L ∧ DQ (s1.put 2 1 (t + L.length + 1)) c t (L ++ [x]) := by
  intro s1
  have hlen : s1.cells.length = s.cells.length := MS.put_len _ _ _ _
  have hm := ring_bd (t + L.length) h.one
  have hin := h.has (d := 2 + ((t + L.length) % c : Nat)) (by omega) (by omega)
  have hent : ∀ i (hi : i < L.length), s1.at (2 + ((t + i) % c : Nat)) = IntKind.u64.wrap L[i] := fun i hi => by
    rw [at_put_ne, h.ent i hi]
    have := mod_ne (c := c) (i := t + i) (j := t + L.length) (by omega) (by omega)
    omega
  have D1 : DQ s1 c t L := ⟨h.one, by rw [hlen]; exact h.len, by rw [at_put_ne (by omega)]; exact h.top, by rw [at_put_ne (by omega)]; exact h.bot, h.fit, h.big, h.cap, hent⟩
  refine ⟨D1, h.one, by rw [MS.put_len, hlen]; exact h.len, by rw [at_put_ne (by omega)]; exact D1.top, ?_, by simp; omega, h.big, h.cap, fun i hi => ?_⟩
  · rw [at_put_same (by rw [hlen]; exact h.has (by omega) (by omega))]
    simp
    omega
  · rw [at_put_ne (by omega)]
    by_cases hi2 : i < L.length
    · rw [hent i hi2, List.getElem_append_left hi2]
    · have e : i = L.length := by simp at hi; omega
      subst e
      rw [at_put_same hin]
      simp

theorem stepK_push {k : K} {s : MS} (ho : k.over = false) (hk : k.kind = 0) : stepK k s = stepPush k s := by unfold stepK; rw [ho, hk]; simp
theorem stepK_pop {k : K} {s : MS} (ho : k.over = false) (hk : k.kind = 1) : stepK k s = stepPop k s := by unfold stepK; rw [ho, hk]; simp
theorem stepK_steal {k : K} {s : MS} (ho : k.over = false) (hk : k.kind = 2) : stepK k s = stepSteal k s := by unfold stepK; rw [ho, hk]; simp

/-- A push alone. -/
theorem push_alone {s : MS} {c t : Nat} {L : List Int} (h : DQ s c t L) (x : Int) (n : Nat) :
    (L.length = c ∧ ∃ s', alone (n + 4) (newPush (q0 c) x) s = (3, 0, 2, s') ∧ DQ s' c t L) ∨ (L.length < c ∧ ∃ s', alone (n + 4) (newPush (q0 c) x) s = (0, 0, 4, s') ∧ DQ s' c t (L ++ [x])) := by
  have b1 := h.big
  have b2 := h.cap
  have b3 := h.fit
  have hs : sz (s.at 1) (s.at 0) = L.length := sz_of _ (by rw [h.top, h.bot]; omega) (by omega) (by omega)
  have e1 : stepK (newPush (q0 c) x) s = ({ newPush (q0 c) x with u := s.at 1, line := 2 }, s.put 1 1 (s.at 1)) := by rw [stepK_push rfl rfl]; rfl
  have h1 := h.load 1 1
  have h2 := h1.load 1 0
  have a1 : ∀ d, (s.put 1 1 (s.at 1)).at d = s.at d := at_put_at s 1 1
  rcases Nat.lt_or_ge L.length c with hl | hl
  · right
    refine ⟨hl, ?_⟩
    have e2 : stepK { newPush (q0 c) x with u := s.at 1, line := 2 } (s.put 1 1 (s.at 1)) = ({ newPush (q0 c) x with u := s.at 1, v := s.at 0, line := 3 }, (s.put 1 1 (s.at 1)).put 1 0 ((s.put 1 1 (s.at 1)).at 0)) := by
      rw [stepK_push rfl rfl]
      unfold stepPush
      simp only [newPush, q0, a1, hs]
      rw [if_neg (by omega)]
    have hb : s.at 1 = ((t + L.length : Nat) : Int) := by rw [h.bot]; omega
    have e3 : ∀ s0, stepK { newPush (q0 c) x with u := s.at 1, v := s.at 0, line := 3 } s0 = ({ newPush (q0 c) x with u := s.at 1, v := s.at 0, line := 4 }, s0.put 2 (2 + ((t + L.length) % c : Nat)) (IntKind.u64.wrap x)) := by
      intro s0
      rw [stepK_push rfl rfl]
      unfold stepPush
      simp only [newPush, K.go]
      rw [hb, ringI_of _ h.one]
    have e4 : ∀ s0, stepK { newPush (q0 c) x with u := s.at 1, v := s.at 0, line := 4 } s0 = ({ newPush (q0 c) x with u := s.at 1, v := s.at 0, line := 4, over := true }, s0.put 2 1 (t + L.length + 1)) := by
      intro s0
      rw [stepK_push rfl rfl]
      unfold stepPush
      simp only [newPush, K.fin, q0]
      rw [hb, inc_of (by omega) (by omega)]
      simp
    exact ⟨_, alone_more e1 rfl (alone_more e2 rfl (alone_more (e3 _) rfl (alone_done (e4 _) rfl))), (h2.stored x hl).2⟩
  · left
    refine ⟨by omega, ?_⟩
    have e2 : stepK { newPush (q0 c) x with u := s.at 1, line := 2 } (s.put 1 1 (s.at 1)) = (({ newPush (q0 c) x with u := s.at 1, v := s.at 0, line := 2 } : K).fin 3 0, (s.put 1 1 (s.at 1)).put 1 0 ((s.put 1 1 (s.at 1)).at 0)) := by
      rw [stepK_push rfl rfl]
      unfold stepPush
      simp only [newPush, q0, a1, hs]
      rw [if_pos (by omega)]
    exact ⟨_, alone_more e1 rfl (alone_done e2 rfl), h2⟩

theorem DQ.popped {s : MS} {c t : Nat} {L : List Int} {x : Int} (h : DQ s c t (L ++ [x])) : DQ (s.put 2 1 (t + L.length)) c t L := by
  have b := h.fit
  simp at b
  refine ⟨h.one, by rw [MS.put_len]; exact h.len, by rw [at_put_ne (by omega)]; exact h.top, by rw [at_put_same (h.has (by omega) (by omega))], by omega, h.big, h.cap, fun i hi => ?_⟩
  rw [at_put_ne (by omega), h.ent i (by simp; omega), List.getElem_append_left hi]

/-- What an entry reads as. -/
theorem back (x : Int) (h : -9223372036854775808 ≤ x ∧ x ≤ 9223372036854775807) : wrap64 (IntKind.u64.wrap x) = x := by
  rw [IntKind.wrap_u64]
  unfold wrap64
  omega

def inI (x : Int) : Prop := -9223372036854775808 ≤ x ∧ x ≤ 9223372036854775807

/-- A pop alone, nothing there. -/
theorem pop_none {s : MS} {c t : Nat} (h : DQ s c t []) (n : Nat) : ∃ s', alone (n + 2) (newPop (q0 c)) s = (2, 0, 2, s') ∧ DQ s' c t [] := by
  have b1 := h.big
  have hs : sz (s.at 1) (s.at 0) = 0 := sz_of _ (by rw [h.top, h.bot]; simp) (by omega) (by omega)
  have e1 : stepK (newPop (q0 c)) s = ({ newPop (q0 c) with u := s.at 1, line := 2 }, s.put 1 1 (s.at 1)) := by rw [stepK_pop rfl rfl]; rfl
  have a1 : ∀ d, (s.put 1 1 (s.at 1)).at d = s.at d := at_put_at s 1 1
  have e2 : stepK { newPop (q0 c) with u := s.at 1, line := 2 } (s.put 1 1 (s.at 1)) = (({ newPop (q0 c) with u := s.at 1, v := s.at 0, line := 2 } : K).fin 2 0, (s.put 1 1 (s.at 1)).put 1 0 ((s.put 1 1 (s.at 1)).at 0)) := by
    rw [stepK_pop rfl rfl]
    unfold stepPop
    simp only [newPop, q0, a1, hs]
    rw [if_pos (by omega)]
  exact ⟨_, alone_more e1 rfl (alone_done e2 rfl), (h.load 1 1).load 1 0⟩

/-- A pop alone, an entry there: the last one goes. -/
theorem pop_some {s : MS} {c t : Nat} {L : List Int} {x : Int} (h : DQ s c t (L ++ [x])) (hx : inI x) (n : Nat) :
    ∃ s' m t', alone (n + 7) (newPop (q0 c)) s = (1, x, m, s') ∧ m ≤ 7 ∧ (t' = t ∨ (L = [] ∧ t' = t + 1)) ∧ (t' + c < 18446744073709551615 → DQ s' c t' L) ∧ s'.at 0 = t' ∧ s'.at 1 = t' + L.length := by
  have b1 := h.big
  have b2 := h.cap
  have b3 := h.fit
  simp at b3
  have hb : s.at 1 = ((t + L.length + 1 : Nat) : Int) := by rw [h.bot]; simp; omega
  have ht : s.at 0 = (t : Int) := h.top
  have hs : sz ((t + L.length + 1 : Nat) : Int) (t : Int) = L.length + 1 := sz_of _ (by omega) (by omega) (by omega)
  have hd : dec ((t + L.length + 1 : Nat) : Int) = ((t + L.length : Nat) : Int) := by rw [dec_of (by omega) (by omega)]; omega
  have hs2 : sz ((t + L.length : Nat) : Int) (t : Int) = L.length := sz_of _ (by omega) (by omega) (by omega)
  have e1 : stepK (newPop (q0 c)) s = ({ newPop (q0 c) with u := ((t + L.length + 1 : Nat) : Int), line := 2 }, s.put 1 1 (s.at 1)) := by rw [stepK_pop rfl rfl, ← hb]; rfl
  have h1 := h.load 1 1
  have h2 := h1.load 1 0
  have e2 : stepK { newPop (q0 c) with u := ((t + L.length + 1 : Nat) : Int), line := 2 } (s.put 1 1 (s.at 1)) = ({ newPop (q0 c) with u := ((t + L.length + 1 : Nat) : Int), v := (t : Int), line := 3 }, (s.put 1 1 (s.at 1)).put 1 0 ((s.put 1 1 (s.at 1)).at 0)) := by
    rw [stepK_pop rfl rfl]
    unfold stepPop
    simp only [newPop, q0, h1.top, hs]
    rw [if_neg (by omega)]
  generalize (s.put 1 1 (s.at 1)).put 1 0 ((s.put 1 1 (s.at 1)).at 0) = s2 at *
  have e3 : stepK { newPop (q0 c) with u := ((t + L.length + 1 : Nat) : Int), v := (t : Int), line := 3 } s2 = ({ newPop (q0 c) with u := ((t + L.length + 1 : Nat) : Int), v := (t : Int), line := 4 }, s2.put 2 1 (t + L.length)) := by
    rw [stepK_pop rfl rfl]
    unfold stepPop
    simp only [newPop, K.go, q0, hd]
    simp
  have h3 := h2.popped
  have hx3 : (s2.put 2 1 (t + L.length)).at (2 + ((t + L.length) % c : Nat)) = IntKind.u64.wrap x := by
    rw [at_put_ne (by omega), h2.ent L.length (by simp)]
    simp
  have hl3 : (s2.put 2 1 (t + L.length)).cells.length = s2.cells.length := MS.put_len _ _ _ _
  generalize s2.put 2 1 (t + L.length) = s3 at *
  rcases Nat.eq_zero_or_pos L.length with hl | hl
  · have hnil : L = [] := List.eq_nil_of_length_eq_zero hl
    subst hnil
    simp only [List.length_nil, Nat.add_zero] at *
    have e4 : stepK { newPop (q0 c) with u := ((t + 1 : Nat) : Int), v := (t : Int), line := 4 } s3 = ({ newPop (q0 c) with u := ((t + 1 : Nat) : Int), v := (t : Int), line := 6 }, s3.put 1 0 (s3.at 0)) := by
      rw [stepK_pop rfl rfl]
      unfold stepPop
      simp only [newPop, q0, h3.top, hd, hs2]
      simp
    have h4 := h3.load 1 0
    have hx4 : (s3.put 1 0 (s3.at 0)).at (2 + (t % c : Nat)) = IntKind.u64.wrap x := by rw [at_put_at]; exact hx3
    generalize s3.put 1 0 (s3.at 0) = s4 at *
    have e5 : stepK { newPop (q0 c) with u := ((t + 1 : Nat) : Int), v := (t : Int), line := 6 } s4 = ({ newPop (q0 c) with u := ((t + 1 : Nat) : Int), v := (t : Int), line := 7 }, s4.put 3 0 (t + 1)) := by
      rw [stepK_pop rfl rfl]
      unfold stepPop
      have hh : s4.has 0 = true := by unfold MS.has; exact decide_eq_true (h4.has (by omega) (by omega))
      simp only [newPop, q0, K.go, h4.top, hh, casB]
      rw [inc_of (by omega) (by omega)]
      simp
    have l5 : (s4.put 3 0 (t + 1)).cells.length = s4.cells.length := MS.put_len _ _ _ _
    have t5 : (s4.put 3 0 (t + 1)).at 0 = t + 1 := at_put_same (h4.has (by omega) (by omega))
    have x5 : (s4.put 3 0 (t + 1)).at (2 + (t % c : Nat)) = IntKind.u64.wrap x := by rw [at_put_ne (by omega)]; exact hx4
    generalize s4.put 3 0 (t + 1) = s5 at *
    have e6 : stepK { newPop (q0 c) with u := ((t + 1 : Nat) : Int), v := (t : Int), line := 7 } s5 = ({ newPop (q0 c) with u := ((t + 1 : Nat) : Int), v := (t : Int), line := 8 }, s5.put 2 1 ((t + 1 : Nat) : Int)) := by
      rw [stepK_pop rfl rfl]; rfl
    have l6 : (s5.put 2 1 ((t + 1 : Nat) : Int)).cells.length = s5.cells.length := MS.put_len _ _ _ _
    have hin : 0 ≤ (1 : Int) ∧ (1 : Int) < s5.cells.length := by rw [l5]; exact h4.has (by omega) (by omega)
    have b6 : (s5.put 2 1 ((t + 1 : Nat) : Int)).at 1 = ((t + 1 : Nat) : Int) := at_put_same hin
    have t6 : (s5.put 2 1 ((t + 1 : Nat) : Int)).at 0 = t + 1 := by rw [at_put_ne (by omega)]; exact t5
    have x6 : (s5.put 2 1 ((t + 1 : Nat) : Int)).at (2 + (t % c : Nat)) = IntKind.u64.wrap x := by rw [at_put_ne (by omega)]; exact x5
    generalize s5.put 2 1 ((t + 1 : Nat) : Int) = s6 at *
    have e7 : stepK { newPop (q0 c) with u := ((t + 1 : Nat) : Int), v := (t : Int), line := 8 } s6 = (({ newPop (q0 c) with u := ((t + 1 : Nat) : Int), v := (t : Int), line := 8 } : K).fin 1 x, s6.put 1 (2 + (t % c : Nat)) (s6.at (2 + (t % c : Nat)))) := by
      rw [stepK_pop rfl rfl]
      unfold stepPop
      simp only [newPop, hd]
      rw [ringI_of _ h.one, x6, back x hx]
    refine ⟨_, 7, t + 1, alone_more e1 rfl (alone_more e2 rfl (alone_more e3 rfl (alone_more e4 rfl (alone_more e5 rfl (alone_more e6 rfl (alone_done e7 rfl)))))), by omega, .inr (by simp), fun hbig => ?_, ?_, ?_⟩
    · refine ⟨h.one, by rw [MS.put_len, l6, l5]; exact h4.len, by rw [at_put_at, t6]; simp, by rw [at_put_at, b6]; simp, by simp, hbig, h.cap, fun i hi => by simp at hi⟩
    · rw [at_put_at, t6]; simp
    · rw [at_put_at, b6]; simp
  · have e4 : stepK { newPop (q0 c) with u := ((t + L.length + 1 : Nat) : Int), v := (t : Int), line := 4 } s3 = ({ newPop (q0 c) with u := ((t + L.length + 1 : Nat) : Int), v := (t : Int), line := 5 }, s3.put 1 0 (s3.at 0)) := by
      rw [stepK_pop rfl rfl]
      unfold stepPop
      simp only [newPop, q0, h3.top, hd, hs2]
      rw [if_pos (by omega)]
    have h4 := h3.load 1 0
    have hx4 : (s3.put 1 0 (s3.at 0)).at (2 + ((t + L.length) % c : Nat)) = IntKind.u64.wrap x := by rw [at_put_at]; exact hx3
    generalize s3.put 1 0 (s3.at 0) = s4 at *
    have e5 : stepK { newPop (q0 c) with u := ((t + L.length + 1 : Nat) : Int), v := (t : Int), line := 5 } s4 = (({ newPop (q0 c) with u := ((t + L.length + 1 : Nat) : Int), v := (t : Int), line := 5 } : K).fin 1 x, s4.put 1 (2 + ((t + L.length) % c : Nat)) (s4.at (2 + ((t + L.length) % c : Nat)))) := by
      rw [stepK_pop rfl rfl]
      unfold stepPop
      simp only [newPop, hd]
      rw [ringI_of _ h.one, hx4, back x hx]
    refine ⟨_, 5, t, alone_more e1 rfl (alone_more e2 rfl (alone_more e3 rfl (alone_more e4 rfl (alone_done e5 rfl)))), by omega, .inl rfl, fun _ => h4.load 1 _, ?_, ?_⟩
    · rw [at_put_at, h4.top]
    · rw [at_put_at, h4.bot]

/-- A steal alone, nothing there. -/
theorem steal_none {s : MS} {c t : Nat} (h : DQ s c t []) (n : Nat) : ∃ s', alone (n + 2) (newSteal (q0 c)) s = (2, 0, 2, s') ∧ DQ s' c t [] := by
  have b1 := h.big
  have hs : sz (s.at 1) (s.at 0) = 0 := sz_of _ (by rw [h.top, h.bot]; simp) (by omega) (by omega)
  have e1 : stepK (newSteal (q0 c)) s = ({ newSteal (q0 c) with v := s.at 0, line := 2 }, s.put 1 0 (s.at 0)) := by rw [stepK_steal rfl rfl]; rfl
  have a1 : ∀ d, (s.put 1 0 (s.at 0)).at d = s.at d := at_put_at s 1 0
  have e2 : stepK { newSteal (q0 c) with v := s.at 0, line := 2 } (s.put 1 0 (s.at 0)) = (({ newSteal (q0 c) with u := s.at 1, v := s.at 0, line := 2 } : K).fin 2 0, (s.put 1 0 (s.at 0)).put 1 1 ((s.put 1 0 (s.at 0)).at 1)) := by
    rw [stepK_steal rfl rfl]
    unfold stepSteal
    simp only [newSteal, q0, a1, hs]
    rw [if_pos (by omega)]
  exact ⟨_, alone_more e1 rfl (alone_done e2 rfl), (h.load 1 0).load 1 1⟩

/-- A steal alone, an entry there: the first one goes. -/
theorem steal_some {s : MS} {c t : Nat} {L : List Int} {x : Int} (h : DQ s c t (x :: L)) (hx : inI x) (n : Nat) (hbig : t + 1 + c < 18446744073709551615) :
    ∃ s', alone (n + 4) (newSteal (q0 c)) s = (1, x, 4, s') ∧ DQ s' c (t + 1) L := by
  have b2 := h.cap
  have b3 := h.fit
  simp at b3
  have hb : s.at 1 = ((t + L.length + 1 : Nat) : Int) := by rw [h.bot]; simp; omega
  have ht : s.at 0 = (t : Int) := h.top
  have hs : sz ((t + L.length + 1 : Nat) : Int) (t : Int) = L.length + 1 := sz_of _ (by omega) (by omega) (by omega)
  have e1 : stepK (newSteal (q0 c)) s = ({ newSteal (q0 c) with v := (t : Int), line := 2 }, s.put 1 0 (s.at 0)) := by rw [stepK_steal rfl rfl, ← ht]; rfl
  have h1 := h.load 1 0
  have hb1 : (s.put 1 0 (s.at 0)).at 1 = ((t + L.length + 1 : Nat) : Int) := by rw [at_put_at]; exact hb
  generalize s.put 1 0 (s.at 0) = s1 at *
  have e2 : stepK { newSteal (q0 c) with v := (t : Int), line := 2 } s1 = ({ newSteal (q0 c) with u := ((t + L.length + 1 : Nat) : Int), v := (t : Int), line := 3 }, s1.put 1 1 (s1.at 1)) := by
    rw [stepK_steal rfl rfl]
    unfold stepSteal
    simp only [newSteal, q0, hb1, hs]
    rw [if_neg (by omega)]
  have h2 := h1.load 1 1
  generalize s1.put 1 1 (s1.at 1) = s2 at *
  have hx2 : s2.at (2 + (t % c : Nat)) = IntKind.u64.wrap x := by
    have := h2.ent 0 (by simp)
    simpa using this
  have e3 : stepK { newSteal (q0 c) with u := ((t + L.length + 1 : Nat) : Int), v := (t : Int), line := 3 } s2 = ({ newSteal (q0 c) with u := ((t + L.length + 1 : Nat) : Int), v := (t : Int), w := IntKind.u64.wrap x, line := 4 }, s2.put 1 (2 + (t % c : Nat)) (s2.at (2 + (t % c : Nat)))) := by
    rw [stepK_steal rfl rfl]
    unfold stepSteal
    simp only [newSteal]
    rw [ringI_of _ h.one, hx2]
  have h3 := h2.load 1 (2 + (t % c : Nat))
  generalize s2.put 1 (2 + (t % c : Nat)) (s2.at (2 + (t % c : Nat))) = s3 at *
  have e4 : stepK { newSteal (q0 c) with u := ((t + L.length + 1 : Nat) : Int), v := (t : Int), w := IntKind.u64.wrap x, line := 4 } s3 = (({ newSteal (q0 c) with u := ((t + L.length + 1 : Nat) : Int), v := (t : Int), w := IntKind.u64.wrap x, line := 4 } : K).fin 1 x, s3.put 3 0 (t + 1)) := by
    rw [stepK_steal rfl rfl]
    unfold stepSteal
    have hh : s3.has 0 = true := by unfold MS.has; exact decide_eq_true (h3.has (by omega) (by omega))
    simp only [newSteal, q0, h3.top, hh, casB]
    rw [inc_of (by omega) (by omega), back x hx]
    simp
  refine ⟨_, alone_more e1 rfl (alone_more e2 rfl (alone_more e3 rfl (alone_done e4 rfl))), h.one, by rw [MS.put_len]; exact h3.len, by rw [at_put_same (h3.has (by omega) (by omega))]; simp, ?_, by omega, hbig, h.cap, fun i hi => ?_⟩
  · rw [at_put_ne (by omega), h3.bot]
    simp
    omega
  · rw [at_put_ne (by omega)]
    have := h3.ent (i + 1) (by simp; omega)
    simp only [List.getElem_cons_succ] at this
    rw [show t + 1 + i = t + (i + 1) from by omega]
    exact this

theorem alone_ok : ∀ (n : Nat) (k : K) (s : MS), (k.over = false → k.ok) → s.ok → (alone n k s).2.2.2.ok ∧ (alone n k s).2.2.2.cells.length = s.cells.length ∧ s.count ≤ (alone n k s).2.2.2.count ∧ (alone n k s).2.2.2.count ≤ s.count + n
  | 0, k, s, _, hs => ⟨hs, rfl, Int.le_refl _, by simp [alone]⟩
  | n + 1, k, s, hk, hs => by
    have hl := stepK_len k s
    have hc := stepK_count k s
    have ho : (stepK k s).2.ok := by
      cases h : k.over with
      | true => rw [stepK_over h]; exact hs
      | false => exact stepK_mok hs (hk h)
    rw [alone]
    cases h : (stepK k s).1.over with
    | true => rw [if_pos rfl]; exact ⟨ho, hl, hc.1, by simp only; omega⟩
    | false =>
      rw [if_neg (by simp)]
      have hko : k.over = false := by
        cases h2 : k.over
        · rfl
        · rw [stepK_over h2, h2] at h; cases h
      obtain ⟨a, b, c, d⟩ := alone_ok n (stepK k s).1 (stepK k s).2 (fun _ => stepK_ok hs (hk hko) h) ho
      exact ⟨a, b.trans hl, by simp only; omega, by simp only; omega⟩

theorem newPush_ok (c : Nat) (x : Int) (h : c ≤ 1000000) : (newPush (q0 c) x).ok := ⟨by simp [newPush], by simp [newPush], by simp [newPush], by simp [newPush, q0], fun _ => by simp [newPush, q0]; omega, by simp [newPush]⟩
theorem newPop_ok (c : Nat) (h : c ≤ 1000000) : (newPop (q0 c)).ok := ⟨by simp [newPop], by simp [newPop], by simp [newPop], by simp [newPop, q0], fun _ => by simp [newPop, q0]; omega, by simp [newPop]⟩
theorem newSteal_ok (c : Nat) (h : c ≤ 1000000) : (newSteal (q0 c)).ok := ⟨by simp [newSteal], by simp [newSteal], by simp [newSteal], by simp [newSteal, q0], fun _ => by simp [newSteal, q0]; omega, by simp [newSteal]⟩
theorem newSet_ok (a b : Int) : (newSet a b).ok := ⟨by simp [newSet], by simp [newSet], by simp [newSet], by simp [newSet], fun h => by simp [newSet] at h, by simp [newSet]⟩
theorem newClear_ok (a b : Int) (q : Q4) (h : -1 ≤ q.ring ∧ q.ring ≤ 1000000) : (newClear a b q).ok := ⟨by simp [newClear], by simp [newClear], by simp [newClear], h, fun h => by simp [newClear] at h, by simp [newClear]⟩
end Go.Proofs.Ytfhkhknnoepfeaa
