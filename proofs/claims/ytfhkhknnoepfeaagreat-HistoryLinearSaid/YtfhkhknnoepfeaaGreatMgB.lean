/- A machine that runs alone on a deque: what it does with the list of the entries. No program in sight. -/
import Derived.Test.YtfhkhknnoepfeaaGreatMachPlain
import Derived.Test.YtfhkhknnoepfeaaGreatMgA
namespace Go.Proofs.YtfhkhknnoepfeaaGreat
open Go.RowKit

theorem at_put (s : MS) (kd c x d : Int) : (s.put kd c x).at d = if d = c ∧ 0 ≤ c ∧ c < s.cells.length then x else s.at d := by
  unfold MS.put
  by_cases hc : 0 ≤ c ∧ c < s.cells.length
  · rw [if_pos hc]
    by_cases hd : d = c
    · rw [if_pos ⟨hd, hc⟩]
      subst hd
      unfold MS.at
      have hl : d.toNat < s.cells.length := by omega
      simp only [MS.acc, List.length_set]
      rw [if_pos hc, List.getD_eq_getElem?_getD, List.getElem?_set_self hl]; rfl
    · rw [if_neg (fun h => hd h.1)]
      unfold MS.at
      simp only [MS.acc, List.length_set]
      by_cases he : 0 ≤ d ∧ d < s.cells.length
      · rw [if_pos he, if_pos he, List.getD_eq_getElem?_getD, List.getD_eq_getElem?_getD, List.getElem?_set_ne (by omega)]
      · rw [if_neg he, if_neg he]
  · rw [if_neg hc, if_neg (fun h => hc h.2)]

theorem at_put_same {s : MS} {kd c x : Int} (h : 0 ≤ c ∧ c < s.cells.length) : (s.put kd c x).at c = x := by rw [at_put, if_pos ⟨rfl, h⟩]
theorem at_put_ne {s : MS} {kd c x d : Int} (h : d ≠ c) : (s.put kd c x).at d = s.at d := by rw [at_put, if_neg (fun e => h e.1)]
theorem at_put_at (s : MS) (kd c d : Int) : (s.put kd c (s.at c)).at d = s.at d := by
  rw [at_put]
  by_cases h : d = c ∧ 0 ≤ c ∧ c < s.cells.length
  · rw [if_pos h, h.1]
  · rw [if_neg h]

/-- A machine alone: its code, its value, its number of steps, the memory behind it. -/
def alone : Nat → K → MS → Int × Int × Nat × MS
  | 0, _, s => (-1, 0, 0, s)
  | n + 1, k, s => if (stepK k s).1.over then ((stepK k s).1.code, (stepK k s).1.val, 1, (stepK k s).2) else
      ((alone n (stepK k s).1 (stepK k s).2).1, (alone n (stepK k s).1 (stepK k s).2).2.1, (alone n (stepK k s).1 (stepK k s).2).2.2.1 + 1, (alone n (stepK k s).1 (stepK k s).2).2.2.2)

theorem alone_done {n : Nat} {k k' : K} {s s' : MS} (h : stepK k s = (k', s')) (ho : k'.over = true) : alone (n + 1) k s = (k'.code, k'.val, 1, s') := by
  rw [alone, h, if_pos ho]
theorem alone_more {n : Nat} {k k' : K} {s s' s2 : MS} {c v : Int} {m : Nat} (h : stepK k s = (k', s')) (ho : k'.over = false) (hr : alone n k' s' = (c, v, m, s2)) : alone (n + 1) k s = (c, v, m + 1, s2) := by
  rw [alone, h, if_neg (by rw [ho]; simp), hr]

def q0 (c : Nat) : Q4 := ⟨0, 1, 2, c⟩
def newPush (q : Q4) (v : Int) : K := ⟨0, q, v, 0, 1, 0, 0, 0, false, 0, 0⟩
def newPop (q : Q4) : K := ⟨1, q, 0, 0, 1, 0, 0, 0, false, 0, 0⟩
def newSteal (q : Q4) : K := ⟨2, q, 0, 0, 1, 0, 0, 0, false, 0, 0⟩
def newSet (cell bit : Int) : K := ⟨3, ⟨0, 0, 0, 0⟩, cell, bit, 1, 0, 0, 0, false, 0, 0⟩
def newClear (cell bit : Int) (q : Q4) : K := ⟨4, q, cell, bit, 1, 0, 0, 0, false, 0, 0⟩

/-- The memory holds a deque of capacity c in its first cells: its indices begin with t, its entries are L. -/
structure DQ (s : MS) (c t : Nat) (L : List Int) : Prop where
  one : 1 ≤ c
  len : (c : Int) + 2 ≤ s.cells.length
  top : s.at 0 = t
  bot : s.at 1 = t + L.length
  fit : L.length ≤ c
  big : t + c < 18446744073709551615
  cap : c < 1000
  ent : ∀ i (h : i < L.length), s.at (2 + ((t + i) % c : Nat)) = IntKind.u64.wrap L[i]

theorem sz_of {b t : Int} (n : Int) (h : b - t = n) (h0 : 0 ≤ n) (h1 : n < 1000000) : sz b t = n := by
  unfold sz
  rw [IntKind.wrap_u64, h, IntWalk.wrap64_in _ (by omega)]
  omega
theorem sz_neg {b t : Int} (n : Int) (h : b - t = -n) (h0 : 1 ≤ n) (h1 : n < 1000000) : sz b t = -n := by
  unfold sz
  rw [IntKind.wrap_u64, h]
  have : -n % 18446744073709551616 = 18446744073709551616 - n := by omega
  rw [this]
  unfold wrap64
  omega
theorem inc_of {x : Int} (h0 : 0 ≤ x) (h1 : x < 18446744073709551615) : inc x = x + 1 := by unfold inc; rw [IntKind.wrap_u64]; omega
theorem dec_of {x : Int} (h0 : 1 ≤ x) (h1 : x ≤ 18446744073709551615) : dec x = x - 1 := by unfold dec; rw [IntKind.wrap_u64]; omega

theorem ringI_of {c : Nat} (i : Nat) (h : 1 ≤ c) : ringI (q0 c) i = 2 + ((i % c : Nat) : Int) := by
  unfold ringI q0
  simp only
  rw [if_neg (by omega)]
  simp
theorem ring_bd {c : Nat} (i : Nat) (h : 1 ≤ c) : i % c < c := Nat.mod_lt _ h

/-- Two indices that are less than c apart lie in different places. -/
theorem mod_ne {c i j : Nat} (hij : i < j) (hd : j < i + c) : i % c ≠ j % c := by
  intro h
  have h1 : (j - i) % c = 0 := by
    have := Nat.sub_mod_eq_zero_of_mod_eq h.symm
    exact this
  rw [Nat.mod_eq_of_lt (by omega)] at h1
  omega

/-- The memory's cells are read as before: so is the deque. -/
theorem DQ.same {s s' : MS} {c t : Nat} {L : List Int} (h : DQ s c t L) (hl : s'.cells.length = s.cells.length) (ha : ∀ d, s'.at d = s.at d) : DQ s' c t L :=
  ⟨h.one, by rw [hl]; exact h.len, by rw [ha]; exact h.top, by rw [ha]; exact h.bot, h.fit, h.big, h.cap, fun i hi => by rw [ha]; exact h.ent i hi⟩
theorem DQ.load {s : MS} {c t : Nat} {L : List Int} (h : DQ s c t L) (kd d : Int) : DQ (s.put kd d (s.at d)) c t L := h.same (MS.put_len _ _ _ _) (fun e => at_put_at s kd d e)

theorem DQ.has {s : MS} {c t : Nat} {L : List Int} (h : DQ s c t L) {d : Int} (h0 : 0 ≤ d) (h1 : d < c + 2) : 0 ≤ d ∧ d < s.cells.length := ⟨h0, by have := h.len; omega⟩

/-- Entry by entry, behind a store. -/
theorem DQ.stored {s : MS} {c t : Nat} {L : List Int} (h : DQ s c t L) (x : Int) (hn : L.length < c) :
    let s1 := s.put 2 (2 + ((t + L.length) % c : Nat)) (IntKind.u64.wrap x)
    DQ s1 c t L ∧ DQ (s1.put 2 1 (t + L.length + 1)) c t (L ++ [x]) := by
  intro s1
  have hlen : s1.cells.length = s.cells.length := MS.put_len _ _ _ _
  have hm := ring_bd (t + L.length) h.one
  have hin := h.has (d := 2 + ((t + L.length) % c : Nat)) (by omega) (by omega)
  have hent : ∀ i (hi : i < L.length), s1.at (2 + ((t + i) % c : Nat)) = IntKind.u64.wrap L[i] := fun i hi => by
    rw [at_put_ne, h.ent i hi]
    have := mod_ne (c := c) (i := t + i) (j := t + L.length) (by omega) (by omega)
    omega
  have D1 : DQ s1 c t L := ⟨h.one, by rw [hlen]; exact h.len, by rw [at_put_ne (by omega)]; exact h.top, by rw [at_put_ne (by omega)]; exact h.bot, h.fit, h.big, h.cap, hent⟩
  refine ⟨D1, h.one, by rw [MS.put_len, hlen]; exact h.len, by rw [at_put_ne (by omega)]; exact D1.top, ?_, by simp; omega, h.big, h.cap, fun i hi => ?_⟩
  · rw [at_put_same (by rw [hlen]; exact h.has (by omega) (by omega))]
    simp
    omega
  · rw [at_put_ne (by omega)]
    by_cases hi2 : i < L.length
    · rw [hent i hi2, List.getElem_append_left hi2]
    · have e : i = L.length := by simp at hi; omega
      subst e
      rw [at_put_same hin]
      simp

theorem stepK_push {k : K} {s : MS} (ho : k.over = false) (hk : k.kind = 0) : stepK k s = stepPush k s := by unfold stepK; rw [ho, hk]; simp
theorem stepK_pop {k : K} {s : MS} (ho : k.over = false) (hk : k.kind = 1) : stepK k s = stepPop k s := by unfold stepK; rw [ho, hk]; simp
theorem stepK_steal {k : K} {s : MS} (ho : k.over = false) (hk : k.kind = 2) : stepK k s = stepSteal k s := by unfold stepK; rw [ho, hk]; simp

/-- A push alone. -/
theorem push_alone {s : MS} {c t : Nat} {L : List Int} (h : DQ s c t L) (x : Int) (n : Nat) :
    (L.length = c ∧ ∃ s', alone (n + 4) (newPush (q0 c) x) s = (3, 0, 2, s') ∧ DQ s' c t L) ∨ (L.length < c ∧ ∃ s', alone (n + 4) (newPush (q0 c) x) s = (0, 0, 4, s') ∧ DQ s' c t (L ++ [x])) := by
  have b1 := h.big
  have b2 := h.cap
  have b3 := h.fit
  have hs : sz (s.at 1) (s.at 0) = L.length := sz_of _ (by rw [h.top, h.bot]; omega) (by omega) (by omega)
  have e1 : stepK (newPush (q0 c) x) s = ({ newPush (q0 c) x with u := s.at 1, line := 2 }, s.put 1 1 (s.at 1)) := by rw [stepK_push rfl rfl]; rfl
  have h1 := h.load 1 1
  have h2 := h1.load 1 0
  have a1 : ∀ d, (s.put 1 1 (s.at 1)).at d = s.at d := at_put_at s 1 1
  rcases Nat.lt_or_ge L.length c with hl | hl
  · right
    refine ⟨hl, ?_⟩
    have e2 : stepK { newPush (q0 c) x with u := s.at 1, line := 2 } (s.put 1 1 (s.at 1)) = ({ newPush (q0 c) x with u := s.at 1, v := s.at 0, line := 3 }, (s.put 1 1 (s.at 1)).put 1 0 ((s.put 1 1 (s.at 1)).at 0)) := by
      rw [stepK_push rfl rfl]
      unfold stepPush
      simp only [newPush, q0, a1, hs]
      rw [if_neg (by omega)]
    have hb : s.at 1 = ((t + L.length : Nat) : Int) := by rw [h.bot]; omega
    have e3 : ∀ s0, stepK { newPush (q0 c) x with u := s.at 1, v := s.at 0, line := 3 } s0 = ({ newPush (q0 c) x with u := s.at 1, v := s.at 0, line := 4 }, s0.put 2 (2 + ((t + L.length) % c : Nat)) (IntKind.u64.wrap x)) := by
      intro s0
      rw [stepK_push rfl rfl]
      unfold stepPush
      simp only [newPush, K.go]
      rw [hb, ringI_of _ h.one]
    have e4 : ∀ s0, stepK { newPush (q0 c) x with u := s.at 1, v := s.at 0, line := 4 } s0 = ({ newPush (q0 c) x with u := s.at 1, v := s.at 0, line := 4, over := true }, s0.put 2 1 (t + L.length + 1)) := by
      intro s0
      rw [stepK_push rfl rfl]
      unfold stepPush
      simp only [newPush, K.fin, q0]
      rw [hb, inc_of (by omega) (by omega)]
      simp
    exact ⟨_, alone_more e1 rfl (alone_more e2 rfl (alone_more (e3 _) rfl (alone_done (e4 _) rfl))), (h2.stored x hl).2⟩
  · left
    refine ⟨by omega, ?_⟩
    have e2 : stepK { newPush (q0 c) x with u := s.at 1, line := 2 } (s.put 1 1 (s.at 1)) = (({ newPush (q0 c) x with u := s.at 1, v := s.at 0, line := 2 } : K).fin 3 0, (s.put 1 1 (s.at 1)).put 1 0 ((s.put 1 1 (s.at 1)).at 0)) := by
      rw [stepK_push rfl rfl]
      unfold stepPush
      simp only [newPush, q0, a1, hs]
      rw [if_pos (by omega)]
    exact ⟨_, alone_more e1 rfl (alone_done e2 rfl), h2⟩

theorem DQ.popped {s : MS} {c t : Nat} {L : List Int} {x : Int} (h : DQ s c t (L ++ [x])) : DQ (s.put 2 1 (t + L.length)) c t L := by
  have b := h.fit
  simp at b
  refine ⟨h.one, by rw [MS.put_len]; exact h.len, by rw [at_put_ne (by omega)]; exact h.top, by rw [at_put_same (h.has (by omega) (by omega))], by omega, h.big, h.cap, fun i hi => ?_⟩
  rw [at_put_ne (by omega), h.ent i (by simp; omega), List.getElem_append_left hi]

/-- What an entry reads as. -/
theorem back (x : Int) (h : -9223372036854775808 ≤ x ∧ x ≤ 9223372036854775807) : wrap64 (IntKind.u64.wrap x) = x := by
  rw [IntKind.wrap_u64]
  unfold wrap64
  omega

def inI (x : Int) : Prop := -9223372036854775808 ≤ x ∧ x ≤ 9223372036854775807

/-- A pop alone, nothing there. -/
theorem pop_none {s : MS} {c t : Nat} (h : DQ s c t []) (n : Nat) : ∃ s', alone (n + 2) (newPop (q0 c)) s = (2, 0, 2, s') ∧ DQ s' c t [] := by
  have b1 := h.big
  have hs : sz (s.at 1) (s.at 0) = 0 := sz_of _ (by rw [h.top, h.bot]; simp) (by omega) (by omega)
  have e1 : stepK (newPop (q0 c)) s = ({ newPop (q0 c) with u := s.at 1, line := 2 }, s.put 1 1 (s.at 1)) := by rw [stepK_pop rfl rfl]; rfl
  have a1 : ∀ d, (s.put 1 1 (s.at 1)).at d = s.at d := at_put_at s 1 1
  have e2 : stepK { newPop (q0 c) with u := s.at 1, line := 2 } (s.put 1 1 (s.at 1)) = (({ newPop (q0 c) with u := s.at 1, v := s.at 0, line := 2 } : K).fin 2 0, (s.put 1 1 (s.at 1)).put 1 0 ((s.put 1 1 (s.at 1)).at 0)) := by
    rw [stepK_pop rfl rfl]
    unfold stepPop
    simp only [newPop, q0, a1, hs]
    rw [if_pos (by omega)]
  exact ⟨_, alone_more e1 rfl (alone_done e2 rfl), (h.load 1 1).load 1 0⟩

/-- A pop alone, an entry there: the last one goes. -/
theorem pop_some {s : MS} {c t : Nat} {L : List Int} {x : Int} (h : DQ s c t (L ++ [x])) (hx : inI x) (n : Nat) :
    ∃ s' m t', alone (n + 7) (newPop (q0 c)) s = (1, x, m, s') ∧ m ≤ 7 ∧ (t' = t ∨ (L = [] ∧ t' = t + 1)) ∧ (t' + c < 18446744073709551615 → DQ s' c t' L) ∧ s'.at 0 = t' ∧ s'.at 1 = t' + L.length := by
  have b1 := h.big
  have b2 := h.cap
  have b3 := h.fit
  simp at b3
  have hb : s.at 1 = ((t + L.length + 1 : Nat) : Int) := by rw [h.bot]; simp; omega
  have ht : s.at 0 = (t : Int) := h.top
  have hs : sz ((t + L.length + 1 : Nat) : Int) (t : Int) = L.length + 1 := sz_of _ (by omega) (by omega) (by omega)
  have hd : dec ((t + L.length + 1 : Nat) : Int) = ((t + L.length : Nat) : Int) := by rw [dec_of (by omega) (by omega)]; omega
  have hs2 : sz ((t + L.length : Nat) : Int) (t : Int) = L.length := sz_of _ (by omega) (by omega) (by omega)
  have e1 : stepK (newPop (q0 c)) s = ({ newPop (q0 c) with u := ((t + L.length + 1 : Nat) : Int), line := 2 }, s.put 1 1 (s.at 1)) := by rw [stepK_pop rfl rfl, ← hb]; rfl
  have h1 := h.load 1 1
  have h2 := h1.load 1 0
  have e2 : stepK { newPop (q0 c) with u := ((t + L.length + 1 : Nat) : Int), line := 2 } (s.put 1 1 (s.at 1)) = ({ newPop (q0 c) with u := ((t + L.length + 1 : Nat) : Int), v := (t : Int), line := 3 }, (s.put 1 1 (s.at 1)).put 1 0 ((s.put 1 1 (s.at 1)).at 0)) := by
    rw [stepK_pop rfl rfl]
    unfold stepPop
    simp only [newPop, q0, h1.top, hs]
    rw [if_neg (by omega)]
  generalize (s.put 1 1 (s.at 1)).put 1 0 ((s.put 1 1 (s.at 1)).at 0) = s2 at *
  have e3 : stepK { newPop (q0 c) with u := ((t + L.length + 1 : Nat) : Int), v := (t : Int), line := 3 } s2 = ({ newPop (q0 c) with u := ((t + L.length + 1 : Nat) : Int), v := (t : Int), line := 4 }, s2.put 2 1 (t + L.length)) := by
    rw [stepK_pop rfl rfl]
    unfold stepPop
    simp only [newPop, K.go, q0, hd]
    simp
  have h3 := h2.popped
  have hx3 : (s2.put 2 1 (t + L.length)).at (2 + ((t + L.length) % c : Nat)) = IntKind.u64.wrap x := by
    rw [at_put_ne (by omega), h2.ent L.length (by simp)]
    simp
  have hl3 : (s2.put 2 1 (t + L.length)).cells.length = s2.cells.length := MS.put_len _ _ _ _
  generalize s2.put 2 1 (t + L.length) = s3 at *
  rcases Nat.eq_zero_or_pos L.length with hl | hl
  · have hnil : L = [] := List.eq_nil_of_length_eq_zero hl
    subst hnil
    simp only [List.length_nil, Nat.add_zero] at *
    have e4 : stepK { newPop (q0 c) with u := ((t + 1 : Nat) : Int), v := (t : Int), line := 4 } s3 = ({ newPop (q0 c) with u := ((t + 1 : Nat) : Int), v := (t : Int), line := 6 }, s3.put 1 0 (s3.at 0)) := by
      rw [stepK_pop rfl rfl]
      unfold stepPop
      simp only [newPop, q0, h3.top, hd, hs2]
      simp
    have h4 := h3.load 1 0
    have hx4 : (s3.put 1 0 (s3.at 0)).at (2 + (t % c : Nat)) = IntKind.u64.wrap x := by rw [at_put_at]; exact hx3
    generalize s3.put 1 0 (s3.at 0) = s4 at *
    have e5 : stepK { newPop (q0 c) with u := ((t + 1 : Nat) : Int), v := (t : Int), line := 6 } s4 = ({ newPop (q0 c) with u := ((t + 1 : Nat) : Int), v := (t : Int), line := 7 }, s4.put 3 0 (t + 1)) := by
      rw [stepK_pop rfl rfl]
      unfold stepPop
      have hh : s4.has 0 = true := by unfold MS.has; exact decide_eq_true (h4.has (by omega) (by omega))
      simp only [newPop, q0, K.go, h4.top, hh, casB]
      rw [inc_of (by omega) (by omega)]
      simp
    have l5 : (s4.put 3 0 (t + 1)).cells.length = s4.cells.length := MS.put_len _ _ _ _
    have t5 : (s4.put 3 0 (t + 1)).at 0 = t + 1 := at_put_same (h4.has (by omega) (by omega))
    have x5 : (s4.put 3 0 (t + 1)).at (2 + (t % c : Nat)) = IntKind.u64.wrap x := by rw [at_put_ne (by omega)]; exact hx4
    generalize s4.put 3 0 (t + 1) = s5 at *
    have e6 : stepK { newPop (q0 c) with u := ((t + 1 : Nat) : Int), v := (t : Int), line := 7 } s5 = ({ newPop (q0 c) with u := ((t + 1 : Nat) : Int), v := (t : Int), line := 8 }, s5.put 2 1 ((t + 1 : Nat) : Int)) := by
      rw [stepK_pop rfl rfl]; rfl
    have l6 : (s5.put 2 1 ((t + 1 : Nat) : Int)).cells.length = s5.cells.length := MS.put_len _ _ _ _
    have hin : 0 ≤ (1 : Int) ∧ (1 : Int) < s5.cells.length := by rw [l5]; exact h4.has (by omega) (by omega)
    have b6 : (s5.put 2 1 ((t + 1 : Nat) : Int)).at 1 = ((t + 1 : Nat) : Int) := at_put_same hin
    have t6 : (s5.put 2 1 ((t + 1 : Nat) : Int)).at 0 = t + 1 := by rw [at_put_ne (by omega)]; exact t5
    have x6 : (s5.put 2 1 ((t + 1 : Nat) : Int)).at (2 + (t % c : Nat)) = IntKind.u64.wrap x := by rw [at_put_ne (by omega)]; exact x5
    generalize s5.put 2 1 ((t + 1 : Nat) : Int) = s6 at *
    have e7 : stepK { newPop (q0 c) with u := ((t + 1 : Nat) : Int), v := (t : Int), line := 8 } s6 = (({ newPop (q0 c) with u := ((t + 1 : Nat) : Int), v := (t : Int), line := 8 } : K).fin 1 x, s6.put 1 (2 + (t % c : Nat)) (s6.at (2 + (t % c : Nat)))) := by
      rw [stepK_pop rfl rfl]
      unfold stepPop
      simp only [newPop, hd]
      rw [ringI_of _ h.one, x6, back x hx]
    refine ⟨_, 7, t + 1, alone_more e1 rfl (alone_more e2 rfl (alone_more e3 rfl (alone_more e4 rfl (alone_more e5 rfl (alone_more e6 rfl (alone_done e7 rfl)))))), by omega, .inr (by simp), fun hbig => ?_, ?_, ?_⟩
    · refine ⟨h.one, by rw [MS.put_len, l6, l5]; exact h4.len, by rw [at_put_at, t6]; simp, by rw [at_put_at, b6]; simp, by simp, hbig, h.cap, fun i hi => by simp at hi⟩
    · rw [at_put_at, t6]; simp
    · rw [at_put_at, b6]; simp
  · have e4 : stepK { newPop (q0 c) with u := ((t + L.length + 1 : Nat) : Int), v := (t : Int), line := 4 } s3 = ({ newPop (q0 c) with u := ((t + L.length + 1 : Nat) : Int), v := (t : Int), line := 5 }, s3.put 1 0 (s3.at 0)) := by
      rw [stepK_pop rfl rfl]
      unfold stepPop
      simp only [newPop, q0, h3.top, hd, hs2]
      rw [if_pos (by omega)]
    have h4 := h3.load 1 0
    have hx4 : (s3.put 1 0 (s3.at 0)).at (2 + ((t + L.length) % c : Nat)) = IntKind.u64.wrap x := by rw [at_put_at]; exact hx3
    generalize s3.put 1 0 (s3.at 0) = s4 at *
    have e5 : stepK { newPop (q0 c) with u := ((t + L.length + 1 : Nat) : Int), v := (t : Int), line := 5 } s4 = (({ newPop (q0 c) with u := ((t + L.length + 1 : Nat) : Int), v := (t : Int), line := 5 } : K).fin 1 x, s4.put 1 (2 + ((t + L.length) % c : Nat)) (s4.at (2 + ((t + L.length) % c : Nat)))) := by
      rw [stepK_pop rfl rfl]
      unfold stepPop
      simp only [newPop, hd]
      rw [ringI_of _ h.one, hx4, back x hx]
    refine ⟨_, 5, t, alone_more e1 rfl (alone_more e2 rfl (alone_more e3 rfl (alone_more e4 rfl (alone_done e5 rfl)))), by omega, .inl rfl, fun _ => h4.load 1 _, ?_, ?_⟩
    · rw [at_put_at, h4.top]
    · rw [at_put_at, h4.bot]

/-- A steal alone, nothing there. -/
theorem steal_none {s : MS} {c t : Nat} (h : DQ s c t []) (n : Nat) : ∃ s', alone (n + 2) (newSteal (q0 c)) s = (2, 0, 2, s') ∧ DQ s' c t [] := by
  have b1 := h.big
  have hs : sz (s.at 1) (s.at 0) = 0 := sz_of _ (by rw [h.top, h.bot]; simp) (by omega) (by omega)
  have e1 : stepK (newSteal (q0 c)) s = ({ newSteal (q0 c) with v := s.at 0, line := 2 }, s.put 1 0 (s.at 0)) := by rw [stepK_steal rfl rfl]; rfl
  have a1 : ∀ d, (s.put 1 0 (s.at 0)).at d = s.at d := at_put_at s 1 0
  have e2 : stepK { newSteal (q0 c) with v := s.at 0, line := 2 } (s.put 1 0 (s.at 0)) = (({ newSteal (q0 c) with u := s.at 1, v := s.at 0, line := 2 } : K).fin 2 0, (s.put 1 0 (s.at 0)).put 1 1 ((s.put 1 0 (s.at 0)).at 1)) := by
    rw [stepK_steal rfl rfl]
    unfold stepSteal
    simp only [newSteal, q0, a1, hs]
    rw [if_pos (by omega)]
  exact ⟨_, alone_more e1 rfl (alone_done e2 rfl), (h.load 1 0).load 1 1⟩

/-- A steal alone, an entry there: the first one goes. -/
theorem steal_some {s : MS} {c t : Nat} {L : List Int} {x : Int} (h : DQ s c t (x :: L)) (hx : inI x) (n : Nat) (hbig : t + 1 + c < 18446744073709551615) :
    ∃ s', alone (n + 4) (newSteal (q0 c)) s = (1, x, 4, s') ∧ DQ s' c (t + 1) L := by
  have b2 := h.cap
  have b3 := h.fit
  simp at b3
  have hb : s.at 1 = ((t + L.length + 1 : Nat) : Int) := by rw [h.bot]; simp; omega
  have ht : s.at 0 = (t : Int) := h.top
  have hs : sz ((t + L.length + 1 : Nat) : Int) (t : Int) = L.length + 1 := sz_of _ (by omega) (by omega) (by omega)
  have e1 : stepK (newSteal (q0 c)) s = ({ newSteal (q0 c) with v := (t : Int), line := 2 }, s.put 1 0 (s.at 0)) := by rw [stepK_steal rfl rfl, ← ht]; rfl
  have h1 := h.load 1 0
  have hb1 : (s.put 1 0 (s.at 0)).at 1 = ((t + L.length + 1 : Nat) : Int) := by rw [at_put_at]; exact hb
  generalize s.put 1 0 (s.at 0) = s1 at *
  have e2 : stepK { newSteal (q0 c) with v := (t : Int), line := 2 } s1 = ({ newSteal (q0 c) with u := ((t + L.length + 1 : Nat) : Int), v := (t : Int), line := 3 }, s1.put 1 1 (s1.at 1)) := by
    rw [stepK_steal rfl rfl]
    unfold stepSteal
    simp only [newSteal, q0, hb1, hs]
    rw [if_neg (by omega)]
  have h2 := h1.load 1 1
  generalize s1.put 1 1 (s1.at 1) = s2 at *
  have hx2 : s2.at (2 + (t % c : Nat)) = IntKind.u64.wrap x := by
    have := h2.ent 0 (by simp)
    simpa using this
  have e3 : stepK { newSteal (q0 c) with u := ((t + L.length + 1 : Nat) : Int), v := (t : Int), line := 3 } s2 = ({ newSteal (q0 c) with u := ((t + L.length + 1 : Nat) : Int), v := (t : Int), w := IntKind.u64.wrap x, line := 4 }, s2.put 1 (2 + (t % c : Nat)) (s2.at (2 + (t % c : Nat)))) := by
    rw [stepK_steal rfl rfl]
    unfold stepSteal
    simp only [newSteal]
    rw [ringI_of _ h.one, hx2]
  have h3 := h2.load 1 (2 + (t % c : Nat))
  generalize s2.put 1 (2 + (t % c : Nat)) (s2.at (2 + (t % c : Nat))) = s3 at *
  have e4 : stepK { newSteal (q0 c) with u := ((t + L.length + 1 : Nat) : Int), v := (t : Int), w := IntKind.u64.wrap x, line := 4 } s3 = (({ newSteal (q0 c) with u := ((t + L.length + 1 : Nat) : Int), v := (t : Int), w := IntKind.u64.wrap x, line := 4 } : K).fin 1 x, s3.put 3 0 (t + 1)) := by
    rw [stepK_steal rfl rfl]
    unfold stepSteal
    have hh : s3.has 0 = true := by unfold MS.has; exact decide_eq_true (h3.has (by omega) (by omega))
    simp only [newSteal, q0, h3.top, hh, casB]
    rw [inc_of (by omega) (by omega), back x hx]
    simp
  refine ⟨_, alone_more e1 rfl (alone_more e2 rfl (alone_more e3 rfl (alone_done e4 rfl))), h.one, by rw [MS.put_len]; exact h3.len, by rw [at_put_same (h3.has (by omega) (by omega))]; simp, ?_, by omega, hbig, h.cap, fun i hi => ?_⟩
  · rw [at_put_ne (by omega), h3.bot]
    simp
    omega
  · rw [at_put_ne (by omega)]
    have := h3.ent (i + 1) (by simp; omega)
    simp only [List.getElem_cons_succ] at this
    rw [show t + 1 + i = t + (i + 1) from by omega]
    exact this

theorem alone_ok : ∀ (n : Nat) (k : K) (s : MS), (k.over = false → k.ok) → s.ok → (alone n k s).2.2.2.ok ∧ (alone n k s).2.2.2.cells.length = s.cells.length ∧ s.count ≤ (alone n k s).2.2.2.count ∧ (alone n k s).2.2.2.count ≤ s.count + n
  | 0, k, s, _, hs => ⟨hs, rfl, Int.le_refl _, by simp [alone]⟩
  | n + 1, k, s, hk, hs => by
    have hl := stepK_len k s
    have hc := stepK_count k s
    have ho : (stepK k s).2.ok := by
      cases h : k.over with
      | true => rw [stepK_over h]; exact hs
      | false => exact stepK_mok hs (hk h)
    rw [alone]
    cases h : (stepK k s).1.over with
    | true => rw [if_pos rfl]; exact ⟨ho, hl, hc.1, by simp only; omega⟩
    | false =>
      rw [if_neg (by simp)]
      have hko : k.over = false := by
        cases h2 : k.over
        · rfl
        · rw [stepK_over h2, h2] at h; cases h
      obtain ⟨a, b, c, d⟩ := alone_ok n (stepK k s).1 (stepK k s).2 (fun _ => stepK_ok hs (hk hko) h) ho
      exact ⟨a, b.trans hl, by simp only; omega, by simp only; omega⟩

theorem newPush_ok (c : Nat) (x : Int) (h : c ≤ 1000000) : (newPush (q0 c) x).ok := ⟨by simp [newPush], by simp [newPush], by simp [newPush], by simp [newPush, q0], fun _ => by simp [newPush, q0]; omega, by simp [newPush]⟩
theorem newPop_ok (c : Nat) (h : c ≤ 1000000) : (newPop (q0 c)).ok := ⟨by simp [newPop], by simp [newPop], by simp [newPop], by simp [newPop, q0], fun _ => by simp [newPop, q0]; omega, by simp [newPop]⟩
theorem newSteal_ok (c : Nat) (h : c ≤ 1000000) : (newSteal (q0 c)).ok := ⟨by simp [newSteal], by simp [newSteal], by simp [newSteal], by simp [newSteal, q0], fun _ => by simp [newSteal, q0]; omega, by simp [newSteal]⟩
theorem newSet_ok (a b : Int) : (newSet a b).ok := ⟨by simp [newSet], by simp [newSet], by simp [newSet], by simp [newSet], fun h => by simp [newSet] at h, by simp [newSet]⟩
theorem newClear_ok (a b : Int) (q : Q4) (h : -1 ≤ q.ring ∧ q.ring ≤ 1000000) : (newClear a b q).ok := ⟨by simp [newClear], by simp [newClear], by simp [newClear], h, fun h => by simp [newClear] at h, by simp [newClear]⟩
end Go.Proofs.YtfhkhknnoepfeaaGreat

/- An owner and thieves on one deque, step by step in any order: what holds after every step. No program in sight. -/
namespace Go.Proofs.YtfhkhknnoepfeaaGreat
open Go.RowKit

/-- The first cells hold a deque of capacity c with the entries L from index t on; nothing is said of Bottom. -/
structure Base (s : MS) (c t : Nat) (L : List Int) : Prop where
  one : 1 ≤ c
  cap : c < 1000
  len : (c : Int) + 2 ≤ s.cells.length
  top : s.at 0 = t
  fit : L.length ≤ c
  ent : ∀ i (h : i < L.length), s.at (2 + ((t + i) % c : Nat)) = IntKind.u64.wrap L[i]

theorem Base.has {s : MS} {c t : Nat} {L : List Int} (h : Base s c t L) {d : Int} (h0 : 0 ≤ d) (h1 : d < c + 2) : 0 ≤ d ∧ d < s.cells.length := ⟨h0, by have := h.len; omega⟩
theorem Base.same {s s' : MS} {c t : Nat} {L : List Int} (h : Base s c t L) (hl : s'.cells.length = s.cells.length) (ha : ∀ d : Int, 0 ≤ d → d < c + 2 → d ≠ 1 → s'.at d = s.at d) : Base s' c t L :=
  ⟨h.one, h.cap, by rw [hl]; exact h.len, by rw [ha 0 (by omega) (by omega) (by omega)]; exact h.top, h.fit, fun i hi => by
    have := ring_bd (t + i) h.one
    rw [ha _ (by omega) (by omega) (by omega)]; exact h.ent i hi⟩
theorem Base.load {s : MS} {c t : Nat} {L : List Int} (h : Base s c t L) (kd d : Int) : Base (s.put kd d (s.at d)) c t L := h.same (MS.put_len _ _ _ _) (fun e _ _ _ => at_put_at s kd d e)
theorem Base.setBot {s : MS} {c t : Nat} {L : List Int} (h : Base s c t L) (kd x : Int) : Base (s.put kd 1 x) c t L := h.same (MS.put_len _ _ _ _) (fun _ _ _ h1 => at_put_ne h1)
theorem Base.short {s : MS} {c t : Nat} {L : List Int} {x : Int} (h : Base s c t (L ++ [x])) : Base s c t L := by
  have := h.fit
  simp at this
  exact ⟨h.one, h.cap, h.len, h.top, by omega, fun i hi => by rw [h.ent i (by simp; omega), List.getElem_append_left hi]⟩
theorem Base.last {s : MS} {c t : Nat} {L : List Int} {x : Int} (h : Base s c t (L ++ [x])) : s.at (2 + ((t + L.length) % c : Nat)) = IntKind.u64.wrap x := by
  rw [h.ent L.length (by simp)]; simp
theorem Base.long {s : MS} {c t : Nat} {L : List Int} {x : Int} (h : Base s c t L) (hn : L.length < c) (hx : s.at (2 + ((t + L.length) % c : Nat)) = IntKind.u64.wrap x) : Base s c t (L ++ [x]) :=
  ⟨h.one, h.cap, h.len, h.top, by simp; omega, fun i hi => by
    by_cases h2 : i < L.length
    · rw [List.getElem_append_left h2]; exact h.ent i h2
    · have e : i = L.length := by simp at hi; omega
      subst e
      rw [hx]; simp⟩
theorem Base.first {s : MS} {c t : Nat} {L : List Int} {x : Int} (h : Base s c t (x :: L)) : s.at (2 + (t % c : Nat)) = IntKind.u64.wrap x := by
  have := h.ent 0 (by simp)
  simpa using this
/-- Top goes on by one: the first entry is gone. -/
theorem Base.taken {s : MS} {c t : Nat} {L : List Int} {x : Int} (h : Base s c t (x :: L)) (kd y : Int) (hy : y = (t : Int) + 1) : Base (s.put kd 0 y) c (t + 1) L := by
  have := h.fit
  simp at this
  refine ⟨h.one, h.cap, by rw [MS.put_len]; exact h.len, by rw [at_put_same (h.has (by omega) (by omega)), hy]; simp, by omega, fun i hi => ?_⟩
  have h2 := ring_bd (t + 1 + i) h.one
  rw [at_put_ne (by omega)]
  have := h.ent (i + 1) (by simp; omega)
  simp only [List.getElem_cons_succ] at this
  rw [show t + 1 + i = t + (i + 1) from by omega]
  exact this

/-- What the owner's machine knows: k is its machine, res the entry that it has reserved. -/
inductive Own (s : MS) (c t : Nat) (L : List Int) (k : K) : Option Int → Prop
  | push1 (h0 : k.kind = 0) (hl : k.line = 1) (hb : s.at 1 = t + L.length) : Own s c t L k none
  | push2 (h0 : k.kind = 0) (hl : k.line = 2) (hb : s.at 1 = t + L.length) (hu : k.u = t + L.length) : Own s c t L k none
  | push3 (h0 : k.kind = 0) (hl : k.line = 3) (hb : s.at 1 = t + L.length) (hu : k.u = t + L.length) (hn : L.length < c) : Own s c t L k none
  | push4 (h0 : k.kind = 0) (hl : k.line = 4) (hb : s.at 1 = t + L.length) (hu : k.u = t + L.length) (hn : L.length < c) (hx : s.at (2 + ((t + L.length) % c : Nat)) = IntKind.u64.wrap k.a) : Own s c t L k none
  | pop1 (h0 : k.kind = 1) (hl : k.line = 1) (hb : s.at 1 = t + L.length) : Own s c t L k none
  | pop2 (h0 : k.kind = 1) (hl : k.line = 2) (hb : s.at 1 = t + L.length) (hu : k.u = t + L.length) : Own s c t L k none
  | pop3 (h0 : k.kind = 1) (hl : k.line = 3) (hb : s.at 1 = t + L.length) (hu : k.u = t + L.length) (h1 : 1 ≤ t + L.length) : Own s c t L k none
  | pop4 (h0 : k.kind = 1) (hl : k.line = 4) (hb : s.at 1 = t + L.length - 1) (hu : k.u = t + L.length) (h1 : 1 ≤ t + L.length) : Own s c t L k none
  | pop5 (x : Int) (h0 : k.kind = 1) (hl : k.line = 5) (hb : s.at 1 = t + L.length) (hu : k.u = t + L.length + 1) (hn : L.length < c) (hx : s.at (2 + ((t + L.length) % c : Nat)) = IntKind.u64.wrap x) : Own s c t L k (some x)
  | pop6 (h0 : k.kind = 1) (hl : k.line = 6) (hb : s.at 1 = t + L.length - 1) (hu : k.u = t + L.length) (hv : k.v = t + L.length - 1) (hn : L.length ≤ 1) (h1 : 1 ≤ t + L.length) : Own s c t L k none
  | pop7 (x : Int) (h0 : k.kind = 1) (hl : k.line = 7) (hL : L = []) (hu : k.u = t) (h1 : 1 ≤ t) (hx : s.at (2 + ((t - 1) % c : Nat)) = IntKind.u64.wrap x) (hb : s.at 1 = t - 1) : Own s c t L k (some x)
  | pop8 (x : Int) (h0 : k.kind = 1) (hl : k.line = 8) (hL : L = []) (hu : k.u = t) (h1 : 1 ≤ t) (hx : s.at (2 + ((t - 1) % c : Nat)) = IntKind.u64.wrap x) (hb : s.at 1 = t) : Own s c t L k (some x)
  | pop9 (h0 : k.kind = 1) (hl : k.line = 9) (hL : L = []) (hu : k.u = t) (h1 : 1 ≤ t) (hb : s.at 1 = t - 1) : Own s c t L k none

/-- What a thief's machine knows. -/
inductive Thf (t0 t : Nat) (L : List Int) (k : K) : Prop
  | l1 (h0 : k.kind = 2) (hl : k.line = 1) : Thf t0 t L k
  | l2 (h0 : k.kind = 2) (hl : k.line = 2) (v : Nat) (hv : k.v = v) (hd : t0 ≤ v) (hle : v ≤ t) : Thf t0 t L k
  | l3 (h0 : k.kind = 2) (hl : k.line = 3) (v : Nat) (hv : k.v = v) (hd : t0 ≤ v) (hle : v ≤ t) (hne : v = t → L ≠ []) : Thf t0 t L k
  | l4 (h0 : k.kind = 2) (hl : k.line = 4) (v : Nat) (hv : k.v = v) (hd : t0 ≤ v) (hle : v ≤ t) (hne : v = t → ∃ x L', L = x :: L' ∧ k.w = IntKind.u64.wrap x) : Thf t0 t L k

/-- What a step of the owner does. -/
inductive OStep (s' : MS) (c t : Nat) (L : List Int) (res : Option Int) (k k' : K) : Nat → List Int → Option Int → Prop
  | quiet (ho : k'.over = false) (h : Own s' c t L k' res) : OStep s' c t L res k k' t L res
  | full (ho : k'.over = true) (hk : k.kind = 0) (hc : k'.code = 3) (hv : k'.val = 0) (hL : L.length = c) (hb : s'.at 1 = t + L.length) (hr : res = none) : OStep s' c t L res k k' t L none
  | fine (ho : k'.over = true) (hk : k.kind = 0) (hc : k'.code = 0) (hv : k'.val = 0) (hL : L.length < c) (hb : s'.at 1 = t + (L ++ [k.a]).length) (hr : res = none) : OStep s' c t L res k k' t (L ++ [k.a]) none
  | claim (x : Int) (L' : List Int) (ho : k'.over = false) (hk : k.kind = 1) (hL : L = L' ++ [x]) (hne : L' ≠ []) (h : Own s' c t L' k' (some x)) (hr : res = none) : OStep s' c t L res k k' t L' (some x)
  | win (x : Int) (ho : k'.over = false) (hk : k.kind = 1) (hL : L = [x]) (h : Own s' c (t + 1) [] k' (some x)) (hr : res = none) : OStep s' c t L res k k' (t + 1) [] (some x)
  | got (x : Int) (ho : k'.over = true) (hk : k.kind = 1) (hc : k'.code = 1) (hv : k'.val = wrap64 (IntKind.u64.wrap x)) (hr : res = some x) (hb : s'.at 1 = t + L.length) : OStep s' c t L res k k' t L none
  | empty (ho : k'.over = true) (hk : k.kind = 1) (hc : k'.code = 2) (hv : k'.val = 0) (hr : res = none) (hL : L = []) (hb : s'.at 1 = t) : OStep s' c t L res k k' t L none

/-- What a step of a thief does. -/
inductive TStep (t0 t : Nat) (L : List Int) (k k' : K) : Nat → List Int → Prop
  | quiet (ho : k'.over = false) (h : Thf t0 t L k') : TStep t0 t L k k' t L
  | empty (ho : k'.over = true) (hc : k'.code = 2) (hv : k'.val = 0) : TStep t0 t L k k' t L
  | abort (ho : k'.over = true) (hc : k'.code = 4) (hv : k'.val = 0) (v : Nat) (hkv : k.v = v) (hlt : v < t) : TStep t0 t L k k' t L
  | got (x : Int) (L' : List Int) (ho : k'.over = true) (hc : k'.code = 1) (hv : k'.val = wrap64 (IntKind.u64.wrap x)) (hL : L = x :: L') : TStep t0 t L k k' (t + 1) L'

theorem hasT {s : MS} {d : Int} (h : 0 ≤ d ∧ d < s.cells.length) : s.has d = true := decide_eq_true h

set_option maxHeartbeats 1000000 in
/-- The owner's step. -/
theorem own_step {s : MS} {c t : Nat} {L : List Int} {k : K} {res : Option Int} (B : Base s c t L) (h : Own s c t L k res) (hq : k.q = q0 c) (ho : k.over = false) (hbig : t + c + 10 < 18446744073709551615) :
    ∃ t' L' res', OStep (stepK k s).2 c t L res k (stepK k s).1 t' L' res' ∧ Base (stepK k s).2 c t' L' ∧ (stepK k s).1.q = q0 c ∧ (stepK k s).1.kind = k.kind ∧ (stepK k s).1.a = k.a := by
  obtain ⟨y1, y2, y3, _⟩ := stepK_same k s
  suffices H : ∃ t' L' res', OStep (stepK k s).2 c t L res k (stepK k s).1 t' L' res' ∧ Base (stepK k s).2 c t' L' by
    obtain ⟨t', L', res', z1, z2⟩ := H
    exact ⟨t', L', res', z1, z2, y2.trans hq, y1, y3⟩
  clear y1 y2 y3
  have b1 := B.one
  have b2 := B.cap
  have b3 := B.fit
  have in0 := B.has (d := 0) (by omega) (by omega)
  have in1 := B.has (d := 1) (by omega) (by omega)
  have qt : k.q.top = 0 := by rw [hq]; rfl
  have qb : k.q.bot = 1 := by rw [hq]; rfl
  have qc : k.q.cap = c := by rw [hq]; rfl
  cases h with
  | push1 h0 hl hb =>
    rw [stepK_push ho h0]; unfold stepPush; rw [hl]; simp only [qb]
    exact ⟨t, L, none, .quiet ho (.push2 h0 rfl (by rw [at_put_at]; exact hb) hb), B.load _ _⟩
  | push2 h0 hl hb hu =>
    rw [stepK_push ho h0]; unfold stepPush; rw [hl]; simp only [qt, qc]
    have hs : sz k.u (s.at 0) = L.length := sz_of _ (by rw [hu, B.top]; omega) (by omega) (by omega)
    rw [hs]
    by_cases hc : (c : Int) ≤ L.length
    · rw [if_pos hc]
      exact ⟨t, L, none, .full rfl h0 rfl rfl (by omega) (by rw [at_put_at]; exact hb) rfl, B.load _ _⟩
    · rw [if_neg hc]
      exact ⟨t, L, none, .quiet ho (.push3 h0 rfl (by rw [at_put_at]; exact hb) hu (by omega)), B.load _ _⟩
  | push3 h0 hl hb hu hn =>
    rw [stepK_push ho h0]; unfold stepPush; rw [hl]
    have hu2 : k.u = ((t + L.length : Nat) : Int) := by rw [hu]; simp
    simp only [hq, hu2, ringI_of _ b1]
    have hm := ring_bd (t + L.length) b1
    have hin := B.has (d := 2 + ((t + L.length) % c : Nat)) (by omega) (by omega)
    refine ⟨t, L, none, .quiet ho (.push4 h0 rfl (by rw [at_put_ne (by omega)]; exact hb) hu hn (by rw [at_put_same hin]; rfl)), ?_⟩
    refine ⟨B.one, B.cap, by rw [MS.put_len]; exact B.len, by rw [at_put_ne (by omega)]; exact B.top, B.fit, fun i hi => ?_⟩
    have := mod_ne (c := c) (i := t + i) (j := t + L.length) (by omega) (by omega)
    rw [at_put_ne (by omega)]
    exact B.ent i hi
  | push4 h0 hl hb hu hn hx =>
    rw [stepK_push ho h0]; unfold stepPush; rw [hl]; simp only [qb]
    have hm := ring_bd (t + L.length) b1
    have hu2 : inc k.u = t + (L ++ [k.a]).length := by rw [hu, inc_of (by omega) (by omega)]; simp; omega
    rw [hu2]
    exact ⟨t, L ++ [k.a], none, .fine rfl h0 rfl rfl hn (by rw [at_put_same in1]) rfl, (B.long hn hx).setBot _ _⟩
  | pop1 h0 hl hb =>
    rw [stepK_pop ho h0]; unfold stepPop; rw [hl]; simp only [qb]
    exact ⟨t, L, none, .quiet ho (.pop2 h0 rfl (by rw [at_put_at]; exact hb) hb), B.load _ _⟩
  | pop2 h0 hl hb hu =>
    rw [stepK_pop ho h0]; unfold stepPop; rw [hl]; simp only [qt]
    have hs : sz k.u (s.at 0) = L.length := sz_of _ (by rw [hu, B.top]; omega) (by omega) (by omega)
    rw [hs]
    by_cases hc : (L.length : Int) ≤ 0
    · rw [if_pos hc]
      have hL : L = [] := List.eq_nil_of_length_eq_zero (by omega)
      exact ⟨t, L, none, .empty rfl h0 rfl rfl rfl hL (by rw [at_put_at, hb, hL]; simp), B.load _ _⟩
    · rw [if_neg hc]
      exact ⟨t, L, none, .quiet ho (.pop3 h0 rfl (by rw [at_put_at]; exact hb) hu (by omega)), B.load _ _⟩
  | pop3 h0 hl hb hu h1 =>
    rw [stepK_pop ho h0]; unfold stepPop; rw [hl]; simp only [qb]
    have hd : dec k.u = t + L.length - 1 := by rw [hu, dec_of (by omega) (by omega)]
    rw [hd]
    exact ⟨t, L, none, .quiet ho (.pop4 h0 rfl (by rw [at_put_same in1]) hu h1), B.setBot _ _⟩
  | pop4 h0 hl hb hu h1 =>
    rw [stepK_pop ho h0]; unfold stepPop; rw [hl]; simp only [qt]
    have hd : dec k.u = t + L.length - 1 := by rw [hu, dec_of (by omega) (by omega)]
    rw [hd, B.top]
    rcases Nat.lt_trichotomy L.length 1 with h2 | h2 | h2
    · have hL : L = [] := List.eq_nil_of_length_eq_zero (by omega)
      subst hL
      have hs : sz ((t : Int) + ([] : List Int).length - 1) t = -1 := sz_neg 1 (by simp; omega) (by omega) (by omega)
      rw [hs, if_neg (by omega), if_neg (by omega), ← B.top]
      exact ⟨t, [], none, .quiet ho (.pop9 h0 rfl rfl (by simp at hu; exact hu) (by simp at h1; exact h1) (by rw [at_put_at, hb]; simp)), B.load _ _⟩
    · have hs : sz ((t : Int) + L.length - 1) t = 0 := sz_of _ (by omega) (by omega) (by omega)
      rw [hs, if_neg (by omega), if_pos rfl, ← B.top]
      exact ⟨t, L, none, .quiet ho (.pop6 h0 rfl (by rw [at_put_at]; exact hb) hu (by show s.at 0 = _; rw [B.top]; omega) (by omega) h1), B.load _ _⟩
    · have hs : sz ((t : Int) + L.length - 1) t = L.length - 1 := sz_of _ (by omega) (by omega) (by omega)
      rw [hs, if_pos (by omega), ← B.top]
      obtain ⟨L', x, rfl⟩ : ∃ L' x, L = L' ++ [x] := ⟨L.dropLast, L.getLast (by intro e; rw [e] at h2; simp at h2), (List.dropLast_concat_getLast _).symm⟩
      simp at h2
      have := b3
      simp at this
      refine ⟨t, L', some x, .claim x L' ho h0 rfl (by intro e; rw [e] at h2; simp at h2) (.pop5 x h0 rfl ?_ ?_ (by omega) ?_) rfl, B.short.load _ _⟩
      · rw [at_put_at, hb]; simp; omega
      · rw [show ({ k with v := s.at 0, line := 5 } : K).u = k.u from rfl, hu]; simp; omega
      · rw [at_put_at]; exact B.last
  | pop5 x h0 hl hb hu hn hx =>
    rw [stepK_pop ho h0]; unfold stepPop; rw [hl]
    have hd : dec k.u = ((t + L.length : Nat) : Int) := by rw [hu, dec_of (by omega) (by omega)]; omega
    simp only [hd, hq, ringI_of _ b1, hx]
    refine ⟨t, L, none, .got x rfl h0 rfl rfl rfl ?_, ?_⟩
    · rw [← hx, at_put_at]; exact hb
    · rw [← hx]; exact B.load _ _
  | pop6 h0 hl hb hu hv hn h1 =>
    rw [stepK_pop ho h0]; unfold stepPop; rw [hl]; simp only [qt, hasT in0, Bool.true_and, B.top, beq_iff_eq, casB]
    rcases Nat.lt_or_ge L.length 1 with h2 | h2
    · have hL : L = [] := List.eq_nil_of_length_eq_zero (by omega)
      subst hL
      simp at hv hu hb h1
      rw [if_neg (by omega), if_neg (by omega), ← B.top]
      exact ⟨t, [], none, .quiet ho (.pop9 h0 rfl rfl hu h1 (by rw [at_put_at]; exact hb)), B.load _ _⟩
    · obtain ⟨x, rfl⟩ : ∃ x, L = [x] := List.length_eq_one_iff.1 (by omega)
      simp at hv hu hb h1
      rw [if_pos (by omega), if_pos (by omega), hv, inc_of (by omega) (by omega)]
      refine ⟨t + 1, [], some x, .win x ho h0 rfl (.pop7 x h0 rfl rfl (by show k.u = _; rw [hu]; simp) (by omega) ?_ ?_) rfl, B.taken _ _ rfl⟩
      · rw [at_put_ne (by omega)]; exact B.first
      · rw [at_put_ne (by omega), hb]; simp
  | pop7 x h0 hl hL hu h1 hx hb =>
    rw [stepK_pop ho h0]; unfold stepPop; rw [hl]; simp only [qb]
    refine ⟨t, L, some x, .quiet ho (.pop8 x h0 rfl hL hu h1 ?_ ?_), B.setBot _ _⟩
    · rw [at_put_ne (by omega)]; exact hx
    · rw [at_put_same in1]; exact hu
  | pop8 x h0 hl hL hu h1 hx hb =>
    rw [stepK_pop ho h0]; unfold stepPop; rw [hl]
    have hd : dec k.u = ((t - 1 : Nat) : Int) := by rw [hu, dec_of (by omega) (by omega)]; omega
    simp only [hd, hq, ringI_of _ b1, hx]
    refine ⟨t, L, none, .got x rfl h0 rfl rfl rfl ?_, ?_⟩
    · rw [← hx, at_put_at, hb, hL]; simp
    · rw [← hx]; exact B.load _ _
  | pop9 h0 hl hL hu h1 hb =>
    rw [stepK_pop ho h0]; unfold stepPop; rw [hl]; simp only [qb]
    exact ⟨t, L, none, .empty rfl h0 rfl rfl rfl hL (by rw [at_put_same in1]; exact hu), B.setBot _ _⟩

/-- What is known of Bottom, whoever acts: it is not more than Top and the entries tell. -/
theorem own_bot {s : MS} {c t : Nat} {L : List Int} {k : K} {res : Option Int} (h : Own s c t L k res) : s.at 1 ≤ t + L.length ∧ t + L.length - 1 ≤ s.at 1 ∧ 0 ≤ s.at 1 := by
  cases h <;> simp_all <;> omega

set_option maxHeartbeats 1000000 in
/-- A thief's step. -/
theorem thf_step {s : MS} {c t0 t : Nat} {L : List Int} {k : K} (B : Base s c t L) (h : Thf t0 t L k) (hq : k.q = q0 c) (ho : k.over = false) (hbig : t + c + 10 < 18446744073709551615)
    (ht0 : t0 ≤ t) (ht1 : t ≤ t0 + 900000) (hb1 : s.at 1 ≤ t + L.length) (hb2 : (t : Int) + L.length - 1 ≤ s.at 1) (_hb3 : 0 ≤ s.at 1) :
    ∃ t' L', TStep t0 t L k (stepK k s).1 t' L' ∧ Base (stepK k s).2 c t' L' ∧ (stepK k s).1.q = q0 c ∧ (stepK k s).1.kind = 2 ∧ (∀ d, d ≠ 0 → (stepK k s).2.at d = s.at d) := by
  obtain ⟨y1, y2, _, _⟩ := stepK_same k s
  have hk2 : k.kind = 2 := by cases h <;> assumption
  suffices H : ∃ t' L', TStep t0 t L k (stepK k s).1 t' L' ∧ Base (stepK k s).2 c t' L' ∧ (∀ d, d ≠ 0 → (stepK k s).2.at d = s.at d) by
    obtain ⟨t', L', z1, z2, z3⟩ := H
    exact ⟨t', L', z1, z2, y2.trans hq, y1.trans hk2, z3⟩
  clear y1 y2
  have b1 := B.one
  have b2 := B.cap
  have b3 := B.fit
  have in0 := B.has (d := 0) (by omega) (by omega)
  have qt : k.q.top = 0 := by rw [hq]; rfl
  have qb : k.q.bot = 1 := by rw [hq]; rfl
  cases h with
  | l1 h0 hl =>
    rw [stepK_steal ho h0]; unfold stepSteal; rw [hl]; simp only [qt]
    exact ⟨t, L, .quiet ho (.l2 h0 rfl t B.top ht0 (Nat.le_refl _)), B.load _ _, fun d _ => at_put_at _ _ _ _⟩
  | l2 h0 hl v hv hd hle =>
    rw [stepK_steal ho h0]; unfold stepSteal; rw [hl]; simp only [qb]
    by_cases hs : sz (s.at 1) k.v ≤ 0
    · rw [if_pos hs]
      exact ⟨t, L, .empty rfl rfl rfl, B.load _ _, fun d _ => at_put_at _ _ _ _⟩
    · rw [if_neg hs]
      refine ⟨t, L, .quiet ho (.l3 h0 rfl v hv hd hle (fun e hL => hs ?_)), B.load _ _, fun d _ => at_put_at _ _ _ _⟩
      subst e hL
      simp at hb1 hb2
      rcases Int.lt_or_le (s.at 1) v with h5 | h5
      · rw [sz_neg 1 (by rw [hv]; omega) (by omega) (by omega)]; omega
      · rw [sz_of 0 (by rw [hv]; omega) (by omega) (by omega)]; omega
  | l3 h0 hl v hv hd hle hne =>
    rw [stepK_steal ho h0]; unfold stepSteal; rw [hl]
    simp only [hq, hv, ringI_of _ b1]
    refine ⟨t, L, .quiet ho (.l4 h0 rfl v rfl hd hle (fun e => ?_)), B.load _ _, fun d _ => at_put_at _ _ _ _⟩
    subst e
    cases L with
    | nil => exact absurd rfl (hne rfl)
    | cons x L' => exact ⟨x, L', rfl, B.first⟩
  | l4 h0 hl v hv hd hle hne =>
    rw [stepK_steal ho h0]; unfold stepSteal; rw [hl]; simp only [qt, hasT in0, Bool.true_and, B.top, beq_iff_eq, casB]
    by_cases e : (t : Int) = k.v
    · rw [if_pos e, if_pos e]
      have e2 : v = t := by omega
      subst e2
      obtain ⟨x, L', rfl, hw⟩ := hne rfl
      rw [hw, ← e, inc_of (by omega) (by omega)]
      exact ⟨v + 1, L', .got x L' rfl rfl rfl rfl, B.taken _ _ rfl, fun d hd => at_put_ne hd⟩
    · rw [if_neg e, if_neg e, ← B.top]
      exact ⟨t, L, .abort rfl rfl rfl v hv (by omega), B.load _ _, fun d _ => at_put_at _ _ _ _⟩

/-- The owner's knowledge behind a step of a thief that took the first entry. -/
theorem own_taken {s s' : MS} {c t : Nat} {L : List Int} {x : Int} {k : K} {res : Option Int} (h : Own s c t (x :: L) k res) (ha : ∀ d, d ≠ 0 → s'.at d = s.at d) : Own s' c (t + 1) L k res := by
  have e1 : t + (L.length + 1) = t + 1 + L.length := by omega
  cases h with
  | push1 h0 hl hb => exact .push1 h0 hl (by rw [ha 1 (by omega), hb]; simp; omega)
  | push2 h0 hl hb hu => exact .push2 h0 hl (by rw [ha 1 (by omega), hb]; simp; omega) (by rw [hu]; simp; omega)
  | push3 h0 hl hb hu hn => exact .push3 h0 hl (by rw [ha 1 (by omega), hb]; simp; omega) (by rw [hu]; simp; omega) (by simp at hn; omega)
  | push4 h0 hl hb hu hn hx => exact .push4 h0 hl (by rw [ha 1 (by omega), hb]; simp; omega) (by rw [hu]; simp; omega) (by simp at hn; omega) (by rw [ha _ (by omega), ← hx]; simp only [List.length_cons, e1])
  | pop1 h0 hl hb => exact .pop1 h0 hl (by rw [ha 1 (by omega), hb]; simp; omega)
  | pop2 h0 hl hb hu => exact .pop2 h0 hl (by rw [ha 1 (by omega), hb]; simp; omega) (by rw [hu]; simp; omega)
  | pop3 h0 hl hb hu h1 => exact .pop3 h0 hl (by rw [ha 1 (by omega), hb]; simp; omega) (by rw [hu]; simp; omega) (by omega)
  | pop4 h0 hl hb hu h1 => exact .pop4 h0 hl (by rw [ha 1 (by omega), hb]; simp; omega) (by rw [hu]; simp; omega) (by omega)
  | pop5 y h0 hl hb hu hn hx => exact .pop5 y h0 hl (by rw [ha 1 (by omega), hb]; simp; omega) (by rw [hu]; simp; omega) (by simp at hn; omega) (by rw [ha _ (by omega), ← hx]; simp only [List.length_cons, e1])
  | pop6 h0 hl hb hu hv hn h1 => exact .pop6 h0 hl (by rw [ha 1 (by omega), hb]; simp; omega) (by rw [hu]; simp; omega) (by rw [hv]; simp; omega) (by simp at hn; simp [hn]) (by omega)
  | pop7 y h0 hl hL hu h1 hx hb => cases hL
  | pop8 y h0 hl hL hu h1 hx hb => cases hL
  | pop9 h0 hl hL hu h1 hb => cases hL

/-- The owner's knowledge where no cell but Top has turned. -/
theorem own_still {s s' : MS} {c t : Nat} {L : List Int} {k : K} {res : Option Int} (h : Own s c t L k res) (ha : ∀ d, d ≠ 0 → s'.at d = s.at d) : Own s' c t L k res := by
  have e := ha 1 (by omega)
  cases h with
  | push1 h0 hl hb => exact .push1 h0 hl (by rw [e, hb])
  | push2 h0 hl hb hu => exact .push2 h0 hl (by rw [e, hb]) hu
  | push3 h0 hl hb hu hn => exact .push3 h0 hl (by rw [e, hb]) hu hn
  | push4 h0 hl hb hu hn hx => exact .push4 h0 hl (by rw [e, hb]) hu hn (by rw [ha _ (by omega), hx])
  | pop1 h0 hl hb => exact .pop1 h0 hl (by rw [e, hb])
  | pop2 h0 hl hb hu => exact .pop2 h0 hl (by rw [e, hb]) hu
  | pop3 h0 hl hb hu h1 => exact .pop3 h0 hl (by rw [e, hb]) hu h1
  | pop4 h0 hl hb hu h1 => exact .pop4 h0 hl (by rw [e, hb]) hu h1
  | pop5 y h0 hl hb hu hn hx => exact .pop5 y h0 hl (by rw [e, hb]) hu hn (by rw [ha _ (by omega), hx])
  | pop6 h0 hl hb hu hv hn h1 => exact .pop6 h0 hl (by rw [e, hb]) hu hv hn h1
  | pop7 y h0 hl hL hu h1 hx hb => exact .pop7 y h0 hl hL hu h1 (by rw [ha _ (by omega), hx]) (by rw [e, hb])
  | pop8 y h0 hl hL hu h1 hx hb => exact .pop8 y h0 hl hL hu h1 (by rw [ha _ (by omega), hx]) (by rw [e, hb])
  | pop9 h0 hl hL hu h1 hb => exact .pop9 h0 hl hL hu h1 (by rw [e, hb])

/-- A thief's knowledge behind a step of the owner, or of another thief. -/
theorem thf_later {t0 t t' : Nat} {L L' : List Int} {k : K} (h : Thf t0 t L k) (ht : t ≤ t') (hL : t' = t → L ≠ [] → L' ≠ [] ∧ L'.head? = L.head?) : Thf t0 t' L' k := by
  cases h with
  | l1 h0 hl => exact .l1 h0 hl
  | l2 h0 hl v hv hd hle => exact .l2 h0 hl v hv hd (by omega)
  | l3 h0 hl v hv hd hle hne => exact .l3 h0 hl v hv hd (by omega) (fun e => (hL (by omega) (hne (by omega))).1)
  | l4 h0 hl v hv hd hle hne =>
    refine .l4 h0 hl v hv hd (by omega) (fun e => ?_)
    obtain ⟨x, M, rfl, hw⟩ := hne (by omega)
    obtain ⟨h3, h4⟩ := hL (by omega) (by simp)
    cases L' with
    | nil => exact absurd rfl h3
    | cons y M' =>
      simp at h4
      subst h4
      exact ⟨y, M', rfl, hw⟩

/-- A thief's knowledge behind a step of the owner. -/
theorem thf_owner {s' : MS} {c t0 t t' : Nat} {L L' : List Int} {res res' : Option Int} {k k' y : K} (h : Thf t0 t L y) (o : OStep s' c t L res k k' t' L' res') : Thf t0 t' L' y := by
  cases o with
  | quiet ho h2 => exact h
  | full ho hk hc hv hL hb hr => exact h
  | fine ho hk hc hv hL hb hr => exact thf_later h (Nat.le_refl _) (fun _ hne => by cases L with
    | nil => exact absurd rfl hne
    | cons a M => simp)
  | claim x M ho hk hL hne h2 hr =>
    subst hL
    exact thf_later h (Nat.le_refl _) (fun _ _ => ⟨hne, by cases L' with
      | nil => exact absurd rfl hne
      | cons a N => simp⟩)
  | win x ho hk hL h2 hr => exact thf_later h (by omega) (fun e => by omega)
  | got x ho hk hc hv hr hb => exact h
  | empty ho hk hc hv hr hL hb => exact h

theorem OStep.mono {s' : MS} {c t t' : Nat} {L L' : List Int} {res res' : Option Int} {k k' : K} (o : OStep s' c t L res k k' t' L' res') : t ≤ t' ∧ t' ≤ t + 1 := by
  cases o <;> omega
theorem TStep.mono {t0 t t' : Nat} {L L' : List Int} {k k' : K} (o : TStep t0 t L k k' t' L') : t ≤ t' ∧ t' ≤ t + 1 := by
  cases o <;> omega
end Go.Proofs.YtfhkhknnoepfeaaGreat

/- An owner and thieves on one deque in any order: no entry is taken twice, none that was not pushed, and what was pushed and not taken is what is left. No program in sight. -/
namespace Go.Proofs.YtfhkhknnoepfeaaGreat
open Go.RowKit

/-- f, but v at a. -/
def upd {α : Type} (f : Nat → α) (a : Nat) (v : α) : Nat → α := fun b => if b = a then v else f b
theorem upd_same {α : Type} (f : Nat → α) (a : Nat) (v : α) : upd f a v a = v := by unfold upd; rw [if_pos rfl]
theorem upd_ne {α : Type} {f : Nat → α} {a b : Nat} {v : α} (h : b ≠ a) : upd f a v b = f b := by unfold upd; rw [if_neg h]
theorem map_upd {α β : Type} (g : α → β) (f : Nat → α) (a n : Nat) (v : α) : (List.range n).map (fun b => g (upd f a v b)) = ((List.range n).map (fun b => g (f b))).set a (g v) := by
  apply List.ext_getElem
  · simp
  · intro i h1 h2
    rw [List.getElem_set]
    simp only [List.getElem_map, List.getElem_range]
    by_cases h : a = i
    · subst h; rw [if_pos rfl, upd_same]
    · rw [if_neg h, upd_ne (fun e => h e.symm)]

/-- The machines ms of the actors, what each is doing, the numbers that were pushed and taken, the deque. i is above all numbers, j above the steps. -/
structure ON (c t0 i j : Nat) (ms : Nat → Option K) (doing : Nat → Int) (pushed : Nat → Bool) (taken : Nat → Int) (s : MS) (t : Nat) (L : List Int) (res : Option Int) : Prop where
  B : Base s c t L
  t0t : t0 ≤ t
  tb : t ≤ t0 + j
  none0 : ms 0 = none → res = none ∧ s.at 1 = t + L.length
  some0 : ∀ k, ms 0 = some k → k.over = false ∧ k.q = q0 c ∧ Own s c t L k res ∧ ((k.kind = 0 ∧ ∃ p : Nat, k.a = p ∧ doing 0 = p ∧ p < i ∧ pushed p = false) ∨ (k.kind = 1 ∧ doing 0 = -1))
  someN : ∀ a k, 0 < a → ms a = some k → k.over = false ∧ k.q = q0 c ∧ Thf t0 t L k
  nodup : (L ++ res.toList).Nodup
  mem : ∀ x ∈ L ++ res.toList, ∃ p : Nat, x = p ∧ p < i ∧ pushed p = true ∧ taken p = 0
  all : ∀ p : Nat, pushed p = true → taken p = 0 → (p : Int) ∈ L ++ res.toList
  tk : ∀ p, taken p = 0 ∨ (taken p = 1 ∧ pushed p = true)
  new : ∀ p, i ≤ p → pushed p = false
  sok : s.ok
  kok : ∀ a k, ms a = some k → k.ok

theorem newPush_ok0 {c : Nat} (x : Int) (h : c ≤ 1000000) : (newPush (q0 c) x).ok :=
  ⟨by simp [newPush], by simp [newPush], by simp [newPush], by simp [newPush, q0], fun _ => by simp [newPush, q0]; omega, by simp [newPush]⟩
theorem newPop_ok0 {c : Nat} (h : c ≤ 1000000) : (newPop (q0 c)).ok :=
  ⟨by simp [newPop], by simp [newPop], by simp [newPop], by simp [newPop, q0], fun _ => by simp [newPop, q0]; omega, by simp [newPop]⟩
theorem newSteal_ok0 {c : Nat} (h : c ≤ 1000000) : (newSteal (q0 c)).ok :=
  ⟨by simp [newSteal], by simp [newSteal], by simp [newSteal], by simp [newSteal, q0], fun _ => by simp [newSteal, q0]; omega, by simp [newSteal]⟩

section
variable {c t0 i j : Nat} {ms : Nat → Option K} {doing : Nat → Int} {pushed : Nat → Bool} {taken : Nat → Int} {s : MS} {t : Nat} {L : List Int} {res : Option Int}

theorem ON.next (h : ON c t0 i j ms doing pushed taken s t L res) : ON c t0 (i + 1) j ms doing pushed taken s t L res :=
  { h with
    some0 := fun k e => by
      obtain ⟨a, b, d, f⟩ := h.some0 k e
      refine ⟨a, b, d, ?_⟩
      rcases f with ⟨g, p, g1, g2, g3, g4⟩ | f
      · exact .inl ⟨g, p, g1, g2, by omega, g4⟩
      · exact .inr f
    mem := fun x hx => by
      obtain ⟨p, a, b, d, f⟩ := h.mem x hx
      exact ⟨p, a, by omega, d, f⟩
    new := fun p hp => h.new p (by omega) }

theorem ON.beginPush (h : ON c t0 i j ms doing pushed taken s t L res) (hn : ms 0 = none) : ON c t0 (i + 1) j (upd ms 0 (some (newPush (q0 c) i))) (upd doing 0 i) pushed taken s t L res := by
  obtain ⟨hr, hb⟩ := h.none0 hn
  subst hr
  have h2 := h.next
  exact { h2 with
    none0 := fun e => by rw [upd_same] at e; cases e
    some0 := fun k e => by
      rw [upd_same] at e
      cases e
      exact ⟨rfl, rfl, .push1 rfl rfl hb, .inl ⟨rfl, i, rfl, upd_same _ _ _, by omega, h.new i (Nat.le_refl _)⟩⟩
    someN := fun a k ha e => h.someN a k ha (by rw [upd_ne (by omega)] at e; exact e)
    kok := fun a k e => by
      by_cases ha : a = 0
      · subst ha; rw [upd_same] at e; cases e; exact newPush_ok0 _ (by have := h.B.cap; omega)
      · rw [upd_ne ha] at e; exact h.kok a k e }

theorem ON.beginPop (h : ON c t0 i j ms doing pushed taken s t L res) (hn : ms 0 = none) : ON c t0 (i + 1) j (upd ms 0 (some (newPop (q0 c)))) (upd doing 0 (-1)) pushed taken s t L res := by
  obtain ⟨hr, hb⟩ := h.none0 hn
  subst hr
  have h2 := h.next
  exact { h2 with
    none0 := fun e => by rw [upd_same] at e; cases e
    some0 := fun k e => by
      rw [upd_same] at e
      cases e
      exact ⟨rfl, rfl, .pop1 rfl rfl hb, .inr ⟨rfl, upd_same _ _ _⟩⟩
    someN := fun a k ha e => h.someN a k ha (by rw [upd_ne (by omega)] at e; exact e)
    kok := fun a k e => by
      by_cases ha : a = 0
      · subst ha; rw [upd_same] at e; cases e; exact newPop_ok0 (by have := h.B.cap; omega)
      · rw [upd_ne ha] at e; exact h.kok a k e }

theorem ON.beginSteal {a : Nat} (h : ON c t0 i j ms doing pushed taken s t L res) (ha : 0 < a) (x : Int) : ON c t0 (i + 1) j (upd ms a (some (newSteal (q0 c)))) (upd doing a x) pushed taken s t L res := by
  have h2 := h.next
  exact { h2 with
    none0 := fun e => h.none0 (by rw [upd_ne (by omega)] at e; exact e)
    some0 := fun k e => by
      rw [upd_ne (by omega)] at e
      rw [upd_ne (by omega)]
      exact h2.some0 k e
    someN := fun b k hb e => by
      by_cases hab : b = a
      · subst hab; rw [upd_same] at e; cases e; exact ⟨rfl, rfl, .l1 rfl rfl⟩
      · rw [upd_ne hab] at e; exact h.someN b k hb e
    kok := fun b k e => by
      by_cases hab : b = a
      · subst hab; rw [upd_same] at e; cases e; exact newSteal_ok0 (by have := h.B.cap; omega)
      · rw [upd_ne hab] at e; exact h.kok b k e }

theorem back_nat {p : Nat} (h : p < 1000000) : wrap64 (IntKind.u64.wrap (p : Int)) = p := back _ ⟨by omega, by omega⟩

/-- What a step leads to. -/
inductive ONStep (c t0 i j : Nat) (ms : Nat → Option K) (doing : Nat → Int) (pushed : Nat → Bool) (taken : Nat → Int) (a : Nat) (k' : K) (s' : MS) : Prop
  | more (ho : k'.over = false) (t : Nat) (L : List Int) (res : Option Int) (h : ON c t0 i (j + 1) (upd ms a (some k')) doing pushed taken s' t L res)
  | none (ho : k'.over = true) (h0 : k'.code ≠ 0) (h1 : k'.code ≠ 1) (t : Nat) (L : List Int) (res : Option Int) (h : ON c t0 i (j + 1) (upd ms a none) doing pushed taken s' t L res)
  | fine (ho : k'.over = true) (h0 : k'.code = 0) (p : Nat) (hd : doing a = p) (hp : p < i) (t : Nat) (L : List Int) (res : Option Int) (h : ON c t0 i (j + 1) (upd ms a none) doing (upd pushed p true) taken s' t L res)
  | got (ho : k'.over = true) (h1 : k'.code = 1) (p : Nat) (hv : k'.val = p) (hp : p < i) (h0 : taken p = 0) (t : Nat) (L : List Int) (res : Option Int) (h : ON c t0 i (j + 1) (upd ms a none) doing pushed (upd taken p 1) s' t L res)

theorem ON.stepOwn (h : ON c t0 i j ms doing pushed taken s t L res) {k : K} (hk : ms 0 = some k) (hi : i < 1000000) (hbig : t0 + j + c + 10 < 18446744073709551615) :
    ONStep c t0 i j ms doing pushed taken 0 (stepK k s).1 (stepK k s).2 := by
  obtain ⟨ho, hq, hO, hd⟩ := h.some0 k hk
  have htb := h.tb
  obtain ⟨t', L', res', hs, hB, hq', hkk, hka⟩ := own_step h.B hO hq ho (by omega)
  have hmo := hs.mono
  have hsok := stepK_mok h.sok (h.kok 0 k hk)
  have thf : ∀ (v : Option K) (b : Nat) (y : K), 0 < b → upd ms 0 v b = some y → y.over = false ∧ y.q = q0 c ∧ Thf t0 t' L' y := fun v b y hb e => by
    rw [upd_ne (by omega)] at e
    obtain ⟨a1, a2, a3⟩ := h.someN b y hb e
    exact ⟨a1, a2, thf_owner a3 hs⟩
  have kokN : ∀ b y, upd ms 0 none b = some y → y.ok := fun b y e => by
    by_cases hb : b = 0
    · subst hb; rw [upd_same] at e; cases e
    · rw [upd_ne hb] at e; exact h.kok b y e
  have kokS : (stepK k s).1.over = false → ∀ b y, upd ms 0 (some (stepK k s).1) b = some y → y.ok := fun ho2 b y e => by
    by_cases hb : b = 0
    · subst hb; rw [upd_same] at e; cases e; exact stepK_ok h.sok (h.kok 0 k hk) ho2
    · rw [upd_ne hb] at e; exact h.kok b y e
  have hd2 : ((stepK k s).1.kind = 0 ∧ ∃ p : Nat, (stepK k s).1.a = p ∧ doing 0 = p ∧ p < i ∧ pushed p = false) ∨ ((stepK k s).1.kind = 1 ∧ doing 0 = -1) := by rw [hkk, hka]; exact hd
  cases hs with
  | quiet ho2 h2 =>
    refine .more ho2 t L res ⟨hB, h.t0t, by omega, (fun e => by rw [upd_same] at e; cases e), fun y e => ?_, thf _, h.nodup, h.mem, h.all, h.tk, h.new, hsok, kokS ho2⟩
    rw [upd_same] at e
    cases e
    exact ⟨ho2, hq', h2, hd2⟩
  | full ho2 hk2 hc hv hL hb hr =>
    subst hr
    exact .none ho2 (by omega) (by omega) t L none ⟨hB, h.t0t, by omega, fun _ => ⟨rfl, hb⟩, (fun y e => by rw [upd_same] at e; cases e), thf _, h.nodup, h.mem, h.all, h.tk, h.new, hsok, kokN⟩
  | fine ho2 hk2 hc hv hL hb hr =>
    subst hr
    rcases hd with ⟨_, p, e1, e2, e3, e4⟩ | ⟨e1, _⟩
    · have hnew : ∀ x ∈ L, x ≠ (p : Int) := fun x hx e => by
        obtain ⟨p', f1, f2, f3, f4⟩ := h.mem x (by simp [hx])
        have : p' = p := by omega
        subst this
        rw [e4] at f3; cases f3
      have htk : taken p = 0 := by
        rcases h.tk p with f | ⟨_, f⟩
        · exact f
        · rw [e4] at f; cases f
      refine .fine ho2 hc p e2 e3 t _ none ⟨hB, h.t0t, by omega, fun _ => ⟨rfl, hb⟩, (fun y e => by rw [upd_same] at e; cases e), thf _, ?_, fun x hx => ?_, fun q hq1 hq2 => ?_, fun q => ?_, fun q hq1 => ?_, hsok, kokN⟩
      · have := h.nodup
        simp only [Option.toList_none, List.append_nil] at this ⊢
        rw [e1, List.nodup_append]
        exact ⟨this, by simp, fun a ha b hb => by simp at hb; rw [hb]; exact hnew a ha⟩
      · simp only [Option.toList_none, List.append_nil, List.mem_append, List.mem_singleton] at hx
        rcases hx with hx | hx
        · obtain ⟨p', f1, f2, f3, f4⟩ := h.mem x (by simp [hx])
          refine ⟨p', f1, f2, ?_, f4⟩
          by_cases g : p' = p
          · subst g; exact upd_same _ _ _
          · rw [upd_ne g]; exact f3
        · exact ⟨p, by rw [hx, e1], e3, upd_same _ _ _, htk⟩
      · simp only [Option.toList_none, List.append_nil, List.mem_append, List.mem_singleton]
        by_cases g : q = p
        · right; rw [e1, g]
        · left
          rw [upd_ne g] at hq1
          have := h.all q hq1 hq2
          simpa using this
      · rcases h.tk q with f | ⟨f, f2⟩
        · exact .inl f
        · refine .inr ⟨f, ?_⟩
          by_cases g : q = p
          · subst g; exact upd_same _ _ _
          · rw [upd_ne g]; exact f2
      · rw [upd_ne (by omega)]; exact h.new q hq1
    · omega
  | claim x M ho2 hk2 hL hne h2 hr =>
    subst hr hL
    refine .more ho2 t L' (some x) ⟨hB, h.t0t, by omega, (fun e => by rw [upd_same] at e; cases e), fun y e => ?_, thf _, ?_, ?_, ?_, h.tk, h.new, hsok, kokS ho2⟩
    · rw [upd_same] at e
      cases e
      exact ⟨ho2, hq', h2, hd2⟩
    · simpa using h.nodup
    · simpa using h.mem
    · simpa using h.all
  | win x ho2 hk2 hL h2 hr =>
    subst hr hL
    refine .more ho2 (t + 1) [] (some x) ⟨hB, by have := h.t0t; omega, by omega, (fun e => by rw [upd_same] at e; cases e), fun y e => ?_, thf _, ?_, ?_, ?_, h.tk, h.new, hsok, kokS ho2⟩
    · rw [upd_same] at e
      cases e
      exact ⟨ho2, hq', h2, hd2⟩
    · simp
    · simpa using h.mem
    · simpa using h.all
  | got x ho2 hk2 hc hv hr hb =>
    subst hr
    obtain ⟨p, e1, e2, e3, e4⟩ := h.mem x (by simp)
    have hnd := h.nodup
    simp only [Option.toList_some] at hnd
    rw [List.nodup_append] at hnd
    obtain ⟨n1, _, n3⟩ := hnd
    refine .got ho2 hc p (by rw [hv, e1]; exact back_nat (by omega)) e2 e4 t L none ⟨hB, h.t0t, by omega, fun _ => ⟨rfl, hb⟩, (fun y e => by rw [upd_same] at e; cases e), thf _, by simpa using n1, fun z hz => ?_, fun q hq1 hq2 => ?_, fun q => ?_, h.new, hsok, kokN⟩
    · simp at hz
      obtain ⟨p', f1, f2, f3, f4⟩ := h.mem z (by simp [hz])
      refine ⟨p', f1, f2, f3, ?_⟩
      have := n3 z hz x (by simp)
      rw [upd_ne (by intro g; subst g; exact this (by rw [f1, e1]))]
      exact f4
    · by_cases g : q = p
      · subst g; rw [upd_same] at hq2; cases hq2
      · rw [upd_ne g] at hq2
        have := h.all q hq1 hq2
        simp at this ⊢
        rcases this with f | f
        · exact f
        · omega
    · by_cases g : q = p
      · subst g; exact .inr ⟨upd_same _ _ _, e3⟩
      · rw [upd_ne g]; exact h.tk q
  | empty ho2 hk2 hc hv hr hL hb =>
    subst hr hL
    exact .none ho2 (by omega) (by omega) t [] none ⟨hB, h.t0t, by omega, fun _ => ⟨rfl, by rw [hb]; simp⟩, (fun y e => by rw [upd_same] at e; cases e), thf _, h.nodup, h.mem, h.all, h.tk, h.new, hsok, kokN⟩

theorem ON.bot (h : ON c t0 i j ms doing pushed taken s t L res) : s.at 1 ≤ t + L.length ∧ (t : Int) + L.length - 1 ≤ s.at 1 ∧ 0 ≤ s.at 1 := by
  cases e : ms 0 with
  | none => have := (h.none0 e).2; omega
  | some k => exact own_bot (h.some0 k e).2.2.1

theorem ON.stepThf {a : Nat} (h : ON c t0 i j ms doing pushed taken s t L res) {k : K} (ha : 0 < a) (hk : ms a = some k) (hi : i < 1000000) (hj : j < 900000) (hbig : t0 + j + c + 10 < 18446744073709551615) :
    ONStep c t0 i j ms doing pushed taken a (stepK k s).1 (stepK k s).2 := by
  obtain ⟨ho, hq, hO⟩ := h.someN a k ha hk
  have htb := h.tb
  have ht0 := h.t0t
  obtain ⟨b1, b2, b3⟩ := h.bot
  obtain ⟨t', L', hs, hB, hq', hkk, hat⟩ := thf_step h.B hO hq ho (by omega) ht0 (by omega) b1 b2 b3
  have hmo := hs.mono
  have hsok := stepK_mok h.sok (h.kok a k hk)
  have at1 := hat 1 (by omega)
  have kokN : ∀ b y, upd ms a none b = some y → y.ok := fun b y e => by
    by_cases hb : b = a
    · subst hb; rw [upd_same] at e; cases e
    · rw [upd_ne hb] at e; exact h.kok b y e
  have kokS : (stepK k s).1.over = false → ∀ b y, upd ms a (some (stepK k s).1) b = some y → y.ok := fun ho2 b y e => by
    by_cases hb : b = a
    · subst hb; rw [upd_same] at e; cases e; exact stepK_ok h.sok (h.kok b k hk) ho2
    · rw [upd_ne hb] at e; exact h.kok b y e
  -- where the deque stays as it is
  have n0 : ∀ v : Option K, upd ms a v 0 = none → res = none ∧ (stepK k s).2.at 1 = t + L.length := fun v e => by
    rw [upd_ne (by omega)] at e
    obtain ⟨e1, e2⟩ := h.none0 e
    exact ⟨e1, by rw [at1]; exact e2⟩
  have s0 : ∀ v : Option K, ∀ y, upd ms a v 0 = some y → y.over = false ∧ y.q = q0 c ∧ Own (stepK k s).2 c t L y res ∧ ((y.kind = 0 ∧ ∃ p : Nat, y.a = p ∧ doing 0 = p ∧ p < i ∧ pushed p = false) ∨ (y.kind = 1 ∧ doing 0 = -1)) := fun v y e => by
    rw [upd_ne (by omega)] at e
    obtain ⟨e1, e2, e3, e4⟩ := h.some0 y e
    exact ⟨e1, e2, own_still e3 hat, e4⟩
  have sN : ∀ v : Option K, (∀ y, v = some y → y.over = false ∧ y.q = q0 c ∧ Thf t0 t L y) → ∀ b y, 0 < b → upd ms a v b = some y → y.over = false ∧ y.q = q0 c ∧ Thf t0 t L y := fun v hv b y hb e => by
    by_cases hba : b = a
    · subst hba; rw [upd_same] at e; exact hv y e
    · rw [upd_ne hba] at e; exact h.someN b y hb e
  cases hs with
  | quiet ho2 h2 => exact .more ho2 t L res ⟨hB, ht0, by omega, n0 _, s0 _, sN _ (fun y e => by cases e; exact ⟨ho2, hq', h2⟩), h.nodup, h.mem, h.all, h.tk, h.new, hsok, kokS ho2⟩
  | empty ho2 hc hv => exact .none ho2 (by omega) (by omega) t L res ⟨hB, ht0, by omega, n0 _, s0 _, sN _ (fun y e => by cases e), h.nodup, h.mem, h.all, h.tk, h.new, hsok, kokN⟩
  | abort ho2 hc hv v hkv hlt => exact .none ho2 (by omega) (by omega) t L res ⟨hB, ht0, by omega, n0 _, s0 _, sN _ (fun y e => by cases e), h.nodup, h.mem, h.all, h.tk, h.new, hsok, kokN⟩
  | got x M ho2 hc hv hL =>
    subst hL
    obtain ⟨p, e1, e2, e3, e4⟩ := h.mem x (by simp)
    have hnd := h.nodup
    simp only [List.cons_append, List.nodup_cons] at hnd
    obtain ⟨n1, n2⟩ := hnd
    refine .got ho2 hc p (by rw [hv, e1]; exact back_nat (by omega)) e2 e4 (t + 1) _ res ⟨hB, by omega, by omega, fun e => ?_, fun y e => ?_, fun b y hb e => ?_, n2, fun z hz => ?_, fun q hq1 hq2 => ?_, fun q => ?_, h.new, hsok, kokN⟩
    · rw [upd_ne (by omega)] at e
      obtain ⟨g1, g2⟩ := h.none0 e
      exact ⟨g1, by rw [at1, g2]; simp; omega⟩
    · rw [upd_ne (by omega)] at e
      obtain ⟨g1, g2, g3, g4⟩ := h.some0 y e
      exact ⟨g1, g2, own_taken g3 hat, g4⟩
    · by_cases hba : b = a
      · subst hba; rw [upd_same] at e; cases e
      · rw [upd_ne hba] at e
        obtain ⟨g1, g2, g3⟩ := h.someN b y hb e
        exact ⟨g1, g2, thf_later g3 (by omega) (fun e => by omega)⟩
    · obtain ⟨p', f1, f2, f3, f4⟩ := h.mem z (by rw [List.cons_append]; exact List.mem_cons_of_mem _ hz)
      refine ⟨p', f1, f2, f3, ?_⟩
      rw [upd_ne (by intro g; subst g; rw [f1, ← e1] at hz; exact n1 hz)]
      exact f4
    · by_cases g : q = p
      · subst g; rw [upd_same] at hq2; cases hq2
      · rw [upd_ne g] at hq2
        have := h.all q hq1 hq2
        rw [List.cons_append, List.mem_cons] at this
        rcases this with f | f
        · omega
        · exact f
    · by_cases g : q = p
      · subst g; exact .inr ⟨upd_same _ _ _, e3⟩
      · rw [upd_ne g]; exact h.tk q

theorem ON.step {a : Nat} (h : ON c t0 i j ms doing pushed taken s t L res) {k : K} (hk : ms a = some k) (hi : i < 1000000) (hj : j < 900000) (hbig : t0 + j + c + 10 < 18446744073709551615) :
    ONStep c t0 i j ms doing pushed taken a (stepK k s).1 (stepK k s).2 := by
  rcases Nat.eq_zero_or_pos a with ha | ha
  · subst ha; exact h.stepOwn hk hi hbig
  · exact h.stepThf ha hk hi hj hbig

/-- The numbers that are left, below n. -/
def leftN (pushed : Nat → Bool) (taken : Nat → Int) : Nat → Nat
  | 0 => 0
  | n + 1 => leftN pushed taken n + if pushed n = true ∧ taken n = 0 then 1 else 0

theorem leftN_le (pushed : Nat → Bool) (taken : Nat → Int) : ∀ n, leftN pushed taken n ≤ n
  | 0 => Nat.le_refl _
  | n + 1 => by have := leftN_le pushed taken n; unfold leftN; split <;> omega

/-- A list without doubles that holds just the numbers that are left is as long as they are many. -/
theorem leftN_len {pushed : Nat → Bool} {taken : Nat → Int} : ∀ (n : Nat) (L : List Int), L.Nodup → (∀ x ∈ L, ∃ p : Nat, x = p ∧ p < n ∧ pushed p = true ∧ taken p = 0) → (∀ p : Nat, p < n → pushed p = true → taken p = 0 → (p : Int) ∈ L) → leftN pushed taken n = L.length
  | 0, L, _, h, _ => by
    cases L with
    | nil => rfl
    | cons x M => obtain ⟨p, _, hp, _⟩ := h x (by simp); omega
  | n + 1, L, hn, h, ha => by
    unfold leftN
    by_cases hc : pushed n = true ∧ taken n = 0
    · rw [if_pos hc]
      have hin := ha n (by omega) hc.1 hc.2
      have ih := leftN_len n (L.erase (n : Int)) (hn.erase _) (fun x hx => by
        have hx2 := (hn.mem_erase_iff).1 hx
        obtain ⟨p, a, b, d⟩ := h x hx2.2
        exact ⟨p, a, by omega, d⟩) (fun p hp h1 h2 => (hn.mem_erase_iff).2 ⟨by omega, ha p (by omega) h1 h2⟩)
      rw [ih, List.length_erase_of_mem hin]
      have := List.length_pos_of_mem hin
      omega
    · rw [if_neg hc]
      exact leftN_len n L hn (fun x hx => by
        obtain ⟨p, a, b, d⟩ := h x hx
        refine ⟨p, a, ?_, d⟩
        rcases Nat.lt_or_ge p n with g | g
        · exact g
        · have : p = n := by omega
          subst this
          exact absurd d hc) (fun p hp => ha p (by omega))

/-- At the end nobody acts: what is left is as much as Bottom and Top tell. -/
theorem ON.fin {n : Nat} (h : ON c t0 i j ms doing pushed taken s t L res) (hn : ms 0 = none) (hi : i ≤ n) : sz (s.at 1) (s.at 0) = leftN pushed taken n := by
  obtain ⟨hr, hb⟩ := h.none0 hn
  subst hr
  have b2 := h.B.cap
  have b3 := h.B.fit
  rw [sz_of (L.length : Int) (by rw [hb, h.B.top]; omega) (by omega) (by omega)]
  have := leftN_len n L (by simpa using h.nodup) (fun x hx => by
    obtain ⟨p, a, b, d⟩ := h.mem x (by simp [hx])
    exact ⟨p, a, by omega, d⟩) (fun p _ h1 h2 => by simpa using h.all p h1 h2)
  omega

/-- The last rounds: j of them are done; 12 belong to each actor. -/
structure OF (ms : Nat → Option K) (j : Nat) : Prop where
  before : ∀ b, b < j / 12 → ms b = none
  now : ∀ k, ms (j / 12) = some k → j % 12 + 1 ≤ k.line

theorem ON.of (h : ON c t0 i j ms doing pushed taken s t L res) : OF ms 0 := ⟨fun b hb => by omega, fun k hk => by have := (h.kok 0 k hk).line; omega⟩

theorem OF.skip {j' : Nat} (h : ON c t0 i j ms doing pushed taken s t L res) (o : OF ms j') (hn : ms (j' / 12) = none) : OF ms (j' + 1) := by
  rcases (show (j' + 1) / 12 = j' / 12 ∨ ((j' + 1) / 12 = j' / 12 + 1 ∧ (j' + 1) % 12 = 0) from by omega) with e | ⟨e, e2⟩
  · exact ⟨fun b hb => o.before b (by omega), fun k hk => by rw [e, hn] at hk; cases hk⟩
  · refine ⟨fun b hb => ?_, fun k hk => by have := (h.kok _ k hk).line; omega⟩
    rw [e] at hb
    by_cases g : b = j' / 12
    · rw [g]; exact hn
    · exact o.before b (by omega)

theorem OF.done {j' : Nat} (o : OF ms j') (h : ON c t0 i j (upd ms (j' / 12) none) doing pushed taken s t L res) : OF (upd ms (j' / 12) none) (j' + 1) := by
  refine OF.skip h ⟨fun b hb => ?_, fun k hk => ?_⟩ (upd_same _ _ _)
  · rw [upd_ne (by omega)]; exact o.before b hb
  · rw [upd_same] at hk; cases hk

theorem OF.more {j' : Nat} {k k' : K} (o : OF ms j') (hk : ms (j' / 12) = some k) (hl : k.line < k'.line) (h : ON c t0 i j (upd ms (j' / 12) (some k')) doing pushed taken s t L res) : OF (upd ms (j' / 12) (some k')) (j' + 1) := by
  have h1 := o.now k hk
  have h2 := (h.kok (j' / 12) k' (upd_same _ _ _)).line
  have e : (j' + 1) / 12 = j' / 12 := by omega
  refine ⟨fun b hb => ?_, fun y hy => ?_⟩
  · rw [e] at hb
    rw [upd_ne (by omega)]
    exact o.before b hb
  · rw [e, upd_same] at hy
    cases hy
    omega
end
end Go.Proofs.YtfhkhknnoepfeaaGreat

/- The game of an owner and thieves on one deque, plain: its operations can be put in an order that a deque can perform. -/
namespace Go.Proofs.YtfhkhknnoepfeaaGreat
open Go.RowKit

/-- The list after operations in this order. -/
def runH (cap : Int) : List HOp → List Int → Option (List Int)
  | [], l => some l
  | o :: r, l => match o.act l cap with
    | none => none
    | some l' => runH cap r l'

theorem runH_app {cap : Int} : ∀ {a b : List HOp} {l l' : List Int}, runH cap a l = some l' → runH cap (a ++ b) l = runH cap b l'
  | [], b, l, l', h => by cases h; rfl
  | o :: r, b, l, l', h => by
    simp only [runH, List.cons_append] at h ⊢
    cases ha : o.act l cap with
    | none => rw [ha] at h; cases h
    | some l2 => rw [ha] at h; exact runH_app h
theorem runH_one {cap : Int} {o : HOp} {l l' : List Int} (h : o.act l cap = some l') : runH cap [o] l = some l' := by simp only [runH, h]
theorem runH_add {cap : Int} {a b : List HOp} {l l1 l2 : List Int} (h1 : runH cap a l = some l1) (h2 : runH cap b l1 = some l2) : runH cap (a ++ b) l = some l2 := by rw [runH_app h1, h2]

theorem perm_map {α β : Type} {f : α → β} : ∀ {σ : List β} {τ : List β}, σ.Perm τ → ∀ l : List α, τ = l.map f → ∃ m : List α, m.Perm l ∧ σ = m.map f := by
  intro σ τ h
  induction h with
  | nil => intro l e; cases l with
    | nil => exact ⟨[], .nil, rfl⟩
    | cons a r => cases e
  | cons x h ih =>
    intro l e
    cases l with
    | nil => cases e
    | cons a r =>
      simp only [List.map_cons, List.cons.injEq] at e
      obtain ⟨m, hm, e2⟩ := ih r e.2
      exact ⟨a :: m, hm.cons a, by rw [e2, List.map_cons, e.1]⟩
  | swap x y s =>
    intro l e
    match l, e with
    | a :: b :: r, e =>
      simp only [List.map_cons, List.cons.injEq] at e
      exact ⟨b :: a :: r, .swap .., by rw [List.map_cons, List.map_cons, e.1, e.2.1, e.2.2]⟩
  | trans h1 h2 ih1 ih2 =>
    intro l e
    obtain ⟨m, hm, e2⟩ := ih2 l e
    obtain ⟨m', hm', e3⟩ := ih1 m e2
    exact ⟨m', hm'.trans hm, e3⟩

/-- An order, told by its list, is one. -/
theorem ordr_of {f : Nat → HOp} {n : Nat} {cap : Int} (hf : ∀ i, i < n → (f i).formed = true) : ∀ (τ : List Nat) (used : Nat → Bool) (l l' : List Int),
    (∀ i, i < n → (used i = false ↔ i ∈ τ)) → τ.Nodup → (∀ i ∈ τ, i < n) → (τ.map f).Pairwise (fun a b => a.frm ≤ b.to) → runH cap (τ.map f) l = some l' → ordr f n cap τ.length used l = true
  | [], _, _, _, _, _, _, _, _ => rfl
  | i :: r, used, l, l', hu, hn, hb, hp, hr => by
    have hi := hb i (by simp)
    simp only [List.map_cons, runH] at hr
    simp only [List.map_cons, List.pairwise_cons] at hp
    rw [List.nodup_cons] at hn
    cases ha : (f i).act l cap with
    | none => rw [ha] at hr; cases hr
    | some l2 =>
      rw [ha] at hr
      refine ordr_succ.2 ⟨i, hi, (hu i hi).2 (by simp), ?_, l2, ha, ordr_of hf r _ l2 l' (fun j hj => ?_) hn.2 (fun j hj => hb j (by simp [hj])) hp.2 hr⟩
      · unfold firstU
        rw [List.all_eq_true]
        intro j hj
        rw [List.mem_range] at hj
        rw [Bool.or_eq_true, decide_eq_true_eq]
        cases e : used j with
        | true => exact .inl rfl
        | false =>
          right
          have := (hu j hj).1 e
          rw [List.mem_cons] at this
          rcases this with h | h
          · subst h
            have := hf j hj
            simp only [HOp.formed, Bool.and_eq_true, decide_eq_true_eq] at this
            exact this.1.1.2
          · exact hp.1 _ (List.mem_map.2 ⟨j, h, rfl⟩)
      · have h1 := hu j hj
        rw [List.mem_cons] at h1
        unfold setU
        by_cases e : j = i
        · subst e; simp [hn.1]
        · simp only [e, decide_false, Bool.or_false, false_or] at h1 ⊢; exact h1

/-- The operations ops can be put in an order. -/
def Orders (cap : Int) (ops : List HOp) : Prop := ∃ σ l, σ.Perm ops ∧ runH cap σ [] = some l ∧ σ.Pairwise (fun a b => a.frm ≤ b.to)

instance hopInh : Inhabited HOp := ⟨⟨0, 0, 0, 0, 0, 0⟩⟩
theorem map_getD (ops : List HOp) (z : HOp) : ops = (List.range ops.length).map (fun i => ops.getD i z) := by
  apply List.ext_getElem
  · simp
  · intro i h1 h2
    simp [h1]

theorem Orders.ordr {cap : Int} {ops : List HOp} (z : HOp) (h : Orders cap ops) (hf : ∀ o ∈ ops, o.formed = true) : ordr (fun i => ops.getD i z) ops.length cap ops.length (fun _ => false) [] = true := by
  obtain ⟨σ, l, hp, hr, hw⟩ := h
  obtain ⟨m, hm, e⟩ := perm_map hp (List.range ops.length) (map_getD ops z)
  have hl : m.length = ops.length := by rw [hm.length_eq]; simp
  have := ordr_of (f := fun i => ops.getD i z) (n := ops.length) (cap := cap) (fun i hi => by
    show (ops.getD i z).formed = true
    rw [List.getD_eq_getElem?_getD, List.getElem?_eq_getElem hi]
    exact hf _ (List.getElem_mem hi)) m (fun _ => false) [] l (fun i hi => ⟨fun _ => hm.mem_iff.2 (List.mem_range.2 hi), fun _ => rfl⟩) (hm.nodup_iff.2 List.nodup_range) (fun i hi => List.mem_range.1 (hm.mem_iff.1 hi)) (by rw [← e]; exact hw) (by rw [← e]; exact hr)
  rwa [hl] at this

/-- An actor: what it is still to do (kinds and values), its machine and its operation. -/
structure Ac where
  acts : List (Int × Int)
  now : Option (K × HOp)

/-- The game: the memory, the actors, the number of the pick, the operations that are done. -/
structure Gm where
  mem : MS
  acs : Nat → Ac
  pick : Nat
  ops : List HOp

def newK (q : Q4) (x : Int × Int) : K := if x.1 = 0 then newPush q x.2 else if x.1 = 1 then newPop q else newSteal q
def op0 (a pick : Nat) (x : Int × Int) : HOp := ⟨x.1, a, pick, 0, 0, if x.1 = 0 then x.2 else 0⟩
def finO (o : HOp) (pick : Nat) (code val : Int) : HOp := { o with to := pick, code := code, value := if code = 1 then val else o.value }

/-- The actor when it has begun, if it can. -/
def Gm.begun (q : Q4) (g : Gm) (a : Nat) : Ac := match (g.acs a).now with
  | some _ => g.acs a
  | none => match (g.acs a).acts with
    | [] => g.acs a
    | x :: r => ⟨r, some (newK q x, op0 a g.pick x)⟩

/-- A step of actor a's machine k. -/
def Gm.stepped (g : Gm) (a : Nat) (k : K) (o : HOp) : Gm :=
  { mem := (stepK k g.mem).2, pick := g.pick + 1,
    acs := upd g.acs a ⟨(g.acs a).acts, if (stepK k g.mem).1.over then none else some ((stepK k g.mem).1, o)⟩,
    ops := if (stepK k g.mem).1.over then g.ops ++ [finO o g.pick (stepK k g.mem).1.code (stepK k g.mem).1.val] else g.ops }

def Gm.set (g : Gm) (a : Nat) (v : Ac) : Gm := { g with acs := upd g.acs a v }
theorem set_same {g : Gm} {a : Nat} {v : Ac} : (g.set a v).acs a = v := upd_same _ _ _
theorem set_ne {g : Gm} {a b : Nat} {v : Ac} (h : b ≠ a) : (g.set a v).acs b = g.acs b := upd_ne h

/-- A pick of actor a. -/
def gstep (q : Q4) (g : Gm) (a : Nat) : Gm := match (g.begun q a).now with
  | none => { g with pick := g.pick + 1 }
  | some (k, o) => (g.set a (g.begun q a)).stepped a k o

def farM : Int := 1000000000
def pendO (o : HOp) (x : Int) : HOp := { o with to := farM, code := 1, value := x }
/-- The pop that has got its entry and is not yet done. -/
def pendL : Option (K × HOp) → Option Int → List HOp
  | some (_, o), some x => [pendO o x]
  | _, _ => []

/-- What holds after every pick, the order set aside. -/
structure GC (c : Nat) (e : Option Nat) (g : Gm) (t : Nat) (L : List Int) : Prop where
  B : Base g.mem c t L
  tb : t ≤ g.pick
  someN : ∀ a k o, 0 < a → (g.acs a).now = some (k, o) → k.over = false ∧ k.q = q0 c ∧ Thf 0 t L k ∧ o.kind = 2
  fr : ∀ a k o, (g.acs a).now = some (k, o) → 0 ≤ o.mach ∧ 0 ≤ o.frm ∧ o.frm ≤ g.pick ∧ (e ≠ some a → o.frm < g.pick)
  acts0 : ∀ x ∈ (g.acs 0).acts, (x.1 = 0 ∨ x.1 = 1) ∧ inI x.2
  actsN : ∀ a, 0 < a → ∀ x ∈ (g.acs a).acts, x.1 = 2
  sok : g.mem.ok
  kok : ∀ a k o, (g.acs a).now = some (k, o) → k.ok

/-- What holds after every pick. H: an order of the operations; S: steals behind it that found nothing while the last entry was being taken. -/
structure GN (c : Nat) (e : Option Nat) (g : Gm) (t : Nat) (L : List Int) (res : Option Int) (H S : List HOp) : Prop where
  C : GC c e g t L
  none0 : (g.acs 0).now = none → res = none ∧ g.mem.at 1 = t + L.length
  some0 : ∀ k o, (g.acs 0).now = some (k, o) → k.over = false ∧ k.q = q0 c ∧ Own g.mem c t L k res ∧ (k.kind : Int) = o.kind ∧ (k.kind = 0 → k.a = o.value ∧ inI k.a)
  vals : ∀ x ∈ L ++ res.toList, inI x
  ops : ∀ o ∈ g.ops, o.formed = true ∧ o.to < g.pick
  perm : (H ++ S).Perm (g.ops ++ pendL (g.acs 0).now res)
  run : runH c H [] = some L
  pw : (H ++ S).Pairwise (fun a b => a.frm ≤ b.to)
  still : ∀ s ∈ S, s.kind = 2 ∧ (s.code = 2 ∨ s.code = 4)
  crit : S ≠ [] → (∃ x, L = [x]) ∧ (∃ k o, (g.acs 0).now = some (k, o) ∧ k.kind = 1 ∧ (k.line = 4 ∨ k.line = 6) ∧ ∀ s ∈ S, o.frm ≤ s.to) ∧ ∀ a k o, 0 < a → (g.acs a).now = some (k, o) → 3 ≤ k.line → k.v = t → ∀ s ∈ S, o.frm ≤ s.to
  late : ∀ a k o, 0 < a → (g.acs a).now = some (k, o) → 2 ≤ k.line → k.v < t → (∃ r ∈ g.ops, r.code = 1 ∧ o.frm < r.to) ∨ res.isSome = true
  abort : ∀ o ∈ g.ops, o.code = 4 → o.kind = 2 ∧ ((∃ r ∈ g.ops, r.code = 1 ∧ o.frm < r.to ∧ r.frm < o.to) ∨ (res.isSome = true ∧ ∃ k p, (g.acs 0).now = some (k, p) ∧ p.frm < o.to))

theorem stepped_more {g : Gm} {a : Nat} {k : K} {o : HOp} (h : (stepK k g.mem).1.over = false) : (g.stepped a k o).ops = g.ops ∧ ((g.stepped a k o).acs a).now = some ((stepK k g.mem).1, o) := by
  unfold Gm.stepped; simp only [h, upd_same]; exact ⟨rfl, rfl⟩
theorem stepped_done {g : Gm} {a : Nat} {k : K} {o : HOp} (h : (stepK k g.mem).1.over = true) : (g.stepped a k o).ops = g.ops ++ [finO o g.pick (stepK k g.mem).1.code (stepK k g.mem).1.val] ∧ ((g.stepped a k o).acs a).now = none := by
  unfold Gm.stepped; simp only [h, upd_same]; exact ⟨rfl, rfl⟩
theorem stepped_ne {g : Gm} {a b : Nat} {k : K} {o : HOp} (h : b ≠ a) : (g.stepped a k o).acs b = g.acs b := upd_ne h
theorem stepped_acts {g : Gm} {a b : Nat} {k : K} {o : HOp} : ((g.stepped a k o).acs b).acts = (g.acs b).acts := by
  by_cases h : b = a
  · subst h; show (upd g.acs b _ b).acts = _; rw [upd_same]
  · rw [stepped_ne h]
theorem stepped_now {g : Gm} {a : Nat} {k k' : K} {o o' : HOp} (h : ((g.stepped a k o).acs a).now = some (k', o')) : (stepK k g.mem).1.over = false ∧ k' = (stepK k g.mem).1 ∧ o' = o := by
  cases e : (stepK k g.mem).1.over with
  | true => rw [(stepped_done e).2] at h; cases h
  | false => rw [(stepped_more e).2] at h; cases h; exact ⟨rfl, rfl, rfl⟩
theorem stepped_mem {g : Gm} {a : Nat} {k : K} {o : HOp} : (g.stepped a k o).mem = (stepK k g.mem).2 := rfl
theorem stepped_pick {g : Gm} {a : Nat} {k : K} {o : HOp} : (g.stepped a k o).pick = g.pick + 1 := rfl

/-- What a thief's step is, line by line. -/
theorem thf_info {s : MS} {c t0 t : Nat} {L : List Int} {k : K} (h : Thf t0 t L k) (ho : k.over = false) (hq : k.q = q0 c) :
    (k.line = 1 ∧ (stepK k s).1.over = false ∧ (stepK k s).1.line = 2 ∧ (stepK k s).1.v = s.at 0) ∨
    (k.line = 2 ∧ sz (s.at 1) k.v ≤ 0 ∧ (stepK k s).1.over = true ∧ (stepK k s).1.code = 2) ∨
    (k.line = 2 ∧ 0 < sz (s.at 1) k.v ∧ (stepK k s).1.over = false ∧ (stepK k s).1.line = 3 ∧ (stepK k s).1.v = k.v) ∨
    (k.line = 3 ∧ (stepK k s).1.over = false ∧ (stepK k s).1.line = 4 ∧ (stepK k s).1.v = k.v) ∨
    (k.line = 4 ∧ (stepK k s).1.over = true ∧ (stepK k s).1.code ≠ 2) := by
  have qt : k.q.top = 0 := by rw [hq]; rfl
  have qb : k.q.bot = 1 := by rw [hq]; rfl
  have hk2 : k.kind = 2 := by cases h <;> assumption
  rw [stepK_steal ho hk2]
  unfold stepSteal
  cases h with
  | l1 h0 hl => rw [hl]; simp only [qt, ho]; simp
  | l2 h0 hl v hv hd hle =>
    rw [hl]; simp only [qb]
    by_cases hs : sz (s.at 1) k.v ≤ 0
    · simp only [if_pos hs]; simp [K.fin]; omega
    · simp only [if_neg hs]; simp [ho]; omega
  | l3 h0 hl v hv hd hle hne => rw [hl]; simp [ho]
  | l4 h0 hl v hv hd hle hne =>
    rw [hl]
    by_cases hs : (s.has k.q.top && s.at k.q.top == k.v) = true
    · simp only [if_pos hs]; simp [K.fin]
    · simp only [if_neg hs]; simp [K.fin]

section
variable {c : Nat} {e : Option Nat} {g : Gm} {t : Nat} {L : List Int} {res : Option Int} {H S : List HOp}

theorem GN.noS (h : GN c e g t L res H S) {k : K} {o : HOp} (hk : (g.acs 0).now = some (k, o)) (hne : ¬ (k.kind = 1 ∧ (k.line = 4 ∨ k.line = 6) ∧ ∃ x, L = [x])) : S = [] := by
  cases S with
  | nil => rfl
  | cons s r =>
    obtain ⟨h1, ⟨k2, o2, e2, h2, h3, _⟩, _⟩ := h.crit (by simp)
    rw [hk] at e2
    cases e2
    exact absurd ⟨h2, h3, h1⟩ hne

/-- Steals that found nothing leave an empty list as it is. -/
theorem still_run : ∀ (S : List HOp), (∀ s ∈ S, s.kind = 2 ∧ (s.code = 2 ∨ s.code = 4)) → runH c S [] = some []
  | [], _ => rfl
  | s :: r, h => by
    have h1 := h s (by simp)
    have h2 : s.act [] c = some [] := by
      unfold HOp.act
      rcases h1.2 with e | e
      · rw [if_neg (by omega), if_neg (by omega), if_pos e, if_pos rfl]
      · rw [if_neg (by omega), if_neg (by omega), if_neg (by omega), if_pos e]
    simp only [runH, h2]
    exact still_run r (fun s hs => h s (by simp [hs]))

theorem newK_ok {x : Int × Int} (h : c ≤ 1000000) : (newK (q0 c) x).ok := by
  unfold newK
  split
  · exact newPush_ok0 _ h
  · split
    · exact newPop_ok0 h
    · exact newSteal_ok0 h

theorem GN.begin0 (h : GN c none g t L res H S) (hn : (g.acs 0).now = none) {x : Int × Int} {r : List (Int × Int)} (ha : (g.acs 0).acts = x :: r) :
    GN c (some 0) (g.set 0 ⟨r, some (newK (q0 c) x, op0 0 g.pick x)⟩) t L res H S := by
  obtain ⟨hr, hb⟩ := h.none0 hn
  subst hr
  have hx := h.C.acts0 x (by rw [ha]; simp)
  have hcap := h.C.B.cap
  have hS : S = [] := by
    cases S with
    | nil => rfl
    | cons s r =>
      obtain ⟨_, ⟨k2, o2, e2, _⟩, _⟩ := h.crit (by simp)
      rw [hn] at e2; cases e2
  subst hS
  refine ⟨⟨h.C.B, h.C.tb, fun a k o h0 e2 => h.C.someN a k o h0 (by rw [set_ne (by omega)] at e2; exact e2), fun a k o e2 => ?_, fun y hy => ?_, fun a h0 y hy => h.C.actsN a h0 y (by rw [set_ne (by omega)] at hy; exact hy), h.C.sok, fun a k o e2 => ?_⟩,
    (fun e2 => by rw [set_same] at e2; cases e2), fun k o e2 => ?_, h.vals, h.ops, ?_, h.run, h.pw, h.still, fun h0 => absurd rfl h0, fun a k o h0 e2 => h.late a k o h0 (by rw [set_ne (by omega)] at e2; exact e2), fun o ho hc => ?_⟩
  · by_cases g0 : a = 0
    · subst g0
      rw [set_same] at e2
      cases e2
      exact ⟨by simp [op0], by simp [op0], by simp [op0, Gm.set], fun g1 => absurd rfl g1⟩
    · rw [set_ne g0] at e2
      obtain ⟨a1, a2, a3, a4⟩ := h.C.fr a k o e2
      exact ⟨a1, a2, a3, fun _ => a4 (by simp)⟩
  · rw [set_same] at hy
    exact h.C.acts0 y (by rw [ha]; simp; exact .inr hy)
  · by_cases g0 : a = 0
    · subst g0
      rw [set_same] at e2
      cases e2
      exact newK_ok (by omega)
    · rw [set_ne g0] at e2
      exact h.C.kok a k o e2
  · rw [set_same] at e2
    cases e2
    rcases hx.1 with g0 | g0
    · have : newK (q0 c) x = newPush (q0 c) x.2 := by unfold newK; rw [if_pos g0]
      rw [this]
      exact ⟨rfl, rfl, .push1 rfl rfl hb, by simp [newPush, op0, g0], fun _ => ⟨by simp [newPush, op0, g0], hx.2⟩⟩
    · have : newK (q0 c) x = newPop (q0 c) := by unfold newK; rw [if_neg (by omega), if_pos g0]
      rw [this]
      exact ⟨rfl, rfl, .pop1 rfl rfl hb, by simp [newPop, op0, g0], fun g1 => by simp [newPop] at g1⟩
  · have := h.perm
    rw [hn] at this
    show (H ++ []).Perm (g.ops ++ pendL ((g.set 0 _).acs 0).now none)
    rw [set_same]
    exact this
  · obtain ⟨h1, h2⟩ := h.abort o ho hc
    refine ⟨h1, ?_⟩
    rcases h2 with h2 | ⟨h2, _⟩
    · exact .inl h2
    · cases h2

theorem GN.beginN {a : Nat} (h : GN c none g t L res H S) (h0 : 0 < a) (hn : (g.acs a).now = none) {x : Int × Int} {r : List (Int × Int)} (ha : (g.acs a).acts = x :: r) :
    GN c (some a) (g.set a ⟨r, some (newK (q0 c) x, op0 a g.pick x)⟩) t L res H S := by
  have hx := h.C.actsN a h0 x (by rw [ha]; simp)
  have hcap := h.C.B.cap
  have hnew : newK (q0 c) x = newSteal (q0 c) := by unfold newK; rw [if_neg (by omega), if_neg (by omega)]
  rw [hnew]
  have u0 : ∀ v : Ac, (g.set a v).acs 0 = g.acs 0 := fun v => set_ne (by omega)
  refine ⟨⟨h.C.B, h.C.tb, fun b k o hb e2 => ?_, fun b k o e2 => ?_, fun y hy => h.C.acts0 y (by rw [u0] at hy; exact hy), fun b hb y hy => ?_, h.C.sok, fun b k o e2 => ?_⟩,
    fun e2 => h.none0 (by rw [u0] at e2; exact e2), fun k o e2 => h.some0 k o (by rw [u0] at e2; exact e2), h.vals, h.ops, ?_, h.run, h.pw, h.still, fun hS => ?_, fun b k o hb e2 hl hv => ?_, fun o ho hc => ?_⟩
  · by_cases g0 : b = a
    · subst g0
      rw [set_same] at e2
      cases e2
      exact ⟨rfl, rfl, .l1 rfl rfl, hx⟩
    · rw [set_ne g0] at e2; exact h.C.someN b k o hb e2
  · by_cases g0 : b = a
    · subst g0
      rw [set_same] at e2
      cases e2
      exact ⟨by simp [op0], by simp [op0], by simp [op0, Gm.set], fun g1 => absurd rfl g1⟩
    · rw [set_ne g0] at e2
      obtain ⟨a1, a2, a3, a4⟩ := h.C.fr b k o e2
      exact ⟨a1, a2, a3, fun _ => a4 (by simp)⟩
  · by_cases g0 : b = a
    · subst g0
      rw [set_same] at hy
      exact h.C.actsN b hb y (by rw [ha]; simp; exact .inr hy)
    · rw [set_ne g0] at hy; exact h.C.actsN b hb y hy
  · by_cases g0 : b = a
    · subst g0
      rw [set_same] at e2
      cases e2
      exact newSteal_ok0 (by omega)
    · rw [set_ne g0] at e2
      exact h.C.kok b k o e2
  · have := h.perm
    show (H ++ S).Perm (g.ops ++ pendL ((g.set a _).acs 0).now res)
    rw [u0]
    exact this
  · obtain ⟨c1, ⟨k, o, c2, c3⟩, c4⟩ := h.crit hS
    refine ⟨c1, ⟨k, o, by rw [u0]; exact c2, c3⟩, fun b k o hb e2 hl => ?_⟩
    by_cases g0 : b = a
    · subst g0
      rw [set_same] at e2
      cases e2
      simp [newSteal] at hl
    · rw [set_ne g0] at e2
      exact c4 b k o hb e2 hl
  · by_cases g0 : b = a
    · subst g0
      rw [set_same] at e2
      cases e2
      simp [newSteal] at hl
    · rw [set_ne g0] at e2
      exact h.late b k o hb e2 hl hv
  · obtain ⟨h1, h2⟩ := h.abort o ho hc
    refine ⟨h1, ?_⟩
    rcases h2 with h2 | ⟨h2, k, p, h3, h4⟩
    · exact .inl h2
    · exact .inr ⟨h2, k, p, by rw [u0]; exact h3, h4⟩

theorem GC.own (h : GC c e g t L) {k k' : K} {o : HOp} (hk : (g.acs 0).now = some (k, o)) {t' : Nat} {L' : List Int} {res res' : Option Int}
    (hs : OStep (stepK k g.mem).2 c t L res k k' t' L' res') (hB : Base (stepK k g.mem).2 c t' L') : GC c none (g.stepped 0 k o) t' L' := by
  have hm := hs.mono
  have htb := h.tb
  refine ⟨hB, by rw [stepped_pick]; omega, fun a k o h0 e2 => ?_, fun a k2 o2 e2 => ?_, fun y hy => h.acts0 y (by rw [stepped_acts] at hy; exact hy), fun a h0 y hy => h.actsN a h0 y (by rw [stepped_acts] at hy; exact hy), stepK_mok h.sok (h.kok 0 k o hk), fun a k2 o2 e2 => ?_⟩
  · rw [stepped_ne (by omega)] at e2
    obtain ⟨a1, a2, a3, a4⟩ := h.someN a k o h0 e2
    exact ⟨a1, a2, thf_owner a3 hs, a4⟩
  · rw [stepped_pick]
    by_cases g0 : a = 0
    · subst g0
      obtain ⟨e3, e4, e5⟩ := stepped_now e2
      subst e5
      obtain ⟨a1, a2, a3, a4⟩ := h.fr 0 k o2 hk
      exact ⟨a1, a2, by omega, fun _ => by omega⟩
    · rw [stepped_ne g0] at e2
      obtain ⟨a1, a2, a3, a4⟩ := h.fr a k2 o2 e2
      exact ⟨a1, a2, by omega, fun _ => by omega⟩
  · by_cases g0 : a = 0
    · subst g0
      obtain ⟨e3, e4, e5⟩ := stepped_now e2
      subst e4
      exact stepK_ok h.sok (h.kok 0 k o hk) e3
    · rw [stepped_ne g0] at e2
      exact h.kok a k2 o2 e2

theorem GC.thf {a : Nat} (h : GC c e g t L) (h0 : 0 < a) {k k' : K} {o : HOp} (hk : (g.acs a).now = some (k, o)) (hk' : k' = (stepK k g.mem).1) (hq' : k'.q = q0 c) {t' : Nat} {L' : List Int}
    (hs : TStep 0 t L k k' t' L') (hB : Base (stepK k g.mem).2 c t' L') : GC c none (g.stepped a k o) t' L' := by
  have hm := hs.mono
  have htb := h.tb
  refine ⟨hB, by rw [stepped_pick]; omega, fun b k2 o2 hb e2 => ?_, fun b k2 o2 e2 => ?_, fun y hy => h.acts0 y (by rw [stepped_acts] at hy; exact hy), fun a h0 y hy => h.actsN a h0 y (by rw [stepped_acts] at hy; exact hy), stepK_mok h.sok (h.kok a k o hk), fun b k2 o2 e2 => ?_⟩
  · by_cases g0 : b = a
    · subst g0
      obtain ⟨e3, e4, e5⟩ := stepped_now e2
      subst e4 e5 hk'
      have := (h.someN b k o2 h0 hk).2.2.2
      cases hs with
      | quiet ho h2 => exact ⟨ho, hq', h2, this⟩
      | empty ho hc hv => rw [ho] at e3; cases e3
      | abort ho hc hv v hkv hlt => rw [ho] at e3; cases e3
      | got x L' ho hc hv hL => rw [ho] at e3; cases e3
    · rw [stepped_ne g0] at e2
      obtain ⟨a1, a2, a3, a4⟩ := h.someN b k2 o2 hb e2
      refine ⟨a1, a2, thf_later a3 hm.1 (fun e5 hne => ?_), a4⟩
      cases hs with
      | quiet ho h2 => exact ⟨hne, rfl⟩
      | empty ho hc hv => exact ⟨hne, rfl⟩
      | abort ho hc hv v hkv hlt => exact ⟨hne, rfl⟩
      | got x L' ho hc hv hL => omega
  · rw [stepped_pick]
    by_cases g0 : b = a
    · subst g0
      obtain ⟨e3, e4, e5⟩ := stepped_now e2
      subst e5
      obtain ⟨a1, a2, a3, a4⟩ := h.fr b k o2 hk
      exact ⟨a1, a2, by omega, fun _ => by omega⟩
    · rw [stepped_ne g0] at e2
      obtain ⟨a1, a2, a3, a4⟩ := h.fr b k2 o2 e2
      exact ⟨a1, a2, by omega, fun _ => by omega⟩
  · by_cases g0 : b = a
    · subst g0
      obtain ⟨e3, e4, e5⟩ := stepped_now e2
      subst e4
      exact stepK_ok h.sok (h.kok b k o hk) e3
    · rw [stepped_ne g0] at e2
      exact h.kok b k2 o2 e2

theorem formed_fin {o : HOp} {pick : Nat} {code val : Int} (hm : 0 ≤ o.mach) (hf : 0 ≤ o.frm) (hle : o.frm ≤ pick) (hc : (o.kind = 0 ∧ (code = 0 ∨ code = 3)) ∨ (o.kind = 1 ∧ (code = 1 ∨ code = 2)) ∨ (o.kind = 2 ∧ (code = 1 ∨ code = 2 ∨ code = 4))) :
    (finO o pick code val).formed = true := by
  simp only [HOp.formed, finO, Bool.and_eq_true, Bool.or_eq_true]
  refine ⟨⟨⟨decide_eq_true hf, decide_eq_true hle⟩, decide_eq_true hm⟩, ?_⟩
  rcases hc with ⟨h1, h2⟩ | ⟨h1, h2⟩ | ⟨h1, h2⟩
  · exact .inl (.inl ⟨decide_eq_true h1, h2.imp decide_eq_true decide_eq_true⟩)
  · exact .inl (.inr ⟨decide_eq_true h1, h2.imp decide_eq_true decide_eq_true⟩)
  · refine .inr ⟨decide_eq_true h1, ?_⟩
    rcases h2 with h2 | h2 | h2
    · exact .inl (.inl (decide_eq_true h2))
    · exact .inl (.inr (decide_eq_true h2))
    · exact .inr (decide_eq_true h2)
end
end Go.Proofs.YtfhkhknnoepfeaaGreat

/- The game of an owner and thieves, plain: what every pick keeps. -/
namespace Go.Proofs.YtfhkhknnoepfeaaGreat
open Go.RowKit

section
variable {c : Nat} {e : Option Nat} {g : Gm} {t : Nat} {L : List Int} {res : Option Int} {H S : List HOp}

theorem act_fine {o : HOp} {l : List Int} {cap : Int} (hc : o.code = 0) (h : (l.length : Int) < cap) : o.act l cap = some (l ++ [o.value]) := by
  unfold HOp.act; rw [if_pos hc, if_pos h]
theorem act_full {o : HOp} {l : List Int} {cap : Int} (hc : o.code = 3) (h : cap ≤ (l.length : Int)) : o.act l cap = some l := by
  unfold HOp.act; rw [if_neg (by omega), if_pos hc, if_pos h]
theorem act_empty {o : HOp} {cap : Int} (hc : o.code = 2) : o.act [] cap = some [] := by
  unfold HOp.act; rw [if_neg (by omega), if_neg (by omega), if_pos hc, if_pos rfl]
theorem act_abort {o : HOp} {l : List Int} {cap : Int} (hc : o.code = 4) : o.act l cap = some l := by
  unfold HOp.act; rw [if_neg (by omega), if_neg (by omega), if_neg (by omega), if_pos hc]
theorem act_pop {o : HOp} {l : List Int} {x cap : Int} (hc : o.code = 1) (hk : o.kind = 1) (hv : o.value = x) : o.act (l ++ [x]) cap = some l := by
  unfold HOp.act; rw [if_neg (by omega), if_neg (by omega), if_neg (by omega), if_neg (by omega), if_neg (by simp), if_pos hk]
  simp [hv]
theorem act_steal {o : HOp} {l : List Int} {x cap : Int} (hc : o.code = 1) (hk : o.kind = 2) (hv : o.value = x) : o.act (x :: l) cap = some l := by
  unfold HOp.act; rw [if_neg (by omega), if_neg (by omega), if_neg (by omega), if_neg (by omega), if_neg (by simp), if_neg (by omega)]
  simp [hv]

theorem GN.frH (h : GN c e g t L res H S) {y : HOp} (hy : y ∈ H ++ S) : y.frm ≤ g.pick := by
  have := h.perm.mem_iff.1 hy
  rw [List.mem_append] at this
  rcases this with h1 | h1
  · obtain ⟨h2, h3⟩ := h.ops y h1
    simp only [HOp.formed, Bool.and_eq_true, decide_eq_true_eq] at h2
    omega
  · cases e1 : (g.acs 0).now with
    | none => rw [e1] at h1; simp [pendL] at h1
    | some ko =>
      obtain ⟨k, o⟩ := ko
      cases res with
      | none => rw [e1] at h1; simp [pendL] at h1
      | some x =>
        rw [e1] at h1
        simp [pendL] at h1
        have := (h.C.fr 0 k o e1).2.2.1
        rw [h1]
        exact this

/-- An operation that ends now may come behind all others. -/
theorem pw_snoc {R : List HOp} {n : HOp} (h : R.Pairwise (fun a b => a.frm ≤ b.to)) (hn : ∀ y ∈ R, y.frm ≤ n.to) : (R ++ [n]).Pairwise (fun a b => a.frm ≤ b.to) := by
  rw [List.pairwise_append]
  exact ⟨h, by simp, fun a ha b hb => by simp at hb; rw [hb]; exact hn a ha⟩
/-- An operation that may come before the last ones. -/
theorem pw_mid {R T : List HOp} {n : HOp} (h : (R ++ T).Pairwise (fun a b => a.frm ≤ b.to)) (hn : ∀ y ∈ R, y.frm ≤ n.to) (hT : ∀ y ∈ T, n.frm ≤ y.to) : (R ++ n :: T).Pairwise (fun a b => a.frm ≤ b.to) := by
  rw [List.pairwise_append] at h ⊢
  refine ⟨h.1, List.pairwise_cons.2 ⟨hT, h.2.1⟩, fun a ha b hb => ?_⟩
  rw [List.mem_cons] at hb
  rcases hb with hb | hb
  · rw [hb]; exact hn a ha
  · exact h.2.2 a ha b hb

def fixO (n : Nat) (o : HOp) : HOp := if o.to = farM then { o with to := n } else o
theorem fixO_act (n : Nat) (o : HOp) (l : List Int) (cap : Int) : (fixO n o).act l cap = o.act l cap := by
  unfold fixO; split <;> rfl
theorem fixO_run (n : Nat) (cap : Int) : ∀ (σ : List HOp) (l : List Int), runH cap (σ.map (fixO n)) l = runH cap σ l
  | [], _ => rfl
  | o :: r, l => by
    simp only [List.map_cons, runH, fixO_act]
    cases o.act l cap with
    | none => rfl
    | some l' => exact fixO_run n cap r l'
theorem fixO_frm (n : Nat) (o : HOp) : (fixO n o).frm = o.frm := by unfold fixO; split <;> rfl
theorem fixO_to {n : Nat} {o : HOp} : (fixO n o).to = n ∨ (fixO n o).to = o.to := by
  unfold fixO; split
  · exact .inl rfl
  · exact .inr rfl

theorem GN.finPop (h : GN c e g t L res H S) (hp : g.pick < 900000) {k : K} {o : HOp} {x : Int} (hk : (g.acs 0).now = some (k, o)) (hr : res = some x) :
    ((H ++ S).map (fixO g.pick)).Perm (g.ops ++ [finO o g.pick 1 x]) := by
  have h1 := h.perm.map (fixO g.pick)
  rw [hk, hr] at h1
  simp only [pendL, List.map_append, List.map_cons, List.map_nil] at h1
  have e1 : g.ops.map (fixO g.pick) = g.ops := by
    conv => rhs; rw [← List.map_id g.ops]
    refine List.map_congr_left fun y hy => ?_
    have := (h.ops y hy).2
    unfold fixO
    rw [if_neg (by unfold farM; omega)]
    rfl
  rw [e1] at h1
  have e2 : fixO g.pick (pendO o x) = finO o g.pick 1 x := by unfold fixO pendO finO; simp
  rw [e2] at h1
  simpa using h1

/-- What of the done operations stays so, where the step finishes none. -/
theorem GN.opsMore (h : GN c e g t L res H S) {a : Nat} {k : K} {o : HOp} (ho : (stepK k g.mem).1.over = false) : ∀ y ∈ (g.stepped a k o).ops, y.formed = true ∧ y.to < (g.stepped a k o).pick := by
  rw [(stepped_more ho).1, stepped_pick]
  exact fun y hy => ⟨(h.ops y hy).1, by have := (h.ops y hy).2; omega⟩
theorem GN.opsDone (h : GN c e g t L res H S) {a : Nat} {k : K} {o : HOp} (ho : (stepK k g.mem).1.over = true) (hf : (finO o g.pick (stepK k g.mem).1.code (stepK k g.mem).1.val).formed = true) : ∀ y ∈ (g.stepped a k o).ops, y.formed = true ∧ y.to < (g.stepped a k o).pick := by
  rw [(stepped_done ho).1, stepped_pick]
  intro y hy
  rw [List.mem_append, List.mem_singleton] at hy
  rcases hy with hy | hy
  · exact ⟨(h.ops y hy).1, by have := (h.ops y hy).2; omega⟩
  · rw [hy]; exact ⟨hf, by simp only [finO]; omega⟩

theorem GN.stepOwn (h : GN c e g t L res H S) (he : e = none ∨ e = some 0) {k : K} {o : HOp} (hk : (g.acs 0).now = some (k, o)) (hp : g.pick < 900000) :
    ∃ t' L' res' H' S', GN c none (g.stepped 0 k o) t' L' res' H' S' := by
  obtain ⟨ho, hq, hO, hko, hpush⟩ := h.some0 k o hk
  obtain ⟨f1, f2, f3, _⟩ := h.C.fr 0 k o hk
  have hfrN : ∀ a k2 o2, 0 < a → (g.acs a).now = some (k2, o2) → o2.frm < g.pick := fun a k2 o2 ha e2 => (h.C.fr a k2 o2 e2).2.2.2 (by
    rcases he with he | he
    · rw [he]; simp
    · rw [he]; simp; omega)
  have htb := h.C.tb
  have hcap := h.C.B.cap
  obtain ⟨t', L', res', hs, hB, hq', hkk, hka⟩ := own_step h.C.B hO hq ho (by omega)
  have C := h.C.own hk hs hB
  have hlate : ∀ (y : HOp), y ∈ g.ops → y ∈ (g.stepped 0 k o).ops := fun y hy => by
    cases ho2 : (stepK k g.mem).1.over with
    | true => rw [(stepped_done ho2).1]; exact List.mem_append_left _ hy
    | false => rw [(stepped_more ho2).1]; exact hy
  have ne0 : ∀ a, 0 < a → (g.stepped 0 k o).acs a = g.acs a := fun a ha => stepped_ne (by omega)
  -- the aborts and the late thieves, where the reservation stays or comes
  have late1 : ∀ res2 : Option Int, (res.isSome = true → res2.isSome = true) → ∀ a k2 o2, 0 < a → ((g.stepped 0 k o).acs a).now = some (k2, o2) → 2 ≤ k2.line → k2.v < t → (∃ r ∈ (g.stepped 0 k o).ops, r.code = 1 ∧ o2.frm < r.to) ∨ res2.isSome = true := fun res2 hr a k2 o2 ha e2 hl hv => by
    rw [ne0 a ha] at e2
    rcases h.late a k2 o2 ha e2 hl hv with ⟨r, h1, h2⟩ | h1
    · exact .inl ⟨r, hlate r h1, h2⟩
    · exact .inr (hr h1)
  have resNone : ∀ (P : Prop), res = none → (res.isSome = true → P) := fun P hr h1 => by rw [hr] at h1; cases h1
  cases hs with
  | quiet ho2 h2 =>
    obtain ⟨m1, m2⟩ := stepped_more (a := 0) (o := o) ho2
    refine ⟨t, L, res, H, S, C, (fun e2 => by rw [m2] at e2; cases e2), fun k2 o2 e2 => ?_, h.vals, h.opsMore ho2, ?_, h.run, h.pw, h.still, fun hS => ?_, late1 res id, fun y hy hc => ?_⟩
    · rw [m2] at e2
      cases e2
      exact ⟨ho2, hq', h2, by rw [hkk]; exact hko, fun g0 => by rw [hka]; exact hpush (by rw [← hkk]; exact g0)⟩
    · have := h.perm
      rw [hk] at this
      rw [m1, m2]
      have e3 : pendL (some ((stepK k g.mem).1, o)) res = pendL (some (k, o)) res := by cases res <;> rfl
      rw [e3]
      exact this
    · obtain ⟨⟨x, hx⟩, ⟨k2, o2, e2, c1, c2, c3⟩, c4⟩ := h.crit hS
      rw [hk] at e2
      cases e2
      have hline := (stepK_line (k := k) (s := g.mem) ho (by omega)).resolve_left (by rw [ho2]; simp)
      refine ⟨⟨x, hx⟩, ⟨_, _, m2, by rw [hkk]; exact c1, ?_, c3⟩, fun a k2 o2 ha e2 => by rw [ne0 a ha] at e2; exact c4 a k2 o2 ha e2⟩
      have hkind : (stepK k g.mem).1.kind = 1 := by rw [hkk]; exact c1
      cases h2 with
      | pop6 h0 hl => exact .inr hl
      | pop9 h0 hl hL => rw [hx] at hL; cases hL
      | pop7 x' h0 hl hL => rw [hx] at hL; cases hL
      | pop8 x' h0 hl hL => rw [hx] at hL; cases hL
      | pop5 x' h0 hl hb hu hn hx' =>
        exfalso
        cases hO with
        | pop5 y g0 gl => omega
        | pop7 y g0 gl gL => rw [hx] at gL; cases gL
        | pop8 y g0 gl gL => rw [hx] at gL; cases gL
      | _ => omega
    · rw [m1] at hy ⊢
      obtain ⟨h3, h4⟩ := h.abort y hy hc
      refine ⟨h3, ?_⟩
      rcases h4 with h4 | ⟨h4, k2, p, h5, h6⟩
      · exact .inl h4
      · rw [hk] at h5; cases h5
        exact .inr ⟨h4, _, _, m2, h6⟩
  | full ho2 hk2 hc hv hL hb hr =>
    obtain ⟨m1, m2⟩ := stepped_done (a := 0) (o := o) ho2
    have hS : S = [] := h.noS hk (by omega)
    subst hS hr
    have hf := formed_fin (o := o) (pick := g.pick) (code := (stepK k g.mem).1.code) (val := (stepK k g.mem).1.val) f1 f2 f3 (by rw [hc]; omega)
    refine ⟨t, L, none, H ++ [finO o g.pick (stepK k g.mem).1.code (stepK k g.mem).1.val], [], C, fun _ => ⟨rfl, hb⟩, (fun k2 o2 e2 => by rw [m2] at e2; cases e2), h.vals, h.opsDone ho2 hf, ?_, runH_add h.run (runH_one (act_full hc (by omega))), ?_, h.still, fun hS => absurd rfl hS, late1 none id, fun y hy hcy => ?_⟩
    · have := h.perm
      rw [hk] at this
      rw [m1, m2]
      simp only [pendL, List.append_nil] at this ⊢
      exact this.append_right _
    · simp only [List.append_nil]
      have h1 := h.pw
      simp only [List.append_nil] at h1
      exact pw_snoc h1 (fun y hy => h.frH (by simpa using hy))
    · rw [m1] at hy ⊢
      rw [List.mem_append, List.mem_singleton] at hy
      rcases hy with hy | hy
      · obtain ⟨h3, h4⟩ := h.abort y hy hcy
        refine ⟨h3, ?_⟩
        rcases h4 with ⟨r, h4, h5⟩ | ⟨h4, _⟩
        · exact .inl ⟨r, List.mem_append_left _ h4, h5⟩
        · cases h4
      · rw [hy] at hcy; simp only [finO, hc] at hcy; omega
  | fine ho2 hk2 hc hv hL hb hr =>
    obtain ⟨m1, m2⟩ := stepped_done (a := 0) (o := o) ho2
    have hS : S = [] := h.noS hk (by omega)
    subst hS hr
    obtain ⟨p1, p2⟩ := hpush hk2
    have hf := formed_fin (o := o) (pick := g.pick) (code := (stepK k g.mem).1.code) (val := (stepK k g.mem).1.val) f1 f2 f3 (by rw [hc]; omega)
    refine ⟨t, L ++ [k.a], none, H ++ [finO o g.pick (stepK k g.mem).1.code (stepK k g.mem).1.val], [], C, fun _ => ⟨rfl, hb⟩, (fun k2 o2 e2 => by rw [m2] at e2; cases e2), fun x hx => ?_, h.opsDone ho2 hf, ?_, runH_add h.run (runH_one ?_), ?_, h.still, fun hS => absurd rfl hS, late1 none id, fun y hy hcy => ?_⟩
    · simp only [Option.toList_none, List.append_nil, List.mem_append, List.mem_singleton] at hx
      rcases hx with hx | hx
      · exact h.vals x (by simp [hx])
      · rw [hx]; exact p2
    · have := h.perm
      rw [hk] at this
      rw [m1, m2]
      simp only [pendL, List.append_nil] at this ⊢
      exact this.append_right _
    · have := act_fine (o := finO o g.pick (stepK k g.mem).1.code (stepK k g.mem).1.val) (l := L) (cap := c) hc (by omega)
      rw [this]
      simp only [finO, hc]
      rw [p1]
      simp
    · simp only [List.append_nil]
      have h1 := h.pw
      simp only [List.append_nil] at h1
      exact pw_snoc h1 (fun y hy => h.frH (by simpa using hy))
    · rw [m1] at hy ⊢
      rw [List.mem_append, List.mem_singleton] at hy
      rcases hy with hy | hy
      · obtain ⟨h3, h4⟩ := h.abort y hy hcy
        refine ⟨h3, ?_⟩
        rcases h4 with ⟨r, h4, h5⟩ | ⟨h4, _⟩
        · exact .inl ⟨r, List.mem_append_left _ h4, h5⟩
        · cases h4
      · rw [hy] at hcy; simp only [finO, hc] at hcy; omega
  | claim x M ho2 hk2 hL hne h2 hr =>
    obtain ⟨m1, m2⟩ := stepped_more (a := 0) (o := o) ho2
    have hS : S = [] := h.noS hk (by
      rintro ⟨_, _, y, hy⟩
      have := congrArg List.length (hL.symm.trans hy)
      simp at this
      exact hne this)
    subst hS hr hL
    refine ⟨t, L', some x, H ++ [pendO o x], [], C, (fun e2 => by rw [m2] at e2; cases e2), fun k2 o2 e2 => ?_, ?_, h.opsMore ho2, ?_, runH_add h.run (runH_one (act_pop rfl (by show o.kind = 1; omega) rfl)), ?_, h.still, fun hS => absurd rfl hS, late1 (some x) (fun _ => rfl), fun y hy hcy => ?_⟩
    · rw [m2] at e2
      cases e2
      exact ⟨ho2, hq', h2, by rw [hkk]; exact hko, fun g0 => by rw [hka]; exact hpush (by rw [← hkk]; exact g0)⟩
    · simpa using h.vals
    · have := h.perm
      rw [hk] at this
      rw [m1, m2]
      simp only [pendL, List.append_nil] at this ⊢
      exact this.append_right _
    · simp only [List.append_nil]
      have h1 := h.pw
      simp only [List.append_nil] at h1
      exact pw_snoc h1 (fun y hy => by have := h.frH (y := y) (by simpa using hy); show y.frm ≤ farM; unfold farM; omega)
    · rw [m1] at hy ⊢
      obtain ⟨h3, h4⟩ := h.abort y hy hcy
      refine ⟨h3, ?_⟩
      rcases h4 with h4 | ⟨h4, _⟩
      · exact .inl h4
      · cases h4
  | win x ho2 hk2 hL h2 hr =>
    obtain ⟨m1, m2⟩ := stepped_more (a := 0) (o := o) ho2
    subst hr hL
    have hSto : ∀ s ∈ S, o.frm ≤ s.to := fun s hs => by
      obtain ⟨_, ⟨k2, o2, e2, _, _, c3⟩, _⟩ := h.crit (by intro e3; rw [e3] at hs; cases hs)
      rw [hk] at e2
      cases e2
      exact c3 s hs
    refine ⟨t + 1, [], some x, H ++ pendO o x :: S, [], C, (fun e2 => by rw [m2] at e2; cases e2), fun k2 o2 e2 => ?_, ?_, h.opsMore ho2, ?_, ?_, ?_, (by simp), fun hS => absurd rfl hS, fun a k2 o2 _ _ _ _ => .inr rfl, fun y hy hcy => ?_⟩
    · rw [m2] at e2
      cases e2
      exact ⟨ho2, hq', h2, by rw [hkk]; exact hko, fun g0 => by rw [hka]; exact hpush (by rw [← hkk]; exact g0)⟩
    · simpa using h.vals
    · have := h.perm
      rw [hk] at this
      rw [m1, m2]
      simp only [pendL, List.append_nil] at this ⊢
      exact (List.perm_middle.trans (this.cons _)).trans (List.perm_append_singleton _ _).symm
    · refine runH_add h.run ?_
      have h1 : (pendO o x).act [x] c = some [] := act_pop (l := []) rfl (by show o.kind = 1; omega) rfl
      simp only [runH, h1]
      exact still_run S h.still
    · simp only [List.append_nil]
      exact pw_mid h.pw (fun y hy => by have := h.frH (y := y) (by simp [hy]); show y.frm ≤ farM; unfold farM; omega) hSto
    · rw [m1] at hy ⊢
      obtain ⟨h3, h4⟩ := h.abort y hy hcy
      refine ⟨h3, ?_⟩
      rcases h4 with h4 | ⟨h4, _⟩
      · exact .inl h4
      · cases h4
  | got x ho2 hk2 hc hv hr hb =>
    obtain ⟨m1, m2⟩ := stepped_done (a := 0) (o := o) ho2
    have hxv := h.vals x (by rw [hr]; simp)
    have hval : (stepK k g.mem).1.val = x := by rw [hv]; exact back x hxv
    have hS : S = [] := h.noS hk (by
      rintro ⟨_, hl, _⟩
      rw [hr] at hO
      cases hO <;> omega)
    have hfp := h.finPop hp hk hr
    subst hS
    have hf := formed_fin (o := o) (pick := g.pick) (code := (stepK k g.mem).1.code) (val := (stepK k g.mem).1.val) f1 f2 f3 (by rw [hc]; omega)
    simp only [List.append_nil] at hfp
    have hmem : finO o g.pick 1 x ∈ (g.stepped 0 k o).ops := by rw [m1, hc, hval]; simp
    refine ⟨t, L, none, H.map (fixO g.pick), [], C, fun _ => ⟨rfl, hb⟩, (fun k2 o2 e2 => by rw [m2] at e2; cases e2), fun y hy => h.vals y (by simp at hy; simp [hy]), h.opsDone ho2 hf, ?_, by rw [fixO_run]; exact h.run, ?_, h.still, fun hS => absurd rfl hS, fun a k2 o2 ha e2 hl hv2 => ?_, fun y hy hcy => ?_⟩
    · rw [m1, m2, hc, hval]
      simp only [pendL, List.append_nil]
      exact hfp
    · simp only [List.append_nil]
      have h1 := h.pw
      simp only [List.append_nil] at h1
      rw [List.pairwise_map]
      refine List.Pairwise.imp_of_mem (fun {a b} ha hb hab => ?_) h1
      rw [fixO_frm]
      rcases fixO_to (n := g.pick) (o := b) with h2 | h2
      · rw [h2]; exact h.frH (by simpa using ha)
      · rw [h2]; exact hab
    · rw [ne0 a ha] at e2
      rcases h.late a k2 o2 ha e2 hl hv2 with ⟨r, h1, h2⟩ | h1
      · exact .inl ⟨r, hlate r h1, h2⟩
      · exact .inl ⟨_, hmem, rfl, hfrN a k2 o2 ha e2⟩
    · rw [m1] at hy
      rw [List.mem_append, List.mem_singleton] at hy
      rcases hy with hy | hy
      · obtain ⟨h3, h4⟩ := h.abort y hy hcy
        refine ⟨h3, .inl ?_⟩
        rcases h4 with ⟨r, h4, h5⟩ | ⟨h4, k2, p, h5, h6⟩
        · exact ⟨r, hlate r h4, h5⟩
        · rw [hk] at h5; cases h5
          refine ⟨_, hmem, rfl, ?_, h6⟩
          have h7 := h.ops y hy
          have h8 := h7.1
          simp only [HOp.formed, Bool.and_eq_true, decide_eq_true_eq] at h8
          show y.frm < (g.pick : Int)
          omega
      · rw [hy] at hcy; simp only [finO, hc] at hcy; omega
  | empty ho2 hk2 hc hv hr hL hb =>
    obtain ⟨m1, m2⟩ := stepped_done (a := 0) (o := o) ho2
    have hS : S = [] := h.noS hk (by rintro ⟨_, _, y, hy⟩; rw [hL] at hy; cases hy)
    subst hS hr hL
    have hf := formed_fin (o := o) (pick := g.pick) (code := (stepK k g.mem).1.code) (val := (stepK k g.mem).1.val) f1 f2 f3 (by rw [hc]; omega)
    refine ⟨t, [], none, H ++ [finO o g.pick (stepK k g.mem).1.code (stepK k g.mem).1.val], [], C, fun _ => ⟨rfl, by rw [stepped_mem, hb]; simp⟩, (fun k2 o2 e2 => by rw [m2] at e2; cases e2), h.vals, h.opsDone ho2 hf, ?_, runH_add h.run (runH_one (act_empty hc)), ?_, h.still, fun hS => absurd rfl hS, late1 none id, fun y hy hcy => ?_⟩
    · have := h.perm
      rw [hk] at this
      rw [m1, m2]
      simp only [pendL, List.append_nil] at this ⊢
      exact this.append_right _
    · simp only [List.append_nil]
      have h1 := h.pw
      simp only [List.append_nil] at h1
      exact pw_snoc h1 (fun y hy => h.frH (by simpa using hy))
    · rw [m1] at hy ⊢
      rw [List.mem_append, List.mem_singleton] at hy
      rcases hy with hy | hy
      · obtain ⟨h3, h4⟩ := h.abort y hy hcy
        refine ⟨h3, ?_⟩
        rcases h4 with ⟨r, h4, h5⟩ | ⟨h4, _⟩
        · exact .inl ⟨r, List.mem_append_left _ h4, h5⟩
        · cases h4
      · rw [hy] at hcy; simp only [finO, hc] at hcy; omega

theorem GN.bot (h : GN c e g t L res H S) : g.mem.at 1 ≤ t + L.length ∧ (t : Int) + L.length - 1 ≤ g.mem.at 1 ∧ 0 ≤ g.mem.at 1 := by
  cases e1 : (g.acs 0).now with
  | none => have := (h.none0 e1).2; omega
  | some ko => exact own_bot (h.some0 ko.1 ko.2 e1).2.2.1

/-- Where Bottom is one less than Top and the entries tell, the owner is at the last entry. -/
theorem own_low {s : MS} {c t : Nat} {L : List Int} {k : K} {res : Option Int} {x : Int} (h : Own s c t L k res) (hL : L = [x]) (hb : s.at 1 = t) : k.kind = 1 ∧ (k.line = 4 ∨ k.line = 6) := by
  subst hL
  cases h with
  | pop4 h0 hl => exact ⟨h0, .inl hl⟩
  | pop6 h0 hl => exact ⟨h0, .inr hl⟩
  | pop7 x h0 hl hL => cases hL
  | pop8 x h0 hl hL => cases hL
  | pop9 h0 hl hL => cases hL
  | _ => simp at *; omega

theorem GN.stepThf (h : GN c e g t L res H S) {a : Nat} (h0 : 0 < a) (he : e = none ∨ e = some a) {k : K} {o : HOp} (hk : (g.acs a).now = some (k, o)) (hp : g.pick < 900000) :
    ∃ t' L' H' S', GN c none (g.stepped a k o) t' L' res H' S' := by
  obtain ⟨ho, hq, hO, hko⟩ := h.C.someN a k o h0 hk
  obtain ⟨f1, f2, f3, _⟩ := h.C.fr a k o hk
  have hfrN : ∀ b k2 o2, b ≠ a → (g.acs b).now = some (k2, o2) → o2.frm < g.pick := fun b k2 o2 hb e2 => (h.C.fr b k2 o2 e2).2.2.2 (by
    rcases he with he | he
    · rw [he]; simp
    · rw [he]; simp; omega)
  have htb := h.C.tb
  have hcap := h.C.B.cap
  obtain ⟨b1, b2, b3⟩ := h.bot
  obtain ⟨t', L', hs, hB, hq', hkk, hat⟩ := thf_step h.C.B hO hq ho (by omega) (Nat.zero_le _) (by omega) b1 b2 b3
  have C := h.C.thf h0 hk rfl hq' hs hB
  have hinfo := thf_info (s := g.mem) (c := c) hO ho hq
  have at1 := hat 1 (by omega)
  have now0 : (g.stepped a k o).acs 0 = g.acs 0 := stepped_ne (by omega)
  have neb : ∀ b, b ≠ a → (g.stepped a k o).acs b = g.acs b := fun b hb => stepped_ne hb
  have hlate : ∀ (y : HOp), y ∈ g.ops → y ∈ (g.stepped a k o).ops := fun y hy => by
    cases ho2 : (stepK k g.mem).1.over with
    | true => rw [(stepped_done ho2).1]; exact List.mem_append_left _ hy
    | false => rw [(stepped_more ho2).1]; exact hy
  have n0 : ((g.stepped a k o).acs 0).now = none → res = none ∧ (g.stepped a k o).mem.at 1 = t + L.length := fun e2 => by
    rw [now0] at e2
    obtain ⟨e3, e4⟩ := h.none0 e2
    exact ⟨e3, by rw [stepped_mem, at1]; exact e4⟩
  have s0 : ∀ k2 o2, ((g.stepped a k o).acs 0).now = some (k2, o2) → k2.over = false ∧ k2.q = q0 c ∧ Own (g.stepped a k o).mem c t L k2 res ∧ (k2.kind : Int) = o2.kind ∧ (k2.kind = 0 → k2.a = o2.value ∧ inI k2.a) := fun k2 o2 e2 => by
    rw [now0] at e2
    obtain ⟨e3, e4, e5, e6, e7⟩ := h.some0 k2 o2 e2
    exact ⟨e3, e4, own_still e5 hat, e6, e7⟩
  -- aborts, where the operation that is done is none
  have ab : ∀ y ∈ g.ops, y.code = 4 → y.kind = 2 ∧ ((∃ r ∈ (g.stepped a k o).ops, r.code = 1 ∧ y.frm < r.to ∧ r.frm < y.to) ∨ (res.isSome = true ∧ ∃ k2 p, ((g.stepped a k o).acs 0).now = some (k2, p) ∧ p.frm < y.to)) := fun y hy hc => by
    obtain ⟨h3, h4⟩ := h.abort y hy hc
    refine ⟨h3, ?_⟩
    rcases h4 with ⟨r, h4, h5⟩ | ⟨h4, k2, p, h5, h6⟩
    · exact .inl ⟨r, hlate r h4, h5⟩
    · exact .inr ⟨h4, k2, p, by rw [now0]; exact h5, h6⟩
  have lateO : ∀ b k2 o2, b ≠ a → 0 < b → ((g.stepped a k o).acs b).now = some (k2, o2) → 2 ≤ k2.line → k2.v < t → (∃ r ∈ (g.stepped a k o).ops, r.code = 1 ∧ o2.frm < r.to) ∨ res.isSome = true := fun b k2 o2 hb h0b e2 hl hv => by
    rw [neb b hb] at e2
    rcases h.late b k2 o2 h0b e2 hl hv with ⟨r, h1, h2⟩ | h1
    · exact .inl ⟨r, hlate r h1, h2⟩
    · exact .inr h1
  cases hs with
  | quiet ho2 h2 =>
    obtain ⟨m1, m2⟩ := stepped_more (a := a) (o := o) ho2
    refine ⟨t, L, H, S, C, n0, s0, h.vals, h.opsMore ho2, ?_, h.run, h.pw, h.still, fun hS => ?_, fun b k2 o2 hb e2 hl hv => ?_, fun y hy hc => ab y (by rw [m1] at hy; exact hy) hc⟩
    · rw [m1, now0]; exact h.perm
    · obtain ⟨⟨x, hx⟩, ⟨k2, o2, e2, c1, c2, c3⟩, c4⟩ := h.crit hS
      refine ⟨⟨x, hx⟩, ⟨k2, o2, by rw [now0]; exact e2, c1, c2, c3⟩, fun b k3 o3 hb e3 hl hv => ?_⟩
      by_cases g0 : b = a
      · subst g0
        rw [m2] at e3
        cases e3
        rcases hinfo with ⟨i1, i2, i3, i4⟩ | ⟨i1, i2, i3, i4⟩ | ⟨i1, i2, i3, i4, i5⟩ | ⟨i1, i2, i3, i4⟩ | ⟨i1, i2, i3⟩
        · omega
        · rw [ho2] at i3; cases i3
        · exfalso
          -- Bottom is Top where the owner is at the last entry
          have hb1 : g.mem.at 1 = t := by
            have h5 := (h.some0 k2 o2 e2).2.2.1
            rw [hx] at h5
            cases h5 <;> simp_all <;> omega
          rw [← i5, hv, hb1] at i2
          rw [sz_of 0 (by omega) (by omega) (by omega)] at i2
          omega
        · exact c4 b k o hb hk (by omega) (by rw [← i4]; exact hv)
        · rw [ho2] at i2; cases i2
      · rw [neb b g0] at e3
        exact c4 b k3 o3 hb e3 hl hv
    · by_cases g0 : b = a
      · subst g0
        rw [m2] at e2
        cases e2
        rw [m1]
        rcases hinfo with ⟨i1, i2, i3, i4⟩ | ⟨i1, i2, i3, i4⟩ | ⟨i1, i2, i3, i4, i5⟩ | ⟨i1, i2, i3, i4⟩ | ⟨i1, i2, i3⟩
        · rw [i4, h.C.B.top] at hv; omega
        · rw [ho2] at i3; cases i3
        · exact h.late b k o hb hk (by omega) (by rw [← i5]; exact hv)
        · exact h.late b k o hb hk (by omega) (by rw [← i4]; exact hv)
        · rw [ho2] at i2; cases i2
      · exact lateO b k2 o2 g0 hb e2 hl hv
  | empty ho2 hc hv =>
    obtain ⟨m1, m2⟩ := stepped_done (a := a) (o := o) ho2
    have hf := formed_fin (o := o) (pick := g.pick) (code := (stepK k g.mem).1.code) (val := (stepK k g.mem).1.val) f1 f2 f3 (by rw [hc]; omega)
    obtain ⟨N, hN⟩ : ∃ N, N = finO o g.pick (stepK k g.mem).1.code (stepK k g.mem).1.val := ⟨_, rfl⟩
    have hNc : N.code = 2 := by rw [hN]; exact hc
    have hNk : N.kind = 2 := by rw [hN]; exact hko
    have hNt : N.to = g.pick := by rw [hN]; rfl
    have hops := h.opsDone (a := a) (o := o) ho2 hf
    rw [← hN] at m1
    have hab : ∀ y ∈ (g.stepped a k o).ops, y.code = 4 → y.kind = 2 ∧ ((∃ r ∈ (g.stepped a k o).ops, r.code = 1 ∧ y.frm < r.to ∧ r.frm < y.to) ∨ (res.isSome = true ∧ ∃ k2 p, ((g.stepped a k o).acs 0).now = some (k2, p) ∧ p.frm < y.to)) := fun y hy hcy => by
      have hy2 := hy
      rw [m1, List.mem_append, List.mem_singleton] at hy2
      rcases hy2 with hy2 | hy2
      · exact ab y hy2 hcy
      · rw [hy2] at hcy; omega
    have hla : ∀ b k2 o2, 0 < b → ((g.stepped a k o).acs b).now = some (k2, o2) → 2 ≤ k2.line → k2.v < t → (∃ r ∈ (g.stepped a k o).ops, r.code = 1 ∧ o2.frm < r.to) ∨ res.isSome = true := fun b k2 o2 hb e2 hl hv => by
      by_cases g0 : b = a
      · subst g0; rw [m2] at e2; cases e2
      · exact lateO b k2 o2 g0 hb e2 hl hv
    have hpm : (H ++ S ++ [N]).Perm ((g.stepped a k o).ops ++ pendL ((g.stepped a k o).acs 0).now res) := by
      rw [m1, now0]
      refine (h.perm.append_right _).trans ?_
      rw [List.append_assoc, List.append_assoc]
      exact List.perm_append_comm.append_left _
    have hpw : (H ++ S ++ [N]).Pairwise (fun a b => a.frm ≤ b.to) := pw_snoc h.pw (fun y hy => by rw [hNt]; exact h.frH hy)
    by_cases hLn : L = []
    · have hS : S = [] := by
        cases S with
        | nil => rfl
        | cons s r => obtain ⟨⟨x, hx⟩, _⟩ := h.crit (by simp); rw [hLn] at hx; cases hx
      subst hS
      simp only [List.append_nil] at hpm hpw
      exact ⟨t, L, H ++ [N], [], C, n0, s0, h.vals, hops, by simpa using hpm, by rw [hLn]; exact runH_add h.run (by rw [hLn]; exact runH_one (act_empty hNc)), by simpa using hpw, by simp, fun hS => absurd rfl hS, hla, hab⟩
    · -- the last entry is being taken
      rcases hinfo with ⟨i1, i2, i3, i4⟩ | ⟨i1, i2, i3, i4⟩ | ⟨i1, i2, i3, i4, i5⟩ | ⟨i1, i2, i3, i4⟩ | ⟨i1, i2, i3⟩
      · rw [ho2] at i2; cases i2
      · have hone : (∃ x, L = [x]) ∧ g.mem.at 1 = t := by
          have hlen : 1 ≤ L.length := by
            cases L with
            | nil => exact absurd rfl hLn
            | cons x r => simp
          have hvt : 0 ≤ k.v ∧ k.v ≤ t := by
            cases hO with
            | l2 g1 g2 v gv gd gle => omega
            | _ => omega
          have hle : g.mem.at 1 ≤ k.v := by
            rcases Int.lt_or_le k.v (g.mem.at 1) with g1 | g1
            · exfalso
              have hfit := h.C.B.fit
              rw [sz_of (g.mem.at 1 - k.v) rfl (by omega) (by omega)] at i2
              omega
            · exact g1
          have : L.length = 1 := by omega
          exact ⟨List.length_eq_one_iff.1 this, by omega⟩
        obtain ⟨⟨x, hx⟩, hbt⟩ := hone
        have hown : ∃ k2 o2, (g.acs 0).now = some (k2, o2) ∧ k2.kind = 1 ∧ (k2.line = 4 ∨ k2.line = 6) := by
          cases e1 : (g.acs 0).now with
          | none => have := (h.none0 e1).2; rw [hx] at this; simp at this; omega
          | some ko =>
            obtain ⟨k2, o2⟩ := ko
            obtain ⟨g1, g2⟩ := own_low (h.some0 k2 o2 e1).2.2.1 hx hbt
            exact ⟨k2, o2, rfl, g1, g2⟩
        obtain ⟨k2, o2, e2, c1, c2⟩ := hown
        refine ⟨t, L, H, S ++ [N], C, n0, s0, h.vals, hops, by rw [← List.append_assoc]; exact hpm, h.run, by rw [← List.append_assoc]; exact hpw, fun s hs => ?_, fun _ => ⟨⟨x, hx⟩, ⟨k2, o2, by rw [now0]; exact e2, c1, c2, fun s hs => ?_⟩, fun b k3 o3 hb e3 hl hv s hs => ?_⟩, hla, hab⟩
        · rw [List.mem_append, List.mem_singleton] at hs
          rcases hs with hs | hs
          · exact h.still s hs
          · rw [hs]; exact ⟨hNk, .inl hNc⟩
        · rw [List.mem_append, List.mem_singleton] at hs
          rcases hs with hs | hs
          · obtain ⟨_, ⟨k4, o4, e4, _, _, c3⟩, _⟩ := h.crit (by intro e5; rw [e5] at hs; cases hs)
            rw [e2] at e4
            cases e4
            exact c3 s hs
          · rw [hs, hNt]
            have := hfrN 0 k2 o2 (by omega) e2
            omega
        · by_cases g0 : b = a
          · subst g0; rw [m2] at e3; cases e3
          · rw [neb b g0] at e3
            rw [List.mem_append, List.mem_singleton] at hs
            rcases hs with hs | hs
            · exact (h.crit (by intro e5; rw [e5] at hs; cases hs)).2.2 b k3 o3 hb e3 hl hv s hs
            · rw [hs, hNt]
              have := hfrN b k3 o3 g0 e3
              omega
      · rw [ho2] at i3; cases i3
      · rw [ho2] at i2; cases i2
      · exact absurd hc i3
  | abort ho2 hc hv v hkv hlt =>
    obtain ⟨m1, m2⟩ := stepped_done (a := a) (o := o) ho2
    have hf := formed_fin (o := o) (pick := g.pick) (code := (stepK k g.mem).1.code) (val := (stepK k g.mem).1.val) f1 f2 f3 (by rw [hc]; omega)
    have hops := h.opsDone (a := a) (o := o) ho2 hf
    obtain ⟨N, hN⟩ : ∃ N, N = finO o g.pick (stepK k g.mem).1.code (stepK k g.mem).1.val := ⟨_, rfl⟩
    have hNc : N.code = 4 := by rw [hN]; exact hc
    have hNk : N.kind = 2 := by rw [hN]; exact hko
    have hNt : N.to = g.pick := by rw [hN]; rfl
    have hNf : N.frm = o.frm := by rw [hN]; rfl
    rw [← hN] at m1
    have hline : k.line = 4 := by
      rcases hinfo with ⟨i1, i2, i3, i4⟩ | ⟨i1, i2, i3, i4⟩ | ⟨i1, i2, i3, i4, i5⟩ | ⟨i1, i2, i3, i4⟩ | ⟨i1, i2, i3⟩
      · rw [ho2] at i2; cases i2
      · omega
      · rw [ho2] at i3; cases i3
      · rw [ho2] at i2; cases i2
      · exact i1
    have hriv := h.late a k o h0 hk (by omega) (by omega)
    have hab : ∀ y ∈ (g.stepped a k o).ops, y.code = 4 → y.kind = 2 ∧ ((∃ r ∈ (g.stepped a k o).ops, r.code = 1 ∧ y.frm < r.to ∧ r.frm < y.to) ∨ (res.isSome = true ∧ ∃ k2 p, ((g.stepped a k o).acs 0).now = some (k2, p) ∧ p.frm < y.to)) := fun y hy hcy => by
      have hy2 := hy
      rw [m1, List.mem_append, List.mem_singleton] at hy2
      rcases hy2 with hy2 | hy2
      · exact ab y hy2 hcy
      · rw [hy2]
        refine ⟨hNk, ?_⟩
        rw [hNt, hNf]
        rcases hriv with ⟨r, r1, r2, r3⟩ | hr
        · refine .inl ⟨r, hlate r r1, r2, r3, ?_⟩
          obtain ⟨g1, g2⟩ := h.ops r r1
          simp only [HOp.formed, Bool.and_eq_true, decide_eq_true_eq] at g1
          omega
        · refine .inr ⟨hr, ?_⟩
          cases e1 : (g.acs 0).now with
          | none => have := (h.none0 e1).1; rw [this] at hr; cases hr
          | some ko => exact ⟨ko.1, ko.2, by rw [now0]; exact e1, hfrN 0 ko.1 ko.2 (by omega) e1⟩
    have hla : ∀ b k2 o2, 0 < b → ((g.stepped a k o).acs b).now = some (k2, o2) → 2 ≤ k2.line → k2.v < t → (∃ r ∈ (g.stepped a k o).ops, r.code = 1 ∧ o2.frm < r.to) ∨ res.isSome = true := fun b k2 o2 hb e2 hl hv => by
      by_cases g0 : b = a
      · subst g0; rw [m2] at e2; cases e2
      · exact lateO b k2 o2 g0 hb e2 hl hv
    have hpm : (H ++ S ++ [N]).Perm ((g.stepped a k o).ops ++ pendL ((g.stepped a k o).acs 0).now res) := by
      rw [m1, now0]
      refine (h.perm.append_right _).trans ?_
      rw [List.append_assoc, List.append_assoc]
      exact List.perm_append_comm.append_left _
    have hpw : (H ++ S ++ [N]).Pairwise (fun a b => a.frm ≤ b.to) := pw_snoc h.pw (fun y hy => by rw [hNt]; exact h.frH hy)
    by_cases hS : S = []
    · subst hS
      simp only [List.append_nil] at hpm hpw
      exact ⟨t, L, H ++ [N], [], C, n0, s0, h.vals, hops, by simpa using hpm, runH_add h.run (runH_one (act_abort hNc)), by simpa using hpw, by simp, fun hS => absurd rfl hS, hla, hab⟩
    · obtain ⟨⟨x, hx⟩, ⟨k2, o2, e2, c1, c2, c3⟩, c4⟩ := h.crit hS
      refine ⟨t, L, H, S ++ [N], C, n0, s0, h.vals, hops, by rw [← List.append_assoc]; exact hpm, h.run, by rw [← List.append_assoc]; exact hpw, fun s hs => ?_, fun _ => ⟨⟨x, hx⟩, ⟨k2, o2, by rw [now0]; exact e2, c1, c2, fun s hs => ?_⟩, fun b k3 o3 hb e3 hl hv s hs => ?_⟩, hla, hab⟩
      · rw [List.mem_append, List.mem_singleton] at hs
        rcases hs with hs | hs
        · exact h.still s hs
        · rw [hs]; exact ⟨hNk, .inr hNc⟩
      · rw [List.mem_append, List.mem_singleton] at hs
        rcases hs with hs | hs
        · exact c3 s hs
        · rw [hs, hNt]
          have := hfrN 0 k2 o2 (by omega) e2
          omega
      · by_cases g0 : b = a
        · subst g0; rw [m2] at e3; cases e3
        · rw [neb b g0] at e3
          rw [List.mem_append, List.mem_singleton] at hs
          rcases hs with hs | hs
          · exact c4 b k3 o3 hb e3 hl hv s hs
          · rw [hs, hNt]
            have := hfrN b k3 o3 g0 e3
            omega
  | got x M ho2 hc hv hL =>
    obtain ⟨m1, m2⟩ := stepped_done (a := a) (o := o) ho2
    have hf := formed_fin (o := o) (pick := g.pick) (code := (stepK k g.mem).1.code) (val := (stepK k g.mem).1.val) f1 f2 f3 (by rw [hc]; omega)
    have hops := h.opsDone (a := a) (o := o) ho2 hf
    subst hL
    have hxv := h.vals x (by simp)
    obtain ⟨N, hN⟩ : ∃ N, N = finO o g.pick (stepK k g.mem).1.code (stepK k g.mem).1.val := ⟨_, rfl⟩
    have hNc : N.code = 1 := by rw [hN]; exact hc
    have hNk : N.kind = 2 := by rw [hN]; exact hko
    have hNt : N.to = g.pick := by rw [hN]; rfl
    have hNf : N.frm = o.frm := by rw [hN]; rfl
    have hNv : N.value = x := by
      rw [hN]
      simp only [finO, hc, if_pos]
      rw [hv]
      exact back x hxv
    rw [← hN] at m1
    have hline : k.line = 4 ∧ k.v = t := by
      have hl : k.line = 4 := by
        rcases hinfo with ⟨i1, i2, i3, i4⟩ | ⟨i1, i2, i3, i4⟩ | ⟨i1, i2, i3, i4, i5⟩ | ⟨i1, i2, i3, i4⟩ | ⟨i1, i2, i3⟩
        · rw [ho2] at i2; cases i2
        · omega
        · rw [ho2] at i3; cases i3
        · rw [ho2] at i2; cases i2
        · exact i1
      refine ⟨hl, ?_⟩
      have hk2 : k.kind = 2 := by cases hO <;> assumption
      have qt : k.q.top = 0 := by rw [hq]; rfl
      rw [stepK_steal ho hk2] at hc
      unfold stepSteal at hc
      rw [hl] at hc
      by_cases g1 : (g.mem.has k.q.top && g.mem.at k.q.top == k.v) = true
      · rw [qt, h.C.B.top, Bool.and_eq_true, beq_iff_eq] at g1
        exact g1.2.symm
      · simp only [if_neg g1] at hc
        simp [K.fin] at hc
    have hSto : ∀ s ∈ S, N.frm ≤ s.to := fun s hs => by
      rw [hNf]
      exact (h.crit (by intro e3; rw [e3] at hs; cases hs)).2.2 a k o h0 hk (by omega) hline.2 s hs
    have hNin : N ∈ (g.stepped a k o).ops := by rw [m1]; simp
    refine ⟨t + 1, L', H ++ N :: S, [], C, fun e2 => ?_, fun k2 o2 e2 => ?_, fun y hy => h.vals y (by simp at hy ⊢; exact .inr hy), hops, ?_, ?_, ?_, (by simp), fun hS => absurd rfl hS, fun b k2 o2 hb e2 hl hv => ?_, fun y hy hcy => ?_⟩
    · obtain ⟨e3, e4⟩ := n0 e2
      exact ⟨e3, by rw [e4]; simp; omega⟩
    · rw [now0] at e2
      obtain ⟨e3, e4, e5, e6, e7⟩ := h.some0 k2 o2 e2
      exact ⟨e3, e4, own_taken e5 hat, e6, e7⟩
    · rw [m1, now0]
      simp only [List.append_nil]
      refine List.perm_middle.trans ((h.perm.cons N).trans ?_)
      rw [List.append_assoc]
      exact (List.perm_middle (a := N) (l₁ := g.ops) (l₂ := pendL (g.acs 0).now res)).symm
    · refine runH_add h.run ?_
      have h1 : N.act (x :: L') c = some L' := act_steal hNc hNk hNv
      simp only [runH, h1]
      by_cases hS : S = []
      · rw [hS]; rfl
      · obtain ⟨⟨y, hy⟩, _⟩ := h.crit hS
        simp at hy
        rw [hy.2]
        exact still_run S h.still
    · simp only [List.append_nil]
      exact pw_mid h.pw (fun y hy => by rw [hNt]; exact h.frH (by simp [hy])) hSto
    · by_cases g0 : b = a
      · subst g0; rw [m2] at e2; cases e2
      · rw [neb b g0] at e2
        have := hfrN b k2 o2 g0 e2
        exact .inl ⟨N, hNin, hNc, by rw [hNt]; exact this⟩
    · have hy2 := hy
      rw [m1, List.mem_append, List.mem_singleton] at hy2
      rcases hy2 with hy2 | hy2
      · exact ab y hy2 hcy
      · rw [hy2] at hcy; omega
end
end Go.Proofs.YtfhkhknnoepfeaaGreat

/- The game, plain: from its start to its end; its operations have an order, and all acts are done. -/
namespace Go.Proofs.YtfhkhknnoepfeaaGreat
open Go.RowKit

def zerosN (n : Nat) : List Int := List.replicate n 0
def Ac.idle (v : Ac) : Bool := v.now.isNone && v.acts.isEmpty
def Ac.left (v : Ac) : Nat := v.acts.length + (if v.now.isSome then 1 else 0)
/-- A bound of the steps that an actor has still to do. -/
def Ac.work (v : Ac) : Nat := 10 * v.acts.length + match v.now with
  | none => 0
  | some (k, _) => 10 - k.line

/-- Something of what holds. -/
def GX (c : Nat) (g : Gm) : Prop := ∃ t L res H S, GN c none g t L res H S

theorem GN.tick {c : Nat} {g : Gm} {t : Nat} {L : List Int} {res : Option Int} {H S : List HOp} (h : GN c none g t L res H S) : GN c none { g with pick := g.pick + 1 } t L res H S :=
  ⟨⟨h.C.B, by have := h.C.tb; show t ≤ g.pick + 1; omega, h.C.someN, fun a k o e => by
      obtain ⟨a1, a2, a3, a4⟩ := h.C.fr a k o e
      have := a4 (by simp)
      exact ⟨a1, a2, by show o.frm ≤ ((g.pick + 1 : Nat) : Int); omega, fun _ => by show o.frm < ((g.pick + 1 : Nat) : Int); omega⟩, h.C.acts0, h.C.actsN, h.C.sok, h.C.kok⟩,
    h.none0, h.some0, h.vals, fun o ho => ⟨(h.ops o ho).1, by have := (h.ops o ho).2; show o.to < ((g.pick + 1 : Nat) : Int); omega⟩, h.perm, h.run, h.pw, h.still, h.crit, h.late, h.abort⟩

theorem begun_some {q : Q4} {g : Gm} {a : Nat} {ko : K × HOp} (h : (g.acs a).now = some ko) : g.begun q a = g.acs a := by unfold Gm.begun; rw [h]
theorem begun_nil {q : Q4} {g : Gm} {a : Nat} (h : (g.acs a).now = none) (ha : (g.acs a).acts = []) : g.begun q a = g.acs a := by unfold Gm.begun; rw [h, ha]
theorem begun_cons {q : Q4} {g : Gm} {a : Nat} {x : Int × Int} {r : List (Int × Int)} (h : (g.acs a).now = none) (ha : (g.acs a).acts = x :: r) : g.begun q a = ⟨r, some (newK q x, op0 a g.pick x)⟩ := by unfold Gm.begun; rw [h, ha]
theorem set_self {g : Gm} {a : Nat} : g.set a (g.acs a) = g := by
  have : upd g.acs a (g.acs a) = g.acs := by
    funext b
    by_cases h : b = a
    · subst h; exact upd_same _ _ _
    · exact upd_ne h
  unfold Gm.set; rw [this]

/-- What a pick of an actor is. -/
inductive GStep (q : Q4) (g : Gm) (a : Nat) : Gm → Prop
  | idle (h : (g.acs a).now = none) (ha : (g.acs a).acts = []) : GStep q g a { g with pick := g.pick + 1 }
  | more (k : K) (o : HOp) (h : (g.acs a).now = some (k, o)) : GStep q g a (g.stepped a k o)
  | begin (x : Int × Int) (r : List (Int × Int)) (h : (g.acs a).now = none) (ha : (g.acs a).acts = x :: r) : GStep q g a ((g.set a ⟨r, some (newK q x, op0 a g.pick x)⟩).stepped a (newK q x) (op0 a g.pick x))
theorem gstep_is (q : Q4) (g : Gm) (a : Nat) : GStep q g a (gstep q g a) := by
  unfold gstep
  cases h : (g.acs a).now with
  | some ko => rw [begun_some h, h]; simp only [set_self]; exact .more ko.1 ko.2 h
  | none =>
    cases ha : (g.acs a).acts with
    | nil => rw [begun_nil h ha, h]; exact .idle h ha
    | cons x r => rw [begun_cons h ha]; exact .begin x r h ha

theorem GX.gstep {c : Nat} {g : Gm} (h : GX c g) (hp : g.pick < 900000) (a : Nat) : GX c (gstep (q0 c) g a) := by
  obtain ⟨t, L, res, H, S, h⟩ := h
  have hs := gstep_is (q0 c) g a
  generalize Go.Proofs.YtfhkhknnoepfeaaGreat.gstep (q0 c) g a = g' at hs
  cases hs with
  | idle h1 h2 => exact ⟨t, L, res, H, S, h.tick⟩
  | more k o h1 =>
    rcases Nat.eq_zero_or_pos a with ha | ha
    · subst ha
      exact h.stepOwn (.inl rfl) h1 hp
    · obtain ⟨t', L', H', S', h'⟩ := h.stepThf ha (.inl rfl) h1 hp
      exact ⟨t', L', res, H', S', h'⟩
  | begin x r h1 h2 =>
    rcases Nat.eq_zero_or_pos a with ha | ha
    · subst ha
      exact (h.begin0 h1 h2).stepOwn (.inr rfl) (by rw [set_same]) hp
    · obtain ⟨t', L', H', S', h'⟩ := (h.beginN ha h1 h2).stepThf ha (.inr rfl) (by rw [set_same]) hp
      exact ⟨t', L', res, H', S', h'⟩

theorem gstep_pick (q : Q4) (g : Gm) (a : Nat) : (gstep q g a).pick = g.pick + 1 := by
  have hs := gstep_is q g a
  generalize gstep q g a = g' at hs ⊢
  cases hs <;> rfl
theorem gstep_ne (q : Q4) (g : Gm) {a b : Nat} (hb : b ≠ a) : (gstep q g a).acs b = g.acs b := by
  have hs := gstep_is q g a
  generalize gstep q g a = g' at hs ⊢
  cases hs with
  | idle h1 h2 => rfl
  | more k o h1 => exact stepped_ne hb
  | begin x r h1 h2 => rw [stepped_ne hb, set_ne hb]
/-- Nothing is lost: what an actor has no longer to do is done. -/
theorem gstep_left (q : Q4) (g : Gm) (a : Nat) : (gstep q g a).ops.length + ((gstep q g a).acs a).left = g.ops.length + (g.acs a).left := by
  have st : ∀ (g : Gm) (k : K) (o : HOp), (g.acs a).now.isSome = true → (g.stepped a k o).ops.length + ((g.stepped a k o).acs a).left = g.ops.length + (g.acs a).left := fun g k o hs => by
    unfold Ac.left
    rw [stepped_acts, hs]
    cases ho : (stepK k g.mem).1.over with
    | true => rw [(stepped_done ho).1, (stepped_done ho).2]; simp; omega
    | false => rw [(stepped_more ho).1, (stepped_more ho).2]; simp
  have hs := gstep_is q g a
  generalize gstep q g a = g' at hs ⊢
  cases hs with
  | idle h1 h2 => rfl
  | more k o h1 => exact st g k o (by rw [h1]; rfl)
  | begin x r h1 h2 =>
    rw [st _ _ _ (by rw [set_same]; rfl), set_same]
    show g.ops.length + _ = _
    unfold Ac.left
    rw [h1, h2]
    simp
theorem gstep_work {q : Q4} {g : Gm} {a : Nat} (hk : ∀ k o, (g.acs a).now = some (k, o) → k.over = false ∧ k.ok) (hi : (g.acs a).idle = false) : ((gstep q g a).acs a).work < (g.acs a).work := by
  have st : ∀ (g : Gm) (k : K) (o : HOp), (g.acs a).now = some (k, o) → k.over = false → 1 ≤ k.line → k.line ≤ 9 → ((g.stepped a k o).acs a).work < (g.acs a).work := fun g k o hs hov hl hl2 => by
    unfold Ac.work
    rw [stepped_acts, hs]
    rcases stepK_line (k := k) (s := g.mem) hov hl with ho | ho
    · rw [(stepped_done ho).2]; simp only; omega
    · cases ho2 : (stepK k g.mem).1.over with
      | true => rw [(stepped_done ho2).2]; simp only; omega
      | false => rw [(stepped_more ho2).2]; simp only; omega
  have hs := gstep_is q g a
  generalize gstep q g a = g' at hs ⊢
  cases hs with
  | idle h1 h2 => unfold Ac.idle at hi; rw [h1, h2] at hi; cases hi
  | more k o h1 => obtain ⟨h2, h3⟩ := hk k o h1; exact st g k o h1 h2 h3.line.1 h3.line.2
  | begin x r h1 h2 =>
    have hn : (newK q x).over = false ∧ (newK q x).line = 1 := by
      unfold newK
      split
      · exact ⟨rfl, rfl⟩
      · split <;> exact ⟨rfl, rfl⟩
    refine Nat.lt_of_lt_of_le (st _ (newK q x) _ (by rw [set_same]) hn.1 (by omega) (by omega)) ?_
    rw [set_same]
    unfold Ac.work
    rw [h1, h2]
    simp only [List.length_cons]
    omega

/-- An actor does what it has still to do. -/
def gdrain (q : Q4) (a : Nat) : Nat → Gm → Gm
  | 0, g => g
  | n + 1, g => if (g.acs a).idle then g else gdrain q a n (gstep q g a)
theorem gdrain_idle {q : Q4} {a : Nat} {g : Gm} (h : (g.acs a).idle = true) : ∀ n, gdrain q a n g = g
  | 0 => rfl
  | n + 1 => by rw [gdrain, if_pos h]
theorem idle_work {v : Ac} (hk : ∀ k o, v.now = some (k, o) → k.ok) (h : v.work = 0) : v.idle = true := by
  unfold Ac.work at h
  unfold Ac.idle
  cases hn : v.now with
  | none =>
    rw [hn] at h
    have : v.acts = [] := List.eq_nil_of_length_eq_zero (by simp at h; omega)
    rw [this]; rfl
  | some ko =>
    rw [hn] at h
    have := (hk ko.1 ko.2 hn).line.2
    simp only at h
    omega

theorem GX.live {c : Nat} {g : Gm} (h : GX c g) (a : Nat) : ∀ k o, (g.acs a).now = some (k, o) → k.over = false ∧ k.ok ∧ k.kind ≤ 2 := by
  obtain ⟨t, L, res, H, S, h⟩ := h
  intro k o e
  rcases Nat.eq_zero_or_pos a with ha | ha
  · subst ha
    have hO := (h.some0 k o e).2.2.1
    exact ⟨(h.some0 k o e).1, h.C.kok 0 k o e, by cases hO <;> omega⟩
  · have hO := (h.C.someN a k o ha e).2.2.1
    exact ⟨(h.C.someN a k o ha e).1, h.C.kok a k o e, by cases hO <;> omega⟩

structure Drained (c a n : Nat) (g g' : Gm) : Prop where
  gx : GX c g'
  idle : (g'.acs a).idle = true
  pick : g'.pick ≤ g.pick + n
  left : g'.ops.length + (g'.acs a).left = g.ops.length + (g.acs a).left
  others : ∀ b, b ≠ a → g'.acs b = g.acs b
theorem gdrain_spec {c a : Nat} : ∀ (n : Nat) (g : Gm), GX c g → (g.acs a).work ≤ n → g.pick + n < 900000 → Drained c a n g (gdrain (q0 c) a n g)
  | 0, g, h, hw, hp => ⟨h, idle_work (v := g.acs a) (fun k o e => (h.live a k o e).2.1) (by omega), by simp [gdrain], rfl, fun _ _ => rfl⟩
  | n + 1, g, h, hw, hp => by
    rw [gdrain]
    cases hi : (g.acs a).idle with
    | true => rw [if_pos rfl]; exact ⟨h, hi, by omega, rfl, fun _ _ => rfl⟩
    | false =>
      rw [if_neg (by simp)]
      have hw2 := gstep_work (q := q0 c) (fun k o e => ⟨(h.live a k o e).1, (h.live a k o e).2.1⟩) hi
      have hp2 := gstep_pick (q0 c) g a
      obtain ⟨a1, a2, a3, a4, a5⟩ := gdrain_spec (a := a) n _ (h.gstep (by omega) a) (by omega) (by omega)
      exact ⟨a1, a2, by omega, a4.trans (gstep_left _ _ _), fun b hb => (a5 b hb).trans (gstep_ne _ _ hb)⟩

/-- The sum of what the first n actors have to do. -/
def sumL (f : Nat → Nat) : Nat → Nat
  | 0 => 0
  | n + 1 => sumL f n + f n
theorem sumL_congr {f f' : Nat → Nat} : ∀ {n : Nat}, (∀ b, b < n → f b = f' b) → sumL f n = sumL f' n
  | 0, _ => rfl
  | n + 1, h => by rw [sumL, sumL, sumL_congr (fun b hb => h b (by omega)), h n (by omega)]
theorem sumL_one {f f' : Nat → Nat} {a : Nat} : ∀ {n : Nat}, a < n → (∀ b, b ≠ a → f b = f' b) → sumL f n + f' a = sumL f' n + f a
  | 0, h, _ => by omega
  | n + 1, h, hb => by
    rw [sumL, sumL]
    by_cases e : a = n
    · subst e
      rw [sumL_congr (fun b hb2 => hb b (by omega))]
      omega
    · have := sumL_one (n := n) (by omega) hb
      have := hb n (fun e2 => e e2.symm)
      omega
def Gm.todo (g : Gm) (n : Nat) : Nat := g.ops.length + sumL (fun a => (g.acs a).left) n
def Gm.cost (g : Gm) (n : Nat) : Nat := sumL (fun a => (g.acs a).work) n

/-- The first k actors do what they have still to do, one behind the other. -/
def gall (q : Q4) (g : Gm) : Nat → Gm
  | 0 => g
  | k + 1 => gdrain q k ((gall q g k).acs k).work (gall q g k)

theorem gall_spec {c n : Nat} {g : Gm} (h : GX c g) (hp : g.pick + g.cost n < 900000) : ∀ k, k ≤ n → GX c (gall (q0 c) g k) ∧ (∀ a, a < k → ((gall (q0 c) g k).acs a).idle = true) ∧ (∀ a, k ≤ a → (gall (q0 c) g k).acs a = g.acs a) ∧ (gall (q0 c) g k).pick ≤ g.pick + sumL (fun a => (g.acs a).work) k ∧ (gall (q0 c) g k).todo n = g.todo n
  | 0, _ => ⟨h, fun a ha => by omega, fun _ _ => rfl, by simp [gall], rfl⟩
  | k + 1, hk => by
    obtain ⟨a1, a2, a3, a4, a5⟩ := gall_spec h hp k (by omega)
    have hm : ∀ m, k + 1 ≤ m → sumL (fun a => (g.acs a).work) (k + 1) ≤ sumL (fun a => (g.acs a).work) m := by
      intro m
      induction m with
      | zero => intro h; omega
      | succ m ih =>
        intro h
        by_cases e : k = m
        · subst e; exact Nat.le_refl _
        · rw [show sumL (fun a => (g.acs a).work) (m + 1) = sumL (fun a => (g.acs a).work) m + (g.acs m).work from rfl]
          have := ih (by omega)
          omega
    have hs : sumL (fun a => (g.acs a).work) (k + 1) = sumL (fun a => (g.acs a).work) k + (g.acs k).work := rfl
    have hmn := hm n hk
    unfold Gm.cost at hp
    rw [gall, a3 k (Nat.le_refl _)]
    obtain ⟨b1, b2, b3, b4, b5⟩ := gdrain_spec (a := k) (g.acs k).work _ a1 (by rw [a3 k (Nat.le_refl _)]; exact Nat.le_refl _) (by omega)
    refine ⟨b1, fun a ha => ?_, fun a ha => by rw [b5 a (by omega)]; exact a3 a (by omega), by omega, ?_⟩
    · by_cases e : a = k
      · subst e; exact b2
      · rw [b5 a e]; exact a2 a (by omega)
    · rw [← a5]
      unfold Gm.todo
      have := sumL_one (f := fun a => ((gdrain (q0 c) k (g.acs k).work (gall (q0 c) g k)).acs a).left) (f' := fun a => ((gall (q0 c) g k).acs a).left) (a := k) (n := n) (by omega) (fun b hb => by rw [b5 b hb])
      omega

/-- The picks of the game. -/
def gpicks (q : Q4) (g : Gm) : List Nat → Gm
  | [] => g
  | a :: r => gpicks q (gstep q g a) r
theorem gpicks_spec {c n : Nat} : ∀ (l : List Nat) (g : Gm), GX c g → (∀ a ∈ l, a < n) → g.pick + l.length < 900000 → GX c (gpicks (q0 c) g l) ∧ (gpicks (q0 c) g l).pick = g.pick + l.length ∧ (∀ a, n ≤ a → (gpicks (q0 c) g l).acs a = g.acs a) ∧ (gpicks (q0 c) g l).todo n = g.todo n ∧ (∀ a, ((gpicks (q0 c) g l).acs a).work ≤ (g.acs a).work)
  | [], g, h, _, _ => ⟨h, rfl, fun _ _ => rfl, rfl, fun _ => Nat.le_refl _⟩
  | a :: r, g, h, hl, hp => by
    have h1 := gstep_pick (q0 c) g a
    simp only [List.length_cons] at hp ⊢
    have ha := hl a (by simp)
    obtain ⟨a1, a2, a3, a4, a5⟩ := gpicks_spec (n := n) r _ (h.gstep (by omega) a) (fun b hb => hl b (by simp [hb])) (by omega)
    refine ⟨a1, by rw [gpicks, a2, h1]; omega, fun b hb => by rw [gpicks, a3 b hb]; exact gstep_ne _ _ (by omega), ?_, fun b => Nat.le_trans (a5 b) ?_⟩
    · rw [gpicks, a4]
      unfold Gm.todo
      have := sumL_one (f := fun b => ((gstep (q0 c) g a).acs b).left) (f' := fun b => (g.acs b).left) (a := a) (n := n) ha (fun b hb => by rw [gstep_ne _ _ hb])
      have := gstep_left (q0 c) g a
      omega
    · by_cases e : b = a
      · subst e
        cases hi : (g.acs b).idle with
        | true =>
          have hs := gstep_is (q0 c) g b
          generalize gstep (q0 c) g b = g' at hs ⊢
          unfold Ac.idle at hi
          cases hs with
          | idle h1 h2 => exact Nat.le_refl _
          | more k o h1 => rw [h1] at hi; simp at hi
          | begin x r h1 h2 => rw [h2] at hi; simp at hi
        | false => exact Nat.le_of_lt (gstep_work (fun k o e => ⟨(h.live b k o e).1, (h.live b k o e).2.1⟩) hi)
      · rw [gstep_ne _ _ e]; exact Nat.le_refl _

/-- The start. -/
def gstart (c : Nat) (acts : Nat → List (Int × Int)) : Gm := ⟨⟨zerosN (2 + c), 0, 0, 0, 0, 0⟩, fun a => ⟨acts a, none⟩, 0, []⟩
theorem zerosN_at (n : Nat) (x y z u v d : Int) : (⟨zerosN n, x, y, z, u, v⟩ : MS).at d = 0 := by
  unfold MS.at zerosN
  split
  · simp only [List.getD_eq_getElem?_getD, List.getElem?_replicate]
    split <;> rfl
  · rfl
theorem gstart_gx {c : Nat} {acts : Nat → List (Int × Int)} (hc : 1 ≤ c) (hc2 : c < 1000) (h0 : ∀ x ∈ acts 0, (x.1 = 0 ∨ x.1 = 1) ∧ inI x.2) (hN : ∀ a, 0 < a → ∀ x ∈ acts a, x.1 = 2) : GX c (gstart c acts) := by
  refine ⟨0, [], none, [], [], ⟨⟨hc, hc2, by simp [gstart, zerosN]; omega, zerosN_at _ _ _ _ _ _ _, by simp, fun i hi => by simp at hi⟩, by simp, (fun a k o _ e => by cases e), (fun a k o e => by cases e), h0, hN, ?_, (fun a k o e => by cases e)⟩,
    fun _ => ⟨rfl, zerosN_at _ _ _ _ _ _ _⟩, (fun k o e => by cases e), by simp, (fun o ho => by cases ho), .nil, rfl, by simp, by simp, fun h => absurd rfl h, (fun a k o _ e => by cases e), (fun o ho => by cases ho)⟩
  intro x hx
  simp only [gstart, zerosN] at hx
  rw [List.mem_replicate] at hx
  rw [hx.2]
  omega

/-- The whole game: its operations. -/
def gplay (c n : Nat) (acts : Nat → List (Int × Int)) (picks : List Nat) : List HOp := (gall (q0 c) (gpicks (q0 c) (gstart c acts) picks) n).ops

structure Played (c : Nat) (ops : List HOp) (total : Nat) : Prop where
  len : ops.length = total
  formed : ∀ o ∈ ops, o.formed = true
  orders : Orders c ops
  abort : ∀ o ∈ ops, o.code = 4 → o.kind = 2 ∧ ∃ r ∈ ops, r.code = 1 ∧ o.frm < r.to ∧ r.frm < o.to

theorem gplay_spec {c n : Nat} {acts : Nat → List (Int × Int)} {picks : List Nat} (hc : 1 ≤ c) (hc2 : c < 1000) (hn : 1 ≤ n) (h0 : ∀ x ∈ acts 0, (x.1 = 0 ∨ x.1 = 1) ∧ inI x.2) (hN : ∀ a, 0 < a → ∀ x ∈ acts a, x.1 = 2)
    (hp : ∀ a ∈ picks, a < n) (hb : picks.length + 10 * sumL (fun a => (acts a).length) n < 900000) : Played c (gplay c n acts picks) (sumL (fun a => (acts a).length) n) := by
  obtain ⟨a1, a2, a3, a4, a5⟩ := gpicks_spec (n := n) picks _ (gstart_gx hc hc2 h0 hN) hp (by show 0 + _ < _; omega)
  have hcost : ∀ m, sumL (fun a => ((gpicks (q0 c) (gstart c acts) picks).acs a).work) m ≤ 10 * sumL (fun a => (acts a).length) m := by
    intro m
    induction m with
    | zero => exact Nat.le_refl _
    | succ m ih =>
      have h2 := a5 m
      have h3 : ((gstart c acts).acs m).work = 10 * (acts m).length := rfl
      rw [sumL, sumL]
      omega
  obtain ⟨b1, b2, b3, b4, b5⟩ := gall_spec a1 (n := n) (by
    have h2 := hcost n
    have h3 : (gstart c acts).pick = 0 := rfl
    unfold Gm.cost
    omega) n (Nat.le_refl _)
  have hall : ∀ a, a < n → ((gall (q0 c) (gpicks (q0 c) (gstart c acts) picks) n).acs a).left = 0 := fun a ha => by
    have := b2 a ha
    unfold Ac.idle at this
    rw [Bool.and_eq_true, Option.isNone_iff_eq_none, List.isEmpty_iff] at this
    unfold Ac.left
    rw [this.1, this.2]; rfl
  have hnow : ((gall (q0 c) (gpicks (q0 c) (gstart c acts) picks) n).acs 0).now = none := by
    have := b2 0 (by omega)
    unfold Ac.idle at this
    rw [Bool.and_eq_true, Option.isNone_iff_eq_none] at this
    exact this.1
  obtain ⟨t, L, res, H, S, h⟩ := b1
  have hres := (h.none0 hnow).1
  have hS : S = [] := by
    cases S with
    | nil => rfl
    | cons s r => obtain ⟨_, ⟨k2, o2, e2, _⟩, _⟩ := h.crit (by simp); rw [hnow] at e2; cases e2
  subst hS hres
  refine ⟨?_, fun o ho => (h.ops o ho).1, ⟨H, L, ?_, h.run, by simpa using h.pw⟩, fun o ho hcd => ?_⟩
  · have e1 := b5.trans a4
    unfold Gm.todo at e1
    rw [show sumL (fun a => ((gall (q0 c) (gpicks (q0 c) (gstart c acts) picks) n).acs a).left) n = 0 from by
      have : ∀ m, m ≤ n → sumL (fun a => ((gall (q0 c) (gpicks (q0 c) (gstart c acts) picks) n).acs a).left) m = 0 := by
        intro m
        induction m with
        | zero => intro _; rfl
        | succ m ih => intro hm; rw [sumL, ih (by omega), hall m (by omega)]
      exact this n (Nat.le_refl _)] at e1
    have e2 : (gstart c acts).ops.length = 0 := rfl
    rw [e2] at e1
    have e3 : sumL (fun a => ((gstart c acts).acs a).left) n = sumL (fun a => (acts a).length) n := sumL_congr (fun b _ => rfl)
    unfold gplay
    omega
  · have := h.perm
    rw [hnow] at this
    simp only [pendL, List.append_nil] at this
    exact this
  · obtain ⟨h1, h2⟩ := h.abort o ho hcd
    refine ⟨h1, ?_⟩
    rcases h2 with h2 | ⟨h2, _⟩
    · exact h2
    · cases h2
end Go.Proofs.YtfhkhknnoepfeaaGreat
