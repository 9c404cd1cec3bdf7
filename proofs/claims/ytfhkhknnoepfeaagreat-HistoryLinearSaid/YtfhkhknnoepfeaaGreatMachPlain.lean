/- Machines of deques and of bitmap bits as plain states: what a step does with a memory. -/
import Derived.Test.YtfhkhknnoepfeaaGreatDqMem
namespace Go.Proofs.YtfhkhknnoepfeaaGreat
open Go.RowKit

/-- The contents of a cell, 0 of a cell that is not there. -/
def MS.at (s : MS) (c : Int) : Int := if 0 ≤ c ∧ c < s.cells.length then s.cells.getD c.toNat 0 else 0
/-- An access of a kind that leaves new in a cell; nothing where there is no such cell. -/
def MS.put (s : MS) (kind c new : Int) : MS := if 0 ≤ c ∧ c < s.cells.length then s.acc kind c.toNat new else s
def MS.has (s : MS) (c : Int) : Bool := decide (0 ≤ c ∧ c < s.cells.length)

/-- The places of a deque. -/
structure Q4 where
  top : Int
  bot : Int
  ring : Int
  cap : Int

/-- A machine: its kind (0 push, 1 pop, 2 steal, 3 set, 4 clear), its deque, its arguments (a: value or cell; b: bit), its line, what it loaded (u: Bottom, v: Top, w: a value), its result. -/
structure K where
  kind : Nat
  q : Q4
  a : Int
  b : Int
  line : Nat
  u : Int
  v : Int
  w : Int
  over : Bool
  code : Int
  val : Int

def K.fin (k : K) (code val : Int) : K := { k with over := true, code := code, val := val }
def K.go (k : K) (line : Nat) : K := { k with line := line }

/-- The number of entries for contents of Bottom and Top. -/
def sz (b t : Int) : Int := wrap64 (IntKind.u64.wrap (b - t))
/-- The cell of an index. -/
def ringI (q : Q4) (i : Int) : Int := if q.cap < 1 then -1 else q.ring + i % q.cap
/-- The word with one bit. -/
def mask (b : Int) : Int := if b < 0 ∨ 63 < b then 0 else ((2 ^ b.toNat : Nat) : Int)
def notB (x : Int) : Int := bits .xor .u64 IntKind.u64.max x

def inc (x : Int) : Int := IntKind.u64.wrap (x + 1)
def dec (x : Int) : Int := IntKind.u64.wrap (x - 1)

def stepPush (k : K) (s : MS) : K × MS :=
  match k.line with
  | 1 => ({ k with u := s.at k.q.bot, line := 2 }, s.put 1 k.q.bot (s.at k.q.bot))
  | 2 => (if k.q.cap ≤ sz k.u (s.at k.q.top) then ({ k with v := s.at k.q.top }).fin 3 0 else { k with v := s.at k.q.top, line := 3 }, s.put 1 k.q.top (s.at k.q.top))
  | 3 => (k.go 4, s.put 2 (ringI k.q k.u) (IntKind.u64.wrap k.a))
  | _ => (k.fin 0 0, s.put 2 k.q.bot (inc k.u))

def stepPop (k : K) (s : MS) : K × MS :=
  match k.line with
  | 1 => ({ k with u := s.at k.q.bot, line := 2 }, s.put 1 k.q.bot (s.at k.q.bot))
  | 2 => (if sz k.u (s.at k.q.top) ≤ 0 then ({ k with v := s.at k.q.top }).fin 2 0 else { k with v := s.at k.q.top, line := 3 }, s.put 1 k.q.top (s.at k.q.top))
  | 3 => (k.go 4, s.put 2 k.q.bot (dec k.u))
  | 4 => ({ k with v := s.at k.q.top, line := if 0 < sz (dec k.u) (s.at k.q.top) then 5 else if sz (dec k.u) (s.at k.q.top) = 0 then 6 else 9 }, s.put 1 k.q.top (s.at k.q.top))
  | 5 => (k.fin 1 (wrap64 (s.at (ringI k.q (dec k.u)))), s.put 1 (ringI k.q (dec k.u)) (s.at (ringI k.q (dec k.u))))
  | 8 => (k.fin 1 (wrap64 (s.at (ringI k.q (dec k.u)))), s.put 1 (ringI k.q (dec k.u)) (s.at (ringI k.q (dec k.u))))
  | 6 => (k.go (if s.has k.q.top && s.at k.q.top == k.v then 7 else 9), s.put 3 k.q.top (casB (s.at k.q.top) k.v (inc k.v)))
  | 7 => (k.go 8, s.put 2 k.q.bot k.u)
  | _ => (k.fin 2 0, s.put 2 k.q.bot k.u)

def stepSteal (k : K) (s : MS) : K × MS :=
  match k.line with
  | 1 => ({ k with v := s.at k.q.top, line := 2 }, s.put 1 k.q.top (s.at k.q.top))
  | 2 => (if sz (s.at k.q.bot) k.v ≤ 0 then ({ k with u := s.at k.q.bot }).fin 2 0 else { k with u := s.at k.q.bot, line := 3 }, s.put 1 k.q.bot (s.at k.q.bot))
  | 3 => ({ k with w := s.at (ringI k.q k.v), line := 4 }, s.put 1 (ringI k.q k.v) (s.at (ringI k.q k.v)))
  | _ => (if s.has k.q.top && s.at k.q.top == k.v then k.fin 1 (wrap64 k.w) else k.fin 4 0, s.put 3 k.q.top (casB (s.at k.q.top) k.v (inc k.v)))

def stepClear (k : K) (s : MS) : K × MS :=
  match k.line with
  | 1 => (k.go 2, s.put 5 k.a (andB (s.at k.a) (notB (mask k.b))))
  | 2 => ({ k with u := s.at k.q.bot, line := 3 }, s.put 1 k.q.bot (s.at k.q.bot))
  | 3 => (if sz k.u (s.at k.q.top) ≤ 0 then ({ k with v := s.at k.q.top }).fin 2 0 else { k with v := s.at k.q.top, line := 4 }, s.put 1 k.q.top (s.at k.q.top))
  | _ => (k.fin 1 0, s.put 4 k.a (orB (s.at k.a) (mask k.b)))

def stepK (k : K) (s : MS) : K × MS :=
  if k.over then (k, s) else
  match k.kind with
  | 0 => stepPush k s
  | 1 => stepPop k s
  | 2 => stepSteal k s
  | 3 => (k.fin 0 0, s.put 4 k.a (orB (s.at k.a) (mask k.b)))
  | _ => stepClear k s

/-- The contents of all cells are words. -/
def MS.ok (s : MS) : Prop := ∀ x ∈ s.cells, 0 ≤ x ∧ x ≤ 18446744073709551615
/-- What a machine keeps is words, its places are small. -/
structure K.ok (k : K) : Prop where
  u : 0 ≤ k.u ∧ k.u ≤ 18446744073709551615
  v : 0 ≤ k.v ∧ k.v ≤ 18446744073709551615
  w : 0 ≤ k.w ∧ k.w ≤ 18446744073709551615
  ring : -1 ≤ k.q.ring ∧ k.q.ring ≤ 1000000
  cap : k.kind ≤ 2 → k.q.cap ≤ 1000000
  line : 1 ≤ k.line ∧ k.line ≤ 9

theorem wrap_u_bd (x : Int) : 0 ≤ IntKind.u64.wrap x ∧ IntKind.u64.wrap x ≤ 18446744073709551615 := by
  rw [IntKind.wrap_u64]
  omega

theorem MS.at_bd {s : MS} (h : s.ok) (c : Int) : 0 ≤ s.at c ∧ s.at c ≤ 18446744073709551615 := by
  unfold MS.at
  by_cases hc : 0 ≤ c ∧ c < s.cells.length
  · rw [if_pos hc]
    have hl : c.toNat < s.cells.length := by omega
    rw [List.getD_eq_getElem?_getD, List.getElem?_eq_getElem hl]
    exact h _ (List.getElem_mem hl)
  · rw [if_neg hc]; omega

theorem MS.put_ok {s : MS} (h : s.ok) {kind c x : Int} (hx : 0 ≤ x ∧ x ≤ 18446744073709551615) : (s.put kind c x).ok := by
  unfold MS.put
  by_cases hc : 0 ≤ c ∧ c < s.cells.length
  · rw [if_pos hc]
    intro y hy
    simp only [MS.acc] at hy
    rcases List.mem_or_eq_of_mem_set hy with h1 | h1
    · exact h y h1
    · rw [h1]; exact hx
  · rw [if_neg hc]; exact h

theorem MS.put_len (s : MS) (kind c x : Int) : (s.put kind c x).cells.length = s.cells.length := by
  unfold MS.put
  by_cases hc : 0 ≤ c ∧ c < s.cells.length
  · rw [if_pos hc]; simp [MS.acc]
  · rw [if_neg hc]
theorem MS.put_count (s : MS) (kind c x : Int) : s.count ≤ (s.put kind c x).count ∧ (s.put kind c x).count ≤ s.count + 1 := by
  unfold MS.put
  by_cases hc : 0 ≤ c ∧ c < s.cells.length
  · rw [if_pos hc]; simp only [MS.acc]; omega
  · rw [if_neg hc]; omega

theorem orB_bd (x y : Int) : 0 ≤ orB x y ∧ orB x y ≤ 18446744073709551615 := by unfold orB bits; exact wrap_u_bd _
theorem andB_bd (x y : Int) : 0 ≤ andB x y ∧ andB x y ≤ 18446744073709551615 := by unfold andB bits; exact wrap_u_bd _
theorem inc_bd (x : Int) : 0 ≤ inc x ∧ inc x ≤ 18446744073709551615 := wrap_u_bd _
theorem dec_bd (x : Int) : 0 ≤ dec x ∧ dec x ≤ 18446744073709551615 := wrap_u_bd _
theorem casB_bd {x o v : Int} (hx : 0 ≤ x ∧ x ≤ 18446744073709551615) (hv : 0 ≤ v ∧ v ≤ 18446744073709551615) : 0 ≤ casB x o v ∧ casB x o v ≤ 18446744073709551615 := by
  unfold casB
  by_cases h : x = o
  · rw [if_pos h]; exact hv
  · rw [if_neg h]; exact hx

/-- A step's memory is the old one, or it behind one access. -/
theorem stepK_mem (k : K) (s : MS) : (stepK k s).2 = s ∨ ∃ kind c x, (stepK k s).2 = s.put kind c x ∧ ((s.ok → k.ok → 0 ≤ x ∧ x ≤ 18446744073709551615)) := by
  unfold stepK
  by_cases ho : k.over = true
  · rw [if_pos ho]; exact .inl rfl
  · rw [if_neg ho]
    right
    split
    · unfold stepPush
      split
      · exact ⟨_, _, _, rfl, fun h _ => MS.at_bd h _⟩
      · exact ⟨_, _, _, rfl, fun h _ => MS.at_bd h _⟩
      · exact ⟨_, _, _, rfl, fun _ _ => wrap_u_bd _⟩
      · exact ⟨_, _, _, rfl, fun _ _ => inc_bd _⟩
    · unfold stepPop
      split
      · exact ⟨_, _, _, rfl, fun h _ => MS.at_bd h _⟩
      · exact ⟨_, _, _, rfl, fun h _ => MS.at_bd h _⟩
      · exact ⟨_, _, _, rfl, fun _ _ => dec_bd _⟩
      · exact ⟨_, _, _, rfl, fun h _ => MS.at_bd h _⟩
      · exact ⟨_, _, _, rfl, fun h _ => MS.at_bd h _⟩
      · exact ⟨_, _, _, rfl, fun h _ => MS.at_bd h _⟩
      · exact ⟨_, _, _, rfl, fun h _ => casB_bd (MS.at_bd h _) (inc_bd _)⟩
      · exact ⟨_, _, _, rfl, fun _ h => h.u⟩
      · exact ⟨_, _, _, rfl, fun _ h => h.u⟩
    · unfold stepSteal
      split
      · exact ⟨_, _, _, rfl, fun h _ => MS.at_bd h _⟩
      · exact ⟨_, _, _, rfl, fun h _ => MS.at_bd h _⟩
      · exact ⟨_, _, _, rfl, fun h _ => MS.at_bd h _⟩
      · exact ⟨_, _, _, rfl, fun h _ => casB_bd (MS.at_bd h _) (inc_bd _)⟩
    · exact ⟨_, _, _, rfl, fun _ _ => orB_bd _ _⟩
    · unfold stepClear
      split
      · exact ⟨_, _, _, rfl, fun _ _ => andB_bd _ _⟩
      · exact ⟨_, _, _, rfl, fun h _ => MS.at_bd h _⟩
      · exact ⟨_, _, _, rfl, fun h _ => MS.at_bd h _⟩
      · exact ⟨_, _, _, rfl, fun _ _ => orB_bd _ _⟩

theorem stepK_mok {k : K} {s : MS} (h : s.ok) (hk : k.ok) : (stepK k s).2.ok := by
  rcases stepK_mem k s with e | ⟨kind, c, x, e, hx⟩
  · rw [e]; exact h
  · rw [e]; exact MS.put_ok h (hx h hk)
theorem stepK_len (k : K) (s : MS) : (stepK k s).2.cells.length = s.cells.length := by
  rcases stepK_mem k s with e | ⟨kind, c, x, e, hx⟩
  · rw [e]
  · rw [e]; exact MS.put_len _ _ _ _
theorem stepK_count (k : K) (s : MS) : s.count ≤ (stepK k s).2.count ∧ (stepK k s).2.count ≤ s.count + 1 := by
  rcases stepK_mem k s with e | ⟨kind, c, x, e, hx⟩
  · rw [e]; omega
  · rw [e]; exact MS.put_count _ _ _ _

/-- A step finishes the machine or goes on to a later line. -/
theorem stepK_line {k : K} {s : MS} (ho : k.over = false) (_h1 : 1 ≤ k.line) : (stepK k s).1.over = true ∨ (k.line < (stepK k s).1.line ∧ (stepK k s).1.line ≤ 9) := by
  unfold stepK
  rw [if_neg (by rw [ho]; simp)]
  split
  · unfold stepPush
    split
    · rename_i h; right; simp [h]
    · rename_i h
      by_cases g : k.q.cap ≤ sz k.u (s.at k.q.top)
      · left; simp only [if_pos g]; rfl
      · right; simp only [if_neg g]; simp [h]
    · rename_i h; right; simp [h, K.go]
    · left; rfl
  · unfold stepPop
    split
    · rename_i h; right; simp [h]
    · rename_i h
      by_cases g : sz k.u (s.at k.q.top) ≤ 0
      · left; simp only [if_pos g]; rfl
      · right; simp only [if_neg g]; simp [h]
    · rename_i h; right; simp [h, K.go]
    · rename_i h
      right
      simp only [h]
      by_cases g : 0 < sz (dec k.u) (s.at k.q.top)
      · rw [if_pos g]; omega
      · rw [if_neg g]
        by_cases g2 : sz (dec k.u) (s.at k.q.top) = 0
        · rw [if_pos g2]; omega
        · rw [if_neg g2]; omega
    · left; rfl
    · left; rfl
    · rename_i h
      right
      simp only [h, K.go]
      by_cases g : (s.has k.q.top && s.at k.q.top == k.v) = true
      · rw [if_pos g]; omega
      · rw [if_neg g]; omega
    · rename_i h; right; simp [h, K.go]
    · left; rfl
  · unfold stepSteal
    split
    · rename_i h; right; simp [h]
    · rename_i h
      by_cases g : sz (s.at k.q.bot) k.v ≤ 0
      · left; simp only [if_pos g]; rfl
      · right; simp only [if_neg g]; simp [h]
    · rename_i h; right; simp [h]
    · left
      by_cases g : (s.has k.q.top && s.at k.q.top == k.v) = true
      · simp only [if_pos g]; rfl
      · simp only [if_neg g]; rfl
  · left; rfl
  · unfold stepClear
    split
    · rename_i h; right; simp [h, K.go]
    · rename_i h; right; simp [h]
    · rename_i h
      by_cases g : sz k.u (s.at k.q.top) ≤ 0
      · left; simp only [if_pos g]; rfl
      · right; simp only [if_neg g]; simp [h]
    · left; rfl

theorem stepK_over {k : K} {s : MS} (ho : k.over = true) : stepK k s = (k, s) := by unfold stepK; rw [if_pos ho]

/-- What a step leaves as it was. -/
theorem stepK_same (k : K) (s : MS) : (stepK k s).1.kind = k.kind ∧ (stepK k s).1.q = k.q ∧ (stepK k s).1.a = k.a ∧ (stepK k s).1.b = k.b := by
  unfold stepK
  by_cases ho : k.over = true
  · rw [if_pos ho]; exact ⟨rfl, rfl, rfl, rfl⟩
  · rw [if_neg ho]
    split
    · unfold stepPush
      split
      · exact ⟨rfl, rfl, rfl, rfl⟩
      · by_cases g : k.q.cap ≤ sz k.u (s.at k.q.top)
        · simp [g, K.fin]
        · simp [g]
      · exact ⟨rfl, rfl, rfl, rfl⟩
      · exact ⟨rfl, rfl, rfl, rfl⟩
    · unfold stepPop
      split
      · exact ⟨rfl, rfl, rfl, rfl⟩
      · by_cases g : sz k.u (s.at k.q.top) ≤ 0
        · simp [g, K.fin]
        · simp [g]
      all_goals exact ⟨rfl, rfl, rfl, rfl⟩
    · unfold stepSteal
      split
      · exact ⟨rfl, rfl, rfl, rfl⟩
      · by_cases g : sz (s.at k.q.bot) k.v ≤ 0
        · simp [g, K.fin]
        · simp [g]
      · exact ⟨rfl, rfl, rfl, rfl⟩
      · by_cases g : (s.has k.q.top && s.at k.q.top == k.v) = true
        · simp [g, K.fin]
        · simp [g, K.fin]
    · exact ⟨rfl, rfl, rfl, rfl⟩
    · unfold stepClear
      split
      · exact ⟨rfl, rfl, rfl, rfl⟩
      · exact ⟨rfl, rfl, rfl, rfl⟩
      · by_cases g : sz k.u (s.at k.q.top) ≤ 0
        · simp [g, K.fin]
        · simp [g]
      · exact ⟨rfl, rfl, rfl, rfl⟩

/-- The words that a machine keeps stay words. -/
theorem stepK_words {k : K} {s : MS} (hs : s.ok) (hk : k.ok) : (0 ≤ (stepK k s).1.u ∧ (stepK k s).1.u ≤ 18446744073709551615) ∧ (0 ≤ (stepK k s).1.v ∧ (stepK k s).1.v ≤ 18446744073709551615) ∧ (0 ≤ (stepK k s).1.w ∧ (stepK k s).1.w ≤ 18446744073709551615) := by
  have a := fun c => MS.at_bd hs c
  have u := hk.u
  have v := hk.v
  have w := hk.w
  unfold stepK
  by_cases ho : k.over = true
  · rw [if_pos ho]; exact ⟨u, v, w⟩
  · rw [if_neg ho]
    split
    · unfold stepPush
      split
      · exact ⟨a _, v, w⟩
      · by_cases g : k.q.cap ≤ sz k.u (s.at k.q.top)
        · simp only [if_pos g]; exact ⟨u, a _, w⟩
        · simp only [if_neg g]; exact ⟨u, a _, w⟩
      · exact ⟨u, v, w⟩
      · exact ⟨u, v, w⟩
    · unfold stepPop
      split
      · exact ⟨a _, v, w⟩
      · by_cases g : sz k.u (s.at k.q.top) ≤ 0
        · simp only [if_pos g]; exact ⟨u, a _, w⟩
        · simp only [if_neg g]; exact ⟨u, a _, w⟩
      · exact ⟨u, v, w⟩
      · exact ⟨u, a _, w⟩
      all_goals exact ⟨u, v, w⟩
    · unfold stepSteal
      split
      · exact ⟨u, a _, w⟩
      · by_cases g : sz (s.at k.q.bot) k.v ≤ 0
        · simp only [if_pos g]; exact ⟨a _, v, w⟩
        · simp only [if_neg g]; exact ⟨a _, v, w⟩
      · exact ⟨u, v, a _⟩
      · by_cases g : (s.has k.q.top && s.at k.q.top == k.v) = true
        · simp only [if_pos g]; exact ⟨u, v, w⟩
        · simp only [if_neg g]; exact ⟨u, v, w⟩
    · exact ⟨u, v, w⟩
    · unfold stepClear
      split
      · exact ⟨u, v, w⟩
      · exact ⟨a _, v, w⟩
      · by_cases g : sz k.u (s.at k.q.top) ≤ 0
        · simp only [if_pos g]; exact ⟨u, a _, w⟩
        · simp only [if_neg g]; exact ⟨u, a _, w⟩
      · exact ⟨u, v, w⟩

theorem stepK_ok {k : K} {s : MS} (hs : s.ok) (hk : k.ok) (ho : (stepK k s).1.over = false) : (stepK k s).1.ok := by
  obtain ⟨e1, e2, e3, e4⟩ := stepK_same k s
  obtain ⟨hu, hv, hw⟩ := stepK_words hs hk
  have hko : k.over = false := by
    cases h : k.over
    · rfl
    · rw [stepK_over h] at ho; rw [h] at ho; exact ho
  refine ⟨hu, hv, hw, by rw [e2]; exact hk.ring, fun h => by rw [e2]; exact hk.cap (by rw [← e1]; exact h), ?_⟩
  rcases stepK_line hko hk.line.1 with h | h
  · rw [h] at ho; cases ho
  · exact ⟨by have := hk.line.1; omega, h.2⟩
end Go.Proofs.YtfhkhknnoepfeaaGreat
