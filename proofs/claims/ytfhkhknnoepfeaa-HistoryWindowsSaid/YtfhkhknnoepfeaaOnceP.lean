/- An owner and thieves on one deque in any order: no entry is taken twice, none that was not pushed, and what was pushed and not taken is what is left. No program in sight. -/
import Derived.Test.YtfhkhknnoepfeaaDequeInv
namespace Go.Proofs.Ytfhkhknnoepfeaa
open Go.RowKit

/-- f, but v at a. -/
def upd {α : Type} (f : Nat → α) (a : Nat) (v : α) : Nat → α := fun b => if b = a then v else f b
theorem upd_same {α : Type} (f : Nat → α) (a : Nat) (v : α) : upd f a v a = v := by unfold upd; rw [if_pos rfl]
theorem upd_ne {α : Type} {f : Nat → α} {a b : Nat} {v : α} (h : b ≠ a) : upd f a v b = f b := by unfold upd; rw [if_neg h]
theorem map_upd {α β : Type} (g : α → β) (f : Nat → α) (a n : Nat) (v : α) : (List.range n).map (fun b => g (upd f a v b)) = ((List.range n).map (fun b => g (f b))).set a (g v) := by
  apply List.ext_getElem
  · simp
  · intro i h1 h2
    rw [List.getElem_set]
    simp only [List.getElem_map, List.getElem_range]
    by_cases h : a = i
    · subst h; rw [if_pos rfl, upd_same]
    · rw [if_neg h, upd_ne (fun e => h e.symm)]

/-- The machines ms of the actors, what each is doing, the numbers that were pushed and taken, the deque. i is above all numbers, j above the steps. -/
structure ON (c t0 i j : Nat) (ms : Nat → Option K) (doing : Nat → Int) (pushed : Nat → Bool) (taken : Nat → Int) (s : MS) (t : Nat) (L : List Int) (res : Option Int) : Prop where
  B : Base s c t L
  t0t : t0 ≤ t
  tb : t ≤ t0 + j
  none0 : ms 0 = none → res = none ∧ s.at 1 = t + L.length
  some0 : ∀ k, ms 0 = some k → k.over = false ∧ k.q = q0 c ∧ Own s c t L k res ∧ ((k.kind = 0 ∧ ∃ p : Nat, k.a = p ∧ doing 0 = p ∧ p < i ∧ pushed p = false) ∨ (k.kind = 1 ∧ doing 0 = -1))
  someN : ∀ a k, 0 < a → ms a = some k → k.over = false ∧ k.q = q0 c ∧ Thf t0 t L k
  nodup : (L ++ res.toList).Nodup
  mem : ∀ x ∈ L ++ res.toList, ∃ p : Nat, x = p ∧ p < i ∧ pushed p = true ∧ taken p = 0
  all : ∀ p : Nat, pushed p = true → taken p = 0 → (p : Int) ∈ L ++ res.toList
  tk : ∀ p, taken p = 0 ∨ (taken p = 1 ∧ pushed p = true)
  new : ∀ p, i ≤ p → pushed p = false
  sok : s.ok
  kok : ∀ a k, ms a = some k → k.ok

theorem newPush_ok0 {c : Nat} (x : Int) (h : c ≤ 1000000) : (newPush (q0 c) x).ok :=
  ⟨by simp [newPush], by simp [newPush], by simp [newPush], by simp [newPush, q0], fun _ => by simp [newPush, q0]; omega, by simp [newPush]⟩
theorem newPop_ok0 {c : Nat} (h : c ≤ 1000000) : (newPop (q0 c)).ok :=
  ⟨by simp [newPop], by simp [newPop], by simp [newPop], by simp [newPop, q0], fun _ => by simp [newPop, q0]; omega, by simp [newPop]⟩
theorem newSteal_ok0 {c : Nat} (h : c ≤ 1000000) : (newSteal (q0 c)).ok :=
  ⟨by simp [newSteal], by simp [newSteal], by simp [newSteal], by simp [newSteal, q0], fun _ => by simp [newSteal, q0]; omega, by simp [newSteal]⟩

section
variable {c t0 i j : Nat} {ms : Nat → Option K} {doing : Nat → Int} {pushed : Nat → Bool} {taken : Nat → Int} {s : MS} {t : Nat} {L : List Int} {res : Option Int}

theorem ON.next (h : ON c t0 i j ms doing pushed taken s t L res) : ON c t0 (i + 1) j ms doing pushed taken s t L res :=
  { h with
    some0 := fun k e => by
      obtain ⟨a, b, d, f⟩ := h.some0 k e
      refine ⟨a, b, d, ?_⟩
      rcases f with ⟨g, p, g1, g2, g3, g4⟩ | f
      · exact .inl ⟨g, p, g1, g2, by omega, g4⟩
      · exact .inr f
    mem := fun x hx => by
      obtain ⟨p, a, b, d, f⟩ := h.mem x hx
      exact ⟨p, a, by omega, d, f⟩
    new := fun p hp => h.new p (by omega) }

theorem ON.beginPush (h : ON c t0 i j ms doing pushed taken s t L res) (hn : ms 0 = none) : ON c t0 (i + 1) j (upd ms 0 (some (newPush (q0 c) i))) (upd doing 0 i) pushed taken s t L res := by
  obtain ⟨hr, hb⟩ := h.none0 hn
  subst hr
  have h2 := h.next
  exact { h2 with
    none0 := fun e => by rw [upd_same] at e; cases e
    some0 := fun k e => by
      rw [upd_same] at e
      cases e
      exact ⟨rfl, rfl, .push1 rfl rfl hb, .inl ⟨rfl, i, rfl, upd_same _ _ _, by omega, h.new i (Nat.le_refl _)⟩⟩
    someN := fun a k ha e => h.someN a k ha (by rw [upd_ne (by omega)] at e; exact e)
    kok := fun a k e => by
      by_cases ha : a = 0
      · subst ha; rw [upd_same] at e; cases e; exact newPush_ok0 _ (by have := h.B.cap; omega)
      · rw [upd_ne ha] at e; exact h.kok a k e }

theorem ON.beginPop (h : ON c t0 i j ms doing pushed taken s t L res) (hn : ms 0 = none) : ON c t0 (i + 1) j (upd ms 0 (some (newPop (q0 c)))) (upd doing 0 (-1)) pushed taken s t L res := by
  obtain ⟨hr, hb⟩ := h.none0 hn
  subst hr
  have h2 := h.next
  exact { h2 with
    none0 := fun e => by rw [upd_same] at e; cases e
    some0 := fun k e => by
      rw [upd_same] at e
      cases e
      exact ⟨rfl, rfl, .pop1 rfl rfl hb, .inr ⟨rfl, upd_same _ _ _⟩⟩
    someN := fun a k ha e => h.someN a k ha (by rw [upd_ne (by omega)] at e; exact e)
    kok := fun a k e => by
      by_cases ha : a = 0
      · subst ha; rw [upd_same] at e; cases e; exact newPop_ok0 (by have := h.B.cap; omega)
      · rw [upd_ne ha] at e; exact h.kok a k e }

theorem ON.beginSteal {a : Nat} (h : ON c t0 i j ms doing pushed taken s t L res) (ha : 0 < a) (x : Int) : ON c t0 (i + 1) j (upd ms a (some (newSteal (q0 c)))) (upd doing a x) pushed taken s t L res := by
  have h2 := h.next
  exact { h2 with
    none0 := fun e => h.none0 (by rw [upd_ne (by omega)] at e; exact e)
    some0 := fun k e => by
      rw [upd_ne (by omega)] at e
      rw [upd_ne (by omega)]
      exact h2.some0 k e
    someN := fun b k hb e => by
      by_cases hab : b = a
      · subst hab; rw [upd_same] at e; cases e; exact ⟨rfl, rfl, .l1 rfl rfl⟩
      · rw [upd_ne hab] at e; exact h.someN b k hb e
    kok := fun b k e => by
      by_cases hab : b = a
      · subst hab; rw [upd_same] at e; cases e; exact newSteal_ok0 (by have := h.B.cap; omega)
      · rw [upd_ne hab] at e; exact h.kok b k e }

theorem back_nat {p : Nat} (h : p < 1000000) : wrap64 (IntKind.u64.wrap (p : Int)) = p := back _ ⟨by omega, by omega⟩

/-- What a step leads to. -/
inductive ONStep (c t0 i j : Nat) (ms : Nat → Option K) (doing : Nat → Int) (pushed : Nat → Bool) (taken : Nat → Int) (a : Nat) (k' : K) (s' : MS) : Prop
  | more (ho : k'.over = false) (t : Nat) (L : List Int) (res : Option Int) (h : ON c t0 i (j + 1) (upd ms a (some k')) doing pushed taken s' t L res)
  | none (ho : k'.over = true) (h0 : k'.code ≠ 0) (h1 : k'.code ≠ 1) (t : Nat) (L : List Int) (res : Option Int) (h : ON c t0 i (j + 1) (upd ms a none) doing pushed taken s' t L res)
  | fine (ho : k'.over = true) (h0 : k'.code = 0) (p : Nat) (hd : doing a = p) (hp : p < i) (t : Nat) (L : List Int) (res : Option Int) (h : ON c t0 i (j + 1) (upd ms a none) doing (upd pushed p true) taken s' t L res)
  | got (ho : k'.over = true) (h1 : k'.code = 1) (p : Nat) (hv : k'.val = p) (hp : p < i) (h0 : taken p = 0) (t : Nat) (L : List Int) (res : Option Int) (h : ON c t0 i (j + 1) (upd ms a none) doing pushed (upd taken p 1) s' t L res)

theorem ON.stepOwn (h : ON c t0 i j ms doing pushed taken s t L res) {k : K} (hk : ms 0 = some k) (hi : i < 1000000) (hbig : t0 + j + c + 10 < 18446744073709551615) :
    ONStep c t0 i j ms doing pushed taken 0 (stepK k s).1 (stepK k s).2 := by
  obtain ⟨ho, hq, hO, hd⟩ := h.some0 k hk
  have htb := h.tb
  obtain ⟨t', L', res', hs, hB, hq', hkk, hka⟩ := own_step h.B hO hq ho (by omega)
  have hmo := hs.mono
  have hsok := stepK_mok h.sok (h.kok 0 k hk)
  have thf : ∀ (v : Option K) (b : Nat) (y : K), 0 < b → upd ms 0 v b = some y → y.over = false ∧ y.q = q0 c ∧ Thf t0 t' L' y := fun v b y hb e => by
    rw [upd_ne (by omega)] at e
    obtain ⟨a1, a2, a3⟩ := h.someN b y hb e
    exact ⟨a1, a2, thf_owner a3 hs⟩
  have kokN : ∀ b y, upd ms 0 none b = some y → y.ok := fun b y e => by
    by_cases hb : b = 0
    · subst hb; rw [upd_same] at e; cases e
    · rw [upd_ne hb] at e; exact h.kok b y e
  have kokS : (stepK k s).1.over = false → ∀ b y, upd ms 0 (some (stepK k s).1) b = some y → y.ok := fun ho2 b y e => by
    by_cases hb : b = 0
    · subst hb; rw [upd_same] at e; cases e; exact stepK_ok h.sok (h.kok 0 k hk) ho2
    · rw [upd_ne hb] at e; exact h.kok b y e
  have hd2 : ((stepK k s).1.kind = 0 ∧ ∃ p : Nat, (stepK k s).1.a = p ∧ doing 0 = p ∧ p < i ∧ pushed p = false) ∨ ((stepK k s).1.kind = 1 ∧ doing 0 = -1) := by rw [hkk, hka]; exact hd
  cases hs with
  | quiet ho2 h2 =>
    refine .more ho2 t L res ⟨hB, h.t0t, by omega, (fun e => by rw [upd_same] at e; cases e), fun y e => ?_, thf _, h.nodup, h.mem, h.all, h.tk, h.new, hsok, kokS ho2⟩
    rw [upd_same] at e
    cases e
    exact ⟨ho2, hq', h2, hd2⟩
  | full ho2 hk2 hc hv hL hb hr =>
    subst hr
    exact .none ho2 (by omega) (by omega) t L none ⟨hB, h.t0t, by omega, fun _ => ⟨rfl, hb⟩, (fun y e => by rw [upd_same] at e; cases e), thf _, h.nodup, h.mem, h.all, h.tk, h.new, hsok, kokN⟩
  | fine ho2 hk2 hc hv hL hb hr =>
    subst hr
    rcases hd with ⟨_, p, e1, e2, e3, e4⟩ | ⟨e1, _⟩
    · have hnew : ∀ x ∈ L, x ≠ (p : Int) := fun x hx e => by
        obtain ⟨p', f1, f2, f3, f4⟩ := h.mem x (by simp [hx])
        have : p' = p := by omega
        subst this
        rw [e4] at f3; cases f3
      have htk : taken p = 0 := by
        rcases h.tk p with f | ⟨_, f⟩
        · exact f
        · rw [e4] at f; cases f
      refine .fine ho2 hc p e2 e3 t _ none ⟨hB, h.t0t, by omega, fun _ => ⟨rfl, hb⟩, (fun y e => by rw [upd_same] at e; cases e), thf _, ?_, fun x hx => ?_, fun q hq1 hq2 => ?_, fun q => ?_, fun q hq1 => ?_, hsok, kokN⟩
      · have := h.nodup
        simp only [Option.toList_none, List.append_nil] at this ⊢
        rw [e1, List.nodup_append]
        exact ⟨this, by simp, fun a ha b hb => by simp at hb; rw [hb]; exact hnew a ha⟩
      · simp only [Option.toList_none, List.append_nil, List.mem_append, List.mem_singleton] at hx
        rcases hx with hx | hx
        · obtain ⟨p', f1, f2, f3, f4⟩ := h.mem x (by simp [hx])
          refine ⟨p', f1, f2, ?_, f4⟩
          by_cases g : p' = p
          · subst g; exact upd_same _ _ _
          · rw [upd_ne g]; exact f3
        · exact ⟨p, by rw [hx, e1], e3, upd_same _ _ _, htk⟩
      · simp only [Option.toList_none, List.append_nil, List.mem_append, List.mem_singleton]
        by_cases g : q = p
        · right; rw [e1, g]
        · left
          rw [upd_ne g] at hq1
          have := h.all q hq1 hq2
          simpa using this
      · rcases h.tk q with f | ⟨f, f2⟩
        · exact .inl f
        · refine .inr ⟨f, ?_⟩
          by_cases g : q = p
          · subst g; exact upd_same _ _ _
          · rw [upd_ne g]; exact f2
      · rw [upd_ne (by omega)]; exact h.new q hq1
    · omega
  | claim x M ho2 hk2 hL hne h2 hr =>
    subst hr hL
    refine .more ho2 t L' (some x) ⟨hB, h.t0t, by omega, (fun e => by rw [upd_same] at e; cases e), fun y e => ?_, thf _, ?_, ?_, ?_, h.tk, h.new, hsok, kokS ho2⟩
    · rw [upd_same] at e
      cases e
      exact ⟨ho2, hq', h2, hd2⟩
    · simpa using h.nodup
    · simpa using h.mem
    · simpa using h.all
  | win x ho2 hk2 hL h2 hr =>
    subst hr hL
    refine .more ho2 (t + 1) [] (some x) ⟨hB, by have := h.t0t; omega, by omega, (fun e => by rw [upd_same] at e; cases e), fun y e => ?_, thf _, ?_, ?_, ?_, h.tk, h.new, hsok, kokS ho2⟩
    · rw [upd_same] at e
      cases e
      exact ⟨ho2, hq', h2, hd2⟩
    · simp
    · simpa using h.mem
    · simpa using h.all
  | got x ho2 hk2 hc hv hr hb =>
    subst hr
    obtain ⟨p, e1, e2, e3, e4⟩ := h.mem x (by simp)
    have hnd := h.nodup
    simp only [Option.toList_some] at hnd
    rw [List.nodup_append] at hnd
    obtain ⟨n1, _, n3⟩ := hnd
    refine .got ho2 hc p (by rw [hv, e1]; exact back_nat (by omega)) e2 e4 t L none ⟨hB, h.t0t, by omega, fun _ => ⟨rfl, hb⟩, (fun y e => by rw [upd_same] at e; cases e), thf _, by simpa using n1, fun z hz => ?_, fun q hq1 hq2 => ?_, fun q => ?_, h.new, hsok, kokN⟩
    · simp at hz
      obtain ⟨p', f1, f2, f3, f4⟩ := h.mem z (by simp [hz])
      refine ⟨p', f1, f2, f3, ?_⟩
      have := n3 z hz x (by simp)
      rw [upd_ne (by intro g; subst g; exact this (by rw [f1, e1]))]
      exact f4
    · by_cases g : q = p
      · subst g; rw [upd_same] at hq2; cases hq2
      · rw [upd_ne g] at hq2
        have := h.all q hq1 hq2
        simp at this ⊢
        rcases this with f | f
        · exact f
        · omega
    · by_cases g : q = p
      · subst g; exact .inr ⟨upd_same _ _ _, e3⟩
      · rw [upd_ne g]; exact h.tk q
  | empty ho2 hk2 hc hv hr hL hb =>
    subst hr hL
    exact .none ho2 (by omega) (by omega) t [] none ⟨hB, h.t0t, by omega, fun _ => ⟨rfl, by rw [hb]; simp⟩, (fun y e => by rw [upd_same] at e; cases e), thf _, h.nodup, h.mem, h.all, h.tk, h.new, hsok, kokN⟩

theorem ON.bot (h : ON c t0 i j ms doing pushed taken s t L res) : s.at 1 ≤ t + L.length ∧ (t : Int) + L.length - 1 ≤ s.at 1 ∧ 0 ≤ s.at 1 := by
  cases e : ms 0 with
  | none => have := (h.none0 e).2; omega
  | some k => exact own_bot (h.some0 k e).2.2.1

theorem ON.stepThf {a : Nat} (h : ON c t0 i j ms doing pushed taken s t L res) {k : K} (ha : 0 < a) (hk : ms a = some k) (hi : i < 1000000) (hj : j < 900000) (hbig : t0 + j + c + 10 < 18446744073709551615) :
    ONStep c t0 i j ms doing pushed taken a (stepK k s).1 (stepK k s).2 := by
  obtain ⟨ho, hq, hO⟩ := h.someN a k ha hk
  have htb := h.tb
  have ht0 := h.t0t
  obtain ⟨b1, b2, b3⟩ := h.bot
  obtain ⟨t', L', hs, hB, hq', hkk, hat⟩ := thf_step h.B hO hq ho (by omega) ht0 (by omega) b1 b2 b3
  have hmo := hs.mono
  have hsok := stepK_mok h.sok (h.kok a k hk)
  have at1 := hat 1 (by omega)
  have kokN : ∀ b y, upd ms a none b = some y → y.ok := fun b y e => by
    by_cases hb : b = a
    · subst hb; rw [upd_same] at e; cases e
    · rw [upd_ne hb] at e; exact h.kok b y e
  have kokS : (stepK k s).1.over = false → ∀ b y, upd ms a (some (stepK k s).1) b = some y → y.ok := fun ho2 b y e => by
    by_cases hb : b = a
    · subst hb; rw [upd_same] at e; cases e; exact stepK_ok h.sok (h.kok b k hk) ho2
    · rw [upd_ne hb] at e; exact h.kok b y e
  -- where the deque stays as it is
  have n0 : ∀ v : Option K, upd ms a v 0 = none → res = none ∧ (stepK k s).2.at 1 = t + L.length := fun v e => by
    rw [upd_ne (by omega)] at e
    obtain ⟨e1, e2⟩ := h.none0 e
    exact ⟨e1, by rw [at1]; exact e2⟩
  have s0 : ∀ v : Option K, ∀ y, upd ms a v 0 = some y → y.over = false ∧ y.q = q0 c ∧ Own (stepK k s).2 c t L y res ∧ ((y.kind = 0 ∧ ∃ p : Nat, y.a = p ∧ doing 0 = p ∧ p < i ∧ pushed p = false) ∨ (y.kind = 1 ∧ doing 0 = -1)) := fun v y e => by
    rw [upd_ne (by omega)] at e
    obtain ⟨e1, e2, e3, e4⟩ := h.some0 y e
    exact ⟨e1, e2, own_still e3 hat, e4⟩
  have sN : ∀ v : Option K, (∀ y, v = some y → y.over = false ∧ y.q = q0 c ∧ Thf t0 t L y) → ∀ b y, 0 < b → upd ms a v b = some y → y.over = false ∧ y.q = q0 c ∧ Thf t0 t L y := fun v hv b y hb e => by
    by_cases hba : b = a
    · subst hba; rw [upd_same] at e; exact hv y e
    · rw [upd_ne hba] at e; exact h.someN b y hb e
  cases hs with
  | quiet ho2 h2 => exact .more ho2 t L res ⟨hB, ht0, by omega, n0 _, s0 _, sN _ (fun y e => by cases e; exact ⟨ho2, hq', h2⟩), h.nodup, h.mem, h.all, h.tk, h.new, hsok, kokS ho2⟩
  | empty ho2 hc hv => exact .none ho2 (by omega) (by omega) t L res ⟨hB, ht0, by omega, n0 _, s0 _, sN _ (fun y e => by cases e), h.nodup, h.mem, h.all, h.tk, h.new, hsok, kokN⟩
  | abort ho2 hc hv v hkv hlt => exact .none ho2 (by omega) (by omega) t L res ⟨hB, ht0, by omega, n0 _, s0 _, sN _ (fun y e => by cases e), h.nodup, h.mem, h.all, h.tk, h.new, hsok, kokN⟩
  | got x M ho2 hc hv hL =>
    subst hL
    obtain ⟨p, e1, e2, e3, e4⟩ := h.mem x (by simp)
    have hnd := h.nodup
    simp only [List.cons_append, List.nodup_cons] at hnd
    obtain ⟨n1, n2⟩ := hnd
    refine .got ho2 hc p (by rw [hv, e1]; exact back_nat (by omega)) e2 e4 (t + 1) _ res ⟨hB, by omega, by omega, fun e => ?_, fun y e => ?_, fun b y hb e => ?_, n2, fun z hz => ?_, fun q hq1 hq2 => ?_, fun q => ?_, h.new, hsok, kokN⟩
    · rw [upd_ne (by omega)] at e
      obtain ⟨g1, g2⟩ := h.none0 e
      exact ⟨g1, by rw [at1, g2]; simp; omega⟩
    · rw [upd_ne (by omega)] at e
      obtain ⟨g1, g2, g3, g4⟩ := h.some0 y e
      exact ⟨g1, g2, own_taken g3 hat, g4⟩
    · by_cases hba : b = a
      · subst hba; rw [upd_same] at e; cases e
      · rw [upd_ne hba] at e
        obtain ⟨g1, g2, g3⟩ := h.someN b y hb e
        exact ⟨g1, g2, thf_later g3 (by omega) (fun e => by omega)⟩
    · obtain ⟨p', f1, f2, f3, f4⟩ := h.mem z (by rw [List.cons_append]; exact List.mem_cons_of_mem _ hz)
      refine ⟨p', f1, f2, f3, ?_⟩
      rw [upd_ne (by intro g; subst g; rw [f1, ← e1] at hz; exact n1 hz)]
      exact f4
    · by_cases g : q = p
      · subst g; rw [upd_same] at hq2; cases hq2
      · rw [upd_ne g] at hq2
        have := h.all q hq1 hq2
        rw [List.cons_append, List.mem_cons] at this
        rcases this with f | f
        · omega
        · exact f
    · by_cases g : q = p
      · subst g; exact .inr ⟨upd_same _ _ _, e3⟩
      · rw [upd_ne g]; exact h.tk q

theorem ON.step {a : Nat} (h : ON c t0 i j ms doing pushed taken s t L res) {k : K} (hk : ms a = some k) (hi : i < 1000000) (hj : j < 900000) (hbig : t0 + j + c + 10 < 18446744073709551615) :
    ONStep c t0 i j ms doing pushed taken a (stepK k s).1 (stepK k s).2 := by
  rcases Nat.eq_zero_or_pos a with ha | ha
  · subst ha; exact h.stepOwn hk hi hbig
  · exact h.stepThf ha hk hi hj hbig

/-- The numbers that are left, below n. -/
def leftN (pushed : Nat → Bool) (taken : Nat → Int) : Nat → Nat
  | 0 => 0
  | n + 1 => leftN pushed taken n + if pushed n = true ∧ taken n = 0 then 1 else 0

theorem leftN_le (pushed : Nat → Bool) (taken : Nat → Int) : ∀ n, leftN pushed taken n ≤ n
  | 0 => Nat.le_refl _
  | n + 1 => by have := leftN_le pushed taken n; unfold leftN; split <;> omega

/-- A list without doubles that holds just the numbers that are left is as long as they are many. -/
theorem leftN_len {pushed : Nat → Bool} {taken : Nat → Int} : ∀ (n : Nat) (L : List Int), L.Nodup → (∀ x ∈ L, ∃ p : Nat, x = p ∧ p < n ∧ pushed p = true ∧ taken p = 0) → (∀ p : Nat, p < n → pushed p = true → taken p = 0 → (p : Int) ∈ L) → leftN pushed taken n = L.length
  | 0, L, _, h, _ => by
    cases L with
    | nil => rfl
    | cons x M => obtain ⟨p, _, hp, _⟩ := h x (by simp); omega
  | n + 1, L, hn, h, ha => by
    unfold leftN
    by_cases hc : pushed n = true ∧ taken n = 0
    · rw [if_pos hc]
      have hin := ha n (by omega) hc.1 hc.2
      have ih := leftN_len n (L.erase (n : Int)) (hn.erase _) (fun x hx => by
        have hx2 := (hn.mem_erase_iff).1 hx
        obtain ⟨p, a, b, d⟩ := h x hx2.2
        exact ⟨p, a, by omega, d⟩) (fun p hp h1 h2 => (hn.mem_erase_iff).2 ⟨by omega, ha p (by omega) h1 h2⟩)
      rw [ih, List.length_erase_of_mem hin]
      have := List.length_pos_of_mem hin
      omega
    · rw [if_neg hc]
      exact leftN_len n L hn (fun x hx => by
        obtain ⟨p, a, b, d⟩ := h x hx
        refine ⟨p, a, ?_, d⟩
        rcases Nat.lt_or_ge p n with g | g
        · exact g
        · have : p = n := by omega
          subst this
          exact absurd d hc) (fun p hp => ha p (by omega))

/-- At the end nobody acts: what is left is as much as Bottom and Top tell. -/
theorem ON.fin {n : Nat} (h : ON c t0 i j ms doing pushed taken s t L res) (hn : ms 0 = none) (hi : i ≤ n) : sz (s.at 1) (s.at 0) = leftN pushed taken n := by
  obtain ⟨hr, hb⟩ := h.none0 hn
  subst hr
  have b2 := h.B.cap
  have b3 := h.B.fit
  rw [sz_of (L.length : Int) (by rw [hb, h.B.top]; omega) (by omega) (by omega)]
  have := leftN_len n L (by simpa using h.nodup) (fun x hx => by
    obtain ⟨p, a, b, d⟩ := h.mem x (by simp [hx])
    exact ⟨p, a, by omega, d⟩) (fun p _ h1 h2 => by simpa using h.all p h1 h2)
  omega

/-- The last rounds: j of them are done; 12 belong to each actor. -/
structure OF (ms : Nat → Option K) (j : Nat) : Prop where
  before : ∀ b, b < j / 12 → ms b = none
  now : ∀ k, ms (j / 12) = some k → j % 12 + 1 ≤ k.line

theorem ON.of (h : ON c t0 i j ms doing pushed taken s t L res) : OF ms 0 := ⟨fun b hb => by omega, fun k hk => by have := (h.kok 0 k hk).line; omega⟩

theorem OF.skip {j' : Nat} (h : ON c t0 i j ms doing pushed taken s t L res) (o : OF ms j') (hn : ms (j' / 12) = none) : OF ms (j' + 1) := by
  rcases (show (j' + 1) / 12 = j' / 12 ∨ ((j' + 1) / 12 = j' / 12 + 1 ∧ (j' + 1) % 12 = 0) from by omega) with e | ⟨e, e2⟩
  · exact ⟨fun b hb => o.before b (by omega), fun k hk => by rw [e, hn] at hk; cases hk⟩
  · refine ⟨fun b hb => ?_, fun k hk => by have := (h.kok _ k hk).line; omega⟩
    rw [e] at hb
    by_cases g : b = j' / 12
    · rw [g]; exact hn
    · exact o.before b (by omega)

theorem OF.done {j' : Nat} (o : OF ms j') (h : ON c t0 i j (upd ms (j' / 12) none) doing pushed taken s t L res) : OF (upd ms (j' / 12) none) (j' + 1) := by
  refine OF.skip h ⟨fun b hb => ?_, fun k hk => ?_⟩ (upd_same _ _ _)
  · rw [upd_ne (by omega)]; exact o.before b hb
  · rw [upd_same] at hk; cases hk

theorem OF.more {j' : Nat} {k k' : K} (o : OF ms j') (hk : ms (j' / 12) = some k) (hl : k.line < k'.line) (h : ON c t0 i j (upd ms (j' / 12) (some k')) doing pushed taken s t L res) : OF (upd ms (j' / 12) (some k')) (j' + 1) := by
  have h1 := o.now k hk
  have h2 := (h.kok (j' / 12) k' (upd_same _ _ _)).line
  have e : (j' + 1) / 12 = j' / 12 := by omega
  refine ⟨fun b hb => ?_, fun y hy => ?_⟩
  · rw [e] at hb
    rw [upd_ne (by omega)]
    exact o.before b hb
  · rw [e, upd_same] at hy
    cases hy
    omega
end
end Go.Proofs.Ytfhkhknnoepfeaa
