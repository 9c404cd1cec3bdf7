/- An owner and thieves on one deque, step by step in any order: what holds after every step. No program in sight. -/
import Derived.Test.YtfhkhknnoepfeaaDequeSeq
namespace Go.Proofs.Ytfhkhknnoepfeaa
open Go.RowKit

/-- The first cells hold a deque of capacity c with the entries L from index t on; nothing is said of Bottom. -/
structure Base (s : MS) (c t : Nat) (L : List Int) : Prop where
  one : 1 ≤ c
  cap : c < 1000
  len : (c : Int) + 2 ≤ s.cells.length
  top : s.at 0 = t
  fit : L.length ≤ c
  ent : ∀ i (h : i < L.length), s.at (2 + ((t + i) % c : Nat)) = IntKind.u64.wrap L[i]

theorem Base.has {s : MS} {c t : Nat} {L : List Int} (h : Base s c t L) {d : Int} (h0 : 0 ≤ d) (h1 : d < c + 2) : 0 ≤ d ∧ d < s.cells.length := ⟨h0, by have := h.len; omega⟩
theorem Base.same {s s' : MS} {c t : Nat} {L : List Int} (h : Base s c t L) (hl : s'.cells.length = s.cells.length) (ha : ∀ d : Int, 0 ≤ d → d < c + 2 → d ≠ 1 → s'.at d = s.at d) : Base s' c t L :=
  ⟨h.one, h.cap, by rw [hl]; exact h.len, by rw [ha 0 (by omega) (by omega) (by omega)]; exact h.top, h.fit, fun i hi => by
    have := ring_bd (t + i) h.one
    rw [ha _ (by omega) (by omega) (by omega)]; exact h.ent i hi⟩
theorem Base.load {s : MS} {c t : Nat} {L : List Int} (h : Base s c t L) (kd d : Int) : Base (s.put kd d (s.at d)) c t L := h.same (MS.put_len _ _ _ _) (fun e _ _ _ => at_put_at s kd d e)
theorem Base.setBot {s : MS} {c t : Nat} {L : List Int} (h : Base s c t L) (kd x : Int) : Base (s.put kd 1 x) c t L := h.same (MS.put_len _ _ _ _) (fun _ _ _ h1 => at_put_ne h1)
theorem Base.short {s : MS} {c t : Nat} {L : List Int} {x : Int} (h : Base s c t (L ++ [x])) : Base s c t L := by
  have := h.fit
  simp at this
  exact ⟨h.one, h.cap, h.len, h.top, by omega, fun i hi => by rw [h.ent i (by simp; omega), List.getElem_append_left hi]⟩
theorem Base.last {s : MS} {c t : Nat} {L : List Int} {x : Int} (h : Base s c t (L ++ [x])) : s.at (2 + ((t + L.length) % c : Nat)) = IntKind.u64.wrap x := by
  rw [h.ent L.length (by simp)]; simp
theorem Base.long {s : MS} {c t : Nat} {L : List Int} {x : Int} (h : Base s c t L) (hn : L.length < c) (hx : s.at (2 + ((t + L.length) % c : Nat)) = IntKind.u64.wrap x) : Base s c t (L ++ [x]) :=
  ⟨h.one, h.cap, h.len, h.top, by simp; omega, fun i hi => by
    by_cases h2 : i < L.length
    · rw [List.getElem_append_left h2]; exact h.ent i h2
    · have e : i = L.length := by simp at hi; omega
      subst e
      rw [hx]; simp⟩
theorem Base.first {s : MS} {c t : Nat} {L : List Int} {x : Int} (h : Base s c t (x :: L)) : s.at (2 + (t % c : Nat)) = IntKind.u64.wrap x := by
  have := h.ent 0 (by simp)
  simpa using this
/-- Top goes on by one: the first entry is gone. -/
theorem Base.taken {s : MS} {c t : Nat} {L : List Int} {x : Int} (h : Base s c t (x :: L)) (kd y : Int) (hy : y = (t : Int) + 1) : Base (s.put kd 0 y) c (t + 1) L := by
  have := h.fit
  simp at this
  refine ⟨h.one, h.cap, by rw [MS.put_len]; exact h.len, by rw [at_put_same (h.has (by omega) (by omega)), hy]; simp, by omega, fun i hi => ?_⟩
  have h2 := ring_bd (t + 1 + i) h.one
  rw [at_put_ne (by omega)]
  have := h.ent (i + 1) (by simp; omega)
  simp only [List.getElem_cons_succ] at this
  rw [show t + 1 + i = t + (i + 1) from by omega]
  exact this

/-- What the owner's machine knows: k is its machine, res the entry that it has reserved. -/
inductive Own (s : MS) (c t : Nat) (L : List Int) (k : K) : Option Int → Prop
  | push1 (h0 : k.kind = 0) (hl : k.line = 1) (hb : s.at 1 = t + L.length) : Own s c t L k none
  | push2 (h0 : k.kind = 0) (hl : k.line = 2) (hb : s.at 1 = t + L.length) (hu : k.u = t + L.length) : Own s c t L k none
  | push3 (h0 : k.kind = 0) (hl : k.line = 3) (hb : s.at 1 = t + L.length) (hu : k.u = t + L.length) (hn : L.length < c) : Own s c t L k none
  | push4 (h0 : k.kind = 0) (hl : k.line = 4) (hb : s.at 1 = t + L.length) (hu : k.u = t + L.length) (hn : L.length < c) (hx : s.at (2 + ((t + L.length) % c : Nat)) = IntKind.u64.wrap k.a) : Own s c t L k none
  | pop1 (h0 : k.kind = 1) (hl : k.line = 1) (hb : s.at 1 = t + L.length) : Own s c t L k none
  | pop2 (h0 : k.kind = 1) (hl : k.line = 2) (hb : s.at 1 = t + L.length) (hu : k.u = t + L.length) : Own s c t L k none
  | pop3 (h0 : k.kind = 1) (hl : k.line = 3) (hb : s.at 1 = t + L.length) (hu : k.u = t + L.length) (h1 : 1 ≤ t + L.length) : Own s c t L k none
  | pop4 (h0 : k.kind = 1) (hl : k.line = 4) (hb : s.at 1 = t + L.length - 1) (hu : k.u = t + L.length) (h1 : 1 ≤ t + L.length) : Own s c t L k none
  | pop5 (x : Int) (h0 : k.kind = 1) (hl : k.line = 5) (hb : s.at 1 = t + L.length) (hu : k.u = t + L.length + 1) (hn : L.length < c) (hx : s.at (2 + ((t + L.length) % c : Nat)) = IntKind.u64.wrap x) : Own s c t L k (some x)
  | pop6 (h0 : k.kind = 1) (hl : k.line = 6) (hb : s.at 1 = t + L.length - 1) (hu : k.u = t + L.length) (hv : k.v = t + L.length - 1) (hn : L.length ≤ 1) (h1 : 1 ≤ t + L.length) : Own s c t L k none
  | pop7 (x : Int) (h0 : k.kind = 1) (hl : k.line = 7) (hL : L = []) (hu : k.u = t) (h1 : 1 ≤ t) (hx : s.at (2 + ((t - 1) % c : Nat)) = IntKind.u64.wrap x) (hb : s.at 1 = t - 1) : Own s c t L k (some x)
  | pop8 (x : Int) (h0 : k.kind = 1) (hl : k.line = 8) (hL : L = []) (hu : k.u = t) (h1 : 1 ≤ t) (hx : s.at (2 + ((t - 1) % c : Nat)) = IntKind.u64.wrap x) (hb : s.at 1 = t) : Own s c t L k (some x)
  | pop9 (h0 : k.kind = 1) (hl : k.line = 9) (hL : L = []) (hu : k.u = t) (h1 : 1 ≤ t) (hb : s.at 1 = t - 1) : Own s c t L k none

/-- What a thief's machine knows. -/
inductive Thf (t0 t : Nat) (L : List Int) (k : K) : Prop
  | l1 (h0 : k.kind = 2) (hl : k.line = 1) : Thf t0 t L k
  | l2 (h0 : k.kind = 2) (hl : k.line = 2) (v : Nat) (hv : k.v = v) (hd : t0 ≤ v) (hle : v ≤ t) : Thf t0 t L k
  | l3 (h0 : k.kind = 2) (hl : k.line = 3) (v : Nat) (hv : k.v = v) (hd : t0 ≤ v) (hle : v ≤ t) (hne : v = t → L ≠ []) : Thf t0 t L k
  | l4 (h0 : k.kind = 2) (hl : k.line = 4) (v : Nat) (hv : k.v = v) (hd : t0 ≤ v) (hle : v ≤ t) (hne : v = t → ∃ x L', L = x :: L' ∧ k.w = IntKind.u64.wrap x) : Thf t0 t L k

/-- What a step of the owner does. -/
inductive OStep (s' : MS) (c t : Nat) (L : List Int) (res : Option Int) (k k' : K) : Nat → List Int → Option Int → Prop
  | quiet (ho : k'.over = false) (h : Own s' c t L k' res) : OStep s' c t L res k k' t L res
  | full (ho : k'.over = true) (hk : k.kind = 0) (hc : k'.code = 3) (hv : k'.val = 0) (hL : L.length = c) (hb : s'.at 1 = t + L.length) (hr : res = none) : OStep s' c t L res k k' t L none
  | fine (ho : k'.over = true) (hk : k.kind = 0) (hc : k'.code = 0) (hv : k'.val = 0) (hL : L.length < c) (hb : s'.at 1 = t + (L ++ [k.a]).length) (hr : res = none) : OStep s' c t L res k k' t (L ++ [k.a]) none
  | claim (x : Int) (L' : List Int) (ho : k'.over = false) (hk : k.kind = 1) (hL : L = L' ++ [x]) (hne : L' ≠ []) (h : Own s' c t L' k' (some x)) (hr : res = none) : OStep s' c t L res k k' t L' (some x)
  | win (x : Int) (ho : k'.over = false) (hk : k.kind = 1) (hL : L = [x]) (h : Own s' c (t + 1) [] k' (some x)) (hr : res = none) : OStep s' c t L res k k' (t + 1) [] (some x)
  | got (x : Int) (ho : k'.over = true) (hk : k.kind = 1) (hc : k'.code = 1) (hv : k'.val = wrap64 (IntKind.u64.wrap x)) (hr : res = some x) (hb : s'.at 1 = t + L.length) : OStep s' c t L res k k' t L none
  | empty (ho : k'.over = true) (hk : k.kind = 1) (hc : k'.code = 2) (hv : k'.val = 0) (hr : res = none) (hL : L = []) (hb : s'.at 1 = t) : OStep s' c t L res k k' t L none

/-- What a step of a thief does. -/
inductive TStep (t0 t : Nat) (L : List Int) (k k' : K) : Nat → List Int → Prop
  | quiet (ho : k'.over = false) (h : Thf t0 t L k') : TStep t0 t L k k' t L
  | empty (ho : k'.over = true) (hc : k'.code = 2) (hv : k'.val = 0) : TStep t0 t L k k' t L
  | abort (ho : k'.over = true) (hc : k'.code = 4) (hv : k'.val = 0) (v : Nat) (hkv : k.v = v) (hlt : v < t) : TStep t0 t L k k' t L
  | got (x : Int) (L' : List Int) (ho : k'.over = true) (hc : k'.code = 1) (hv : k'.val = wrap64 (IntKind.u64.wrap x)) (hL : L = x :: L') : TStep t0 t L k k' (t + 1) L'

theorem hasT {s : MS} {d : Int} (h : 0 ≤ d ∧ d < s.cells.length) : s.has d = true := decide_eq_true h

set_option maxHeartbeats 1000000 in
/-- The owner's step. -/
theorem own_step {s : MS} {c t : Nat} {L : List Int} {k : K} {res : Option Int} (B : Base s c t L) (h : Own s c t L k res) (hq : k.q = q0 c) (ho : k.over = false) (hbig : t + c + 10 < 18446744073709551615) :
    ∃ t' L' res', OStep (stepK k s).2 c t L res k (stepK k s).1 t' L' res' ∧ Base (stepK k s).2 c t' L' ∧ (stepK k s).1.q = q0 c ∧ (stepK k s).1.kind = k.kind ∧ (stepK k s).1.a = k.a := by
  obtain ⟨y1, y2, y3, _⟩ := stepK_same k s
  suffices H : ∃ t' L' res', OStep (stepK k s).2 c t L res k (stepK k s).1 t' L' res' ∧ Base (stepK k s).2 c t' L' by
    obtain ⟨t', L', res', z1, z2⟩ := H
    exact ⟨t', L', res', z1, z2, y2.trans hq, y1, y3⟩
  clear y1 y2 y3
  have b1 := B.one
  have b2 := B.cap
  have b3 := B.fit
  have in0 := B.has (d := 0) (by omega) (by omega)
  have in1 := B.has (d := 1) (by omega) (by omega)
  have qt : k.q.top = 0 := by rw [hq]; rfl
  have qb : k.q.bot = 1 := by rw [hq]; rfl
  have qc : k.q.cap = c := by rw [hq]; rfl
  cases h with
  | push1 h0 hl hb =>
    rw [stepK_push ho h0]; unfold stepPush; rw [hl]; simp only [qb]
    exact ⟨t, L, none, .quiet ho (.push2 h0 rfl (by rw [at_put_at]; exact hb) hb), B.load _ _⟩
  | push2 h0 hl hb hu =>
    rw [stepK_push ho h0]; unfold stepPush; rw [hl]; simp only [qt, qc]
    have hs : sz k.u (s.at 0) = L.length := sz_of _ (by rw [hu, B.top]; omega) (by omega) (by omega)
    rw [hs]
    by_cases hc : (c : Int) ≤ L.length
    · rw [if_pos hc]
      exact ⟨t, L, none, .full rfl h0 rfl rfl (by omega) (by rw [at_put_at]; exact hb) rfl, B.load _ _⟩
    · rw [if_neg hc]
      exact ⟨t, L, none, .quiet ho (.push3 h0 rfl (by rw [at_put_at]; exact hb) hu (by omega)), B.load _ _⟩
  | push3 h0 hl hb hu hn =>
    rw [stepK_push ho h0]; unfold stepPush; rw [hl]
    have hu2 : k.u = ((t + L.length : Nat) : Int) := by rw [hu]; simp
    simp only [hq, hu2, ringI_of _ b1]
    have hm := ring_bd (t + L.length) b1
    have hin := B.has (d := 2 + ((t + L.length) % c : Nat)) (by omega) (by omega)
    refine ⟨t, L, none, .quiet ho (.push4 h0 rfl (by rw [at_put_ne (by omega)]; exact hb) hu hn (by rw [at_put_same hin]; rfl)), ?_⟩
    refine ⟨B.one, B.cap, by rw [MS.put_len]; exact B.len, by rw [at_put_ne (by omega)]; exact B.top, B.fit, fun i hi => ?_⟩
    have := mod_ne (c := c) (i := t + i) (j := t + L.length) (by omega) (by omega)
    rw [at_put_ne (by omega)]
    exact B.ent i hi
  | push4 h0 hl hb hu hn hx =>
    rw [stepK_push ho h0]; unfold stepPush; rw [hl]; simp only [qb]
    have hm := ring_bd (t + L.length) b1
    have hu2 : inc k.u = t + (L ++ [k.a]).length := by rw [hu, inc_of (by omega) (by omega)]; simp; omega
    rw [hu2]
    exact ⟨t, L ++ [k.a], none, .fine rfl h0 rfl rfl hn (by rw [at_put_same in1]) rfl, (B.long hn hx).setBot _ _⟩
  | pop1 h0 hl hb =>
    rw [stepK_pop ho h0]; unfold stepPop; rw [hl]; simp only [qb]
    exact ⟨t, L, none, .quiet ho (.pop2 h0 rfl (by rw [at_put_at]; exact hb) hb), B.load _ _⟩
  | pop2 h0 hl hb hu =>
    rw [stepK_pop ho h0]; unfold stepPop; rw [hl]; simp only [qt]
    have hs : sz k.u (s.at 0) = L.length := sz_of _ (by rw [hu, B.top]; omega) (by omega) (by omega)
    rw [hs]
    by_cases hc : (L.length : Int) ≤ 0
    · rw [if_pos hc]
      have hL : L = [] := List.eq_nil_of_length_eq_zero (by omega)
      exact ⟨t, L, none, .empty rfl h0 rfl rfl rfl hL (by rw [at_put_at, hb, hL]; simp), B.load _ _⟩
    · rw [if_neg hc]
      exact ⟨t, L, none, .quiet ho (.pop3 h0 rfl (by rw [at_put_at]; exact hb) hu (by omega)), B.load _ _⟩
  | pop3 h0 hl hb hu h1 =>
    rw [stepK_pop ho h0]; unfold stepPop; rw [hl]; simp only [qb]
    have hd : dec k.u = t + L.length - 1 := by rw [hu, dec_of (by omega) (by omega)]
    rw [hd]
    exact ⟨t, L, none, .quiet ho (.pop4 h0 rfl (by rw [at_put_same in1]) hu h1), B.setBot _ _⟩
  | pop4 h0 hl hb hu h1 =>
    rw [stepK_pop ho h0]; unfold stepPop; rw [hl]; simp only [qt]
    have hd : dec k.u = t + L.length - 1 := by rw [hu, dec_of (by omega) (by omega)]
    rw [hd, B.top]
    rcases Nat.lt_trichotomy L.length 1 with h2 | h2 | h2
    · have hL : L = [] := List.eq_nil_of_length_eq_zero (by omega)
      subst hL
      have hs : sz ((t : Int) + ([] : List Int).length - 1) t = -1 := sz_neg 1 (by simp; omega) (by omega) (by omega)
      rw [hs, if_neg (by omega), if_neg (by omega), ← B.top]
      exact ⟨t, [], none, .quiet ho (.pop9 h0 rfl rfl (by simp at hu; exact hu) (by simp at h1; exact h1) (by rw [at_put_at, hb]; simp)), B.load _ _⟩
    · have hs : sz ((t : Int) + L.length - 1) t = 0 := sz_of _ (by omega) (by omega) (by omega)
      rw [hs, if_neg (by omega), if_pos rfl, ← B.top]
      exact ⟨t, L, none, .quiet ho (.pop6 h0 rfl (by rw [at_put_at]; exact hb) hu (by show s.at 0 = _; rw [B.top]; omega) (by omega) h1), B.load _ _⟩
    · have hs : sz ((t : Int) + L.length - 1) t = L.length - 1 := sz_of _ (by omega) (by omega) (by omega)
      rw [hs, if_pos (by omega), ← B.top]
      obtain ⟨L', x, rfl⟩ : ∃ L' x, L = L' ++ [x] := ⟨L.dropLast, L.getLast (by intro e; rw [e] at h2; simp at h2), (List.dropLast_concat_getLast _).symm⟩
      simp at h2
      have := b3
      simp at this
      refine ⟨t, L', some x, .claim x L' ho h0 rfl (by intro e; rw [e] at h2; simp at h2) (.pop5 x h0 rfl ?_ ?_ (by omega) ?_) rfl, B.short.load _ _⟩
      · rw [at_put_at, hb]; simp; omega
      · rw [show ({ k with v := s.at 0, line := 5 } : K).u = k.u from rfl, hu]; simp; omega
      · rw [at_put_at]; exact B.last
  | pop5 x h0 hl hb hu hn hx =>
    rw [stepK_pop ho h0]; unfold stepPop; rw [hl]
    have hd : dec k.u = ((t + L.length : Nat) : Int) := by rw [hu, dec_of (by omega) (by omega)]; omega
    simp only [hd, hq, ringI_of _ b1, hx]
    refine ⟨t, L, none, .got x rfl h0 rfl rfl rfl ?_, ?_⟩
    · rw [← hx, at_put_at]; exact hb
    · rw [← hx]; exact B.load _ _
  | pop6 h0 hl hb hu hv hn h1 =>
    rw [stepK_pop ho h0]; unfold stepPop; rw [hl]; simp only [qt, hasT in0, Bool.true_and, B.top, beq_iff_eq, casB]
    rcases Nat.lt_or_ge L.length 1 with h2 | h2
    · have hL : L = [] := List.eq_nil_of_length_eq_zero (by omega)
      subst hL
      simp at hv hu hb h1
      rw [if_neg (by omega), if_neg (by omega), ← B.top]
      exact ⟨t, [], none, .quiet ho (.pop9 h0 rfl rfl hu h1 (by rw [at_put_at]; exact hb)), B.load _ _⟩
    · obtain ⟨x, rfl⟩ : ∃ x, L = [x] := List.length_eq_one_iff.1 (by omega)
      simp at hv hu hb h1
      rw [if_pos (by omega), if_pos (by omega), hv, inc_of (by omega) (by omega)]
      refine ⟨t + 1, [], some x, .win x ho h0 rfl (.pop7 x h0 rfl rfl (by show k.u = _; rw [hu]; simp) (by omega) ?_ ?_) rfl, B.taken _ _ rfl⟩
      · rw [at_put_ne (by omega)]; exact B.first
      · rw [at_put_ne (by omega), hb]; simp
  | pop7 x h0 hl hL hu h1 hx hb =>
    rw [stepK_pop ho h0]; unfold stepPop; rw [hl]; simp only [qb]
    refine ⟨t, L, some x, .quiet ho (.pop8 x h0 rfl hL hu h1 ?_ ?_), B.setBot _ _⟩
    · rw [at_put_ne (by omega)]; exact hx
    · rw [at_put_same in1]; exact hu
  | pop8 x h0 hl hL hu h1 hx hb =>
    rw [stepK_pop ho h0]; unfold stepPop; rw [hl]
    have hd : dec k.u = ((t - 1 : Nat) : Int) := by rw [hu, dec_of (by omega) (by omega)]; omega
    simp only [hd, hq, ringI_of _ b1, hx]
    refine ⟨t, L, none, .got x rfl h0 rfl rfl rfl ?_, ?_⟩
    · rw [← hx, at_put_at, hb, hL]; simp
    · rw [← hx]; exact B.load _ _
  | pop9 h0 hl hL hu h1 hb =>
    rw [stepK_pop ho h0]; unfold stepPop; rw [hl]; simp only [qb]
    exact ⟨t, L, none, .empty rfl h0 rfl rfl rfl hL (by rw [at_put_same in1]; exact hu), B.setBot _ _⟩

/-- What is known of Bottom, whoever acts: it is not more than Top and the entries tell. -/
theorem own_bot {s : MS} {c t : Nat} {L : List Int} {k : K} {res : Option Int} (h : Own s c t L k res) : s.at 1 ≤ t + L.length ∧ t + L.length - 1 ≤ s.at 1 ∧ 0 ≤ s.at 1 := by
  cases h <;> simp_all <;> omega

set_option maxHeartbeats 1000000 in
/-- A thief's step. -/
theorem thf_step {s : MS} {c t0 t : Nat} {L : List Int} {k : K} (B : Base s c t L) (h : Thf t0 t L k) (hq : k.q = q0 c) (ho : k.over = false) (hbig : t + c + 10 < 18446744073709551615)
    (ht0 : t0 ≤ t) (ht1 : t ≤ t0 + 900000) (hb1 : s.at 1 ≤ t + L.length) (hb2 : (t : Int) + L.length - 1 ≤ s.at 1) (_hb3 : 0 ≤ s.at 1) :
    ∃ t' L', TStep t0 t L k (stepK k s).1 t' L' ∧ Base (stepK k s).2 c t' L' ∧ (stepK k s).1.q = q0 c ∧ (stepK k s).1.kind = 2 ∧ (∀ d, d ≠ 0 → (stepK k s).2.at d = s.at d) := by
  obtain ⟨y1, y2, _, _⟩ := stepK_same k s
  have hk2 : k.kind = 2 := by cases h <;> assumption
  suffices H : ∃ t' L', TStep t0 t L k (stepK k s).1 t' L' ∧ Base (stepK k s).2 c t' L' ∧ (∀ d, d ≠ 0 → (stepK k s).2.at d = s.at d) by
    obtain ⟨t', L', z1, z2, z3⟩ := H
    exact ⟨t', L', z1, z2, y2.trans hq, y1.trans hk2, z3⟩
  clear y1 y2
  have b1 := B.one
  have b2 := B.cap
  have b3 := B.fit
  have in0 := B.has (d := 0) (by omega) (by omega)
  have qt : k.q.top = 0 := by rw [hq]; rfl
  have qb : k.q.bot = 1 := by rw [hq]; rfl
  cases h with
  | l1 h0 hl =>
    rw [stepK_steal ho h0]; unfold stepSteal; rw [hl]; simp only [qt]
    exact ⟨t, L, .quiet ho (.l2 h0 rfl t B.top ht0 (Nat.le_refl _)), B.load _ _, fun d _ => at_put_at _ _ _ _⟩
  | l2 h0 hl v hv hd hle =>
    rw [stepK_steal ho h0]; unfold stepSteal; rw [hl]; simp only [qb]
    by_cases hs : sz (s.at 1) k.v ≤ 0
    · rw [if_pos hs]
      exact ⟨t, L, .empty rfl rfl rfl, B.load _ _, fun d _ => at_put_at _ _ _ _⟩
    · rw [if_neg hs]
      refine ⟨t, L, .quiet ho (.l3 h0 rfl v hv hd hle (fun e hL => hs ?_)), B.load _ _, fun d _ => at_put_at _ _ _ _⟩
      subst e hL
      simp at hb1 hb2
      rcases Int.lt_or_le (s.at 1) v with h5 | h5
      · rw [sz_neg 1 (by rw [hv]; omega) (by omega) (by omega)]; omega
      · rw [sz_of 0 (by rw [hv]; omega) (by omega) (by omega)]; omega
  | l3 h0 hl v hv hd hle hne =>
    rw [stepK_steal ho h0]; unfold stepSteal; rw [hl]
    simp only [hq, hv, ringI_of _ b1]
    refine ⟨t, L, .quiet ho (.l4 h0 rfl v rfl hd hle (fun e => ?_)), B.load _ _, fun d _ => at_put_at _ _ _ _⟩
    subst e
    cases L with
    | nil => exact absurd rfl (hne rfl)
    | cons x L' => exact ⟨x, L', rfl, B.first⟩
  | l4 h0 hl v hv hd hle hne =>
    rw [stepK_steal ho h0]; unfold stepSteal; rw [hl]; simp only [qt, hasT in0, Bool.true_and, B.top, beq_iff_eq, casB]
    by_cases e : (t : Int) = k.v
    · rw [if_pos e, if_pos e]
      have e2 : v = t := by omega
      subst e2
      obtain ⟨x, L', rfl, hw⟩ := hne rfl
      rw [hw, ← e, inc_of (by omega) (by omega)]
      exact ⟨v + 1, L', .got x L' rfl rfl rfl rfl, B.taken _ _ rfl, fun d hd => at_put_ne hd⟩
    · rw [if_neg e, if_neg e, ← B.top]
      exact ⟨t, L, .abort rfl rfl rfl v hv (by omega), B.load _ _, fun d _ => at_put_at _ _ _ _⟩

/-- The owner's knowledge behind a step of a thief that took the first entry. -/
theorem own_taken {s s' : MS} {c t : Nat} {L : List Int} {x : Int} {k : K} {res : Option Int} (h : Own s c t (x :: L) k res) (ha : ∀ d, d ≠ 0 → s'.at d = s.at d) : Own s' c (t + 1) L k res := by
  have e1 : t + (L.length + 1) = t + 1 + L.length := by omega
  cases h with
  | push1 h0 hl hb => exact .push1 h0 hl (by rw [ha 1 (by omega), hb]; simp; omega)
  | push2 h0 hl hb hu => exact .push2 h0 hl (by rw [ha 1 (by omega), hb]; simp; omega) (by rw [hu]; simp; omega)
  | push3 h0 hl hb hu hn => exact .push3 h0 hl (by rw [ha 1 (by omega), hb]; simp; omega) (by rw [hu]; simp; omega) (by simp at hn; omega)
  | push4 h0 hl hb hu hn hx => exact .push4 h0 hl (by rw [ha 1 (by omega), hb]; simp; omega) (by rw [hu]; simp; omega) (by simp at hn; omega) (by rw [ha _ (by omega), ← hx]; simp only [List.length_cons, e1])
  | pop1 h0 hl hb => exact .pop1 h0 hl (by rw [ha 1 (by omega), hb]; simp; omega)
  | pop2 h0 hl hb hu => exact .pop2 h0 hl (by rw [ha 1 (by omega), hb]; simp; omega) (by rw [hu]; simp; omega)
  | pop3 h0 hl hb hu h1 => exact .pop3 h0 hl (by rw [ha 1 (by omega), hb]; simp; omega) (by rw [hu]; simp; omega) (by omega)
  | pop4 h0 hl hb hu h1 => exact .pop4 h0 hl (by rw [ha 1 (by omega), hb]; simp; omega) (by rw [hu]; simp; omega) (by omega)
  | pop5 y h0 hl hb hu hn hx => exact .pop5 y h0 hl (by rw [ha 1 (by omega), hb]; simp; omega) (by rw [hu]; simp; omega) (by simp at hn; omega) (by rw [ha _ (by omega), ← hx]; simp only [List.length_cons, e1])
  | pop6 h0 hl hb hu hv hn h1 => exact .pop6 h0 hl (by rw [ha 1 (by omega), hb]; simp; omega) (by rw [hu]; simp; omega) (by rw [hv]; simp; omega) (by simp at hn; simp [hn]) (by omega)
  | pop7 y h0 hl hL hu h1 hx hb => cases hL
  | pop8 y h0 hl hL hu h1 hx hb => cases hL
  | pop9 h0 hl hL hu h1 hb => cases hL

/-- The owner's knowledge where no cell but Top has turned. -/
theorem own_still {s s' : MS} {c t : Nat} {L : List Int} {k : K} {res : Option Int} (h : Own s c t L k res) (ha : ∀ d, d ≠ 0 → s'.at d = s.at d) : Own s' c t L k res := by
  have e := ha 1 (by omega)
  cases h with
  | push1 h0 hl hb => exact .push1 h0 hl (by rw [e, hb])
  | push2 h0 hl hb hu => exact .push2 h0 hl (by rw [e, hb]) hu
  | push3 h0 hl hb hu hn => exact .push3 h0 hl (by rw [e, hb]) hu hn
  | push4 h0 hl hb hu hn hx => exact .push4 h0 hl (by rw [e, hb]) hu hn (by rw [ha _ (by omega), hx])
  | pop1 h0 hl hb => exact .pop1 h0 hl (by rw [e, hb])
  | pop2 h0 hl hb hu => exact .pop2 h0 hl (by rw [e, hb]) hu
  | pop3 h0 hl hb hu h1 => exact .pop3 h0 hl (by rw [e, hb]) hu h1
  | pop4 h0 hl hb hu h1 => exact .pop4 h0 hl (by rw [e, hb]) hu h1
  | pop5 y h0 hl hb hu hn hx => exact .pop5 y h0 hl (by rw [e, hb]) hu hn (by rw [ha _ (by omega), hx])
  | pop6 h0 hl hb hu hv hn h1 => exact .pop6 h0 hl (by rw [e, hb]) hu hv hn h1
  | pop7 y h0 hl hL hu h1 hx hb => exact .pop7 y h0 hl hL hu h1 (by rw [ha _ (by omega), hx]) (by rw [e, hb])
  | pop8 y h0 hl hL hu h1 hx hb => exact .pop8 y h0 hl hL hu h1 (by rw [ha _ (by omega), hx]) (by rw [e, hb])
  | pop9 h0 hl hL hu h1 hb => exact .pop9 h0 hl hL hu h1 (by rw [e, hb])

/-- A thief's knowledge behind a step of the owner, or of another thief. -/
theorem thf_later {t0 t t' : Nat} {L L' : List Int} {k : K} (h : Thf t0 t L k) (ht : t ≤ t') (hL : t' = t → L ≠ [] → L' ≠ [] ∧ L'.head? = L.head?) : Thf t0 t' L' k := by
  cases h with
  | l1 h0 hl => exact .l1 h0 hl
  | l2 h0 hl v hv hd hle => exact .l2 h0 hl v hv hd (by omega)
  | l3 h0 hl v hv hd hle hne => exact .l3 h0 hl v hv hd (by omega) (fun e => (hL (by omega) (hne (by omega))).1)
  | l4 h0 hl v hv hd hle hne =>
    refine .l4 h0 hl v hv hd (by omega) (fun e => ?_)
    obtain ⟨x, M, rfl, hw⟩ := hne (by omega)
    obtain ⟨h3, h4⟩ := hL (by omega) (by simp)
    cases L' with
    | nil => exact absurd rfl h3
    | cons y M' =>
      simp at h4
      subst h4
      exact ⟨y, M', rfl, hw⟩

/-- A thief's knowledge behind a step of the owner. -/
theorem thf_owner {s' : MS} {c t0 t t' : Nat} {L L' : List Int} {res res' : Option Int} {k k' y : K} (h : Thf t0 t L y) (o : OStep s' c t L res k k' t' L' res') : Thf t0 t' L' y := by
  cases o with
  | quiet ho h2 => exact h
  | full ho hk hc hv hL hb hr => exact h
  | fine ho hk hc hv hL hb hr => exact thf_later h (Nat.le_refl _) (fun _ hne => by cases L with
    | nil => exact absurd rfl hne
    | cons a M => simp)
  | claim x M ho hk hL hne h2 hr =>
    subst hL
    exact thf_later h (Nat.le_refl _) (fun _ _ => ⟨hne, by cases L' with
      | nil => exact absurd rfl hne
      | cons a N => simp⟩)
  | win x ho hk hL h2 hr => exact thf_later h (by omega) (fun e => by omega)
  | got x ho hk hc hv hr hb => exact h
  | empty ho hk hc hv hr hL hb => exact h

theorem OStep.mono {s' : MS} {c t t' : Nat} {L L' : List Int} {res res' : Option Int} {k k' : K} (o : OStep s' c t L res k k' t' L' res') : t ≤ t' ∧ t' ≤ t + 1 := by
  cases o <;> omega
theorem TStep.mono {t0 t t' : Nat} {L L' : List Int} {k k' : K} (o : TStep t0 t L k k' t' L') : t ≤ t' ∧ t' ≤ t + 1 := by
  cases o <;> omega
end Go.Proofs.Ytfhkhknnoepfeaa
