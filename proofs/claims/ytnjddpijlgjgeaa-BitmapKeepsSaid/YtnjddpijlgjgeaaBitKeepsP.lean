/- Pushing, setting, clearing and stealing on one deque in any order: its bit is set at the end, if it has an entry. No program in sight. -/
import Derived.Test.YtnjddpijlgjgeaaBitOthers
import Derived.Test.YtnjddpijlgjgeaaThfLast
namespace Go.Proofs.Ytnjddpijlgjgeaa
open Go.RowKit

/-- The bit b of the word x is set. -/
def Bt (b x : Int) : Prop := x / mask b % 2 = 1

theorem bt_or {b : Int} (h0 : 0 ≤ b) (h1 : b < 64) (x : Int) : Bt b (orB x (mask b)) := by
  obtain ⟨i, rfl⟩ : ∃ i : Nat, b = i := ⟨b.toNat, by omega⟩
  have hm : mask (i : Int) = ((2 ^ i : Nat) : Int) := by unfold mask; rw [if_neg (by omega), Int.toNat_natCast]
  have hb : bv ((2 ^ i : Nat) : Int) = BitVec.ofNat 64 (2 ^ i) := by unfold bv; rw [BitVec.ofInt_natCast]
  unfold Bt orB
  rw [bits_or, hm, hb]
  have hi : i < 64 := by omega
  have hp : 2 ^ i < 2 ^ 64 := Nat.pow_lt_pow_right (by omega) hi
  have ht : Nat.testBit (bv x ||| BitVec.ofNat 64 (2 ^ i)).toNat i = true := by
    rw [BitVec.toNat_or, Nat.testBit_or, BitVec.toNat_ofNat, Nat.mod_eq_of_lt hp, Nat.testBit_two_pow_self, Bool.or_true]
  rw [Nat.testBit_eq_decide_div_mod_eq] at ht
  have := of_decide_eq_true ht
  omega

theorem own_push_same {s s' : MS} {c t : Nat} {L : List Int} {k : K} (h : Own s c t L k none) (hk : k.kind = 0) (hc : 1 ≤ c) (ha : ∀ d : Int, 0 ≤ d → d < c + 2 → s'.at d = s.at d) : Own s' c t L k none := by
  have e := ha 1 (by omega) (by omega)
  have := ring_bd (t + L.length) hc
  cases h with
  | push1 h0 hl hb => exact .push1 h0 hl (by rw [e, hb])
  | push2 h0 hl hb hu => exact .push2 h0 hl (by rw [e, hb]) hu
  | push3 h0 hl hb hu hn => exact .push3 h0 hl (by rw [e, hb]) hu hn
  | push4 h0 hl hb hu hn hx => exact .push4 h0 hl (by rw [e, hb]) hu hn (by rw [ha _ (by omega) (by omega), hx])
  | pop1 h0 => omega
  | pop2 h0 => omega
  | pop3 h0 => omega
  | pop4 h0 => omega
  | pop6 h0 => omega
  | pop9 h0 => omega
theorem own_push_bot {s : MS} {c t : Nat} {L : List Int} {k : K} {res : Option Int} (h : Own s c t L k res) (hk : k.kind = 0) : s.at 1 = t + L.length ∧ res = none := by
  cases h with
  | push1 h0 hl hb => exact ⟨hb, rfl⟩
  | push2 h0 hl hb hu => exact ⟨hb, rfl⟩
  | push3 h0 hl hb hu hn => exact ⟨hb, rfl⟩
  | push4 h0 hl hb hu hn hx => exact ⟨hb, rfl⟩
  | pop1 h0 => omega
  | pop2 h0 => omega
  | pop3 h0 => omega
  | pop4 h0 => omega
  | pop5 x h0 => omega
  | pop6 h0 => omega
  | pop7 x h0 => omega
  | pop8 x h0 => omega
  | pop9 h0 => omega

structure BK (k0 : Nat) (b : Int) (P S C Y : K) (s : MS) (t : Nat) (L : List Int) : Prop where
  B : Base s 4 t L
  len : s.cells.length = 7
  t1 : t ≤ 1
  bot : s.at 1 = t + L.length
  pk : P.kind = 0
  pq : P.q = q0 4
  po : P.over = false → Own s 4 t L P none ∧ t + L.length = k0
  pd : P.over = true → t + L.length = k0 + 1
  sk : S.kind = 3 ∧ S.a = 6 ∧ S.b = b
  sp : S.over = true → P.over = true
  ck : C.kind = 4 ∧ C.a = 6 ∧ C.b = b ∧ C.q = q0 4
  yk : Y.kind = 2
  yq : Y.q = q0 4
  yo : Y.over = false → Thf 0 t L Y ∧ t = 0
  inv : Bt b (s.at 6) ∨ S.over = false ∨ (C.over = false ∧ (C.line = 2 ∨ (C.line = 3 ∧ P.over = true ∧ C.u = s.at 1) ∨ 4 ≤ C.line)) ∨ (L = [] ∧ P.over = true)

theorem BK.goP {k0 : Nat} {b : Int} {P S C Y : K} {s : MS} {t : Nat} {L : List Int} (h : BK k0 b P S C Y s t L) (hk : k0 ≤ 2) : ∃ t' L', BK k0 b (stepK P s).1 S C Y (stepK P s).2 t' L' := by
  cases ho : P.over with
  | true => rw [stepK_over ho]; exact ⟨t, L, h⟩
  | false =>
    obtain ⟨hO, hl⟩ := h.po ho
    have t1 := h.t1
    have hpk := h.pk
    have hso : S.over = false := by
      cases e : S.over with
      | false => rfl
      | true => have := h.sp e; rw [ho] at this; cases this
    obtain ⟨t', L', res', hs, hB, hq, hkk, _⟩ := own_step h.B hO h.pq ho (by omega)
    have hkk2 := hkk.trans h.pk
    have hlen := (stepK_len P s).trans h.len
    have hsp : S.over = true → (stepK P s).1.over = true := fun e => by rw [hso] at e; cases e
    refine ⟨t', L', ?_⟩
    cases hs with
    | quiet ho2 h2 => exact ⟨hB, hlen, t1, (own_push_bot h2 hkk2).1, hkk2, hq, fun _ => ⟨h2, hl⟩, (fun e => by rw [ho2] at e; cases e), h.sk, hsp, h.ck, h.yk, h.yq, h.yo, .inr (.inl hso)⟩
    | full ho2 hk2 hc hv hL hb hr => omega
    | fine ho2 hk2 hc hv hL hb hr => exact ⟨hB, hlen, t1, hb, hkk2, hq, (fun e => by rw [ho2] at e; cases e), fun _ => by simp; omega, h.sk, hsp, h.ck, h.yk, h.yq, fun e => ⟨thf_later (h.yo e).1 (Nat.le_refl _) (fun _ hne => by cases L with
        | nil => exact absurd rfl hne
        | cons a M => simp), (h.yo e).2⟩, .inr (.inl hso)⟩
    | claim x M ho2 hk2 => omega
    | win x ho2 hk2 => omega
    | got x ho2 hk2 => omega
    | empty ho2 hk2 => omega

theorem BK.put6 {s : MS} {t : Nat} {L : List Int} (B : Base s 4 t L) (kd x : Int) : Base (s.put kd 6 x) 4 t L ∧ ∀ d : Int, d ≠ 6 → (s.put kd 6 x).at d = s.at d :=
  ⟨B.same (MS.put_len _ _ _ _) (fun d _ h1 _ => at_put_ne (by omega)), fun d hd => at_put_ne hd⟩

theorem BK.goS {k0 : Nat} {b : Int} {P S C Y : K} {s : MS} {t : Nat} {L : List Int} (h : BK k0 b P S C Y s t L) (hb : 0 ≤ b ∧ b < 64) (hp : P.over = true) : BK k0 b P (stepK S s).1 C Y (stepK S s).2 t L := by
  cases ho : S.over with
  | true => rw [stepK_over ho]; exact h
  | false =>
    obtain ⟨k1, k2, k3⟩ := h.sk
    have e : stepK S s = (S.fin 0 0, s.put 4 6 (orB (s.at 6) (mask b))) := by
      unfold stepK
      rw [ho, k1, k2, k3]
      rfl
    rw [e]
    obtain ⟨hB, ha⟩ := BK.put6 h.B 4 (orB (s.at 6) (mask b))
    exact ⟨hB, (MS.put_len _ _ _ _).trans h.len, h.t1, by rw [ha 1 (by omega)]; exact h.bot, h.pk, h.pq, (fun e => by rw [hp] at e; cases e), h.pd, ⟨k1, k2, k3⟩, fun _ => hp, h.ck, h.yk, h.yq, h.yo, .inl (by rw [at_put_same (by rw [h.len]; omega)]; exact bt_or hb.1 hb.2 _)⟩

theorem BK.goC {k0 : Nat} {b : Int} {P S C Y : K} {s : MS} {t : Nat} {L : List Int} (h : BK k0 b P S C Y s t L) (hb : 0 ≤ b ∧ b < 64) : BK k0 b P S (stepK C s).1 Y (stepK C s).2 t L := by
  cases ho : C.over with
  | true => rw [stepK_over ho]; exact h
  | false =>
    obtain ⟨k1, k2, k3, k4⟩ := h.ck
    have e : stepK C s = stepClear C s := by unfold stepK; rw [ho, k1]; rfl
    have t1 := h.t1
    have hbot := h.bot
    have htop := h.B.top
    have hfit := h.B.fit
    have qt : C.q.top = 0 := by rw [k4]; rfl
    have qb : C.q.bot = 1 := by rw [k4]; rfl
    rw [e]
    clear e
    have load : ∀ d, Base (s.put 1 d (s.at d)) 4 t L ∧ (s.put 1 d (s.at d)).cells.length = 7 ∧ ∀ e, (s.put 1 d (s.at d)).at e = s.at e := fun d => ⟨h.B.load _ _, (MS.put_len _ _ _ _).trans h.len, fun e => at_put_at _ _ _ _⟩
    have mk : ∀ (C' : K) (s' : MS), Base s' 4 t L → s'.cells.length = 7 → (∀ d : Int, d ≠ 6 → s'.at d = s.at d) → (C'.kind = 4 ∧ C'.a = 6 ∧ C'.b = b ∧ C'.q = q0 4) →
        (Bt b (s'.at 6) ∨ S.over = false ∨ (C'.over = false ∧ (C'.line = 2 ∨ (C'.line = 3 ∧ P.over = true ∧ C'.u = s.at 1) ∨ 4 ≤ C'.line)) ∨ (L = [] ∧ P.over = true)) → BK k0 b P S C' Y s' t L := by
      intro C' s' b1 b2 b3 b4 b5
      refine ⟨b1, b2, t1, by rw [b3 1 (by omega)]; exact hbot, h.pk, h.pq, fun e => ⟨own_push_same (h.po e).1 h.pk (by omega) (fun d _ h1 => b3 d (by omega)), (h.po e).2⟩, h.pd, h.sk, h.sp, b4, h.yk, h.yq, h.yo, ?_⟩
      rw [b3 1 (by omega)]
      exact b5
    have hinv := h.inv
    have setter : ∀ n, C.line = n → n ≠ 1 → n ≠ 2 → n ≠ 3 → BK k0 b P S (stepClear C s).1 Y (stepClear C s).2 t L := by
      intro n hn n1 n2 n3
      have e : stepClear C s = (C.fin 1 0, s.put 4 6 (orB (s.at 6) (mask b))) := by
        unfold stepClear
        rw [k2, k3]
        split
        · omega
        · omega
        · omega
        · rfl
      rw [e]
      obtain ⟨hB, ha⟩ := BK.put6 h.B 4 (orB (s.at 6) (mask b))
      exact mk _ _ hB ((MS.put_len _ _ _ _).trans h.len) ha ⟨k1, k2, k3, k4⟩ (.inl (by rw [at_put_same (by rw [h.len]; omega)]; exact bt_or hb.1 hb.2 _))
    by_cases l1 : C.line = 1
    · have e : stepClear C s = (C.go 2, s.put 5 6 (andB (s.at 6) (notB (mask b)))) := by unfold stepClear; rw [l1, k2, k3]; rfl
      rw [e]
      obtain ⟨hB, ha⟩ := BK.put6 h.B 5 (andB (s.at 6) (notB (mask b)))
      exact mk _ _ hB ((MS.put_len _ _ _ _).trans h.len) ha ⟨k1, k2, k3, k4⟩ (.inr (.inr (.inl ⟨ho, .inl rfl⟩)))
    · by_cases l2 : C.line = 2
      · have e : stepClear C s = ({ C with u := s.at 1, line := 3 }, s.put 1 1 (s.at 1)) := by unfold stepClear; rw [l2, qb]; rfl
        rw [e]
        obtain ⟨hB, hl, ha⟩ := load 1
        refine mk _ _ hB hl (fun d _ => ha d) ⟨k1, k2, k3, k4⟩ ?_
        cases hp : P.over with
        | true => exact .inr (.inr (.inl ⟨ho, .inr (.inl ⟨rfl, rfl, rfl⟩)⟩))
        | false =>
          refine .inr (.inl ?_)
          cases e : S.over with
          | false => rfl
          | true => have := h.sp e; rw [hp] at this; cases this
      · by_cases l3 : C.line = 3
        · have e : stepClear C s = (if sz C.u (s.at 0) ≤ 0 then ({ C with v := s.at 0 }).fin 2 0 else { C with v := s.at 0, line := 4 }, s.put 1 0 (s.at 0)) := by unfold stepClear; rw [l3, qt]; rfl
          rw [e]
          obtain ⟨hB, hl, ha⟩ := load 0
          by_cases hz : sz C.u (s.at 0) ≤ 0
          · simp only [if_pos hz]
            refine mk _ _ hB hl (fun d _ => ha d) ⟨k1, k2, k3, k4⟩ ?_
            rw [ha]
            rcases hinv with h1 | h1 | ⟨_, h1 | ⟨_, h2, h3⟩ | h1⟩ | h1
            · exact .inl h1
            · exact .inr (.inl h1)
            · omega
            · rw [h3, hbot, htop, sz_of L.length (by omega) (by omega) (by omega)] at hz
              exact .inr (.inr (.inr ⟨List.eq_nil_of_length_eq_zero (by omega), h2⟩))
            · omega
            · exact .inr (.inr (.inr h1))
          · simp only [if_neg hz]
            exact mk _ _ hB hl (fun d _ => ha d) ⟨k1, k2, k3, k4⟩ (.inr (.inr (.inl ⟨ho, .inr (.inr (Nat.le_refl 4))⟩)))
        · exact setter _ rfl l1 l2 l3

theorem BK.goY {k0 : Nat} {b : Int} {P S C Y : K} {s : MS} {t : Nat} {L : List Int} (h : BK k0 b P S C Y s t L) : ∃ t' L', BK k0 b P S C (stepK Y s).1 (stepK Y s).2 t' L' := by
  cases ho : Y.over with
  | true => rw [stepK_over ho]; exact ⟨t, L, h⟩
  | false =>
    obtain ⟨hT, ht⟩ := h.yo ho
    subst ht
    have hbot := h.bot
    obtain ⟨t', L', hs, hB, hq, hkk, ha⟩ := thf_step h.B hT h.yq ho (by omega) (by omega) (by omega) (by omega) (by omega) (by omega)
    have hlen := (stepK_len Y s).trans h.len
    have hinv := h.inv
    refine ⟨t', L', ?_⟩
    cases hs with
    | quiet ho2 h2 => exact ⟨hB, hlen, by omega, by rw [ha 1 (by omega)]; exact hbot, h.pk, h.pq, fun e => ⟨own_still (h.po e).1 ha, (h.po e).2⟩, h.pd, h.sk, h.sp, h.ck, hkk, hq, fun _ => ⟨h2, rfl⟩, by rw [ha 6 (by omega), ha 1 (by omega)]; exact hinv⟩
    | empty ho2 hc hv => exact ⟨hB, hlen, by omega, by rw [ha 1 (by omega)]; exact hbot, h.pk, h.pq, fun e => ⟨own_still (h.po e).1 ha, (h.po e).2⟩, h.pd, h.sk, h.sp, h.ck, hkk, hq, (fun e => by rw [ho2] at e; cases e), by rw [ha 6 (by omega), ha 1 (by omega)]; exact hinv⟩
    | abort ho2 hc hv v hkv hlt => omega
    | got x M ho2 hc hv hL =>
      subst hL
      refine ⟨hB, hlen, by omega, by rw [ha 1 (by omega), hbot]; simp; omega, h.pk, h.pq, fun e => ⟨own_taken (h.po e).1 ha, by have := (h.po e).2; simp at this; omega⟩, fun e => by have := h.pd e; simp at this; omega, h.sk, h.sp, h.ck, hkk, hq, (fun e => by rw [ho2] at e; cases e), ?_⟩
      rw [ha 6 (by omega), ha 1 (by omega)]
      rcases hinv with h1 | h1 | h1 | ⟨h1, _⟩
      · exact .inl h1
      · exact .inr (.inl h1)
      · exact .inr (.inr (.inl h1))
      · cases h1

theorem BK.fin {k0 : Nat} {b : Int} {P S C Y : K} {s : MS} {t : Nat} {L : List Int} (h : BK k0 b P S C Y s t L) (hs : S.over = true) (hc : C.over = true) :
    sz (s.at 1) (s.at 0) = L.length ∧ k0 ≤ L.length ∧ L.length ≤ k0 + 1 ∧ (L.length = 0 ∨ Bt b (s.at 6)) := by
  have h1 := h.pd (h.sp hs)
  have h2 := h.t1
  have h3 := h.B.fit
  refine ⟨?_, by omega, by omega, ?_⟩
  · rw [h.bot, h.B.top]; exact sz_of _ (by omega) (by omega) (by omega)
  · rcases h.inv with h4 | h4 | ⟨h4, _⟩ | ⟨h4, _⟩
    · exact .inr h4
    · rw [hs] at h4; cases h4
    · rw [hc] at h4; cases h4
    · exact .inl (by rw [h4]; rfl)

theorem BK.start {k0 : Nat} {b : Int} {s0 s : MS} {L : List Int} (h : DQ s0 4 0 L) (hl : s0.cells.length = 7) (hk : L.length = k0) (hs : s.cells.length = 7) (ha : ∀ d : Int, d ≠ 6 → s.at d = s0.at d) : BK k0 b (newPush (q0 4) 9) (newSet 6 b) (newClear 6 b (q0 4)) (newSteal (q0 4)) s 0 L := by
  have B0 : Base s0 4 0 L := ⟨h.one, h.cap, h.len, h.top, h.fit, h.ent⟩
  have B1 : Base s 4 0 L := B0.same (by omega) (fun d _ h1 _ => ha d (by omega))
  have hb : s.at 1 = (0 : Nat) + L.length := by rw [ha 1 (by omega)]; exact h.bot
  exact ⟨B1, hs, by omega, hb, rfl, rfl, fun _ => ⟨.push1 rfl rfl hb, by omega⟩, (fun e => by cases e), ⟨rfl, rfl, rfl⟩, (fun e => by cases e), ⟨rfl, rfl, rfl, rfl⟩, rfl, rfl, fun _ => ⟨.l1 rfl rfl, rfl⟩, .inr (.inl rfl)⟩

/-- How far push and set are behind n of their turns. -/
def Prog (P S : K) (n : Nat) : Prop := S.over = true ∨ (P.over = true ∧ n ≤ 9) ∨ (P.over = false ∧ n + 1 ≤ P.line)
theorem Prog.less {P S : K} {n m : Nat} (h : Prog P S n) (hm : m ≤ n) : Prog P S m := by
  rcases h with h | ⟨h, h2⟩ | ⟨h, h2⟩
  · exact .inl h
  · exact .inr (.inl ⟨h, by omega⟩)
  · exact .inr (.inr ⟨h, by omega⟩)
theorem Prog.goP {P S : K} {s : MS} {n : Nat} (h : Prog P S n) (hp : P.over = false) (hok : P.ok) : Prog (stepK P s).1 S (n + 1) := by
  rcases h with h | ⟨h, h2⟩ | ⟨h, h2⟩
  · exact .inl h
  · rw [hp] at h; cases h
  · have hl := hok.line.2
    cases ho : (stepK P s).1.over with
    | true => exact .inr (.inl ⟨ho, by omega⟩)
    | false =>
      rcases stepK_line (s := s) hp hok.line.1 with h1 | h1
      · rw [ho] at h1; cases h1
      · exact .inr (.inr ⟨ho, by omega⟩)
theorem Prog.goS {P S : K} {s : MS} {n : Nat} (hk : S.kind = 3) : Prog P (stepK S s).1 n := by
  refine .inl ?_
  cases ho : S.over with
  | true => rw [stepK_over ho]; exact ho
  | false => unfold stepK; rw [ho, hk]; rfl
theorem Prog.over {P S : K} {n : Nat} (h : Prog P S n) (hok : P.over = false → P.ok) (hn : 10 ≤ n) : S.over = true := by
  rcases h with h | ⟨h, h2⟩ | ⟨h, h2⟩
  · exact h
  · omega
  · have := (hok h).line.2; omega
theorem Far.less {k : K} {n m : Nat} (h : Far k n) (hm : m ≤ n) : Far k m := by
  rcases h with h | h
  · exact .inl h
  · exact .inr (by omega)
end Go.Proofs.Ytnjddpijlgjgeaa
