/- An owner and a thief at the last entry: just one of them gets it. No program in sight. -/
import Derived.Test.YtnjddpijlgjgeaaDequeInv
namespace Go.Proofs.Ytnjddpijlgjgeaa
open Go.RowKit

/-- What an entry's number reads as. -/
def rdI (e : Int) : Int := wrap64 (IntKind.u64.wrap e)

/-- x pops, y steals, e was the only entry. -/
structure TL (c t0 : Nat) (e : Int) (x y : K) (s : MS) (t : Nat) (L : List Int) (res : Option Int) : Prop where
  B : Base s c t L
  ht : t + L.length = t0 + 1
  xq : x.q = q0 c
  yq : y.q = q0 c
  xk : x.kind = 1
  xo : x.over = false → Own s c t L x res
  xd : x.over = true → res = none ∧ s.at 1 = t + L.length
  yo : y.over = false → Thf t0 t L y
  acct : (L = [e] ∧ res = none ∧ x.over = false ∧ (y.over = true → y.code ≠ 1)) ∨ (L = [] ∧ res = some e ∧ x.over = false ∧ (y.over = true → y.code ≠ 1)) ∨
    (L = [] ∧ res = none ∧ (x.over = true ∧ x.code = 1 ∧ x.val = rdI e) ∧ (y.over = true → y.code ≠ 1)) ∨ (L = [] ∧ res = none ∧ (y.over = true ∧ y.code = 1 ∧ y.val = rdI e) ∧ (x.over = true → x.code ≠ 1))

theorem TL.stepX {c t0 : Nat} {e : Int} {x y : K} {s : MS} {t : Nat} {L : List Int} {res : Option Int} (h : TL c t0 e x y s t L res) (hbig : t0 + c + 20 < 18446744073709551615) :
    ∃ t' L' res', TL c t0 e (stepK x s).1 y (stepK x s).2 t' L' res' := by
  have ht := h.ht
  cases hxo : x.over with
  | true => rw [stepK_over hxo]; exact ⟨t, L, res, h⟩
  | false =>
    obtain ⟨t', L', res', hs, hB, hq, hk, _⟩ := own_step h.B (h.xo hxo) h.xq hxo (by omega)
    refine ⟨t', L', res', ?_⟩
    have hy : y.over = false → Thf t0 t' L' y := fun ho => thf_owner (h.yo ho) hs
    have hk1 := hk.trans h.xk
    have hac := h.acct
    have hxk := h.xk
    cases hs with
    | quiet ho h2 =>
      refine ⟨hB, ht, hq, h.yq, hk1, fun _ => h2, (fun e => by rw [ho] at e; cases e), hy, ?_⟩
      rcases hac with ⟨a, b, d, f⟩ | ⟨a, b, d, f⟩ | ⟨a, b, ⟨d, d2, d3⟩, f⟩ | ⟨a, b, d, f⟩
      · exact .inl ⟨a, b, ho, f⟩
      · exact .inr (.inl ⟨a, b, ho, f⟩)
      · rw [hxo] at d; cases d
      · exact .inr (.inr (.inr ⟨a, b, d, (fun e => by rw [ho] at e; cases e)⟩))
    | full ho hk hc hv hL hb hr => omega
    | fine ho hk hc hv hL hb hr => omega
    | claim z M ho hk hL hne h2 hr =>
      exfalso
      have : L.length ≤ 1 := by rcases hac with ⟨a, _⟩ | ⟨a, _⟩ | ⟨a, _⟩ | ⟨a, _⟩ <;> rw [a] <;> simp
      rw [hL] at this
      simp at this
      exact hne this
    | win z ho hk hL h2 hr =>
      subst hL hr
      refine ⟨hB, by simp at ht ⊢; omega, hq, h.yq, hk1, fun _ => h2, (fun e => by rw [ho] at e; cases e), hy, ?_⟩
      rcases hac with ⟨a, b, d, f⟩ | ⟨a, b, d, f⟩ | ⟨a, b, d, f⟩ | ⟨a, b, d, f⟩
      · simp at a
        subst a
        exact .inr (.inl ⟨rfl, rfl, ho, f⟩)
      · cases a
      · cases a
      · cases a
    | got z ho hk hc hv hr hb =>
      refine ⟨hB, ht, hq, h.yq, hk1, (fun e => by rw [ho] at e; cases e), fun _ => ⟨rfl, hb⟩, hy, ?_⟩
      rcases hac with ⟨a, b, d, f⟩ | ⟨a, b, d, f⟩ | ⟨a, b, d, f⟩ | ⟨a, b, d, f⟩
      · rw [hr] at b; cases b
      · rw [hr] at b
        cases b
        exact .inr (.inr (.inl ⟨a, rfl, ⟨ho, hc, hv⟩, f⟩))
      · rw [hr] at b; cases b
      · rw [hr] at b; cases b
    | empty ho hk hc hv hr hL hb =>
      refine ⟨hB, ht, hq, h.yq, hk1, (fun e => by rw [ho] at e; cases e), fun _ => ⟨rfl, by rw [hb, hL]; simp⟩, hy, ?_⟩
      rcases hac with ⟨a, b, d, f⟩ | ⟨a, b, d, f⟩ | ⟨a, b, ⟨d, _⟩, f⟩ | ⟨a, b, d, f⟩
      · rw [hL] at a; cases a
      · rw [hr] at b; cases b
      · rw [hxo] at d; cases d
      · exact .inr (.inr (.inr ⟨a, rfl, d, fun _ => by rw [hc]; omega⟩))

theorem TL.bot {c t0 : Nat} {e : Int} {x y : K} {s : MS} {t : Nat} {L : List Int} {res : Option Int} (h : TL c t0 e x y s t L res) : s.at 1 ≤ t + L.length ∧ t + L.length - 1 ≤ s.at 1 ∧ 0 ≤ s.at 1 := by
  cases hxo : x.over with
  | true => obtain ⟨_, h2⟩ := h.xd hxo; omega
  | false => exact own_bot (h.xo hxo)

theorem TL.stepY {c t0 : Nat} {e : Int} {x y : K} {s : MS} {t : Nat} {L : List Int} {res : Option Int} (h : TL c t0 e x y s t L res) (hbig : t0 + c + 20 < 18446744073709551615) :
    ∃ t' L' res', TL c t0 e x (stepK y s).1 (stepK y s).2 t' L' res' := by
  have ht := h.ht
  have hac := h.acct
  have hlen : L.length ≤ 1 := by rcases hac with ⟨a, _⟩ | ⟨a, _⟩ | ⟨a, _⟩ | ⟨a, _⟩ <;> rw [a] <;> simp
  cases hyo : y.over with
  | true => rw [stepK_over hyo]; exact ⟨t, L, res, h⟩
  | false =>
    obtain ⟨b1, b2, b3⟩ := h.bot
    obtain ⟨t', L', hs, hB, hq, hk, ha⟩ := thf_step h.B (h.yo hyo) h.yq hyo (by omega) (by omega) (by omega) b1 b2 b3
    refine ⟨t', L', res, ?_⟩
    have hxd := h.xd
    have same : ∀ {f : Prop}, (∀ (hr : (stepK y s).1.over = true → (stepK y s).1.code ≠ 1), f) → (¬ ((stepK y s).1.over = true → (stepK y s).1.code ≠ 1) → f) → f := fun h1 h2 => (Classical.em _).elim h1 h2
    have still : t' = t → L' = L → ((stepK y s).1.over = true → (stepK y s).1.code ≠ 1) → ((stepK y s).1.over = false → Thf t0 t L (stepK y s).1) → TL c t0 e x (stepK y s).1 (stepK y s).2 t' L' res := by
      intro e1 e2 hr hT
      subst e1 e2
      refine ⟨hB, ht, h.xq, hq, h.xk, fun ho => own_still (h.xo ho) ha, fun ho => ⟨(hxd ho).1, by rw [ha 1 (by omega)]; exact (hxd ho).2⟩, hT, ?_⟩
      rcases hac with ⟨a, b, d, f⟩ | ⟨a, b, d, f⟩ | ⟨a, b, d, f⟩ | ⟨a, b, ⟨d, _⟩, f⟩
      · exact .inl ⟨a, b, d, hr⟩
      · exact .inr (.inl ⟨a, b, d, hr⟩)
      · exact .inr (.inr (.inl ⟨a, b, d, hr⟩))
      · rw [hyo] at d; cases d
    clear same
    cases hs with
    | quiet ho h2 => exact still rfl rfl (fun e => by rw [ho] at e; cases e) (fun _ => h2)
    | empty ho hc hv => exact still rfl rfl (fun _ => by rw [hc]; omega) (fun e => by rw [ho] at e; cases e)
    | abort ho hc hv v hkv hlt => exact still rfl rfl (fun _ => by rw [hc]; omega) (fun e => by rw [ho] at e; cases e)
    | got z M ho hc hv hL =>
      subst hL
      simp at hlen
      subst hlen
      refine ⟨hB, by simp at ht ⊢; omega, h.xq, hq, h.xk, fun hx => own_taken (h.xo hx) ha, fun hx => ?_, (fun e => by rw [ho] at e; cases e), ?_⟩
      · rcases hac with ⟨a, b, d, f⟩ | ⟨a, _⟩ | ⟨a, _⟩ | ⟨a, _⟩
        · rw [d] at hx; cases hx
        · cases a
        · cases a
        · cases a
      · rcases hac with ⟨a, b, d, f⟩ | ⟨a, _⟩ | ⟨a, _⟩ | ⟨a, _⟩
        · simp at a
          subst a
          exact .inr (.inr (.inr ⟨rfl, b, ⟨ho, hc, hv⟩, (fun e => by rw [d] at e; cases e)⟩))
        · cases a
        · cases a
        · cases a

/-- Both are done: just one of them has the entry. -/
theorem TL.fin {c t0 : Nat} {e : Int} {x y : K} {s : MS} {t : Nat} {L : List Int} {res : Option Int} (h : TL c t0 e x y s t L res) (hx : x.over = true) (hy : y.over = true) :
    (x.code = 1 ∧ x.val = rdI e ∧ y.code ≠ 1) ∨ (y.code = 1 ∧ y.val = rdI e ∧ x.code ≠ 1) := by
  rcases h.acct with ⟨a, b, d, f⟩ | ⟨a, b, d, f⟩ | ⟨a, b, ⟨d, d2, d3⟩, f⟩ | ⟨a, b, ⟨d, d2, d3⟩, f⟩
  · rw [hx] at d; cases d
  · rw [hx] at d; cases d
  · exact .inl ⟨d2, d3, f hy⟩
  · exact .inr ⟨d2, d3, f hx⟩

theorem TL.start {s : MS} {c t : Nat} {e : Int} (h : DQ s c t [e]) : TL c t e (newPop (q0 c)) (newSteal (q0 c)) s t [e] none := by
  have b := h.bot
  refine ⟨⟨h.one, h.cap, h.len, h.top, h.fit, h.ent⟩, by simp, rfl, rfl, rfl, fun _ => .pop1 rfl rfl h.bot, (fun e => by cases e), fun _ => .l1 rfl rfl, .inl ⟨rfl, rfl, rfl, (fun e => by cases e)⟩⟩
end Go.Proofs.Ytnjddpijlgjgeaa
