/- The game of an owner and thieves, plain: what every pick keeps. -/
import Derived.Test.YtfhkhknnoepfeaaHistGameP
namespace Go.Proofs.Ytfhkhknnoepfeaa
open Go.RowKit

section
variable {c : Nat} {e : Option Nat} {g : Gm} {t : Nat} {L : List Int} {res : Option Int} {H S : List HOp}

theorem act_fine {o : HOp} {l : List Int} {cap : Int} (hc : o.code = 0) (h : (l.length : Int) < cap) : o.act l cap = some (l ++ [o.value]) := by
  unfold HOp.act; rw [if_pos hc, if_pos h]
theorem act_full {o : HOp} {l : List Int} {cap : Int} (hc : o.code = 3) (h : cap ≤ (l.length : Int)) : o.act l cap = some l := by
  unfold HOp.act; rw [if_neg (by omega), if_pos hc, if_pos h]
theorem act_empty {o : HOp} {cap : Int} (hc : o.code = 2) : o.act [] cap = some [] := by
  unfold HOp.act; rw [if_neg (by omega), if_neg (by omega), if_pos hc, if_pos rfl]
theorem act_abort {o : HOp} {l : List Int} {cap : Int} (hc : o.code = 4) : o.act l cap = some l := by
  unfold HOp.act; rw [if_neg (by omega), if_neg (by omega), if_neg (by omega), if_pos hc]
theorem act_pop {o : HOp} {l : List Int} {x cap : Int} (hc : o.code = 1) (hk : o.kind = 1) (hv : o.value = x) : o.act (l ++ [x]) cap = some l := by
  unfold HOp.act; rw [if_neg (by omega), if_neg (by omega), if_neg (by omega), if_neg (by omega), if_neg (by simp), if_pos hk]
  simp [hv]
theorem act_steal {o : HOp} {l : List Int} {x cap : Int} (hc : o.code = 1) (hk : o.kind = 2) (hv : o.value = x) : o.act (x :: l) cap = some l := by
  unfold HOp.act; rw [if_neg (by omega), if_neg (by omega), if_neg (by omega), if_neg (by omega), if_neg (by simp), if_neg (by omega)]
  simp [hv]

theorem GN.frH (h : GN c e g t L res H S) {y : HOp} (hy : y ∈ H ++ S) : y.frm ≤ g.pick := by
  have := h.perm.mem_iff.1 hy
  rw [List.mem_append] at this
  rcases this with h1 | h1
  · obtain ⟨h2, h3⟩ := h.ops y h1
    simp only [HOp.formed, Bool.and_eq_true, decide_eq_true_eq] at h2
    omega
  · cases e1 : (g.acs 0).now with
    | none => rw [e1] at h1; simp [pendL] at h1
    | some ko =>
      obtain ⟨k, o⟩ := ko
      cases res with
      | none => rw [e1] at h1; simp [pendL] at h1
      | some x =>
        rw [e1] at h1
        simp [pendL] at h1
        have := (h.C.fr 0 k o e1).2.2.1
        rw [h1]
        exact this

/-- An operation that ends now may come behind all others. -/
theorem pw_snoc {R : List HOp} {n : HOp} (h : R.Pairwise (fun a b => a.frm ≤ b.to)) (hn : ∀ y ∈ R, y.frm ≤ n.to) : (R ++ [n]).Pairwise (fun a b => a.frm ≤ b.to) := by
  rw [List.pairwise_append]
  exact ⟨h, by simp, fun a ha b hb => by simp at hb; rw [hb]; exact hn a ha⟩
/-- An operation that may come before the last ones. -/
theorem pw_mid {R T : List HOp} {n : HOp} (h : (R ++ T).Pairwise (fun a b => a.frm ≤ b.to)) (hn : ∀ y ∈ R, y.frm ≤ n.to) (hT : ∀ y ∈ T, n.frm ≤ y.to) : (R ++ n :: T).Pairwise (fun a b => a.frm ≤ b.to) := by
  rw [List.pairwise_append] at h ⊢
  refine ⟨h.1, List.pairwise_cons.2 ⟨hT, h.2.1⟩, fun a ha b hb => ?_⟩
  rw [List.mem_cons] at hb
  rcases hb with hb | hb
  · rw [hb]; exact hn a ha
  · exact h.2.2 a ha b hb

def fixO (n : Nat) (o : HOp) : HOp := if o.to = farM then { o with to := n } else o
theorem fixO_act (n : Nat) (o : HOp) (l : List Int) (cap : Int) : (fixO n o).act l cap = o.act l cap := by
  unfold fixO; split <;> rfl
theorem fixO_run (n : Nat) (cap : Int) : ∀ (σ : List HOp) (l : List Int), runH cap (σ.map (fixO n)) l = runH cap σ l
  | [], _ => rfl
  | o :: r, l => by
    simp only [List.map_cons, runH, fixO_act]
    cases o.act l cap with
    | none => rfl
    | some l' => exact fixO_run n cap r l'
theorem fixO_frm (n : Nat) (o : HOp) : (fixO n o).frm = o.frm := by unfold fixO; split <;> rfl
theorem fixO_to {n : Nat} {o : HOp} : (fixO n o).to = n ∨ (fixO n o).to = o.to := by
  unfold fixO; split
  · exact .inl rfl
  · exact .inr rfl

theorem GN.finPop (h : GN c e g t L res H S) (hp : g.pick < 900000) {k : K} {o : HOp} {x : Int} (hk : (g.acs 0).now = some (k, o)) (hr : res = some x) :
    ((H ++ S).map (fixO g.pick)).Perm (g.ops ++ [finO o g.pick 1 x]) := by
  have h1 := h.perm.map (fixO g.pick)
  rw [hk, hr] at h1
  simp only [pendL, List.map_append, List.map_cons, List.map_nil] at h1
  have e1 : g.ops.map (fixO g.pick) = g.ops := by
    conv => rhs; rw [← List.map_id g.ops]
    refine List.map_congr_left fun y hy => ?_
    have := (h.ops y hy).2
    unfold fixO
    rw [if_neg (by unfold farM; omega)]
    rfl
  rw [e1] at h1
  have e2 : fixO g.pick (pendO o x) = finO o g.pick 1 x := by unfold fixO pendO finO; simp
  rw [e2] at h1
  simpa using h1

/-- What of the done operations stays so, where the step finishes none. -/
theorem GN.opsMore (h : GN c e g t L res H S) {a : Nat} {k : K} {o : HOp} (ho : (stepK k g.mem).1.over = false) : ∀ y ∈ (g.stepped a k o).ops, y.formed = true ∧ y.to < (g.stepped a k o).pick := by
  rw [(stepped_more ho).1, stepped_pick]
  exact fun y hy => ⟨(h.ops y hy).1, by have := (h.ops y hy).2; omega⟩
theorem GN.opsDone (h : GN c e g t L res H S) {a : Nat} {k : K} {o : HOp} (ho : (stepK k g.mem).1.over = true) (hf : (finO o g.pick (stepK k g.mem).1.code (stepK k g.mem).1.val).formed = true) : ∀ y ∈ (g.stepped a k o).ops, y.formed = true ∧ y.to < (g.stepped a k o).pick := by
  rw [(stepped_done ho).1, stepped_pick]
  intro y hy
  rw [List.mem_append, List.mem_singleton] at hy
  rcases hy with hy | hy
  · exact ⟨(h.ops y hy).1, by have := (h.ops y hy).2; omega⟩
  · rw [hy]; exact ⟨hf, by simp only [finO]; omega⟩

theorem GN.stepOwn (h : GN c e g t L res H S) (he : e = none ∨ e = some 0) {k : K} {o : HOp} (hk : (g.acs 0).now = some (k, o)) (hp : g.pick < 900000) :
    ∃ t' L' res' H' S', GN c none (g.stepped 0 k o) t' L' res' H' S' := by
  obtain ⟨ho, hq, hO, hko, hpush⟩ := h.some0 k o hk
  obtain ⟨f1, f2, f3, _⟩ := h.C.fr 0 k o hk
  have hfrN : ∀ a k2 o2, 0 < a → (g.acs a).now = some (k2, o2) → o2.frm < g.pick := fun a k2 o2 ha e2 => (h.C.fr a k2 o2 e2).2.2.2 (by
    rcases he with he | he
    · rw [he]; simp
    · rw [he]; simp; omega)
  have htb := h.C.tb
  have hcap := h.C.B.cap
  obtain ⟨t', L', res', hs, hB, hq', hkk, hka⟩ := own_step h.C.B hO hq ho (by omega)
  have C := h.C.own hk hs hB
  have hlate : ∀ (y : HOp), y ∈ g.ops → y ∈ (g.stepped 0 k o).ops := fun y hy => by
    cases ho2 : (stepK k g.mem).1.over with
    | true => rw [(stepped_done ho2).1]; exact List.mem_append_left _ hy
    | false => rw [(stepped_more ho2).1]; exact hy
  have ne0 : ∀ a, 0 < a → (g.stepped 0 k o).acs a = g.acs a := fun a ha => stepped_ne (by omega)
  -- the aborts and the late thieves, where the reservation stays or comes
  have late1 : ∀ res2 : Option Int, (res.isSome = true → res2.isSome = true) → ∀ a k2 o2, 0 < a → ((g.stepped 0 k o).acs a).now = some (k2, o2) → 2 ≤ k2.line → k2.v < t → (∃ r ∈ (g.stepped 0 k o).ops, r.code = 1 ∧ o2.frm < r.to) ∨ res2.isSome = true := fun res2 hr a k2 o2 ha e2 hl hv => by
    rw [ne0 a ha] at e2
    rcases h.late a k2 o2 ha e2 hl hv with ⟨r, h1, h2⟩ | h1
    · exact .inl ⟨r, hlate r h1, h2⟩
    · exact .inr (hr h1)
  have resNone : ∀ (P : Prop), res = none → (res.isSome = true → P) := fun P hr h1 => by rw [hr] at h1; cases h1
  cases hs with
  | quiet ho2 h2 =>
    obtain ⟨m1, m2⟩ := stepped_more (a := 0) (o := o) ho2
    refine ⟨t, L, res, H, S, C, (fun e2 => by rw [m2] at e2; cases e2), fun k2 o2 e2 => ?_, h.vals, h.opsMore ho2, ?_, h.run, h.pw, h.still, fun hS => ?_, late1 res id, fun y hy hc => ?_⟩
    · rw [m2] at e2
      cases e2
      exact ⟨ho2, hq', h2, by rw [hkk]; exact hko, fun g0 => by rw [hka]; exact hpush (by rw [← hkk]; exact g0)⟩
    · have := h.perm
      rw [hk] at this
      rw [m1, m2]
      have e3 : pendL (some ((stepK k g.mem).1, o)) res = pendL (some (k, o)) res := by cases res <;> rfl
      rw [e3]
      exact this
    · obtain ⟨⟨x, hx⟩, ⟨k2, o2, e2, c1, c2, c3⟩, c4⟩ := h.crit hS
      rw [hk] at e2
      cases e2
      have hline := (stepK_line (k := k) (s := g.mem) ho (by omega)).resolve_left (by rw [ho2]; simp)
      refine ⟨⟨x, hx⟩, ⟨_, _, m2, by rw [hkk]; exact c1, ?_, c3⟩, fun a k2 o2 ha e2 => by rw [ne0 a ha] at e2; exact c4 a k2 o2 ha e2⟩
      have hkind : (stepK k g.mem).1.kind = 1 := by rw [hkk]; exact c1
      cases h2 with
      | pop6 h0 hl => exact .inr hl
      | pop9 h0 hl hL => rw [hx] at hL; cases hL
      | pop7 x' h0 hl hL => rw [hx] at hL; cases hL
      | pop8 x' h0 hl hL => rw [hx] at hL; cases hL
      | pop5 x' h0 hl hb hu hn hx' =>
        exfalso
        cases hO with
        | pop5 y g0 gl => omega
        | pop7 y g0 gl gL => rw [hx] at gL; cases gL
        | pop8 y g0 gl gL => rw [hx] at gL; cases gL
      | _ => omega
    · rw [m1] at hy ⊢
      obtain ⟨h3, h4⟩ := h.abort y hy hc
      refine ⟨h3, ?_⟩
      rcases h4 with h4 | ⟨h4, k2, p, h5, h6⟩
      · exact .inl h4
      · rw [hk] at h5; cases h5
        exact .inr ⟨h4, _, _, m2, h6⟩
  | full ho2 hk2 hc hv hL hb hr =>
    obtain ⟨m1, m2⟩ := stepped_done (a := 0) (o := o) ho2
    have hS : S = [] := h.noS hk (by omega)
    subst hS hr
    have hf := formed_fin (o := o) (pick := g.pick) (code := (stepK k g.mem).1.code) (val := (stepK k g.mem).1.val) f1 f2 f3 (by rw [hc]; omega)
    refine ⟨t, L, none, H ++ [finO o g.pick (stepK k g.mem).1.code (stepK k g.mem).1.val], [], C, fun _ => ⟨rfl, hb⟩, (fun k2 o2 e2 => by rw [m2] at e2; cases e2), h.vals, h.opsDone ho2 hf, ?_, runH_add h.run (runH_one (act_full hc (by omega))), ?_, h.still, fun hS => absurd rfl hS, late1 none id, fun y hy hcy => ?_⟩
    · have := h.perm
      rw [hk] at this
      rw [m1, m2]
      simp only [pendL, List.append_nil] at this ⊢
      exact this.append_right _
    · simp only [List.append_nil]
      have h1 := h.pw
      simp only [List.append_nil] at h1
      exact pw_snoc h1 (fun y hy => h.frH (by simpa using hy))
    · rw [m1] at hy ⊢
      rw [List.mem_append, List.mem_singleton] at hy
      rcases hy with hy | hy
      · obtain ⟨h3, h4⟩ := h.abort y hy hcy
        refine ⟨h3, ?_⟩
        rcases h4 with ⟨r, h4, h5⟩ | ⟨h4, _⟩
        · exact .inl ⟨r, List.mem_append_left _ h4, h5⟩
        · cases h4
      · rw [hy] at hcy; simp only [finO, hc] at hcy; omega
  | fine ho2 hk2 hc hv hL hb hr =>
    obtain ⟨m1, m2⟩ := stepped_done (a := 0) (o := o) ho2
    have hS : S = [] := h.noS hk (by omega)
    subst hS hr
    obtain ⟨p1, p2⟩ := hpush hk2
    have hf := formed_fin (o := o) (pick := g.pick) (code := (stepK k g.mem).1.code) (val := (stepK k g.mem).1.val) f1 f2 f3 (by rw [hc]; omega)
    refine ⟨t, L ++ [k.a], none, H ++ [finO o g.pick (stepK k g.mem).1.code (stepK k g.mem).1.val], [], C, fun _ => ⟨rfl, hb⟩, (fun k2 o2 e2 => by rw [m2] at e2; cases e2), fun x hx => ?_, h.opsDone ho2 hf, ?_, runH_add h.run (runH_one ?_), ?_, h.still, fun hS => absurd rfl hS, late1 none id, fun y hy hcy => ?_⟩
    · simp only [Option.toList_none, List.append_nil, List.mem_append, List.mem_singleton] at hx
      rcases hx with hx | hx
      · exact h.vals x (by simp [hx])
      · rw [hx]; exact p2
    · have := h.perm
      rw [hk] at this
      rw [m1, m2]
      simp only [pendL, List.append_nil] at this ⊢
      exact this.append_right _
    · have := act_fine (o := finO o g.pick (stepK k g.mem).1.code (stepK k g.mem).1.val) (l := L) (cap := c) hc (by omega)
      rw [this]
      simp only [finO, hc]
      rw [p1]
      simp
    · simp only [List.append_nil]
      have h1 := h.pw
      simp only [List.append_nil] at h1
      exact pw_snoc h1 (fun y hy => h.frH (by simpa using hy))
    · rw [m1] at hy ⊢
      rw [List.mem_append, List.mem_singleton] at hy
      rcases hy with hy | hy
      · obtain ⟨h3, h4⟩ := h.abort y hy hcy
        refine ⟨h3, ?_⟩
        rcases h4 with ⟨r, h4, h5⟩ | ⟨h4, _⟩
        · exact .inl ⟨r, List.mem_append_left _ h4, h5⟩
        · cases h4
      · rw [hy] at hcy; simp only [finO, hc] at hcy; omega
  | claim x M ho2 hk2 hL hne h2 hr =>
    obtain ⟨m1, m2⟩ := stepped_more (a := 0) (o := o) ho2
    have hS : S = [] := h.noS hk (by
      rintro ⟨_, _, y, hy⟩
      have := congrArg List.length (hL.symm.trans hy)
      simp at this
      exact hne this)
    subst hS hr hL
    refine ⟨t, L', some x, H ++ [pendO o x], [], C, (fun e2 => by rw [m2] at e2; cases e2), fun k2 o2 e2 => ?_, ?_, h.opsMore ho2, ?_, runH_add h.run (runH_one (act_pop rfl (by show o.kind = 1; omega) rfl)), ?_, h.still, fun hS => absurd rfl hS, late1 (some x) (fun _ => rfl), fun y hy hcy => ?_⟩
    · rw [m2] at e2
      cases e2
      exact ⟨ho2, hq', h2, by rw [hkk]; exact hko, fun g0 => by rw [hka]; exact hpush (by rw [← hkk]; exact g0)⟩
    · simpa using h.vals
    · have := h.perm
      rw [hk] at this
      rw [m1, m2]
      simp only [pendL, List.append_nil] at this ⊢
      exact this.append_right _
    · simp only [List.append_nil]
      have h1 := h.pw
      simp only [List.append_nil] at h1
      exact pw_snoc h1 (fun y hy => by have := h.frH (y := y) (by simpa using hy); show y.frm ≤ farM; unfold farM; omega)
    · rw [m1] at hy ⊢
      obtain ⟨h3, h4⟩ := h.abort y hy hcy
      refine ⟨h3, ?_⟩
      rcases h4 with h4 | ⟨h4, _⟩
      · exact .inl h4
      · cases h4
  | win x ho2 hk2 hL h2 hr =>
    obtain ⟨m1, m2⟩ := stepped_more (a := 0) (o := o) ho2
    subst hr hL
    have hSto : ∀ s ∈ S, o.frm ≤ s.to := fun s hs => by
      obtain ⟨_, ⟨k2, o2, e2, _, _, c3⟩, _⟩ := h.crit (by intro e3; rw [e3] at hs; cases hs)
      rw [hk] at e2
      cases e2
      exact c3 s hs
    refine ⟨t + 1, [], some x, H ++ pendO o x :: S, [], C, (fun e2 => by rw [m2] at e2; cases e2), fun k2 o2 e2 => ?_, ?_, h.opsMore ho2, ?_, ?_, ?_, (by simp), fun hS => absurd rfl hS, fun a k2 o2 _ _ _ _ => .inr rfl, fun y hy hcy => ?_⟩
    · rw [m2] at e2
      cases e2
      exact ⟨ho2, hq', h2, by rw [hkk]; exact hko, fun g0 => by rw [hka]; exact hpush (by rw [← hkk]; exact g0)⟩
    · simpa using h.vals
    · have := h.perm
      rw [hk] at this
      rw [m1, m2]
      simp only [pendL, List.append_nil] at this ⊢
      exact (List.perm_middle.trans (this.cons _)).trans (List.perm_append_singleton _ _).symm
    · refine runH_add h.run ?_
      have h1 : (pendO o x).act [x] c = some [] := act_pop (l := []) rfl (by show o.kind = 1; omega) rfl
      simp only [runH, h1]
      exact still_run S h.still
    · simp only [List.append_nil]
      exact pw_mid h.pw (fun y hy => by have := h.frH (y := y) (by simp [hy]); show y.frm ≤ farM; unfold farM; omega) hSto
    · rw [m1] at hy ⊢
      obtain ⟨h3, h4⟩ := h.abort y hy hcy
      refine ⟨h3, ?_⟩
      rcases h4 with h4 | ⟨h4, _⟩
      · exact .inl h4
      · cases h4
  | got x ho2 hk2 hc hv hr hb =>
    obtain ⟨m1, m2⟩ := stepped_done (a := 0) (o := o) ho2
    have hxv := h.vals x (by rw [hr]; simp)
    have hval : (stepK k g.mem).1.val = x := by rw [hv]; exact back x hxv
    have hS : S = [] := h.noS hk (by
      rintro ⟨_, hl, _⟩
      rw [hr] at hO
      cases hO <;> omega)
    have hfp := h.finPop hp hk hr
    subst hS
    have hf := formed_fin (o := o) (pick := g.pick) (code := (stepK k g.mem).1.code) (val := (stepK k g.mem).1.val) f1 f2 f3 (by rw [hc]; omega)
    simp only [List.append_nil] at hfp
    have hmem : finO o g.pick 1 x ∈ (g.stepped 0 k o).ops := by rw [m1, hc, hval]; simp
    refine ⟨t, L, none, H.map (fixO g.pick), [], C, fun _ => ⟨rfl, hb⟩, (fun k2 o2 e2 => by rw [m2] at e2; cases e2), fun y hy => h.vals y (by simp at hy; simp [hy]), h.opsDone ho2 hf, ?_, by rw [fixO_run]; exact h.run, ?_, h.still, fun hS => absurd rfl hS, fun a k2 o2 ha e2 hl hv2 => ?_, fun y hy hcy => ?_⟩
    · rw [m1, m2, hc, hval]
      simp only [pendL, List.append_nil]
      exact hfp
    · simp only [List.append_nil]
      have h1 := h.pw
      simp only [List.append_nil] at h1
      rw [List.pairwise_map]
      refine List.Pairwise.imp_of_mem (fun {a b} ha hb hab => ?_) h1
      rw [fixO_frm]
      rcases fixO_to (n := g.pick) (o := b) with h2 | h2
      · rw [h2]; exact h.frH (by simpa using ha)
      · rw [h2]; exact hab
    · rw [ne0 a ha] at e2
      rcases h.late a k2 o2 ha e2 hl hv2 with ⟨r, h1, h2⟩ | h1
      · exact .inl ⟨r, hlate r h1, h2⟩
      · exact .inl ⟨_, hmem, rfl, hfrN a k2 o2 ha e2⟩
    · rw [m1] at hy
      rw [List.mem_append, List.mem_singleton] at hy
      rcases hy with hy | hy
      · obtain ⟨h3, h4⟩ := h.abort y hy hcy
        refine ⟨h3, .inl ?_⟩
        rcases h4 with ⟨r, h4, h5⟩ | ⟨h4, k2, p, h5, h6⟩
        · exact ⟨r, hlate r h4, h5⟩
        · rw [hk] at h5; cases h5
          refine ⟨_, hmem, rfl, ?_, h6⟩
          have h7 := h.ops y hy
          have h8 := h7.1
          simp only [HOp.formed, Bool.and_eq_true, decide_eq_true_eq] at h8
          show y.frm < (g.pick : Int)
          omega
      · rw [hy] at hcy; simp only [finO, hc] at hcy; omega
  | empty ho2 hk2 hc hv hr hL hb =>
    obtain ⟨m1, m2⟩ := stepped_done (a := 0) (o := o) ho2
    have hS : S = [] := h.noS hk (by rintro ⟨_, _, y, hy⟩; rw [hL] at hy; cases hy)
    subst hS hr hL
    have hf := formed_fin (o := o) (pick := g.pick) (code := (stepK k g.mem).1.code) (val := (stepK k g.mem).1.val) f1 f2 f3 (by rw [hc]; omega)
    refine ⟨t, [], none, H ++ [finO o g.pick (stepK k g.mem).1.code (stepK k g.mem).1.val], [], C, fun _ => ⟨rfl, by rw [stepped_mem, hb]; simp⟩, (fun k2 o2 e2 => by rw [m2] at e2; cases e2), h.vals, h.opsDone ho2 hf, ?_, runH_add h.run (runH_one (act_empty hc)), ?_, h.still, fun hS => absurd rfl hS, late1 none id, fun y hy hcy => ?_⟩
    · have := h.perm
      rw [hk] at this
      rw [m1, m2]
      simp only [pendL, List.append_nil] at this ⊢
      exact this.append_right _
    · simp only [List.append_nil]
      have h1 := h.pw
      simp only [List.append_nil] at h1
      exact pw_snoc h1 (fun y hy => h.frH (by simpa using hy))
    · rw [m1] at hy ⊢
      rw [List.mem_append, List.mem_singleton] at hy
      rcases hy with hy | hy
      · obtain ⟨h3, h4⟩ := h.abort y hy hcy
        refine ⟨h3, ?_⟩
        rcases h4 with ⟨r, h4, h5⟩ | ⟨h4, _⟩
        · exact .inl ⟨r, List.mem_append_left _ h4, h5⟩
        · cases h4
      · rw [hy] at hcy; simp only [finO, hc] at hcy; omega

theorem GN.bot (h : GN c e g t L res H S) : g.mem.at 1 ≤ t + L.length ∧ (t : Int) + L.length - 1 ≤ g.mem.at 1 ∧ 0 ≤ g.mem.at 1 := by
  cases e1 : (g.acs 0).now with
  | none => have := (h.none0 e1).2; omega
  | some ko => exact own_bot (h.some0 ko.1 ko.2 e1).2.2.1

/-- Where Bottom is one less than Top and the entries tell, the owner is at the last entry. -/
theorem own_low {s : MS} {c t : Nat} {L : List Int} {k : K} {res : Option Int} {x : Int} (h : Own s c t L k res) (hL : L = [x]) (hb : s.at 1 = t) : k.kind = 1 ∧ (k.line = 4 ∨ k.line = 6) := by
  subst hL
  cases h with
  | pop4 h0 hl => exact ⟨h0, .inl hl⟩
  | pop6 h0 hl => exact ⟨h0, .inr hl⟩
  | pop7 x h0 hl hL => cases hL
  | pop8 x h0 hl hL => cases hL
  | pop9 h0 hl hL => cases hL
  | _ => simp at *; omega

theorem GN.stepThf (h : GN c e g t L res H S) {a : Nat} (h0 : 0 < a) (he : e = none ∨ e = some a) {k : K} {o : HOp} (hk : (g.acs a).now = some (k, o)) (hp : g.pick < 900000) :
    ∃ t' L' H' S', GN c none (g.stepped a k o) t' L' res H' S' := by
  obtain ⟨ho, hq, hO, hko⟩ := h.C.someN a k o h0 hk
  obtain ⟨f1, f2, f3, _⟩ := h.C.fr a k o hk
  have hfrN : ∀ b k2 o2, b ≠ a → (g.acs b).now = some (k2, o2) → o2.frm < g.pick := fun b k2 o2 hb e2 => (h.C.fr b k2 o2 e2).2.2.2 (by
    rcases he with he | he
    · rw [he]; simp
    · rw [he]; simp; omega)
  have htb := h.C.tb
  have hcap := h.C.B.cap
  obtain ⟨b1, b2, b3⟩ := h.bot
  obtain ⟨t', L', hs, hB, hq', hkk, hat⟩ := thf_step h.C.B hO hq ho (by omega) (Nat.zero_le _) (by omega) b1 b2 b3
  have C := h.C.thf h0 hk rfl hq' hs hB
  have hinfo := thf_info (s := g.mem) (c := c) hO ho hq
  have at1 := hat 1 (by omega)
  have now0 : (g.stepped a k o).acs 0 = g.acs 0 := stepped_ne (by omega)
  have neb : ∀ b, b ≠ a → (g.stepped a k o).acs b = g.acs b := fun b hb => stepped_ne hb
  have hlate : ∀ (y : HOp), y ∈ g.ops → y ∈ (g.stepped a k o).ops := fun y hy => by
    cases ho2 : (stepK k g.mem).1.over with
    | true => rw [(stepped_done ho2).1]; exact List.mem_append_left _ hy
    | false => rw [(stepped_more ho2).1]; exact hy
  have n0 : ((g.stepped a k o).acs 0).now = none → res = none ∧ (g.stepped a k o).mem.at 1 = t + L.length := fun e2 => by
    rw [now0] at e2
    obtain ⟨e3, e4⟩ := h.none0 e2
    exact ⟨e3, by rw [stepped_mem, at1]; exact e4⟩
  have s0 : ∀ k2 o2, ((g.stepped a k o).acs 0).now = some (k2, o2) → k2.over = false ∧ k2.q = q0 c ∧ Own (g.stepped a k o).mem c t L k2 res ∧ (k2.kind : Int) = o2.kind ∧ (k2.kind = 0 → k2.a = o2.value ∧ inI k2.a) := fun k2 o2 e2 => by
    rw [now0] at e2
    obtain ⟨e3, e4, e5, e6, e7⟩ := h.some0 k2 o2 e2
    exact ⟨e3, e4, own_still e5 hat, e6, e7⟩
  -- aborts, where the operation that is done is none
  have ab : ∀ y ∈ g.ops, y.code = 4 → y.kind = 2 ∧ ((∃ r ∈ (g.stepped a k o).ops, r.code = 1 ∧ y.frm < r.to ∧ r.frm < y.to) ∨ (res.isSome = true ∧ ∃ k2 p, ((g.stepped a k o).acs 0).now = some (k2, p) ∧ p.frm < y.to)) := fun y hy hc => by
    obtain ⟨h3, h4⟩ := h.abort y hy hc
    refine ⟨h3, ?_⟩
    rcases h4 with ⟨r, h4, h5⟩ | ⟨h4, k2, p, h5, h6⟩
    · exact .inl ⟨r, hlate r h4, h5⟩
    · exact .inr ⟨h4, k2, p, by rw [now0]; exact h5, h6⟩
  have lateO : ∀ b k2 o2, b ≠ a → 0 < b → ((g.stepped a k o).acs b).now = some (k2, o2) → 2 ≤ k2.line → k2.v < t → (∃ r ∈ (g.stepped a k o).ops, r.code = 1 ∧ o2.frm < r.to) ∨ res.isSome = true := fun b k2 o2 hb h0b e2 hl hv => by
    rw [neb b hb] at e2
    rcases h.late b k2 o2 h0b e2 hl hv with ⟨r, h1, h2⟩ | h1
    · exact .inl ⟨r, hlate r h1, h2⟩
    · exact .inr h1
  cases hs with
  | quiet ho2 h2 =>
    obtain ⟨m1, m2⟩ := stepped_more (a := a) (o := o) ho2
    refine ⟨t, L, H, S, C, n0, s0, h.vals, h.opsMore ho2, ?_, h.run, h.pw, h.still, fun hS => ?_, fun b k2 o2 hb e2 hl hv => ?_, fun y hy hc => ab y (by rw [m1] at hy; exact hy) hc⟩
    · rw [m1, now0]; exact h.perm
    · obtain ⟨⟨x, hx⟩, ⟨k2, o2, e2, c1, c2, c3⟩, c4⟩ := h.crit hS
      refine ⟨⟨x, hx⟩, ⟨k2, o2, by rw [now0]; exact e2, c1, c2, c3⟩, fun b k3 o3 hb e3 hl hv => ?_⟩
      by_cases g0 : b = a
      · subst g0
        rw [m2] at e3
        cases e3
        rcases hinfo with ⟨i1, i2, i3, i4⟩ | ⟨i1, i2, i3, i4⟩ | ⟨i1, i2, i3, i4, i5⟩ | ⟨i1, i2, i3, i4⟩ | ⟨i1, i2, i3⟩
        · omega
        · rw [ho2] at i3; cases i3
        · exfalso
          -- Bottom is Top where the owner is at the last entry
          have hb1 : g.mem.at 1 = t := by
            have h5 := (h.some0 k2 o2 e2).2.2.1
            rw [hx] at h5
            cases h5 <;> simp_all <;> omega
          rw [← i5, hv, hb1] at i2
          rw [sz_of 0 (by omega) (by omega) (by omega)] at i2
          omega
        · exact c4 b k o hb hk (by omega) (by rw [← i4]; exact hv)
        · rw [ho2] at i2; cases i2
      · rw [neb b g0] at e3
        exact c4 b k3 o3 hb e3 hl hv
    · by_cases g0 : b = a
      · subst g0
        rw [m2] at e2
        cases e2
        rw [m1]
        rcases hinfo with ⟨i1, i2, i3, i4⟩ | ⟨i1, i2, i3, i4⟩ | ⟨i1, i2, i3, i4, i5⟩ | ⟨i1, i2, i3, i4⟩ | ⟨i1, i2, i3⟩
        · rw [i4, h.C.B.top] at hv; omega
        · rw [ho2] at i3; cases i3
        · exact h.late b k o hb hk (by omega) (by rw [← i5]; exact hv)
        · exact h.late b k o hb hk (by omega) (by rw [← i4]; exact hv)
        · rw [ho2] at i2; cases i2
      · exact lateO b k2 o2 g0 hb e2 hl hv
  | empty ho2 hc hv =>
    obtain ⟨m1, m2⟩ := stepped_done (a := a) (o := o) ho2
    have hf := formed_fin (o := o) (pick := g.pick) (code := (stepK k g.mem).1.code) (val := (stepK k g.mem).1.val) f1 f2 f3 (by rw [hc]; omega)
    obtain ⟨N, hN⟩ : ∃ N, N = finO o g.pick (stepK k g.mem).1.code (stepK k g.mem).1.val := ⟨_, rfl⟩
    have hNc : N.code = 2 := by rw [hN]; exact hc
    have hNk : N.kind = 2 := by rw [hN]; exact hko
    have hNt : N.to = g.pick := by rw [hN]; rfl
    have hops := h.opsDone (a := a) (o := o) ho2 hf
    rw [← hN] at m1
    have hab : ∀ y ∈ (g.stepped a k o).ops, y.code = 4 → y.kind = 2 ∧ ((∃ r ∈ (g.stepped a k o).ops, r.code = 1 ∧ y.frm < r.to ∧ r.frm < y.to) ∨ (res.isSome = true ∧ ∃ k2 p, ((g.stepped a k o).acs 0).now = some (k2, p) ∧ p.frm < y.to)) := fun y hy hcy => by
      have hy2 := hy
      rw [m1, List.mem_append, List.mem_singleton] at hy2
      rcases hy2 with hy2 | hy2
      · exact ab y hy2 hcy
      · rw [hy2] at hcy; omega
    have hla : ∀ b k2 o2, 0 < b → ((g.stepped a k o).acs b).now = some (k2, o2) → 2 ≤ k2.line → k2.v < t → (∃ r ∈ (g.stepped a k o).ops, r.code = 1 ∧ o2.frm < r.to) ∨ res.isSome = true := fun b k2 o2 hb e2 hl hv => by
      by_cases g0 : b = a
      · subst g0; rw [m2] at e2; cases e2
      · exact lateO b k2 o2 g0 hb e2 hl hv
    have hpm : (H ++ S ++ [N]).Perm ((g.stepped a k o).ops ++ pendL ((g.stepped a k o).acs 0).now res) := by
      rw [m1, now0]
      refine (h.perm.append_right _).trans ?_
      rw [List.append_assoc, List.append_assoc]
      exact List.perm_append_comm.append_left _
    have hpw : (H ++ S ++ [N]).Pairwise (fun a b => a.frm ≤ b.to) := pw_snoc h.pw (fun y hy => by rw [hNt]; exact h.frH hy)
    by_cases hLn : L = []
    · have hS : S = [] := by
        cases S with
        | nil => rfl
        | cons s r => obtain ⟨⟨x, hx⟩, _⟩ := h.crit (by simp); rw [hLn] at hx; cases hx
      subst hS
      simp only [List.append_nil] at hpm hpw
      exact ⟨t, L, H ++ [N], [], C, n0, s0, h.vals, hops, by simpa using hpm, by rw [hLn]; exact runH_add h.run (by rw [hLn]; exact runH_one (act_empty hNc)), by simpa using hpw, by simp, fun hS => absurd rfl hS, hla, hab⟩
    · -- the last entry is being taken
      rcases hinfo with ⟨i1, i2, i3, i4⟩ | ⟨i1, i2, i3, i4⟩ | ⟨i1, i2, i3, i4, i5⟩ | ⟨i1, i2, i3, i4⟩ | ⟨i1, i2, i3⟩
      · rw [ho2] at i2; cases i2
      · have hone : (∃ x, L = [x]) ∧ g.mem.at 1 = t := by
          have hlen : 1 ≤ L.length := by
            cases L with
            | nil => exact absurd rfl hLn
            | cons x r => simp
          have hvt : 0 ≤ k.v ∧ k.v ≤ t := by
            cases hO with
            | l2 g1 g2 v gv gd gle => omega
            | _ => omega
          have hle : g.mem.at 1 ≤ k.v := by
            rcases Int.lt_or_le k.v (g.mem.at 1) with g1 | g1
            · exfalso
              have hfit := h.C.B.fit
              rw [sz_of (g.mem.at 1 - k.v) rfl (by omega) (by omega)] at i2
              omega
            · exact g1
          have : L.length = 1 := by omega
          exact ⟨List.length_eq_one_iff.1 this, by omega⟩
        obtain ⟨⟨x, hx⟩, hbt⟩ := hone
        have hown : ∃ k2 o2, (g.acs 0).now = some (k2, o2) ∧ k2.kind = 1 ∧ (k2.line = 4 ∨ k2.line = 6) := by
          cases e1 : (g.acs 0).now with
          | none => have := (h.none0 e1).2; rw [hx] at this; simp at this; omega
          | some ko =>
            obtain ⟨k2, o2⟩ := ko
            obtain ⟨g1, g2⟩ := own_low (h.some0 k2 o2 e1).2.2.1 hx hbt
            exact ⟨k2, o2, rfl, g1, g2⟩
        obtain ⟨k2, o2, e2, c1, c2⟩ := hown
        refine ⟨t, L, H, S ++ [N], C, n0, s0, h.vals, hops, by rw [← List.append_assoc]; exact hpm, h.run, by rw [← List.append_assoc]; exact hpw, fun s hs => ?_, fun _ => ⟨⟨x, hx⟩, ⟨k2, o2, by rw [now0]; exact e2, c1, c2, fun s hs => ?_⟩, fun b k3 o3 hb e3 hl hv s hs => ?_⟩, hla, hab⟩
        · rw [List.mem_append, List.mem_singleton] at hs
          rcases hs with hs | hs
          · exact h.still s hs
          · rw [hs]; exact ⟨hNk, .inl hNc⟩
        · rw [List.mem_append, List.mem_singleton] at hs
          rcases hs with hs | hs
          · obtain ⟨_, ⟨k4, o4, e4, _, _, c3⟩, _⟩ := h.crit (by intro e5; rw [e5] at hs; cases hs)
            rw [e2] at e4
            cases e4
            exact c3 s hs
          · rw [hs, hNt]
            have := hfrN 0 k2 o2 (by omega) e2
            omega
        · by_cases g0 : b = a
          · subst g0; rw [m2] at e3; cases e3
          · rw [neb b g0] at e3
            rw [List.mem_append, List.mem_singleton] at hs
            rcases hs with hs | hs
            · exact (h.crit (by intro e5; rw [e5] at hs; cases hs)).2.2 b k3 o3 hb e3 hl hv s hs
            · rw [hs, hNt]
              have := hfrN b k3 o3 g0 e3
              omega
      · rw [ho2] at i3; cases i3
      · rw [ho2] at i2; cases i2
      · exact absurd hc i3
  | abort ho2 hc hv v hkv hlt =>
    obtain ⟨m1, m2⟩ := stepped_done (a := a) (o := o) ho2
    have hf := formed_fin (o := o) (pick := g.pick) (code := (stepK k g.mem).1.code) (val := (stepK k g.mem).1.val) f1 f2 f3 (by rw [hc]; omega)
    have hops := h.opsDone (a := a) (o := o) ho2 hf
    obtain ⟨N, hN⟩ : ∃ N, N = finO o g.pick (stepK k g.mem).1.code (stepK k g.mem).1.val := ⟨_, rfl⟩
    have hNc : N.code = 4 := by rw [hN]; exact hc
    have hNk : N.kind = 2 := by rw [hN]; exact hko
    have hNt : N.to = g.pick := by rw [hN]; rfl
    have hNf : N.frm = o.frm := by rw [hN]; rfl
    rw [← hN] at m1
    have hline : k.line = 4 := by
      rcases hinfo with ⟨i1, i2, i3, i4⟩ | ⟨i1, i2, i3, i4⟩ | ⟨i1, i2, i3, i4, i5⟩ | ⟨i1, i2, i3, i4⟩ | ⟨i1, i2, i3⟩
      · rw [ho2] at i2; cases i2
      · omega
      · rw [ho2] at i3; cases i3
      · rw [ho2] at i2; cases i2
      · exact i1
    have hriv := h.late a k o h0 hk (by omega) (by omega)
    have hab : ∀ y ∈ (g.stepped a k o).ops, y.code = 4 → y.kind = 2 ∧ ((∃ r ∈ (g.stepped a k o).ops, r.code = 1 ∧ y.frm < r.to ∧ r.frm < y.to) ∨ (res.isSome = true ∧ ∃ k2 p, ((g.stepped a k o).acs 0).now = some (k2, p) ∧ p.frm < y.to)) := fun y hy hcy => by
      have hy2 := hy
      rw [m1, List.mem_append, List.mem_singleton] at hy2
      rcases hy2 with hy2 | hy2
      · exact ab y hy2 hcy
      · rw [hy2]
        refine ⟨hNk, ?_⟩
        rw [hNt, hNf]
        rcases hriv with ⟨r, r1, r2, r3⟩ | hr
        · refine .inl ⟨r, hlate r r1, r2, r3, ?_⟩
          obtain ⟨g1, g2⟩ := h.ops r r1
          simp only [HOp.formed, Bool.and_eq_true, decide_eq_true_eq] at g1
          omega
        · refine .inr ⟨hr, ?_⟩
          cases e1 : (g.acs 0).now with
          | none => have := (h.none0 e1).1; rw [this] at hr; cases hr
          | some ko => exact ⟨ko.1, ko.2, by rw [now0]; exact e1, hfrN 0 ko.1 ko.2 (by omega) e1⟩
    have hla : ∀ b k2 o2, 0 < b → ((g.stepped a k o).acs b).now = some (k2, o2) → 2 ≤ k2.line → k2.v < t → (∃ r ∈ (g.stepped a k o).ops, r.code = 1 ∧ o2.frm < r.to) ∨ res.isSome = true := fun b k2 o2 hb e2 hl hv => by
      by_cases g0 : b = a
      · subst g0; rw [m2] at e2; cases e2
      · exact lateO b k2 o2 g0 hb e2 hl hv
    have hpm : (H ++ S ++ [N]).Perm ((g.stepped a k o).ops ++ pendL ((g.stepped a k o).acs 0).now res) := by
      rw [m1, now0]
      refine (h.perm.append_right _).trans ?_
      rw [List.append_assoc, List.append_assoc]
      exact List.perm_append_comm.append_left _
    have hpw : (H ++ S ++ [N]).Pairwise (fun a b => a.frm ≤ b.to) := pw_snoc h.pw (fun y hy => by rw [hNt]; exact h.frH hy)
    by_cases hS : S = []
    · subst hS
      simp only [List.append_nil] at hpm hpw
      exact ⟨t, L, H ++ [N], [], C, n0, s0, h.vals, hops, by simpa using hpm, runH_add h.run (runH_one (act_abort hNc)), by simpa using hpw, by simp, fun hS => absurd rfl hS, hla, hab⟩
    · obtain ⟨⟨x, hx⟩, ⟨k2, o2, e2, c1, c2, c3⟩, c4⟩ := h.crit hS
      refine ⟨t, L, H, S ++ [N], C, n0, s0, h.vals, hops, by rw [← List.append_assoc]; exact hpm, h.run, by rw [← List.append_assoc]; exact hpw, fun s hs => ?_, fun _ => ⟨⟨x, hx⟩, ⟨k2, o2, by rw [now0]; exact e2, c1, c2, fun s hs => ?_⟩, fun b k3 o3 hb e3 hl hv s hs => ?_⟩, hla, hab⟩
      · rw [List.mem_append, List.mem_singleton] at hs
        rcases hs with hs | hs
        · exact h.still s hs
        · rw [hs]; exact ⟨hNk, .inr hNc⟩
      · rw [List.mem_append, List.mem_singleton] at hs
        rcases hs with hs | hs
        · exact c3 s hs
        · rw [hs, hNt]
          have := hfrN 0 k2 o2 (by omega) e2
          omega
      · by_cases g0 : b = a
        · subst g0; rw [m2] at e3; cases e3
        · rw [neb b g0] at e3
          rw [List.mem_append, List.mem_singleton] at hs
          rcases hs with hs | hs
          · exact c4 b k3 o3 hb e3 hl hv s hs
          · rw [hs, hNt]
            have := hfrN b k3 o3 g0 e3
            omega
  | got x M ho2 hc hv hL =>
    obtain ⟨m1, m2⟩ := stepped_done (a := a) (o := o) ho2
    have hf := formed_fin (o := o) (pick := g.pick) (code := (stepK k g.mem).1.code) (val := (stepK k g.mem).1.val) f1 f2 f3 (by rw [hc]; omega)
    have hops := h.opsDone (a := a) (o := o) ho2 hf
    subst hL
    have hxv := h.vals x (by simp)
    obtain ⟨N, hN⟩ : ∃ N, N = finO o g.pick (stepK k g.mem).1.code (stepK k g.mem).1.val := ⟨_, rfl⟩
    have hNc : N.code = 1 := by rw [hN]; exact hc
    have hNk : N.kind = 2 := by rw [hN]; exact hko
    have hNt : N.to = g.pick := by rw [hN]; rfl
    have hNf : N.frm = o.frm := by rw [hN]; rfl
    have hNv : N.value = x := by
      rw [hN]
      simp only [finO, hc, if_pos]
      rw [hv]
      exact back x hxv
    rw [← hN] at m1
    have hline : k.line = 4 ∧ k.v = t := by
      have hl : k.line = 4 := by
        rcases hinfo with ⟨i1, i2, i3, i4⟩ | ⟨i1, i2, i3, i4⟩ | ⟨i1, i2, i3, i4, i5⟩ | ⟨i1, i2, i3, i4⟩ | ⟨i1, i2, i3⟩
        · rw [ho2] at i2; cases i2
        · omega
        · rw [ho2] at i3; cases i3
        · rw [ho2] at i2; cases i2
        · exact i1
      refine ⟨hl, ?_⟩
      have hk2 : k.kind = 2 := by cases hO <;> assumption
      have qt : k.q.top = 0 := by rw [hq]; rfl
      rw [stepK_steal ho hk2] at hc
      unfold stepSteal at hc
      rw [hl] at hc
      by_cases g1 : (g.mem.has k.q.top && g.mem.at k.q.top == k.v) = true
      · rw [qt, h.C.B.top, Bool.and_eq_true, beq_iff_eq] at g1
        exact g1.2.symm
      · simp only [if_neg g1] at hc
        simp [K.fin] at hc
    have hSto : ∀ s ∈ S, N.frm ≤ s.to := fun s hs => by
      rw [hNf]
      exact (h.crit (by intro e3; rw [e3] at hs; cases hs)).2.2 a k o h0 hk (by omega) hline.2 s hs
    have hNin : N ∈ (g.stepped a k o).ops := by rw [m1]; simp
    refine ⟨t + 1, L', H ++ N :: S, [], C, fun e2 => ?_, fun k2 o2 e2 => ?_, fun y hy => h.vals y (by simp at hy ⊢; exact .inr hy), hops, ?_, ?_, ?_, (by simp), fun hS => absurd rfl hS, fun b k2 o2 hb e2 hl hv => ?_, fun y hy hcy => ?_⟩
    · obtain ⟨e3, e4⟩ := n0 e2
      exact ⟨e3, by rw [e4]; simp; omega⟩
    · rw [now0] at e2
      obtain ⟨e3, e4, e5, e6, e7⟩ := h.some0 k2 o2 e2
      exact ⟨e3, e4, own_taken e5 hat, e6, e7⟩
    · rw [m1, now0]
      simp only [List.append_nil]
      refine List.perm_middle.trans ((h.perm.cons N).trans ?_)
      rw [List.append_assoc]
      exact (List.perm_middle (a := N) (l₁ := g.ops) (l₂ := pendL (g.acs 0).now res)).symm
    · refine runH_add h.run ?_
      have h1 : N.act (x :: L') c = some L' := act_steal hNc hNk hNv
      simp only [runH, h1]
      by_cases hS : S = []
      · rw [hS]; rfl
      · obtain ⟨⟨y, hy⟩, _⟩ := h.crit hS
        simp at hy
        rw [hy.2]
        exact still_run S h.still
    · simp only [List.append_nil]
      exact pw_mid h.pw (fun y hy => by rw [hNt]; exact h.frH (by simp [hy])) hSto
    · by_cases g0 : b = a
      · subst g0; rw [m2] at e2; cases e2
      · rw [neb b g0] at e2
        have := hfrN b k2 o2 g0 e2
        exact .inl ⟨N, hNin, hNc, by rw [hNt]; exact this⟩
    · have hy2 := hy
      rw [m1, List.mem_append, List.mem_singleton] at hy2
      rcases hy2 with hy2 | hy2
      · exact ab y hy2 hcy
      · rw [hy2] at hcy; omega
end
end Go.Proofs.Ytfhkhknnoepfeaa
