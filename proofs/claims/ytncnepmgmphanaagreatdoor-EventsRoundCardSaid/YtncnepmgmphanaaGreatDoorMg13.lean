/- A frame at rest, and what a line of a Run frame leaves of it. No condition beside those named. -/
import Derived.Test.YtncnepmgmphanaaGreatDoorMg12
import Derived.Test.YtncnepmgmphanaaGreatDoorMg11
import Derived.Deep.DeepCutAuto
set_option linter.unusedVariables false
set_option linter.unusedSimpArgs false
set_option linter.unusedSectionVars false
namespace Go.Proofs.YtncnepmgmphanaaGreatDoor
open Go.RowKit
variable [Inhabited SBW] {sh : Sh} {B N T : Nat} {w w' : World}
def lineR : List Int := [6, 7, 8, 9, 11, 12, 13, 14, 15, 16, 18, 19, 20, 21, 22]
structure RL (w : World) (fb r lb n cap : Nat) (t : Int) : Prop where
  l : fc w fb r 17 = some (.slice (some ⟨lb, 0, none⟩) (n + 1) cap)
  t : w.cell? ⟨lb, n, none⟩ = some (.int .i64 t)
  ne : lb ≠ SBn
structure FI (T : Nat) (w : World) (fb r : Nat) (k ln : Int) : Prop where
  c0 : fc w fb r 0 = some (.int .i64 k)
  c1 : fc w fb r 1 = some (.int .i64 ln)
  lo : 0 ≤ k
  hi : k ≤ 26
  run : k = 24 → ∃ lb n cap t, RL w fb r lb n cap t ∧ (ln = 1 ∨ (ln ∈ lineR ∧ 0 ≤ t ∧ t < T))
  cli : k = 26 → ∃ i, fc w fb r 9 = some (.int .i64 i) ∧ 0 ≤ i
def isRes (v : Value) (d : Bool) (k x : Int) : Prop := v = .agg #[.bool d, .int .i64 k, .int .i64 x] ∧ inK .i64 k ∧ inK .i64 x
theorem res_of {cs : List Value} (h : AllOK w B N cs_r08_result cs) : ∃ d k x, cs = [.bool d, .int .i64 k, .int .i64 x] ∧ inK .i64 k ∧ inK .i64 x := by
  match cs, h with
  | [a, b, c], h =>
    obtain ⟨⟨d, rfl⟩, ⟨k, rfl, h1⟩, ⟨x, rfl, h2⟩, -⟩ := h
    exact ⟨d, k, x, rfl, h1, h2⟩
  | [], h => exact h.elim
  | [_], h => exact h.2.elim
  | [_, _], h => exact h.2.2.elim
  | _ :: _ :: _ :: _ :: _, h => exact h.2.2.2.elim
theorem res_ak {v : Value} {n : Int} (h : VKok w B N (.ak cs_r08_result [n]) v) : ∃ d k x, isRes v d k x ∧ d = decide (n = 1) := by
  obtain ⟨cs, rfl, ha, m, hm, hh⟩ := h
  obtain ⟨d, k, x, rfl, h1, h2⟩ := res_of ha
  simp only [List.mem_singleton] at hm
  subst hm
  simp at hh
  exact ⟨d, k, x, ⟨rfl, h1, h2⟩, hh⟩
theorem res_agg {v : Value} (h : VKok w B N (.agg cs_r08_result) v) : ∃ d k x, isRes v d k x := by
  obtain ⟨cs, rfl, ha⟩ := h
  obtain ⟨d, k, x, rfl, h1, h2⟩ := res_of ha
  exact ⟨d, k, x, rfl, h1, h2⟩
theorem fc_keep {fb r o : Nat} {f : Array Value} (hF : w.heap[fb]? = some (.cells f FRT (0, 0))) (h : Eff (FCh B w fb r) w w') (ho : o = 0 ∨ 18 ≤ o) {r' : Nat} (hr : r' = r ∨ r' ≠ r ∧ o < 18) : fc w' fb r' o = fc w fb r' o := by
  obtain ⟨c', h1, h2, h3⟩ := h.cells _ _ _ _ hF
  unfold fc
  rw [cell_blk h1, cell_blk hF, h3]
  have := lt_of_blk hF
  rintro (hx | ⟨-, hx, hy⟩ | ⟨hx, -⟩)
  · omega
  · omega
  · exact hx rfl
theorem fc_other {fb r r' o : Nat} {f : Array Value} (hF : w.heap[fb]? = some (.cells f FRT (0, 0))) (h : Eff (FCh B w fb r) w w') (hr : r' ≠ r) (ho : o < 18) : fc w' fb r' o = fc w fb r' o := by
  obtain ⟨c', h1, h2, h3⟩ := h.cells _ _ _ _ hF
  unfold fc
  rw [cell_blk h1, cell_blk hF, h3]
  have := lt_of_blk hF
  rintro (hx | ⟨-, hx, hy⟩ | ⟨hx, -⟩)
  · omega
  · rcases Nat.lt_or_ge r' r with h | h <;> omega
  · exact hx rfl
theorem fc_int {fb r o : Nat} {k : IntKind} (hw : WT kd.sig B N w) (hrow : RowIn kd w B FRT fb r) (ho : o < 18) (hk : cs_r08_Frame[o]? = some (.int k)) : ∃ n, fc w fb r o = some (.int k n) ∧ inK k n := by
  obtain ⟨f, h1, h2, h3⟩ := hrow
  rw [szF] at h3
  obtain ⟨v, e, n, rfl, hn⟩ := row_cell hw (T := FRT) (L := cs_r08_Frame) (by kernel_rfl) h1 h2 (i := r * 18 + o) (j := o) (by omega) (by show (r * 18 + o) % 18 = o; omega) hk
  exact ⟨n, e, hn⟩
theorem fc_sl {fb r : Nat} (hw : WT kd.sig B N w) (hrow : RowIn kd w B FRT fb r) {v : Value} (hv : fc w fb r 17 = some v) : CellOK w B N (.sl 3 1) v := by
  obtain ⟨f, h1, h2, h3⟩ := hrow
  rw [szF] at h3
  obtain ⟨v', e, h⟩ := row_cell hw (T := FRT) (L := cs_r08_Frame) (by kernel_rfl) h1 h2 (i := r * 18 + 17) (j := 17) (by omega) (by show (r * 18 + 17) % 18 = 17; omega) rfl
  have : fc w fb r 17 = some v' := e
  rw [hv] at this
  cases this
  exact h
theorem sl_last {lb n cap : Nat} (hw : WT kd.sig B N w) (h : CellOK w B N (.sl 3 1) (.slice (some ⟨lb, 0, none⟩) (n + 1) cap)) : ∃ t, w.cell? ⟨lb, n, none⟩ = some (.int .i64 t) := by
  rcases sl_blk h with h | ⟨b, n', c, cur, h, k1, k2, k3, k4, k5⟩
  · cases h
  cases h
  obtain ⟨_, e, t, rfl, -⟩ := row_cell hw (T := 3) (L := [.int .i64]) (by kernel_rfl) k1 k2 (i := n) (j := 0) (by omega) (by show n % 1 = 0; omega) rfl
  exact ⟨t, e⟩
theorem sl_keep {lb n cap i : Nat} {v : Value} (h : CellOK w B N (.sl 3 1) (.slice (some ⟨lb, 0, none⟩) n cap)) (g : Eff NPc w w') (hv : w.cell? ⟨lb, i, none⟩ = some v) : w'.cell? ⟨lb, i, none⟩ = some v := by
  rcases sl_blk h with h | ⟨b, n', c, cur, h, k1, k2, k3, k4, k5⟩
  · cases h
  cases h
  rw [prot_cell g k2 (by rw [show kd.sz 3 = 1 by kernel_rfl, Nat.mod_one]; decide)]
  exact hv
theorem alts_FI {N' : Nat} {cx : Cx} {fb r lb n cap m : Nat} {t : Int} {v : Value} {q : AT × Hm} (hw : WT kd.sig B N w) (hw' : WT kd.sig B N' w') (hrow : RowIn kd w B FRT fb r) (hE : Eff (FCh B w fb r) w w') (hBb : B ≤ cx.base) (hsb : SBn < cx.base)
    (hk : fc w fb r 0 = some (.int .i64 24)) (hL : RL w fb r lb n cap t) (ht : 0 ≤ t ∧ t < T) (h0 : cx.vals 0 = .slice (some ⟨lb, 0, none⟩) (n + 1) cap) (h1 : q ∈ altsU0 ∨ (q ∈ altsU ∧ cx.vals 1 = .slice (some ⟨lb, 0, none⟩) (m + 1) cap ∧ m ≤ n))
    (hv : ATok kd cx w' B N' q.1 v) (hH : ∀ o t, q.2.at (1, FRT, o) = some t → ∃ u, fc w' fb r o = some u ∧ ATok kd cx w' B N' t u) :
    ∃ d k x, isRes v d k x ∧ (d = false → ∃ ln, FI T w' fb r 24 ln) := by
  obtain ⟨f, hf1, hf2, hf3⟩ := id hrow
  have hk' : fc w' fb r 0 = some (.int .i64 24) := by rw [fc_keep hf2 hE (.inl rfl) (.inl rfl)]; exact hk
  have hnp := feff_np hf2 hE
  have hrow' : RowIn kd w' B FRT fb r := hrow.mono hE
  have o17 := fc_sl hw hrow hL.l
  have base : ∀ ln, fc w' fb r 1 = some (.int .i64 ln) → (∃ lb n cap t, RL w' fb r lb n cap t ∧ (ln = 1 ∨ (ln ∈ lineR ∧ 0 ≤ t ∧ t < T))) → FI T w' fb r 24 ln := fun ln h1 h2 => ⟨hk', h1, by omega, by omega, fun _ => h2, fun h => by omega⟩
  have hq : q = altD ∨ q = altO ∨ (q = altV ∧ cx.vals 1 = .slice (some ⟨lb, 0, none⟩) (m + 1) cap ∧ m ≤ n) ∨ ∃ ln ∈ lineS, q = altL ln := by
    rcases h1 with h1 | ⟨h1, h2⟩
    · simp only [altsU0, List.mem_cons, List.mem_map] at h1
      rcases h1 with h | h | ⟨ln, h, rfl⟩
      · exact .inl h
      · exact .inr (.inl h)
      · exact .inr (.inr (.inr ⟨ln, h, rfl⟩))
    · simp only [altsU, List.mem_cons, List.mem_map] at h1
      rcases h1 with h | h | h | ⟨ln, h, rfl⟩
      · exact .inl h
      · exact .inr (.inl h)
      · exact .inr (.inr (.inl ⟨h, h2⟩))
      · exact .inr (.inr (.inr ⟨ln, h, rfl⟩))
  rcases hq with rfl | rfl | ⟨rfl, h2, h3⟩ | ⟨ln, hln, rfl⟩
  · obtain ⟨d, k, x, hr, hd⟩ := res_ak (n := 1) hv
    exact ⟨d, k, x, hr, fun h => by rw [hd] at h; cases h⟩
  · obtain ⟨d, k, x, hr, hd⟩ := res_ak (n := 0) hv
    refine ⟨d, k, x, hr, fun _ => ⟨1, base 1 ?_ ?_⟩⟩
    · obtain ⟨u, e, hu⟩ := hH 1 (.kon .i64 1) rfl
      rw [e, hu.1]
    · obtain ⟨u, e, hu1, hu2⟩ := hH 17 (.ownp 3 1) rfl
      rcases sl_blk hu1 with rfl | ⟨b, n', c, cur, rfl, k1, k2, k3, k4, k5⟩
      · simp [slLen] at hu2
      · simp only [slLen] at hu2
        obtain ⟨n2, rfl⟩ : ∃ n2, n' = n2 + 1 := ⟨n' - 1, by omega⟩
        obtain ⟨t', ht'⟩ := sl_last hw' (CellOK.lower hu1 hBb)
        exact ⟨b, n2, c, t', ⟨e, ht', by omega⟩, .inl rfl⟩
  · obtain ⟨d, k, x, hr, hd⟩ := res_ak (n := 0) hv
    refine ⟨d, k, x, hr, fun _ => ⟨1, base 1 ?_ ?_⟩⟩
    · obtain ⟨u, e, hu⟩ := hH 1 (.kon .i64 1) rfl
      rw [e, hu.1]
    · obtain ⟨u, e, hu⟩ := hH 17 (.val 1) rfl
      have hu' : u = cx.vals 1 := hu
      rw [hu', h2] at e
      obtain ⟨t', ht'⟩ := sl_last hw' (fc_sl hw' hrow' e)
      exact ⟨lb, m, cap, t', ⟨e, ht', hL.ne⟩, .inl rfl⟩
  · obtain ⟨d, k, x, hr, hd⟩ := res_ak (n := 0) hv
    refine ⟨d, k, x, hr, fun _ => ⟨ln, base ln ?_ ?_⟩⟩
    · obtain ⟨u, e, hu⟩ := hH 1 (.kon .i64 ln) rfl
      rw [e, hu.1]
    · obtain ⟨u, e, hu⟩ := hH 17 (.val 0) rfl
      have hu' : u = cx.vals 0 := hu
      rw [hu', h0] at e
      refine ⟨lb, n, cap, t, ⟨e, sl_keep o17 hnp hL.t, hL.ne⟩, ?_⟩
      simp only [lineS, List.mem_cons, List.not_mem_nil, or_false] at hln
      rcases hln with h | h
      · exact .inl h
      · refine .inr ⟨?_, ht⟩
        simp only [lineR, List.mem_cons, List.not_mem_nil, or_false]
        exact .inr h
end Go.Proofs.YtncnepmgmphanaaGreatDoor

namespace Go.Proofs.YtncnepmgmphanaaGreatDoor
open Go.RowKit
variable {sh : Sh} {B N : Nat} {G : World → Prop}
structure R5 (w : World) (pe fb o lb n cap rb nr cr np cp : Nat) (ap : Option Addr) (t : Nat) (p pc : Int) : Prop where
  fbl : fb < w.heap.size
  rbl : rb < w.heap.size
  pel : pe < w.heap.size
  l1 : w.cell? ⟨fb, o + 1, none⟩ = some (.int .i64 5)
  l17 : w.cell? ⟨fb, o + 17, none⟩ = some (.slice (some ⟨lb, 0, none⟩) (n + 1) cap)
  lt : w.cell? ⟨lb, n, none⟩ = some (.int .i64 t)
  ln : n ≤ 68719476736
  c9 : w.cell? ⟨pe, 9, none⟩ = some (.slice ap np cp)
  c19 : w.cell? ⟨pe, 19, none⟩ = some (.slice (some ⟨rb, 0, none⟩) nr cr)
  ht : t < nr
  d0 : w.cell? ⟨rb, t * 7, none⟩ = some (.int .i64 p)
  d2 : w.cell? ⟨rb, t * 7 + 2, none⟩ = some (.int .i64 pc)
def effK : List EI := effM ++ effF ++ effE ++ effR ++ [.par 1 118 17]
def sg_bk5 (tx ty : AT) : FSig := ⟨[.ptr 66 0 .env, .ptr 118 0 (.par 1), tx, ty], .v (.agg cs_r08_result), effK, 5, [((1, 118, 1), .kon .i64 5), ((1, 118, 17), .val 0)], []⟩
def alts5 : List (AT × Hm) := [altL 1, altL 6]
def eff5 : List EI := effK ++ cellE 146 3
def gm5 (tx ty : AT) : Gm := [(0, some (none, .ptr 66 0 .env)), (1, some (none, .ptr 118 0 (.par 1))), (2, some (none, tx)), (3, some (none, ty)), (8, some (none, .ptr 146 0 (.par 1000))), (9, some (none, .ixe 19)), (10, some (none, .ptr 137 0 .any)), (11, some (none, .ptr 125 0 .new))]
theorem lk_cons {kd : Kd} {cx : Cx} {a : Act} {w : World} {d : Nat} {u : AT} {Γ : Gm} (hd : ATok kd cx w B N u (slot a d)) (h : LkOK kd cx a w B N Γ.at) : LkOK kd cx a w B N (Gm.at ((d, some (none, u)) :: Γ)) := fun t e he => by
  rw [Gm.at_set] at he
  split at he
  · rename_i e'
    subst e'
    cases he
    exact hd
  · exact h t e he
theorem lk_nil {kd : Kd} {cx : Cx} {a : Act} {w : World} : LkOK kd cx a w B N (Gm.at []) := fun t e he => by cases he
theorem plain5 (tx ty : AT) : Plain (gm5 tx ty) := by
  unfold gm5
  repeat first
    | exact fun t e he => by cases he
    | refine plain_cons ?_
set_option maxRecDepth 100000 in
set_option maxHeartbeats 1000000 in
theorem bkr5 (w : World) (fb r lb n cap rb nr cr np cp : Nat) (ap : Option Addr) (t : Nat) (p pc : Int) (x y : Value) (tx ty : AT) (h : R5 w sh.pe fb (r * 18) lb n cap rb nr cr np cp ap t p pc) (qb m mc z : Nat) (hpv : IsProg w (.slice ap np cp) p (.slice (some ⟨qb, 0, none⟩) m mc)) (hy : pc = z) (hym : z < m) (hql : qb < w.heap.size) (i0 i1 i2 : Int) (hi0 : w.cell? ⟨qb, z * 3, none⟩ = some (.int .i64 i0)) (hi1 : w.cell? ⟨qb, z * 3 + 1, none⟩ = some (.int .i64 i1)) (hi2 : w.cell? ⟨qb, z * 3 + 2, none⟩ = some (.int .i64 i2)) (hfr : fb ≠ rb) (hrf : rb ≠ fb)
    (hev : EvG sh G) (hS : Safe kd prot G) (hclaim : TC Tryz.prog kd sh B G 146 sg_claim) (hprobe : TC Tryz.prog kd sh B G 108 sg_probe) (hG : G w)
    (hxy : (tx = .kon .i64 3 ∧ ty = .v (.c (.int .i64))) ∨ (tx = .v (.c (.int .i64)) ∧ ty = .ixe 19))
    (ha : ∀ w1 : World, Eff (fun _ _ _ => False) w w1 → ∀ a : Act, a.tmps.size = Tryz.f116.ntmps → slot a 0 = .pointer (some ⟨sh.pe, 0, none⟩) → slot a 1 = .pointer (some ⟨fb, r * 18, none⟩) → slot a 2 = x → slot a 3 = y → slot a 8 = .pointer (some ⟨w.heap.size, 0, none⟩) → slot a 9 = .int .i64 t → slot a 10 = .pointer (some ⟨rb, t * 7, none⟩) → slot a 11 = .pointer (some ⟨w.heap.size + 1, 0, none⟩) → (∃ q', w1 = ((w.alloc (.cells #[.bool false, .int .i64 0, .int .i64 0] 146)).drewN q').alloc (.cells #[.int .i64 i0, .int .i64 i1, .int .i64 i2] 125)) → a.defers = [] →
      StOK kd (cxR kd sh (sg_bk5 tx ty) #[.pointer (some ⟨sh.pe, 0, none⟩), .pointer (some ⟨fb, r * 18, none⟩), x, y] w (w.alloc (.cells #[.bool false, .int .i64 0, .int .i64 0] 146))) eff5 B (w.alloc (.cells #[.bool false, .int .i64 0, .int .i64 0] 146)) Tryz.f116.ntmps (N + 0) (sg_bk5 tx ty).pre (gm5 tx ty).at a w1)
    (hB : B ≤ w.heap.size) (hN : N + 5 ≤ 68719476736) {R : Ending → World → Prop}
    (fin : ∀ (Γ : Gm) (H : Hm) (n : Nat) (a : Act) (w' : World), retOKRa Tryz.prog kd Tryz.f116.results.toList (sg_bk5 tx ty) alts5 Γ H n = true → StOK kd (cxR kd sh (sg_bk5 tx ty) #[.pointer (some ⟨sh.pe, 0, none⟩), .pointer (some ⟨fb, r * 18, none⟩), x, y] w (w.alloc (.cells #[.bool false, .int .i64 0, .int .i64 0] 146))) eff5 B (w.alloc (.cells #[.bool false, .int .i64 0, .int .i64 0] 146)) Tryz.f116.ntmps (N + n) H Γ.at a w' → a.defers = [] ∧ ∃ v, (results Tryz.f116 a.tmps).run Tryz.prog w' = .ok v w' ∧ R (.returned v) w') :
    Calls Tryz.prog 116 #[.pointer (some ⟨sh.pe, 0, none⟩), .pointer (some ⟨fb, r * 18, none⟩), x, y] w R := by
  obtain ⟨h1, h2, h3, h7, h8, h9, h10, h11, h12, h13, h14, h15⟩ := h
  have E := Eff.alloc1 (fun _ _ _ => False) w (.cells #[.bool false, .int .i64 0, .int .i64 0] 146)
  have HG : ∀ w', Eff (ChOf B kd (cxR kd sh (sg_bk5 tx ty) #[.pointer (some ⟨sh.pe, 0, none⟩), .pointer (some ⟨fb, r * 18, none⟩), x, y] w (w.alloc (.cells #[.bool false, .int .i64 0, .int .i64 0] 146))) eff5) (w.alloc (.cells #[.bool false, .int .i64 0, .int .i64 0] 146)) w' → G w' := fun w' he => hS _ w' (hS w _ hG (E.mono fun _ _ _ _ h => h.elim)) (eff_prot (E := eff5) (by decide) rfl he)
  have HG := Lib.hid HG
  have AA := Lib.hid ha
  have FIN := Lib.hid fin
  have TP := Lib.hid (top_any _ fb (r * 18) lb n cap t h10 (E.cell h8 fun _ h => h) (E.cell h9 fun _ h => h))
  have PG := Lib.hid (fun w2 (E2 : Eff (fun _ _ _ => False) w w2) => program_any w2 sh.pe rb nr cr t np cp ap p (.slice (some ⟨qb, 0, none⟩) m mc) (E2.cell h12 fun _ h => h) h13 (E2.cell h14 fun _ h => h) (E2.cell h11 fun _ h => h) (hpv.mono E2))
  have HH := Lib.hid (And.intro hev (And.intro hS (And.intro hclaim hprobe)))
  have HX := Lib.hid (And.intro hxy (And.intro hB hN))
  subst hy
  have hym1 : (z : Int) < (m : Int) := by omega
  have hy0 : (0 : Int) ≤ (z : Int) := by omega
  have hti : (t : Int) < (nr : Int) := by omega
  have ht0 : (0 : Int) ≤ (t : Int) := by omega
  clear E hpv h8 h9 h10 h11 h14 ha fin hev hS hclaim hprobe hG hxy hB hN
  go_enter Tryz.func116, Tryz.ntmps116
  go_wp2_with (first
    | (go_at_call 156; refine TP.out.mono ?_; rintro e w' ⟨rfl, q, rfl⟩))
  go_cut [11] (fun s11 wx => s11 = .pointer (some ⟨w.heap.size + 1, 0, none⟩) ∧ ∃ q', wx = ((w.alloc (.cells #[.bool false, .int .i64 0, .int .i64 0] 146)).drewN q').alloc (.cells #[.int .i64 i0, .int .i64 i1, .int .i64 i2] 125))
  case first =>
    go_region_with (go_at_call 157; refine (PG.out _ (by first | exact ((Eff.alloc1 _ _ _).drewN _) | exact (((Eff.alloc1 _ _ _).drewN _).drew) | exact (((Eff.alloc1 _ _ _).drewN _).alloc _) | exact ((((Eff.alloc1 _ _ _).drewN _).drew).alloc _))).mono ?_; rintro e w' ⟨rfl, rfl⟩)
    all_goals
      go_wp2_with fail
      go_meet
      exact ⟨rfl, _, rfl⟩
  case rest =>
    obtain ⟨rfl, q', hwc⟩ := hcut
    have Ewc : Eff (fun _ _ _ => False) w wc := by rw [hwc]; exact (((Eff.alloc1 _ _ _).drewN _).alloc _)
    apply_assumption
    obtain ⟨hev, hS, hclaim, hprobe⟩ := HH.out
    obtain ⟨hxy, hB, hN⟩ := HX.out
    have hFT : ∀ y, (false = true ∨ y = none) → ∀ f s, ftLook ft_probe f = some s → Callable Tryz.prog f ∧ TC Tryz.prog kd (sh8 sh y) B G f s := fun y hy => by
      rcases hy with hy | rfl
      · cases hy
      · exact hft_probe hev hS hclaim hprobe
    have hFA : ∀ y, (false = true ∨ y = none) → ∀ f q, faLook [] f = some q → Callable Tryz.prog f ∧ TCa Tryz.prog kd (sh8 sh y) B G f q.1 q.2 := fun y hy => by
      rcases hy with hy | rfl
      · cases hy
      · exact hfa_nil
    have hBs : B ≤ (w.alloc (.cells #[.bool false, .int .i64 0, .int .i64 0] 146)).heap.size := by simp; omega
    rcases hxy with ⟨rfl, rfl⟩ | ⟨rfl, rfl⟩
    · refine chkA_sound (ev := evE) (sh := sh) (lp := false) (G := G) (E := eff5) (nt := Tryz.f116.ntmps) (FT := ftLook ft_probe) (FA := faLook []) hFT hFA hev (fun hy => by cases hy) hBs mixed N (lim := 5) hN _ _ ⟨none, .inr rfl, rfl⟩ rfl HG.out (gm5 (.kon .i64 3) (.v (.c (.int .i64)))) (sg_bk5 (.kon .i64 3) (.v (.c (.int .i64)))).pre 0
        (fun Γ H n => chkA Tryz.prog kd evE (ftLook ft_probe) (faLook []) false eff5 Tryz.f116.ntmps 5 _ Γ H n (fun _ _ _ => false) (fun _ _ _ _ => false) (retOKRa Tryz.prog kd Tryz.f116.results.toList (sg_bk5 (.kon .i64 3) (.v (.c (.int .i64)))) alts5))
        (fun _ _ _ _ => false) (retOKRa Tryz.prog kd Tryz.f116.results.toList (sg_bk5 (.kon .i64 3) (.v (.c (.int .i64)))) alts5) _ _ _ ?chka ?hsta (plain5 (.kon .i64 3) (.v (.c (.int .i64)))) (by
          intro Γ H n a w2 hk hs hp
          simp only [Exit.then, Exit.inBlock]
          apply_assumption
          exact chkA_sound hFT hFA hev (fun hy => by cases hy) hBs mixed N hN _ _ ⟨none, .inr rfl, rfl⟩ rfl HG.out _ _ _ (fun _ _ _ => false) (fun _ _ _ _ => false) _ _ _ _ hk hs hp (fun Γ H n a w' hk => by cases hk) (fun i Γ H n a w' hk => by cases hk) (fun Γ H n a w' hk hs _ => by obtain ⟨e1, v, e2, e3⟩ := FIN.out Γ H n a w' hk hs; exact bodyPost_ret e2 e1 e3)) ?h2a ?h3a
      case hsta => exact AA.out wc Ewc _ (by rfl) (by rfl) (by rfl) (by rfl) (by rfl) (by rfl) (by rfl) (by rfl) (by rfl) ⟨q', hwc⟩ (by rfl)
      case h2a => exact fun i Γ H n a w' hk => by cases hk
      case h3a => exact fun Γ H n a w' hk hs _ => by obtain ⟨e1, v, e2, e3⟩ := FIN.out Γ H n a w' hk hs; exact bodyPost_ret e2 e1 e3
      case chka => kernel_rfl
    · refine chkA_sound (ev := evE) (sh := sh) (lp := false) (G := G) (E := eff5) (nt := Tryz.f116.ntmps) (FT := ftLook ft_probe) (FA := faLook []) hFT hFA hev (fun hy => by cases hy) hBs mixed N (lim := 5) hN _ _ ⟨none, .inr rfl, rfl⟩ rfl HG.out (gm5 (.v (.c (.int .i64))) (.ixe 19)) (sg_bk5 (.v (.c (.int .i64))) (.ixe 19)).pre 0
        (fun Γ H n => chkA Tryz.prog kd evE (ftLook ft_probe) (faLook []) false eff5 Tryz.f116.ntmps 5 _ Γ H n (fun _ _ _ => false) (fun _ _ _ _ => false) (retOKRa Tryz.prog kd Tryz.f116.results.toList (sg_bk5 (.v (.c (.int .i64))) (.ixe 19)) alts5))
        (fun _ _ _ _ => false) (retOKRa Tryz.prog kd Tryz.f116.results.toList (sg_bk5 (.v (.c (.int .i64))) (.ixe 19)) alts5) _ _ _ ?chkb ?hstb (plain5 (.v (.c (.int .i64))) (.ixe 19)) (by
          intro Γ H n a w2 hk hs hp
          simp only [Exit.then, Exit.inBlock]
          apply_assumption
          exact chkA_sound hFT hFA hev (fun hy => by cases hy) hBs mixed N hN _ _ ⟨none, .inr rfl, rfl⟩ rfl HG.out _ _ _ (fun _ _ _ => false) (fun _ _ _ _ => false) _ _ _ _ hk hs hp (fun Γ H n a w' hk => by cases hk) (fun i Γ H n a w' hk => by cases hk) (fun Γ H n a w' hk hs _ => by obtain ⟨e1, v, e2, e3⟩ := FIN.out Γ H n a w' hk hs; exact bodyPost_ret e2 e1 e3)) ?h2b ?h3b
      case hstb => exact AA.out wc Ewc _ (by rfl) (by rfl) (by rfl) (by rfl) (by rfl) (by rfl) (by rfl) (by rfl) (by rfl) ⟨q', hwc⟩ (by rfl)
      case h2b => exact fun i Γ H n a w' hk => by cases hk
      case h3b => exact fun Γ H n a w' hk hs _ => by obtain ⟨e1, v, e2, e3⟩ := FIN.out Γ H n a w' hk hs; exact bodyPost_ret e2 e1 e3
      case chkb => kernel_rfl
end Go.Proofs.YtncnepmgmphanaaGreatDoor
