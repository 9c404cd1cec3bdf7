/- A machine's stack of frames: what it is, and that it stands while other things change. Plain; no condition beside those named. -/
import Derived.Test.YtncnepmgmphanaaGreatDoorMg15
import Derived.Test.YtncnepmgmphanaaGreatDoorMg16
import Derived.Test.YtncnepmgmphanaaGreatDoorMg07
import Derived.Test.YtncnepmgmphanaaGreatDoorMg00
import Derived.Laws.AppendOwnNone
set_option linter.unusedVariables false
set_option linter.unusedSimpArgs false
set_option linter.unusedSectionVars false
namespace Go.Proofs.YtncnepmgmphanaaGreatDoor
section
open Go.RowKit
variable [Inhabited cK] {sh : Sh} {B N T : Nat} {w w' : World}
abbrev MT : Nat := 141
abbrev wP (k : Nat) (U : TypeId) (j : Nat) : Prop := (U, j % kd.sz U) ∉ eB
theorem xg (h : Eff wP w w') : Eff ui w w' := h.mono fun k U j _ hc hx => hc (by unfold eB; exact List.mem_append_left _ hx)
theorem RL.keep {fb r dP r' lb n cap : Nat} {t : Int} (h : RL w fb r lb n cap t) (hw : WT kd.sig B N w) (hrow : eO kd w B bT fb r) (g : Eff ui w w') (K : ∀ o, o < 18 → fc w' dP r' o = fc w fb r o) : RL w' dP r' lb n cap t :=
 ⟨(K 17 (by omega)).trans h.l, l7 (qM hw hrow h.l) g h.t, h.ne⟩
theorem FI.keep {fb r dP r' : Nat} {k ln : Int} (h : FI T w fb r k ln) (hw : WT kd.sig B N w) (hrow : eO kd w B bT fb r) (g : Eff ui w w') (K : ∀ o, o < 18 → fc w' dP r' o = fc w fb r o) : FI T w' dP r' k ln := by
 refine ⟨(K 0 (by omega)).trans h.c0, (K 1 (by omega)).trans h.c1, h.lo, h.hi, fun hk => ?_, fun hk => ?_⟩
 · obtain ⟨lb, n, cap, t, rl, hh⟩ := h.run hk
   exact ⟨lb, n, cap, t, rl.keep hw hrow g K, hh⟩
 · obtain ⟨i, hi, h0⟩ := h.vk hk
   exact ⟨i, (K 9 (by omega)).trans hi, h0⟩
theorem PI.keep {rb fb r dP r' : Nat} {k c : Int} (h : PI sh T w rb fb r k c) (hw : WT kd.sig B N w) (hrow : eO kd w B bT fb r) (g : Eff ui w w') (K : ∀ o, o < 18 → fc w' dP r' o = fc w fb r o) (hp : c = 12 → ∀ t, t < T → iQ w sh.pe rb t → iQ w' sh.pe rb t) : PI sh T w' rb dP r' k c := by
 refine ⟨(K 0 (by omega)).trans h.c0, h.lo, h.hi, h.rk, h.clo, h.Uj, fun hk => ?_, fun hk => ?_⟩
 · obtain ⟨lb, n, cap, t, ln, rl, h0, h1, h2, h3⟩ := h.run hk
   refine ⟨lb, n, cap, t, ln, rl.keep hw hrow g K, h0, h1, (K 1 (by omega)).trans h2, h3.imp_right fun ⟨e1, e2, e3⟩ => ⟨e1, e2, hp e2 _ (by omega) e3⟩⟩
 · obtain ⟨i, ln, h1, h2, h3, h4⟩ := h.vk hk
   exact ⟨i, ln, (K 9 (by omega)).trans h1, h2, (K 1 (by omega)).trans h3, h4⟩
theorem LI.keep {pe rb fb r dP r' : Nat} {k ln : Int} (h : LI T w pe rb fb r k ln) (hw : WT kd.sig B N w) (hrow : eO kd w B bT fb r) (g : Eff ui w w') (K : ∀ o, o < 18 → fc w' dP r' o = fc w fb r o) (hp : ∀ t, t < T → iQ w pe rb t → iQ w' pe rb t) : LI T w' pe rb dP r' k ln := by
 refine ⟨(K 0 (by omega)).trans h.c0, (K 1 (by omega)).trans h.c1, h.lo, h.hi, fun hk => ?_, fun hk => ?_⟩
 · obtain ⟨lb, n, cap, t, rl, hh⟩ := h.run hk
   refine ⟨lb, n, cap, t, rl.keep hw hrow g K, hh.imp_right fun ⟨e1, e2, e3, e4⟩ => ⟨e1, e2, e3, fun hx => hp _ (by omega) (e4 hx)⟩⟩
 · obtain ⟨i, hi, h0⟩ := h.vk hk
   exact ⟨i, (K 9 (by omega)).trans hi, h0⟩
theorem iQ.rP {rb cr t : Nat} (ee : EE sh B N T w) (hrb : sh.el 19 = .slice (some ⟨rb, 0, none⟩) T cr) (g : Eff wP w w') (h : iQ w sh.pe rb t) : iQ w' sh.pe rb t := by
 obtain ⟨e, he1, Mr, M9⟩ := id ee.blk
 have mY := ee.mY
 rw [hrb] at mY
 rcases df mY with hx | ⟨b, n', c, cur, hx, hb1, hb2, hb3, hb4, hb5⟩
 · cases hx
 cases hx
 have hc : ∀ b i, (∃ c U, w.heap[b]? = some (.cells c U (0, 0)) ∧ (U, i % kd.sz U) ∈ eB) → w'.cell? ⟨b, i, none⟩ = w.cell? ⟨b, i, none⟩ := fun b i ⟨c, U, h1, h2⟩ => Ey (w := w) g h1 h2
 have e9 : w.cell? ⟨sh.pe, 9, none⟩ = some (sh.el 9) := ee.el 9 (by decide)
 have M8 : kd.sz 137 = 7 := by kernel_rfl
 refine (iQ.eq (hc _ _ ⟨_, _, hb2, by rw [M8, show t * 7 % 7 = 0 by omega]; decide⟩) (hc _ _ ⟨_, _, hb2, by rw [M8, show (t * 7 + 2) % 7 = 2 by omega]; decide⟩) (hc _ _ ⟨_, _, Mr, by rw [uT]; decide⟩) (fun pb n' cap' q hv hq => ?_)).1 h
 rw [e9] at hv
 have o9 := ee.o9
 cases hv' : sh.el 9 with
 | slice ao a b =>
   rw [hv'] at hv o9
   cases hv
   rcases df o9 with hx | ⟨b, n', c, cur, hx, k1, k2, k3, k4, k5⟩
   · cases hx
   cases hx
   exact hc _ _ ⟨_, _, k2, by rw [show kd.sz 123 = 1 by kernel_rfl, Nat.mod_one]; decide⟩
 | _ => rw [hv'] at hv; cases hv
abbrev Td (B : Nat) (w0 : World) (mb di : Nat) (k : Nat) (U : TypeId) (j : Nat) : Prop := k = mb ∨ k = di ∨ w0.heap.size ≤ k ∨ (U ≠ bT ∧ (U, j % kd.sz U) ∉ rU ∧ B ≤ k)
def iC (fb n cap : Nat) (c2 c3 : Int) : Array Value := #[.slice (some ⟨fb, 0, none⟩) n cap, .bool false, .int .i64 c2, .int .i64 c3]
structure SL (sh : Sh) (B T rb : Nat) (w0 : World) (mb di : Nat) (N : Nat) (w : World) (n : Nat) (κ : Nat → Int) (fb cap : Nat) (c2 c3 : Int) : Prop where
 ee : EE sh B N T w
 wt : WT kd.sig B N w
 bw : B ≤ w.heap.size
 fF : w.heap[mb]? = some (.cells (iC fb (n + 1) cap c2 c3) MT (0, 0))
 bm : B ≤ mb
 A8 : mb < w0.heap.size
 JH : di < w0.heap.size
 aS : Eff (Td B w0 mb di) w0 w
 JO : fb = di ∨ w0.heap.size ≤ fb
 pairs : ∀ i, i < n → PI sh T w rb fb i (κ i) (κ (i + 1))
 lo : 0 ≤ κ n
 hi : κ n ≤ 26
variable {rb cr mb di n fb cap : Nat} {w0 : World} {κ : Nat → Int} {c2 c3 : Int}
theorem kM : kd.sig MT = some vv := by kernel_rfl
theorem kF : kd.sig bT = some ax := by kernel_rfl
theorem SL.blk (h : SL sh B T rb w0 mb di N w n κ fb cap c2 c3) : ∃ cur : Array Value, B ≤ fb ∧ w.heap[fb]? = some (.cells cur bT (0, 0)) ∧ n + 1 ≤ cap ∧ cap ≤ maxLen ∧ cur.size = cap * 18 ∧ n + 1 ≤ N := by
 obtain ⟨v, e, o⟩ := bZ h.wt kM h.bm h.fF (i := 0) (j := 0) (by simp [iC]) rfl rfl
 rw [aa h.fF] at e
 cases e
 obtain ⟨n', xs, hn, hl, ⟨hx, -⟩ | ⟨b, cp, cur, hx, h1, h2, h3, h4, h5, h6⟩⟩ := o
 · cases hx
 · cases hx
   exact ⟨cur, h1, h2, h3, h4, h5, hn⟩
theorem SL.row (h : SL sh B T rb w0 mb di N w n κ fb cap c2 c3) {i : Nat} (hi : i ≤ n) : eO kd w B bT fb i := by
 obtain ⟨cur, h1, h2, h3, h4, h5, h6⟩ := h.blk
 refine ⟨cur, h1, h2, ?_⟩
 rw [dR, h5]
 exact Nat.mul_le_mul_right 18 (by omega)
theorem SL.at' (h : SL sh B T rb w0 mb di N w n κ fb cap c2 c3) (hN : N + 5 ≤ 68719476736) : At sh B N T w fb n := ⟨h.ee, h.wt, h.bw, hN, h.row (Nat.le_refl _)⟩
theorem SL.ranks (h : SL sh B T rb w0 mb di N w n κ fb cap c2 c3) : ∀ i, i ≤ n → rank (κ n) + (n - i) ≤ rank (κ i) := by
 have step : ∀ d, d ≤ n → rank (κ n) + d ≤ rank (κ (n - d)) := by
   intro d
   induction d with
   | zero => intro _; simp
   | succ d ih =>
     intro hd
     have h1 := ih (by omega)
     have h2 := (h.pairs (n - (d + 1)) (by omega)).rk
     rw [show n - (d + 1) + 1 = n - d by omega] at h2
     omega
 intro i hi
 have := step (n - i) (by omega)
 rwa [show n - (n - i) = i by omega] at this
theorem I6 (k : Int) : rank k ≤ 4 := by unfold rank; repeat (first | omega | split)
theorem SL.small (h : SL sh B T rb w0 mb di N w n κ fb cap c2 c3) : rank (κ n) + n ≤ 4 := by
 have := h.ranks 0 (by omega)
 have := I6 (κ 0)
 omega
theorem kK {c c' : Array Value} (h : ∀ j : Nat, c'[j]? = c[j]?) : c' = c := Array.ext_getElem? h
theorem ahD {fb r k : Nat} {c : Array Value} (hb : w.heap[k]? = some (.cells c MT (0, 0))) (h : Eff (lT B w fb r) w w') (hF : ∃ f, w.heap[fb]? = some (.cells f bT (0, 0))) : w'.heap[k]? = some (.cells c MT (0, 0)) := by
 obtain ⟨c', h1, h2, h3⟩ := h.cells _ _ _ _ hb
 rw [h1]
 congr 2
 refine kK fun j => h3 j ?_
 have hk := aK hb
 obtain ⟨f, hf⟩ := hF
 rintro (hx | ⟨rfl, -⟩ | ⟨-, hx⟩)
 · omega
 · rw [hf] at hb; cases hb
 · have szM : kd.sz MT = 4 := by kernel_rfl
   have hx := hx.1
   rw [szM] at hx
   have h4 : j % 4 = 0 ∨ j % 4 = 1 ∨ j % 4 = 2 ∨ j % 4 = 3 := by omega
   rcases h4 with e | e | e | e <;> rw [e] at hx <;> exact hx (by decide)
theorem SL.line {N' : Nat} (h : SL sh B T rb w0 mb di N w n κ fb cap c2 c3) (hrb : sh.el 19 = .slice (some ⟨rb, 0, none⟩) T cr) (hN : N ≤ N') (hw' : WT kd.sig B N' w') (g : Eff (lT B w fb n) w w') (g12 : κ n = 12 → Eff wP w w') : SL sh B T rb w0 mb di N' w' n κ fb cap c2 c3 := by
 obtain ⟨cur, f1, f2, f3, f4, f5, f6⟩ := h.blk
 have jq := rZ f2 g
 have hs := h.aS.size
 refine ⟨h.ee.mono h.wt jq hN, hw', Nat.le_trans h.bw g.size, ahD h.fF g ⟨cur, f2⟩, h.bm, h.A8, h.JH, h.aS.trans (g.mono fun k U j hk hc => ?_), h.JO, fun i hi => ?_, h.lo, h.hi⟩
 · rcases hc with hc | ⟨rfl, -⟩ | hc
   · omega
   · rcases h.JO with hh | hh
     · exact .inr (.inl hh)
     · exact .inr (.inr (.inl hh))
   · exact .inr (.inr (.inr hc))
 · refine (h.pairs i hi).keep h.wt (h.row (by omega)) jq (fun o ho => adI f2 g (by omega) ho) fun hc t ht hp => ?_
   -- only the last frame allocates
   by_cases hin : i + 1 = n
   · exact hp.rP h.ee hrb (g12 (by rw [← hin]; exact hc))
   · have := (h.pairs (i + 1) (by omega)).rk
     rw [hc] at this
     exact absurd this (by simp [rank])
theorem SL.out {N' : Nat} (h : SL sh B T rb w0 mb di N w n κ fb cap c2 c3) (hrb : sh.el 19 = .slice (some ⟨rb, 0, none⟩) T cr) (hN : N ≤ N') (hw' : WT kd.sig B N' w') (g : Eff (fun k U j => k ≠ fb ∧ k ≠ mb ∧ w0.heap.size ≤ k ∧ (U, j % kd.sz U) ∉ eB) w w') : SL sh B T rb w0 mb di N' w' n κ fb cap c2 c3 := by
 obtain ⟨cur, f1, f2, f3, f4, f5, f6⟩ := h.blk
 have g2 : Eff wP w w' := g.mono fun _ _ _ _ h => h.2.2.2
 have jq := xg g2
 refine ⟨h.ee.mono h.wt jq hN, hw', Nat.le_trans h.bw g.size, g.blk h.fF (fun _ _ hh => hh.2.1 rfl), h.bm, h.A8, h.JH, h.aS.trans (g.mono fun k U j hk hc => .inr (.inr (.inl hc.2.2.1))), h.JO, fun i hi => ?_, h.lo, h.hi⟩
 exact (h.pairs i hi).keep h.wt (h.row (by omega)) jq (fun o ho => by unfold fc; rw [aa (g.blk f2 fun _ _ hh => hh.1 rfl), aa f2]) fun hc t ht hp => hp.rP h.ee hrb g2
end
section
open Go.RowKit
variable [Inhabited cK] {sh : Sh} {B N T : Nat} {w w' : World} {rb cr mb di n fb cap : Nat} {w0 : World} {κ : Nat → Int} {c2 c3 : Int}
theorem Ez {m : Nat} {cur : Array Value} (hm : m ≤ N) (hB : B ≤ fb) (hb : w.heap[fb]? = some (.cells cur bT (0, 0))) (hc : m ≤ cap) (hx : cap ≤ maxLen) (hs : cur.size = cap * 18) : aU w B N (.sl bT 18) (.slice (some ⟨fb, 0, none⟩) m cap) := by
 refine ⟨m, cur.toList.take (m * 18), hm, ?_, .inr ⟨fb, cap, cur, rfl, hB, hb, hc, hx, hs, rfl⟩⟩
 rw [List.length_take, Array.length_toList, hs]
 exact Nat.min_eq_left (Nat.mul_le_mul_right 18 hc)
theorem Og {v : Value} {i : Nat} {c : Array Value} (hb : w.heap[mb]? = some (.cells c MT (0, 0))) : Eff wP w (w.setCell ⟨mb, i, none⟩ v) := by
 refine (Eff.refl wP w).dK hb (.inl ?_)
 have : ∀ q, (MT, q) ∉ eB := fun q hq => by simp [eB, ae, MT] at hq
 exact this _
theorem u6 {v : Value} {i : Nat} {c : Array Value} (hb : w.heap[mb]? = some (.cells c MT (0, 0))) : Eff (Td B w0 mb di) w (w.setCell ⟨mb, i, none⟩ v) := (Eff.refl _ w).dK hb (.inl (.inl rfl))
theorem tZ {f g : Array Value} {a b : Nat} (ha : w.heap[a]? = some (.cells f MT (0, 0))) (hb : w.heap[b]? = some (.cells g bT (0, 0))) : a ≠ b := fun e => by
 subst e
 rw [ha] at hb
 cases hb
theorem SL.cut (h : SL sh B T rb w0 mb di N w n κ fb cap c2 c3) (hrb : sh.el 19 = .slice (some ⟨rb, 0, none⟩) T cr) {m : Nat} (hm : m ≤ n) : SL sh B T rb w0 mb di N (w.setCell ⟨mb, 0, none⟩ (.slice (some ⟨fb, 0, none⟩) (m + 1) cap)) m κ fb cap c2 c3 ∧ (m < n → PI sh T (w.setCell ⟨mb, 0, none⟩ (.slice (some ⟨fb, 0, none⟩) (m + 1) cap)) rb fb m (κ m) (κ (m + 1))) := by
 obtain ⟨cur, f1, f2, f3, f4, f5, f6⟩ := h.blk
 have g2 : Eff wP w (w.setCell ⟨mb, 0, none⟩ (.slice (some ⟨fb, 0, none⟩) (m + 1) cap)) := Og h.fF
 have jq := xg g2
 have hne := tZ h.fF f2
 have K : ∀ i o, fc (w.setCell ⟨mb, 0, none⟩ (.slice (some ⟨fb, 0, none⟩) (m + 1) cap)) fb i o = fc w fb i o := fun i o => dX (Ne.symm hne)
 have hpk : ∀ i, i < n → PI sh T (w.setCell ⟨mb, 0, none⟩ (.slice (some ⟨fb, 0, none⟩) (m + 1) cap)) rb fb i (κ i) (κ (i + 1)) := fun i hi => (h.pairs i hi).keep h.wt (h.row (by omega)) jq (fun o _ => K i o) fun _ t _ hp => hp.rP h.ee hrb g2
 refine ⟨⟨h.ee.mono h.wt jq (Nat.le_refl _), h.wt.set h.fF kM (ck := .sl bT 18) rfl (Ez (by omega) f1 f2 (by omega) f4 f5), Nat.le_trans h.bw g2.size, ?_, h.bm, h.A8, h.JH, h.aS.trans (u6 h.fF), h.JO, fun i hi => hpk i (by omega), ?_, ?_⟩, fun hmn => hpk m hmn⟩
 · rw [aR h.fF]; simp [iC]
 · rcases Nat.lt_or_ge m n with h1 | h1
   · exact (h.pairs m h1).lo
   · rw [show m = n by omega]; exact h.lo
 · rcases Nat.lt_or_ge m n with h1 | h1
   · exact (h.pairs m h1).hi
   · rw [show m = n by omega]; exact h.hi
theorem SL.push {w1 : World} {dP cap' : Nat} {cs : List Value} {c : Int} (h : SL sh B T rb w0 mb di N w n κ fb cap c2 c3) (hrb : sh.el 19 = .slice (some ⟨rb, 0, none⟩) T cr) (hN : 8 ≤ N) (hP : PI sh T w rb fb n (κ n) c) (ha : bJ w B N ax cs) (h0 : cs[0]? = some (.int .i64 c)) (h1 : cs[1]? = some (.int .i64 1)) (yc : c = 24 → ∃ lb m cp, cs[17]? = some (.slice (some ⟨lb, 0, none⟩) (m + 1) cp) ∧ lb ≠ uO) (A : I9 kd bT 18 B N w fb (n + 1) cs dP cap' w1) :
   ∃ κ', (∀ i, i ≤ n → κ' i = κ i) ∧ κ' (n + 1) = c ∧ SL sh B T rb w0 mb di N (w1.setCell ⟨mb, 0, none⟩ (.slice (some ⟨dP, 0, none⟩) (n + 1 + 1) cap')) (n + 1) κ' dP cap' c2 c3 ∧ FI T (w1.setCell ⟨mb, 0, none⟩ (.slice (some ⟨dP, 0, none⟩) (n + 1 + 1) cap')) dP (n + 1) c 1 := by
 obtain ⟨cur, f1, f2, f3, f4, f5, f6⟩ := h.blk
 obtain ⟨cur', b1, b2⟩ := A.blk
 have hsm := h.small
 have hs := h.aS.size
 have hmf := tZ h.fF f2
 have PY : w1.heap[mb]? = some (.cells (iC fb (n + 1) cap c2 c3) MT (0, 0)) := A.aS.blk h.fF fun _ _ hx => hmf hx.1
 have aiy := tZ PY b1
 have g1 : Eff wP w w1 := A.aS.iI fun k cc U f j hk hc => by
   obtain ⟨rfl, -⟩ := hc
   rw [f2] at hk
   cases hk
   have : ∀ q, (bT, q) ∉ eB := fun q hq => by simp [eB, ae, bT] at hq
   exact this _
 have g2 : Eff wP w (w1.setCell ⟨mb, 0, none⟩ (.slice (some ⟨dP, 0, none⟩) (n + 1 + 1) cap')) := g1.trans (Og PY)
 have jq := xg g2
 have hB' : B ≤ dP := by
   rcases A.at' with e | e
   · omega
   · have := h.bw; omega
 have K : ∀ i o, i ≤ n → o < 18 → fc (w1.setCell ⟨mb, 0, none⟩ (.slice (some ⟨dP, 0, none⟩) (n + 1 + 1) cap')) dP i o = fc w fb i o := fun i o hi ho => by
   unfold fc
   rw [dX (Ne.symm aiy)]
   refine A.old _ ?_
   have : i * 18 ≤ n * 18 := Nat.mul_le_mul_right 18 hi
   omega
 have Kn : ∀ o v, cs[o]? = some v → fc (w1.setCell ⟨mb, 0, none⟩ (.slice (some ⟨dP, 0, none⟩) (n + 1 + 1) cap')) dP (n + 1) o = some v := fun o v hv => by
   unfold fc
   rw [dX (Ne.symm aiy)]
   exact A.new o v hv
 have pk : ∀ i k c', i ≤ n → PI sh T w rb fb i k c' → PI sh T (w1.setCell ⟨mb, 0, none⟩ (.slice (some ⟨dP, 0, none⟩) (n + 1 + 1) cap')) rb dP i k c' := fun i k c' hi hp => hp.keep h.wt (h.row hi) jq (fun o ho => K i o hi ho) fun _ t _ hx => hx.rP h.ee hrb g2
 refine ⟨fun i => if i = n + 1 then c else κ i, fun i hi => if_neg (by omega), if_pos rfl, ?_, ?_⟩
 · refine ⟨h.ee.mono h.wt jq (Nat.le_refl _), A.wt.set PY kM (ck := .sl bT 18) rfl (Ez (by omega) hB' b1 A.cap A.max b2), Nat.le_trans h.bw g2.size, ?_, h.bm, h.A8, h.JH, ?_, ?_, fun i hi => ?_, by simp only [if_true]; exact hP.clo, by simp only [if_true]; have := hP.Uj; omega⟩
   · rw [aR PY]; simp [iC]
   · refine (h.aS.trans (A.aS.mono fun k U j hk hc => ?_)).trans (u6 PY)
     obtain ⟨rfl, -⟩ := hc
     rcases h.JO with e | e
     · exact .inr (.inl e)
     · exact .inr (.inr (.inl e))
   · rcases A.at' with e | e
     · rw [e]; exact h.JO
     · exact .inr (by omega)
   · by_cases hin : i = n
     · subst hin
       simp only [if_neg (show ¬ i = i + 1 by omega), if_true]
       exact pk i _ _ (by omega) hP
     · simp only [if_neg (show ¬ i = n + 1 by omega), if_neg (show ¬ i + 1 = n + 1 by omega)]
       exact pk i _ _ (by omega) (h.pairs i (by omega))
 · refine ⟨Kn 0 _ h0, Kn 1 _ h1, hP.clo, by have := hP.Uj; omega, fun hc => ?_, fun hc => by have := hP.Uj; omega⟩
   obtain ⟨lb, m, cp, hl, hne⟩ := yc hc
   obtain ⟨ck, e1, o⟩ := ha.get hl
   cases e1
   obtain ⟨t, ht⟩ := Jn h.wt o
   exact ⟨lb, m, cp, t, ⟨Kn 17 _ hl, l7 o jq ht, hne⟩, .inl rfl⟩
structure MR (sh : Sh) (T rb : Nat) (w : World) (mb : Nat) (n : Nat) (κ : Nat → Int) (fb cap : Nat) (c2 c3 : Int) : Prop where
 fF : w.heap[mb]? = some (.cells (iC fb (n + 1) cap c2 c3) MT (0, 0))
 pairs : ∀ i, i < n → PI sh T w rb fb i (κ i) (κ (i + 1))
 PZ : ∀ i, i < n → κ (i + 1) ≠ 12
 lo : 0 ≤ κ n
 hi : κ n ≤ 26
 last : ∃ ln, FI T w fb n (κ n) ln
def MI (sh : Sh) (T rb : Nat) (w : World) (mb fb : Nat) : Prop :=
 (∃ v0 v2 v3, w.heap[mb]? = some (.cells #[v0, .bool true, v2, v3] MT (0, 0))) ∨ ∃ n κ cap c2 c3, MR sh T rb w mb n κ fb cap c2 c3
theorem SL.ajb (h : MR sh T rb w mb n κ fb cap c2 c3) (ee : EE sh B N T w) (wt : WT kd.sig B N w) (bw : B ≤ w.heap.size) (bm : B ≤ mb) (hfl : fb < w.heap.size) : SL sh B T rb w mb fb N w n κ fb cap c2 c3 :=
 ⟨ee, wt, bw, h.fF, bm, aK h.fF, hfl, Eff.refl _ _, .inl rfl, h.pairs, h.lo, h.hi⟩
theorem SL.mid (h : SL sh B T rb w0 mb di N w n κ fb cap c2 c3) : ∀ i, i + 1 < n → κ (i + 1) ≠ 12 := fun i hi hc => by
 have := (h.pairs (i + 1) hi).rk
 rw [hc] at this
 exact absurd this (by simp [rank])
theorem SL.mr (h : SL sh B T rb w0 mb di N w n κ fb cap c2 c3) (h12 : κ n ≠ 12) (hl : ∃ ln, FI T w fb n (κ n) ln) : MR sh T rb w mb n κ fb cap c2 c3 :=
 ⟨h.fF, h.pairs, fun i hi => by
   by_cases hin : i + 1 = n
   · rw [hin]; exact h12
   · exact h.mid i (by omega), h.lo, h.hi, hl⟩
theorem MI.other {mb' dP : Nat} {cm : Array Value} (h : MI sh T rb w mb fb) (hw : WT kd.sig B N w) (bm : B ≤ mb) (hb' : w.heap[mb']? = some (.cells cm MT (0, 0))) (hm : mb ≠ mb') (hf : fb ≠ dP) (hf' : ∃ f, w.heap[dP]? = some (.cells f bT (0, 0))) (g : Eff (Td B w mb' dP) w w') : MI sh T rb w' mb fb := by
 obtain ⟨ff, wQ⟩ := hf'
 have aiQ : ∀ c : Array Value, w.heap[mb]? = some (.cells c MT (0, 0)) → w'.heap[mb]? = some (.cells c MT (0, 0)) := fun c hc => by
   obtain ⟨c', h1, h2, h3⟩ := g.cells _ _ _ _ hc
   rw [h1]
   congr 2
   refine kK fun j => h3 j ?_
   have hk := aK hc
   rintro (hx | rfl | hx | ⟨-, hx⟩)
   · exact hm hx
   · rw [hc] at wQ; cases wQ
   · omega
   · have szM : kd.sz MT = 4 := by kernel_rfl
     have hx := hx.1
     rw [szM] at hx
     have h4 : j % 4 = 0 ∨ j % 4 = 1 ∨ j % 4 = 2 ∨ j % 4 = 3 := by omega
     rcases h4 with e | e | e | e <;> rw [e] at hx <;> exact hx (by decide)
 rcases h with ⟨v0, v2, v3, hx⟩ | ⟨n, κ, cap, c2, c3, h⟩
 · exact .inl ⟨v0, v2, v3, aiQ _ hx⟩
 · refine .inr ⟨n, κ, cap, c2, c3, ?_⟩
   obtain ⟨v, e, o⟩ := bZ hw kM bm h.fF (i := 0) (j := 0) (by simp [iC]) rfl rfl
   rw [aa h.fF] at e
   cases e
   obtain ⟨n', xs, hn, hl, ⟨hx, -⟩ | ⟨b, cp, cur, hx, f1, f2, f3, f4, f5, f6⟩⟩ := o
   · cases hx
   cases hx
   have hfl := aK f2
   have jq : Eff ui w w' := g.iI fun k c U f j hk hc => by
     rcases hc with rfl | rfl | hc | ⟨-, hc⟩
     · rw [hb'] at hk
       cases hk
       have : ∀ q, (MT, q) ∉ ae := fun q hq => by simp [ae, MT] at hq
       exact this _
     · rw [wQ] at hk
       cases hk
       have : ∀ q, (bT, q) ∉ ae := fun q hq => by simp [ae, bT] at hq
       exact this _
     · have := aK hk; omega
     · exact DJ hc.1
   have K : ∀ i o, fc w' fb i o = fc w fb i o := fun i o => by
     obtain ⟨c', h1, h2, h3⟩ := g.cells _ _ _ _ f2
     unfold fc
     rw [aa h1, aa f2, h3]
     rintro (rfl | hx | hx | ⟨hx, -⟩)
     · rw [f2] at hb'; cases hb'
     · exact hf hx
     · omega
     · exact hx rfl
   have row : ∀ i, i ≤ n → eO kd w B bT fb i := fun i hi => ⟨cur, f1, f2, by rw [dR, f5]; exact Nat.mul_le_mul_right 18 (by omega)⟩
   obtain ⟨ln, hF⟩ := h.last
   exact ⟨aiQ _ h.fF, fun i hi => (h.pairs i hi).keep hw (row i (by omega)) jq (fun o _ => K i o) fun hc => absurd hc (h.PZ i hi), h.PZ, h.lo, h.hi, ln, hF.keep hw (row n (by omega)) jq fun o _ => K n o⟩
end
section
open Go.RowKit
end
section
open Go.RowKit
variable [Inhabited cK] {sh : Sh} {B N T : Nat} {w w' : World} {rb cr mb di n fb cap : Nat} {w0 : World} {κ : Nat → Int} {c2 c3 : Int}
theorem SL.c0 (h : SL sh B T rb w0 mb di N w n κ fb cap c2 c3) : w.cell? ⟨mb, 0, none⟩ = some (.slice (some ⟨fb, 0, none⟩) (n + 1) cap) := by rw [aa h.fF]; rfl
theorem SL.mO (h : SL sh B T rb w0 mb di N w n κ fb cap c2 c3) (hrb : sh.el 19 = .slice (some ⟨rb, 0, none⟩) T cr) {N' : Nat} (hN : N ≤ N') (g : Eff (fun _ _ _ => False) w w') (hw' : WT kd.sig B N' w') : SL sh B T rb w0 mb di N' w' n κ fb cap c2 c3 := h.out hrb hN hw' (g.mono fun _ _ _ _ h => h.elim)
abbrev Out (w0 : World) (mb fb : Nat) (k : Nat) (U : TypeId) (j : Nat) : Prop := k ≠ fb ∧ k ≠ mb ∧ w0.heap.size ≤ k ∧ (U, j % kd.sz U) ∉ eB
structure EP (sh : Sh) (B T rb : Nat) (w0 : World) (mb di N : Nat) (w : World) (n : Nat) (κ : Nat → Int) (fb cap : Nat) (c2 c3 : Int) (cs : List Value) (ok : Bool) : Prop where
 sl : SL sh B T rb w0 mb di N w n κ fb cap c2 c3
 all : bJ w B N ax cs
 no : ok = false → ∃ ln, LI T w sh.pe rb fb n (κ n) ln
 yes : ok = true → ∃ c, cs[0]? = some (.int .i64 c) ∧ PI sh T w rb fb n (κ n) c ∧ (c = 24 → ∃ lb m cp, cs[17]? = some (.slice (some ⟨lb, 0, none⟩) (m + 1) cp) ∧ lb ≠ uO)
theorem EP.out {cs : List Value} {ok : Bool} {N' : Nat} (h : EP sh B T rb w0 mb di N w n κ fb cap c2 c3 cs ok) (hrb : sh.el 19 = .slice (some ⟨rb, 0, none⟩) T cr) (hN : N ≤ N') (hw' : WT kd.sig B N' w') (g : Eff (Out w0 mb fb) w w') : EP sh B T rb w0 mb di N' w' n κ fb cap c2 c3 cs ok := by
 obtain ⟨cur, f1, f2, f3, f4, f5, f6⟩ := h.sl.blk
 have g2 : Eff wP w w' := g.mono fun _ _ _ _ h => h.2.2.2
 have jq := xg g2
 have K : ∀ o, o < 18 → fc w' fb n o = fc w fb n o := fun o ho => by unfold fc; rw [aa (g.blk f2 fun _ _ hh => hh.1 rfl), aa f2]
 refine ⟨h.sl.out hrb hN hw' g, h.all.mono g hN, fun he => ?_, fun he => ?_⟩
 · obtain ⟨ln, hl⟩ := h.no he
   exact ⟨ln, hl.keep h.sl.wt (h.sl.row (Nat.le_refl _)) jq K fun t _ hp => hp.rP h.sl.ee hrb g2⟩
 · obtain ⟨c, e1, hp, e2⟩ := h.yes he
   exact ⟨c, e1, hp.keep h.sl.wt (h.sl.row (Nat.le_refl _)) jq K fun _ t _ hp => hp.rP h.sl.ee hrb g2, e2⟩
theorem SL.enter {ln : Int} (h : SL sh B T rb w0 mb di N w n κ fb cap c2 c3) (hrb : sh.el 19 = .slice (some ⟨rb, 0, none⟩) T cr) (hN : N + 6 ≤ 68719476736) (hF : FI T w fb n (κ n) ln) (w1 : World) (E1 : Eff (fun _ _ _ => False) w w1) (W1 : WT kd.sig B N w1) :
   Calls Tryz.prog 66 #[.pointer (some ⟨sh.pe, 0, none⟩), .pointer (some ⟨fb, n * 18, none⟩)] w1 fun e w2 => ∃ cs ok, e = .returned (.tuple #[.agg cs.toArray, .bool ok]) ∧ EP sh B T rb w0 mb di (N + 1) w2 n κ fb cap c2 c3 cs ok ∧ Eff (lT B w1 fb n) w1 w2 := by
 have h1 := h.mO hrb (Nat.le_refl _) E1 W1
 have hF1 : FI T w1 fb n (κ n) ln := hF.keep h.wt (h.row (Nat.le_refl _)) (E1.mono fun _ _ _ _ h => h.elim) fun o _ => by
   obtain ⟨cur, f1, f2, -⟩ := h.blk
   unfold fc
   rw [aa (E1.blk f2 fun _ _ h => h), aa f2]
 refine (abe (h1.at' (by omega)) hF1 hrb).mono ?_
 rintro e w2 ⟨⟨cs, ok, rfl, hw2, ha, hE, hno, ak1⟩, qQ⟩
 exact ⟨cs, ok, rfl, ⟨h1.line hrb (by omega) hw2 hE fun hc => (qQ (by rw [hc]; omega)).mono fun _ _ _ _ h => h.elim, ha, hno, ak1⟩, hE⟩
structure E3 (sh : Sh) (B T rb : Nat) (w0 : World) (mb di N : Nat) (w : World) (n : Nat) (κ : Nat → Int) (fb cap : Nat) (c2 c3 : Int) (cs : List Value) (ok : Bool) (xb : Nat) : Prop where
 ep : EP sh B T rb w0 mb di N w n κ fb cap c2 c3 cs ok
 box : w.heap[xb]? = some (.cells cs.toArray bT (0, 0))
 nf : xb ≠ fb
 new : w0.heap.size ≤ xb
theorem agv {xb i : Nat} {v : Value} {c : Array Value} (hb : w.heap[xb]? = some (.cells c bT (0, 0))) (hf : xb ≠ fb) (hn : w0.heap.size ≤ xb) (hm : mb < w0.heap.size) : Eff (Out w0 mb fb) w (w.setCell ⟨xb, i, none⟩ v) := by
 refine (Eff.refl _ w).dK hb (.inl ⟨hf, by omega, hn, ?_⟩)
 have : ∀ q, (bT, q) ∉ eB := fun q hq => by simp [eB, ae, bT] at hq
 exact this _
theorem E3.mk' {cs : List Value} {ok : Bool} {xb : Nat} (h : EP sh B T rb w0 mb di N w n κ fb cap c2 c3 cs ok) (hrb : sh.el 19 = .slice (some ⟨rb, 0, none⟩) T cr) (hb : w.heap[xb]? = some (.cells dm bT (0, 0))) (hf : xb ≠ fb) (hn : w0.heap.size ≤ xb) (hB : B ≤ w0.heap.size) : E3 sh B T rb w0 mb di N (w.setCells xb 0 cs) n κ fb cap c2 c3 cs ok xb := by
 have hl : cs.length = 18 := by have := h.all.len; rw [← this]; rfl
 have hm := h.sl.A8
 have g : Eff (Out w0 mb fb) w (w.setCells xb 0 cs) := by
   refine Eff.wK cs 0 w dm (Eff.refl _ _) hb fun j hj => .inl ⟨hf, by omega, hn, ?_⟩
   have : ∀ q, (bT, q) ∉ eB := fun q hq => by simp [eB, ae, bT] at hq
   exact this _
 have hw' : WT kd.sig B N (w.setCells xb 0 cs) := WT.sets kF cs ax 0 w dm h.sl.wt hb h.all fun j k hk => by
   have : j < 18 := (List.getElem?_eq_some_iff.1 hk).1
   rw [Nat.zero_add, show ax.length = 18 from rfl, Nat.mod_eq_of_lt this]; exact hk
 exact ⟨h.out hrb (Nat.le_refl _) hw' g, (iU w xb cs).2 _ _ hb hl.symm, hf, hn⟩
theorem E3.aje {cs : List Value} {xb : Nat} (h : E3 sh B T rb w0 mb di N w n κ fb cap c2 c3 cs true xb) (hrb : sh.el 19 = .slice (some ⟨rb, 0, none⟩) T cr) : E3 sh B T rb w0 mb di N (w.setCell ⟨xb, 1, none⟩ (.int .i64 1)) n κ fb cap c2 c3 (cs.set 1 (.int .i64 1)) true xb := by
 have hB : B ≤ xb := Nat.le_trans (by obtain ⟨cur, f1, f2, -⟩ := h.ep.sl.blk; have := h.ep.sl.A8; have := h.ep.sl.bm; omega) h.new
 have g := agv (w := w) (fb := fb) (mb := mb) (i := 1) (v := .int .i64 1) h.box h.nf h.new h.ep.sl.A8
 have hw' := h.ep.sl.wt.set h.box kF (i := 1) (ck := .int .i64) rfl ⟨1, rfl, i64_in (by omega)⟩
 have h2 := h.ep.out hrb (Nat.le_refl _) hw' g
 have hl : cs.length = 18 := by have := h.ep.all.len; rw [← this]; rfl
 refine ⟨⟨h2.sl, bJ.Nt (by simp [hl]) fun i v hv => ?_, (fun hx => by cases hx), fun _ => ?_⟩, by rw [aR h.box]; simp, h.nf, h.new⟩
 · rw [List.getElem?_set] at hv
   split at hv
   · rename_i e
     subst e
     split at hv
     · cases hv
       exact ⟨.int .i64, rfl, 1, rfl, i64_in (by omega)⟩
     · cases hv
   · obtain ⟨ck, e1, o⟩ := h2.all.get hv
     exact ⟨ck, e1, o⟩
 · obtain ⟨c, e1, hp, e2⟩ := h2.yes rfl
   refine ⟨c, by rw [List.getElem?_set, if_neg (by omega)]; exact e1, hp, fun hc => ?_⟩
   obtain ⟨lb, m, cp, e3, e4⟩ := e2 hc
   exact ⟨lb, m, cp, by rw [List.getElem?_set, if_neg (by omega)]; exact e3, e4⟩
structure LP (sh : Sh) (B T rb : Nat) (w0 : World) (mb di N : Nat) (w : World) (n : Nat) (κ : Nat → Int) (fb cap : Nat) (c2 c3 : Int) (d : Bool) (c x : Int) : Prop where
 sl : SL sh B T rb w0 mb di N w n κ fb cap c2 c3
 ic : bB .i64 c
 ix : bB .i64 x
 stay : d = false → κ n ≠ 12 ∧ ∃ ln, FI T w fb n (κ n) ln
 val : κ n = 12 → c = 3 ∨ (0 ≤ x ∧ x < T)
theorem LP.out {d : Bool} {c x : Int} {N' : Nat} (h : LP sh B T rb w0 mb di N w n κ fb cap c2 c3 d c x) (hrb : sh.el 19 = .slice (some ⟨rb, 0, none⟩) T cr) (hN : N ≤ N') (hw' : WT kd.sig B N' w') (g : Eff (Out w0 mb fb) w w') : LP sh B T rb w0 mb di N' w' n κ fb cap c2 c3 d c x := by
 obtain ⟨cur, f1, f2, f3, f4, f5, f6⟩ := h.sl.blk
 have g2 : Eff wP w w' := g.mono fun _ _ _ _ h => h.2.2.2
 refine ⟨h.sl.out hrb hN hw' g, h.ic, h.ix, fun he => ?_, h.val⟩
 obtain ⟨e1, ln, hl⟩ := h.stay he
 exact ⟨e1, ln, hl.keep h.sl.wt (h.sl.row (Nat.le_refl _)) (xg g2) fun o ho => by unfold fc; rw [aa (g.blk f2 fun _ _ hh => hh.1 rfl), aa f2]⟩
theorem SL.leaf {ln : Int} (h : SL sh B T rb w0 mb di N w n κ fb cap c2 c3) (hrb : sh.el 19 = .slice (some ⟨rb, 0, none⟩) T cr) (hN : N + 6 ≤ 68719476736) (hL : LI T w sh.pe rb fb n (κ n) ln) (w1 : World) (E1 : Eff (fun _ _ _ => False) w w1) (W1 : WT kd.sig B N w1) :
   Calls Tryz.prog 67 #[.pointer (some ⟨sh.pe, 0, none⟩), .pointer (some ⟨fb, n * 18, none⟩)] w1 fun e w2 => ∃ d c x, e = .returned (.agg #[.bool d, .int .i64 c, .int .i64 x]) ∧ LP sh B T rb w0 mb di (N + 2) w2 n κ fb cap c2 c3 d c x ∧ Eff (lT B w1 fb n) w1 w2 := by
 have h1 := h.mO hrb (Nat.le_refl _) E1 W1
 obtain ⟨cur, f1, f2, -⟩ := h.blk
 have hL1 : LI T w1 sh.pe rb fb n (κ n) ln := hL.keep h.wt (h.row (Nat.le_refl _)) (E1.mono fun _ _ _ _ h => h.elim) (fun o _ => by
   unfold fc
   rw [aa (E1.blk f2 fun _ _ h => h), aa f2]) fun t _ hp => hp.rP h.ee hrb (E1.mono fun _ _ _ _ h => h.elim)
 by_cases h12 : κ n = 12
 · refine (abE (h1.at' (by omega)) (by rw [← h12]; exact hL1.c0)).mono ?_
   rintro e w2 ⟨c, x, rfl, ic, ix, hw2, hM, hv⟩
   have hF : Eff (lT B w1 fb n) w1 w2 := hM.mono fun k U j hk hc => by
     rcases hc with hc | hc
     · exact .inl hc
     · refine .inr (.inr ?_)
       have := List.all_eq_true.1 (show qO aY = true by decide) _ hc.1
       simp only [Bool.and_eq_true, decide_eq_true_eq, Bool.not_eq_true'] at this
       refine ⟨this.1, fun hx => ?_, hc.2⟩
       have h2 := List.contains_iff_mem.2 hx
       rw [this.2] at h2
       cases h2
   have h2 : Eff wP w1 w2 := hM.mono fun k U j hk hc => by
     rcases hc with hc | hc
     · omega
     · have h1 : ∀ q ∈ eB, EI.ty q.1 q.2 ∉ aY := by decide
       exact fun hx => h1 _ hx hc.1
   exact ⟨true, c, x, rfl, ⟨h1.line hrb (by omega) hw2 hF fun _ => h2, ic, ix, (fun hx => by cases hx), fun _ => hv⟩, hF⟩
 · refine (aeI (cr := cr) (h1.at' (by omega)) hL1 fun _ => hrb).mono ?_
   rintro e w2 ⟨v, rfl, hw2, hE, d, c, x, ⟨rfl, ic, ix⟩, hd⟩
   refine ⟨d, c, x, rfl, ⟨h1.line hrb (by omega) hw2 hE fun hc => absurd hc h12, ic, ix, fun hx => ?_, fun hc => absurd hc h12⟩, hE⟩
   obtain ⟨kV, hl⟩ := hd hx
   exact ⟨h12, kV, hl⟩
theorem SL.back {k c x : Int} (h : SL sh B T rb w0 mb di N w n κ fb cap c2 c3) (hrb : sh.el 19 = .slice (some ⟨rb, 0, none⟩) T cr) (hN : N + 6 ≤ 68719476736) (hP : PI sh T w rb fb n (κ n) k) (ic : bB .i64 c) (ix : bB .i64 x) (hv : k = 12 → c = 3 ∨ (0 ≤ x ∧ x < T)) (w1 : World) (E1 : Eff (fun _ _ _ => False) w w1) (W1 : WT kd.sig B N w1) :
   Calls Tryz.prog 68 #[.pointer (some ⟨sh.pe, 0, none⟩), .pointer (some ⟨fb, n * 18, none⟩), .int .i64 c, .int .i64 x] w1 fun e w2 => ∃ d c' x', e = .returned (.agg #[.bool d, .int .i64 c', .int .i64 x']) ∧ LP sh B T rb w0 mb di (N + 5) w2 n κ fb cap c2 c3 d c' x' ∧ Eff (lT B w1 fb n) w1 w2 := by
 have h1 := h.mO hrb (Nat.le_refl _) E1 W1
 obtain ⟨cur, f1, f2, -⟩ := h.blk
 have hP1 : PI sh T w1 rb fb n (κ n) k := hP.keep h.wt (h.row (Nat.le_refl _)) (E1.mono fun _ _ _ _ h => h.elim) (fun o _ => by
   unfold fc
   rw [aa (E1.blk f2 fun _ _ h => h), aa f2]) fun _ t _ hp => hp.rP h.ee hrb (E1.mono fun _ _ _ _ h => h.elim)
 have h12 : κ n ≠ 12 := fun hc => by
   have := hP.rk
   rw [hc] at this
   exact absurd this (by simp [rank])
 refine (aeQ (h1.at' (by omega)) hP1 hrb ic ix hv).mono ?_
 rintro e w2 ⟨v, rfl, hw2, hE, d, c', x', ⟨rfl, ic', ix'⟩, hd⟩
 refine ⟨d, c', x', rfl, ⟨h1.line hrb (by omega) hw2 hE fun hc => absurd hc h12, ic', ix', fun hx => ?_, fun hc => absurd hc h12⟩, hE⟩
 obtain ⟨kV, hl⟩ := hd hx
 exact ⟨h12, kV, hl⟩
end
end Go.Proofs.YtncnepmgmphanaaGreatDoor
