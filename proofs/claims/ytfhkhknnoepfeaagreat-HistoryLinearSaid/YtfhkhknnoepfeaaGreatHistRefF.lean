/- The reference's Play, walked. -/
import Derived.Test.YtfhkhknnoepfeaaGreatHistRefE
namespace Go.Proofs.YtfhkhknnoepfeaaGreat
open Go.RowKit
set_option linter.unusedVariables false

theorem wpList_append_opC (w : World) {ops : Array Oper} {o : Oper} {a : Act} {Q : Exit → Act → World → Prop} {rest : List Oper} (hw : Region.wanted o (yielded ops a.tmps) = true) (s x : Operand)
    (ho : o.op = .call { callee := .builtin .append, args := #[s, x], argTypes := #[30, 30] })
    (base : Nat) (v : Value) (n : Nat) (l : List HOp) (hn : n = l.length) (hs : a.eval s = v) (hown : w.ownsRow base 36 6 v n (flatO l)) (ad : Addr) (y : HOp) (hx : a.eval x = .slice (some ad) 1 1) (hnews : ∀ j u, (flatO [y])[j]? = some u → w.cell? (ad.add j) = some u)
    (hlen : l.length ≤ 1000000) (hbase : base ≤ w.heap.size)
    (h : ∀ v' w', w'.ownsRow base 36 6 v' (l ++ [y]).length (flatO (l ++ [y])) → w.grownBy w' v.ownBlock → wpList Tryz.prog ops Q rest (a.put o.dst v') w') : wpList Tryz.prog ops Q (o :: rest) a w := by
  subst hn
  obtain ⟨i0, hi, hz0, hz1, hz2⟩ := info_parts infoOp
  exact BigFrame.wpList_want hw fun _ hK => wp_append_own w s x 30 ho base 36 i0 HOp.zero.v 6 48 Tryz.underlying30 hi hz0 hz1 hz2 rfl (by decide) v l.length (flatO l) hs hown ad 1 1 (flatO [y]) hx (by rw [flatO_len]; simp) hnews (flatO_one [y]) (by unfold maxLen; omega) (by omega) hbase
    (fun v' w' h4 h5 h6 => hK _ _ (h v' w' (by rw [flatO_app, List.length_append]; exact h4) h5))
theorem wpList_append_ac (w : World) {ops : Array Oper} {o : Oper} {a : Act} {Q : Exit → Act → World → Prop} {rest : List Oper} (hw : Region.wanted o (yielded ops a.tmps) = true) (s x : Operand)
    (ho : o.op = .call { callee := .builtin .append, args := #[s, x], argTypes := #[63, 63] })
    (base : Nat) (v : Value) (n : Nat) (l : List Value) (hs : a.eval s = v) (hown : w.ownsRow base 66 5 v n l) (ad : Addr) (ys : List Value) (hx : a.eval x = .slice (some ad) 1 1) (hyl : ys.length = 5) (hnews : ∀ j u, ys[j]? = some u → w.cell? (ad.add j) = some u) (h1 : ∀ u ∈ ys, u.oneCell' = true)
    (hlen : n ≤ 1000000) (hbase : base ≤ w.heap.size)
    (h : ∀ v' w', w'.ownsRow base 66 5 v' (n + 1) (l ++ ys) → w.grownBy w' v.ownBlock → wpList Tryz.prog ops Q rest (a.put o.dst v') w') : wpList Tryz.prog ops Q (o :: rest) a w := by
  obtain ⟨i0, hi, hz0, hz1, hz2⟩ := info_parts infoAcR
  exact BigFrame.wpList_want hw fun _ hK => wp_append_own w s x 63 ho base 66 i0 _ 5 56 Tryz.underlying63 hi hz0 hz1 hz2 rfl (by decide) v n l hs hown ad 1 1 ys hx (by omega) hnews h1 (by unfold maxLen; omega) (by omega) hbase
    (fun v' w' h4 h5 h6 => hK _ _ (h v' w' h4 h5))

theorem cells_ac {w : World} {b : Nat} {T : TypeId} {v : Value} (hb : b = w.heap.size) : ∀ j u, [v, .pointer none, .int .i64 0, .int .i64 0, .int .i64 (-1)][j]? = some u → (w.alloc (.cells #[v, .pointer none, .int .i64 0, .int .i64 0, .int .i64 (-1)] T)).cell? ((⟨b, 0, none⟩ : Addr).add j) = some u := by
  intro j u h
  subst hb
  rw [Go.WideShapes.add_plain, cell_blk (blk_alloc_new w _), Nat.zero_add]
  simpa using h

theorem drw_mod {p : Int} {n : Nat} (hn : 1 ≤ n) : drw p n = (modN n p : Int) := by
  unfold drw modN
  rw [if_neg (by omega)]
  have := Int.emod_nonneg p (show (n : Int) ≠ 0 by omega)
  omega

/-- The game in the midst of Play. -/
def SW (w0 w : World) (B n c rb r rc qb : Nat) (opsV : Value) (g : Gm) : Prop :=
  (∃ ys fs avs mvs kks vvs, RG w0 w B n c rb r rc ys fs avs mvs kks vvs g) ∧ w.ownsRow B 36 6 opsV g.ops.length (flatO g.ops) ∧ w.heap[qb]? = some (.cells #[.int .i64 0, .int .i64 1, .int .i64 2, .int .i64 c] 50 (0, 0))
theorem SW.keep0 {w0 w w' : World} {B n c rb r rc qb : Nat} {opsV : Value} {g : Gm} (h : SW w0 w B n c rb r rc qb opsV g) (o : Only [] w w') : SW w0 w' B n c rb r rc qb opsV g := by
  obtain ⟨⟨ys, fs, avs, mvs, kks, vvs, h1⟩, h2, h3⟩ := h
  exact ⟨⟨ys, fs, avs, mvs, kks, vvs, h1.keep0 o⟩, owns_keep h2 o, o.keep h3 (by simp)⟩
theorem SW.F {w0 w : World} {B n c rb r rc qb : Nat} {opsV : Value} {g : Gm} (h : SW w0 w B n c rb r rc qb opsV g) : Only [] w0 w := by
  obtain ⟨⟨ys, fs, avs, mvs, kks, vvs, h1⟩, h2, h3⟩ := h; exact h1.F
theorem SW.sz {w0 w : World} {B n c rb r rc qb : Nat} {opsV : Value} {g : Gm} (h : SW w0 w B n c rb r rc qb opsV g) : B ≤ w.heap.size := by
  obtain ⟨⟨ys, fs, avs, mvs, kks, vvs, h1⟩, h2, h3⟩ := h; exact h1.lt.2.2.2.2.2.2.2.2.2

/-- What a step of an actor leaves in the midst of Play. -/
def SWStep (w0 : World) (B n c rb r rc qb : Nat) (opsV : Value) (g g' : Gm) (op : HOp) (ok : Bool) (w' : World) : Prop :=
  (∃ ys fs avs mvs kks vvs, RG w0 w' B n c rb r rc ys fs avs mvs kks vvs g') ∧ w'.ownsRow B 36 6 opsV g.ops.length (flatO g.ops) ∧ w'.heap[qb]? = some (.cells #[.int .i64 0, .int .i64 1, .int .i64 2, .int .i64 c] 50 (0, 0)) ∧ ((ok = false ∧ g'.ops = g.ops) ∨ (ok = true ∧ g'.ops = g.ops ++ [op]))
theorem SWStep.keep0 {w0 w w' : World} {B n c rb r rc qb : Nat} {opsV : Value} {g g' : Gm} {op : HOp} {ok : Bool} (h : SWStep w0 B n c rb r rc qb opsV g g' op ok w) (o : Only [] w w') : SWStep w0 B n c rb r rc qb opsV g g' op ok w' := by
  obtain ⟨⟨ys, fs, avs, mvs, kks, vvs, h1⟩, h2, h3, h4⟩ := h
  exact ⟨⟨ys, fs, avs, mvs, kks, vvs, h1.keep0 o⟩, owns_keep h2 o, o.keep h3 (by simp), h4⟩
theorem SWStep.keepB {w0 w w' : World} {B n c rb r rc qb : Nat} {opsV : Value} {g g' : Gm} {op : HOp} {ok : Bool} (h : SWStep w0 B n c rb r rc qb opsV g g' op ok w) {z : Nat} (o : Only [z] w w') (hz : B ≤ z) {arr : Array Value} {y : Nat × Nat} (hh : w.heap[z]? = some (.cells arr 36 y)) (hq : qb < B) (hne : ∀ q, opsV.ownBlock = some q → q ≠ z) : SWStep w0 B n c rb r rc qb opsV g g' op ok w' := by
  obtain ⟨⟨ys, fs, avs, mvs, kks, vvs, h1⟩, h2, h3, h4⟩ := h
  exact ⟨⟨ys, fs, avs, mvs, kks, vvs, h1.keepOp o (fun t ht => by simp at ht; subst ht; exact ⟨hz, arr, y, hh⟩)⟩, owns_keepS h2 o (fun q hq2 => by have := hne q hq2; simp; exact this), o.keep h3 (by simp; omega), h4⟩
theorem sw_step {w0 w : World} {B n c rb r rc qb : Nat} {opsV : Value} {g : Gm} (h : SW w0 w B n c rb r rc qb opsV g) (hq : qb < B ∧ qb ≠ r ∧ qb ≠ rc ∧ qb ≠ rb) (hg : GX c g) (hc : c ≤ 1000000) (hcb : g.mem.count ≤ g.pick) (hp : g.pick < 900000) {a : Nat} (ha : a < n) :
    Calls Tryz.prog 23 #[.pointer (some ⟨r, 0, none⟩), .agg #[.int .i64 0, .int .i64 1, .int .i64 2, .int .i64 c], .pointer (some ⟨rb, a * 5, none⟩), .int .i64 a, .int .i64 g.pick] w (fun e w' => ∃ op ok, e = .returned (.tuple #[op.v, .bool ok]) ∧ SWStep w0 B n c rb r rc qb opsV g (gstep (q0 c) g a) op ok w' ∧ (∀ b arr z, B ≤ b → w.heap[b]? = some (.cells arr 36 z) → w'.heap[b]? = some (.cells arr 36 z)) ∧ w.heap.size ≤ w'.heap.size) := by
  obtain ⟨⟨ys, fs, avs, mvs, kks, vvs, h1⟩, h2, h3⟩ := h
  refine (refAct_any w h1 hg hc hcb hp ha).mono ?_
  rintro e w' ⟨op, ok, ys', fs', avs', mvs', kks', vvs', he, h4, h5, h6, h7, h8, h9⟩
  exact ⟨op, ok, he, ⟨⟨ys', fs', avs', mvs', kks', vvs', h4⟩, h5 _ _ _ h2, h7 qb _ hq.1 hq.2.1 hq.2.2.1 hq.2.2.2 h3, h6⟩, h8, h9⟩
theorem SWStep.no {w0 w : World} {B n c rb r rc qb : Nat} {opsV : Value} {g g' : Gm} {op : HOp} (h : SWStep w0 B n c rb r rc qb opsV g g' op false w) : SW w0 w B n c rb r rc qb opsV g' := by
  obtain ⟨h1, h2, h3, h4⟩ := h
  rcases h4 with ⟨_, h4⟩ | ⟨h4, _⟩
  · exact ⟨h1, by rw [h4]; exact h2, h3⟩
  · cases h4
theorem SWStep.yes {w0 w w1 w2 : World} {B n c rb r rc qb : Nat} {opsV opsV' : Value} {g g' : Gm} {op : HOp} (h : SWStep w0 B n c rb r rc qb opsV g g' op true w) (o : Only [] w w1) (hg : w1.grownBy w2 opsV.ownBlock)
    (hown : w2.ownsRow B 36 6 opsV' (g.ops ++ [op]).length (flatO (g.ops ++ [op]))) (hq : qb < B) : SW w0 w2 B n c rb r rc qb opsV' g' := by
  obtain ⟨⟨ys, fs, avs, mvs, kks, vvs, h1⟩, h2, h3, h4⟩ := h.keep0 o
  have h4 : g'.ops = g.ops ++ [op] := by
    rcases h4 with ⟨h4, _⟩ | ⟨_, h4⟩
    · cases h4
    · exact h4
  have hrow := fun q hq => row_blk h2 q hq
  have o2 : Only opsV.ownBlock.toList w1 w2 := (Only.refl _ _).grown hg (fun q hq => .inl (by rw [hq]; simp))
  have hS : ∀ t ∈ opsV.ownBlock.toList, B ≤ t ∧ ∃ arr z, w1.heap[t]? = some (.cells arr 36 z) := fun t ht => by
    cases e : opsV.ownBlock with
    | none => rw [e] at ht; cases ht
    | some q =>
      rw [e] at ht
      simp at ht
      subst ht
      obtain ⟨a1, arr, a2⟩ := hrow t e
      exact ⟨a1, arr, _, a2⟩
  exact ⟨⟨ys, fs, avs, mvs, kks, vvs, h1.keepOp o2 hS⟩, by rw [h4]; exact hown, o2.keep h3 (fun hm => by have := (hS _ hm).1; omega)⟩

set_option maxRecDepth 100000 in
set_option maxHeartbeats 8000000 in
theorem refPlay_any (w : World) (cap : Int) (planV : Value) (pl : List (List (Int × Int))) (hpl : PlanAt w planV pl) (ao : Option Addr) (pcap : Nat) (picks : List Int) (hpk : CellsAt w ao (picks.map (.int .i64))) (hn : 1 ≤ pl.length) (hn2 : pl.length ≤ 1000) (hlen : ∀ a, a < pl.length → (pl.getD a []).length ≤ 1000) (hnp : picks.length ≤ 100000)
    (hin : ∀ x ∈ planActs pl 0, inI x.2) (hb : picks.length + 10 * sumL (fun a => (planActs pl a).length) pl.length < 900000) :
    Calls Tryz.prog 12 #[.int .i64 cap, planV, .slice ao picks.length pcap] w (PlayPost w (gplay (capN cap) pl.length (planActs pl) (picks.map (modN pl.length)))) := by
  obtain ⟨n, hnn⟩ : ∃ n, n = pl.length := ⟨_, rfl⟩
  obtain ⟨np, hnp2⟩ : ∃ np, np = picks.length := ⟨_, rfl⟩
  obtain ⟨c, hc⟩ : ∃ c, c = capN cap := ⟨_, rfl⟩
  obtain ⟨acts, hacts⟩ : ∃ f, f = planActs pl := ⟨_, rfl⟩
  have hc1 : 1 ≤ c ∧ c ≤ 64 := by rw [hc]; unfold capN; omega
  have hcI : max 1 (min cap 64) = (c : Int) := by rw [hc]; unfold capN; omega
  have GXS := Lib.hid (gstart_gx (c := c) (acts := acts) hc1.1 (by omega) (fun x hx => by
    refine ⟨?_, hin x (by rw [← hacts]; exact hx)⟩
    rw [hacts] at hx
    have := (List.mem_filter.1 hx).2
    simp [ableB] at this
    exact this) (fun a ha x hx => by
    rw [hacts] at hx
    have := (List.mem_filter.1 hx).2
    simp [ableB] at this
    omega))
  obtain ⟨pao, pcp, rfl, hpc, hph⟩ := hpl
  obtain ⟨pb, poff, rfl, hrows⟩ := hph (by omega)
  rw [← hnn] at hn hn2 hpc hrows hlen hb ⊢
  rw [← hnp2] at hnp hb ⊢
  rw [← hacts] at hb hin ⊢
  rw [← hc]
  have ACT := Lib.hid (fun a => show acts a = (pl.getD a []).filter (ableB a) from by rw [hacts]; rfl)
  have ROWS := Lib.hid hrows
  have PK := Lib.hid hpk
  have NP := Lib.hid hnp2
  have LEN := Lib.hid hlen
  have HB := Lib.hid hb
  have HIN := Lib.hid hin
  clear hpk hrows hacts hc hnp2 hnn hph hlen hb hin
  have hnz : ((n : Int) == 0) = false := by simp; omega
  go_enter Tryz.func12, Tryz.ntmps12
  go_upto_region 4 with fail
  rw [show (if (1 : Int) < if 64 < cap then 64 else cap then if 64 < cap then 64 else cap else 1) = (c : Int) from by split <;> split at * <;> omega]
  generalize (if (64 : Int) < cap then (64 : Int) else cap) = mc
  clear hcI
  obtain ⟨w1, hw1⟩ : ∃ w1, w1 = w.alloc (.cells #[.int .i64 0, .int .i64 1, .int .i64 2, .int .i64 c] 50) := ⟨_, rfl⟩
  obtain ⟨qb, hqb⟩ : ∃ qb, qb = w.heap.size := ⟨_, rfl⟩
  have o1 : Only [] w w1 := by rw [hw1]; exact (Only.refl _ _).alloc _
  have QB1 : w1.heap[qb]? = some (.cells #[.int .i64 0, .int .i64 1, .int .i64 2, .int .i64 c] 50 (0, 0)) := by rw [hw1, hqb]; exact blk_alloc_new w _
  have hqw : w.heap.size ≤ qb := by omega
  rw [← hw1, ← hqb]
  have c3 := cell_blk QB1 3
  simp at c3
  have BR := Lib.hid (refBare_any w1 ((2 : Int) + c) (2 + c) (by omega) (by omega))
  have O1 := Lib.hid o1
  have QQ1 := Lib.hid QB1
  clear hw1 hqb o1 QB1
  go_wp2_with fail
  refine BR.out.mono ?_; rintro e w2 ⟨r, rc, rfl, o2, hE2, r1, r2, r3, r4⟩
  have O2 := Lib.hid (O1.out.then0 o2)
  have E2 := Lib.hid hE2
  have Q2 := Lib.hid (o2.keep QQ1.out (by simp))
  have hrr : r ≠ rc := by
    intro e
    obtain ⟨v, e1, e2, e3, e4⟩ := hE2
    exact e3 e.symm
  have hs12 := O1.out.size
  have hqr : qb ≠ r ∧ qb ≠ rc := by have := lt_of_blk QQ1.out; omega
  have hql := lt_of_blk Q2.out
  have hsz2 := O2.out.size
  obtain ⟨B0, hB0⟩ : ∃ B0, B0 = w2.heap.size := ⟨_, rfl⟩
  have S0 : Hid (BA w w2 B0 0 (fun _ => .slice none 0 0) (.slice none 0 0) acts) := Lib.hid ⟨⟨rfl, .inl ⟨rfl, rfl⟩⟩, fun a ha => by omega, fun a ha => by omega, O2.out, by omega, by omega⟩
  rw [← hB0] at hsz2 r3 r4 hql
  have HB0 : Hid (B0 = w2.heap.size) := Lib.hid hB0
  clear o2 hE2 hB0 BR c3
  go_wp2_with fail
  go_loopw [9, 10] (fun xv iv wr => ∃ (i : Nat) (avs : Nat → Value), i ≤ n ∧ iv = .int .i64 i ∧ BA w wr B0 i avs xv acts ∧ Only [] w2 wr) (fun _ iv _ => n - (intOf iv).toNat)
  case atStart => exact ⟨0, _, Nat.zero_le _, rfl, S0.out, Only.refl _ _⟩
  case round =>
    obtain ⟨i, avs, hi, rfl, hBA, hP2⟩ := hrel
    have BB := Lib.hid hBA
    have P2 := Lib.hid hP2
    clear hBA hP2
    by_cases hlt : i < n
    · obtain ⟨vi, hv1, hv2⟩ := ROWS.out i hlt
      have hlk := LEN.out i hlt
      obtain ⟨lk, hlk2⟩ : ∃ lk, lk = pl.getD i [] := ⟨_, rfl⟩
      have ACk : Hid (acts i = lk.filter (ableB i)) := Lib.hid (by rw [hlk2]; exact ACT.out i)
      rw [← hlk2] at hv2 hlk
      clear hlk2
      have CV := Lib.hid hv1
      have VI := Lib.hid hv2
      obtain ⟨via, vic, rfl, hvc, -, hvl⟩ := id hv2
      obtain ⟨xo, xcp, hx⟩ := owns_sl BB.out.X
      subst hx
      obtain ⟨ln, hln⟩ : ∃ ln, ln = lk.length := ⟨_, rfl⟩
      have HLN := Lib.hid hln
      rw [← hln] at CV VI hlk hvl hv1
      have hcv0 := (BB.out.F.alloc (.cells #[.slice none 0 0, .pointer none, .int .i64 0, .int .i64 0, .int .i64 (-1)] 66)).keepCell hv1 (by simp)
      clear hv1 hv2 hln
      obtain ⟨wo, hwo⟩ : ∃ wo, wo = wr := ⟨_, rfl⟩
      subst hwo
      obtain ⟨xb, hxb⟩ : ∃ xb, xb = wo.heap.size := ⟨_, rfl⟩
      obtain ⟨F, hF⟩ : ∃ F : Nat → List (Int × Int), F = fun k => (lk.take k).filter (ableB i) := ⟨_, rfl⟩
      have HF := Lib.hid hF
      have HFn : Hid (F ln = acts i) := Lib.hid (by rw [hF, ACk.out, HLN.out]; simp)
      have HFl : Hid (∀ k, (F k).length ≤ k) := Lib.hid (fun k => by rw [hF]; refine Nat.le_trans (List.length_filter_le _ _) ?_; rw [List.length_take]; omega)
      have HFs : Hid (∀ k, k < ln → F (k + 1) = F k ++ (if ableB i (lk.getD k (0, 0)) then [lk.getD k (0, 0)] else [])) := Lib.hid (fun k hk => by rw [hF]; exact take_filter_succ _ _ _ _ (by have := HLN.out; omega))
      clear hF
      go_wp2_with fail
      rw [← hxb]
      have HXB := Lib.hid hxb
      have hxw : wo.heap.size ≤ xb := by omega
      clear hxb
      go_loopw [12] (fun kv wr => ∃ (k : Nat) (v : Value), k ≤ ln ∧ kv = .int .i64 k ∧ wr.heap[xb]? = some (.cells #[v, .pointer none, .int .i64 0, .int .i64 0, .int .i64 (-1)] 66 (0, 0)) ∧ wr.ownsRow (xb + 1) 44 2 v (F k).length (flatA (F k)) ∧ Only [] wo wr ∧ xb < wr.heap.size) (fun kv _ => ln - (intOf kv).toNat)
      case atStart => exact ⟨0, .slice none 0 0, Nat.zero_le _, rfl, by rw [HXB.out]; exact blk_alloc_new wo _, by rw [show F 0 = [] by rw [HF.out]; rfl]; exact ⟨rfl, .inl ⟨rfl, rfl⟩⟩, (Only.refl _ _).alloc _, by rw [HXB.out]; simp⟩
      case round =>
        obtain ⟨k, v, hk, rfl, hX, hW, hQ, hxl⟩ := hrel
        have XX := Lib.hid hX
        have WW := Lib.hid hW
        have QO := Lib.hid hQ
        have cv := (BB.out.F.then0 hQ).keepCell CV.out (by simp)
        have cvd := (BB.out.F.then0 hQ.drew).keepCell CV.out (by simp)
        have x0 := cell_blk hX 0
        have x1 := cell_blk hX 1
        have x2 := cell_blk hX 2
        have x3 := cell_blk hX 3
        have x4 := cell_blk hX 4
        have xf := free_blk hX 0
        simp at x0 x1 x2 x3 x4
        obtain ⟨vo, vcp, hv⟩ := owns_sl hW
        subst hv
        clear hX hW hQ hcv0
        by_cases hlk2 : k < ln
        · obtain ⟨b, off, rfl, hcs⟩ := hvc (by rw [flatA_len]; have := HLN.out; omega)
          obtain ⟨e1, e2⟩ := flatA_at lk k (by have := HLN.out; omega)
          obtain ⟨x, hxx⟩ : ∃ x, x = lk.getD k (0, 0) := ⟨_, rfl⟩
          have HS := HFs.out k hlk2
          rw [← hxx] at e1 e2 HS
          obtain ⟨q1, hq1⟩ := List.getElem?_eq_some_iff.1 e1
          obtain ⟨q2, hq2⟩ := List.getElem?_eq_some_iff.1 e2
          have d0 : w.cell? ⟨b, off + k * 2, none⟩ = some (.int .i64 x.1) := by have := hcs (k * 2) q1; rw [hq1] at this; exact this
          have d1 : w.cell? ⟨b, off + k * 2 + 1, none⟩ = some (.int .i64 x.2) := by have := hcs (k * 2 + 1) q2; rw [hq2] at this; exact this
          obtain ⟨xk, xv⟩ := x
          simp only at d0 d1
          have g0 := (BB.out.F.then0 QO.out).keepCell d0 (by simp)
          have g1 := (BB.out.F.then0 QO.out).keepCell d1 (by simp)
          have CAN := fun w' => Lib.hid (can_any w' i xk xv (by omega))
          obtain ⟨ab, hab⟩ : ∃ ab, ab = ableB i (xk, xv) := ⟨_, rfl⟩
          rw [← hab] at CAN HS
          have HSS := Lib.hid HS
          have D0 := Lib.hid d0
          have D1 := Lib.hid d1
          have HXX := Lib.hid hxx
          clear e1 e2 q1 hq1 q2 hq2 hcs HS hab hxx d0 d1
          go_wp2_with fail
          refine (CAN _).out.mono ?_; rintro e w5 ⟨rfl, o5⟩
          have Q5 := Lib.hid (QO.out.then0 o5)
          have X5 := Lib.hid (o5.keep XX.out (by simp))
          have W5 := Lib.hid (owns_keep WW.out o5)
          have hxl5 := lt_of_blk X5.out
          clear o5 CAN
          cases ab with
          | false =>
            go_wp2_with fail
            go_roundw
            case rel => exact ⟨k + 1, _, by omega, by go_num, X5.out, by rw [HSS.out]; simpa using W5.out, Q5.out, hxl5⟩
            case measure => simp [intOf]; omega
          | true =>
            have cv5 := (BB.out.F.then0 Q5.out).keepCell CV.out (by simp)
            have g05 := (BB.out.F.then0 Q5.out).keepCell D0.out (by simp)
            have g15 := (BB.out.F.then0 Q5.out).keepCell D1.out (by simp)
            have x05 := cell_blk X5.out 0
            have xf5 := free_blk X5.out 0
            simp at x05
            have hfl := HFl.out k
            have hbl5 : b < w5.heap.size := lt_of_cell g05
            have hpl5 : pb < w5.heap.size := lt_of_cell cv5
            clear cv cvd x0 x1 x2 x3 x4 xf g0 g1
            go_wp2_with fail
            go_region_law ((refine step_append_act2 _ rfl (.tmp 58) (.tmp 66) rfl (xb + 1) (.slice vo (F k).length vcp) (F k) (by simp [Act.eval]) (owns_keep W5.out ((Only.refl _ _).drew.alloc _)) ⟨w5.heap.size, 0, none⟩ (xk, xv) (by simp [Act.eval]) (cells_newA xk xv rfl) (by omega) (by simp; omega) ?_
                            intro v' w6 hown hgrow hblk
                            have W6 := Lib.hid hown
                            have Q6 := Lib.hid ((Q5.out.drew.alloc (.cells #[.int .i64 xk, .int .i64 xv] 44)).grown hgrow (fun q hq => .inr (by have := (owns_lt W5.out q hq).1; omega)))
                            have X6 := Lib.hid (((Only.refl _ _).grown hgrow (fun q hq => .inl (by rw [hq]; simp)) : Only ((Value.slice vo (F k).length vcp).ownBlock.toList) _ w6).keep ((((Only.refl [] w5).drew.alloc _)).keep X5.out (by simp)) (by
                              intro hm
                              cases e : (Value.slice vo (F k).length vcp).ownBlock with
                              | none => rw [e] at hm; cases hm
                              | some q => rw [e] at hm; simp at hm; have := (owns_lt W5.out q e).1; omega))
                            have x06 := cell_blk X6.out 0
                            have xf6 := free_blk X6.out 0
                            simp at x06
                            obtain ⟨vb, vd, rfl⟩ := owns_sl hown
                            clear hown hgrow hblk))
            all_goals
              go_wp2_with fail
              go_roundw
              case rel =>
                refine ⟨k + 1, .slice vb (F k ++ [(xk, xv)]).length vd, by omega, by go_num, ?_, ?_, (Q6.out.setCell (.inr (by omega)) _), ?_⟩
                · have h := blk_setCell X6.out 0 (.slice vb (F k ++ [(xk, xv)]).length vd)
                  simp only [List.setIfInBounds_toArray, List.set_cons_zero] at h
                  first | exact h | (rw [List.length_append] at h ⊢; exact h)
                · rw [HSS.out]
                  exact ownsRow_setCell_below W6.out (by show xb < xb + 1; omega) _
                · have := lt_of_blk X6.out; simp [World.setCell]; omega
              case measure => simp [intOf]; omega
        · obtain rfl : ln = k := by omega
          have FE : Hid (F ln = acts i) := HFn
          have XA := Lib.hid (((BB.out.keep0 QO.out).keep0 ((Only.refl [] wr).alloc (.cells #[.slice vo (F ln).length vcp, .pointer none, .int .i64 0, .int .i64 0, .int .i64 (-1)] 66))).X)
          have hBs := BB.out.hB.2
          have hQs := QO.out.size
          have hi1 : i ≤ 1000 := by omega
          clear cvd
          go_wp2_with (at_builtin; refine wpList_append_ac _ rfl _ _ rfl B0 (.slice xo i xcp) i (acC avs i) rfl XA.out ⟨wr.heap.size, 0, none⟩ [.slice vo (F ln).length vcp, .pointer none, .int .i64 0, .int .i64 0, .int .i64 (-1)] rfl rfl (cells_ac rfl) (by simp [Value.oneCell']) (by omega) (by simp; omega) ?_)
          intro v' w7 hown hgrow
          have NB := Lib.hid (BB.out.next (QO.out.alloc (.cells #[.slice vo (F ln).length vcp, .pointer none, .int .i64 0, .int .i64 0, .int .i64 (-1)] 66)) (av := .slice vo (F ln).length vcp) (by rw [← FE.out]; exact owns_mono (owns_keep WW.out ((Only.refl _ _).alloc _)) (by omega)) hgrow hown)
          have P7 : Hid (Only [] w2 w7) := Lib.hid ((P2.out.then0 (QO.out.alloc _)).grown hgrow (fun q hq => .inr (by have := (owns_lt BB.out.X q hq).1; have := HB0.out; omega)))
          obtain ⟨vb, vd, rfl⟩ := owns_sl hown
          clear hown hgrow
          go_wp2_with fail
          go_roundw
          case rel => exact ⟨i + 1, _, by omega, by go_num, NB.out, P7.out⟩
          case measure => simp [intOf]; omega
    · obtain rfl : n = i := by omega
      obtain ⟨rb, xcap, hxs, hxc, hRG⟩ := BB.out.start hn (c := c) (r := r) (rc := rc) (E2.out.keep P2.out (by simp) (by simp)) ⟨r3, r4, hrr, by omega, by omega⟩
      subst hxs
      obtain ⟨B, hB⟩ : ∃ B, B = wr.heap.size := ⟨_, rfl⟩
      rw [← hB] at hRG
      have hrbB := hRG.lt.2.2.1
      have hrbX := (owns_lt BB.out.X rb rfl).1
      have hqB : qb < B ∧ qb ≠ r ∧ qb ≠ rc ∧ qb ≠ rb := by have := P2.out.size; have := HB0.out; omega
      have SW0 : Hid (SW w wr B n c rb r rc qb (.slice none 0 0) (gstart c acts)) := Lib.hid ⟨⟨_, _, _, _, _, _, hRG⟩, ⟨rfl, .inl ⟨rfl, rfl⟩⟩, P2.out.keep Q2.out (by simp)⟩
      have HQB := Lib.hid hqB
      have hrbl : rb < B := hrbB
      have HBw := Lib.hid (show w.heap.size ≤ B from by rw [hB]; exact BB.out.F.size)
      clear hRG hB hqB hlt BB P2 E2 Q2 S0 hql hrbX hxc hpc ROWS LEN ACT hqr r1 r2 hs12 hsz2 O2 O1 QQ1 hi HIN HB0
      go_wp2_with fail
      go_loopw [13, 14] (fun ov jv wr => ∃ (j : Nat), j ≤ np ∧ jv = .int .i64 j ∧ SW w wr B n c rb r rc qb ov (gpicks (q0 c) (gstart c acts) ((picks.take j).map (modN n)))) (fun _ jv _ => np - (intOf jv).toNat)
      case atStart => exact ⟨0, Nat.zero_le _, rfl, SW0.out⟩
      case round =>
        obtain ⟨j, hj, rfl, hGj⟩ := hrel
        have GJ := Lib.hid hGj
        clear hGj SW0
        by_cases hlt : j < np
        · obtain ⟨pkb, pko, rfl, hcs⟩ := PK.out.ints (by have := NP.out; omega)
          have hcj := hcs j (by have := NP.out; omega)
          obtain ⟨x, hx⟩ : ∃ x, x = picks.getD j 0 := ⟨_, rfl⟩
          rw [← hx] at hcj
          have hcx := GJ.out.F.keepCell hcj (by simp)
          have TK : Hid ((picks.take (j + 1)).map (modN n) = (picks.take j).map (modN n) ++ [modN n x]) := Lib.hid (by
            rw [List.take_succ_eq_append_getElem (by have := NP.out; omega), List.map_append, hx]
            congr 1
            rw [List.getD_eq_getElem?_getD, List.getElem?_eq_getElem (by have := NP.out; omega)]
            rfl)
          have LEN1 : ((picks.take j).map (modN n)).length = j := by rw [List.length_map, List.length_take]; have := NP.out; omega
          obtain ⟨gj, hgj⟩ : ∃ gj, gj = gpicks (q0 c) (gstart c acts) ((picks.take j).map (modN n)) := ⟨_, rfl⟩
          have SPEC := gpicks_spec (c := c) (n := n) ((picks.take j).map (modN n)) (gstart c acts) GXS.out (fun a ha => by
            obtain ⟨y, _, rfl⟩ := List.mem_map.1 ha
            exact modN_lt hn y) (by rw [LEN1]; show 0 + j < _; omega)
          have hcb := gpicks_cb (q := q0 c) ((picks.take j).map (modN n)) (g := gstart c acts) ⟨by simp [gstart], by simp [gstart]⟩
          rw [← hgj] at SPEC hcb GJ
          have GXJ := Lib.hid SPEC.1
          have hpk : gj.pick = j := by rw [SPEC.2.1, LEN1]; show 0 + j = j; omega
          have hcb2 : gj.mem.count ≤ gj.pick := hcb.1
          have hops : gj.ops.length ≤ 100000 := by have := hcb.2; omega
          have HGJ := Lib.hid hgj
          have DR := fun w' => Lib.hid (refDraw_any (n : Int) x w' (by omega))
          rw [drw_mod hn] at DR
          obtain ⟨md, hmd⟩ : ∃ md, md = modN n x := ⟨_, rfl⟩
          have hmn : md < n := by rw [hmd]; exact modN_lt hn x
          rw [← hmd] at DR TK
          have ST := fun w' (o : Only [] wr w') => Lib.hid (sw_step (GJ.out.keep0 o) HQB.out GXJ.out (by omega) hcb2 (by omega) hmn)
          rw [hpk] at ST
          have q0' := cell_blk GJ.out.2.2 0
          have q1' := cell_blk GJ.out.2.2 1
          have q2' := cell_blk GJ.out.2.2 2
          have q3' := cell_blk GJ.out.2.2 3
          simp at q0' q1' q2' q3'
          obtain ⟨oo, ocp, ho⟩ := owns_sl GJ.out.2.1
          subst ho
          obtain ⟨lo, hlo⟩ : ∃ lo, lo = gj.ops.length := ⟨_, rfl⟩
          have HLO := Lib.hid hlo
          have WOP := Lib.hid GJ.out.2.1
          rw [← hlo] at WOP hops ⊢
          have SS : ∀ w', Only [] wr w' → (w'.cell? ⟨qb, 0, none⟩ = some (.int .i64 0) ∧ w'.cell? ⟨qb, 1, none⟩ = some (.int .i64 1) ∧ w'.cell? ⟨qb, 2, none⟩ = some (.int .i64 2) ∧ w'.cell? ⟨qb, 3, none⟩ = some (.int .i64 c)) := fun w' o => ⟨o.keepCell q0' (by simp), o.keepCell q1' (by simp), o.keepCell q2' (by simp), o.keepCell q3' (by simp)⟩
          clear hcs hcj hx hgj SPEC hcb hmd LEN1 hlo
          go_wp2_with fail
          refine (DR _).out.mono ?_; rintro e w3 ⟨rfl, rfl⟩
          go_upto_region 21 with fail
          go_cut [16, 17] (fun s16 s17 wx => ∃ (ob : Nat) (op : HOp) (ok : Bool), s16 = .pointer (some ⟨ob, 0, none⟩) ∧ s17 = .bool ok ∧ wx.heap[ob]? = some (.cells #[.int .i64 op.kind, .int .i64 op.mach, .int .i64 op.frm, .int .i64 op.to, .int .i64 op.code, .int .i64 op.value] 36 (0, 0)) ∧
            SWStep w B n c rb r rc qb (.slice oo lo ocp) gj (gstep (q0 c) gj md) op ok wx)
          case first =>
            have hBs := GJ.out.sz
            go_region_held3 (fun w' => w'.cell? ⟨qb, 0, none⟩ = some (.int .i64 0) ∧ w'.cell? ⟨qb, 1, none⟩ = some (.int .i64 1) ∧ w'.cell? ⟨qb, 2, none⟩ = some (.int .i64 2) ∧ w'.cell? ⟨qb, 3, none⟩ = some (.int .i64 c))
              (first
                | (with_reducible refine SS _ ?_; (repeat (first | with_reducible refine Only.drew ?_ | with_reducible refine Only.alloc ?_ _)); with_reducible exact Only.refl _ _)
                | (with_reducible refine SR2 _ ?_; (repeat (first | with_reducible refine Only.setCell ?_ (.inl (by simp)) _ | with_reducible refine Only.drew ?_)); with_reducible exact Only.refl _ _)
                | (with_reducible refine SR _ ?_; (repeat (first | with_reducible refine Only.drew ?_ | with_reducible refine Only.alloc ?_ _)); with_reducible exact Only.refl _ _))
              ((first
                | (go_at_call 23
                   refine (ST _ (Only.refl _ _).drew).out.mono ?_
                   rintro e w4 ⟨op, ok, rfl, hST, -, -⟩
                   have STP := Lib.hid hST
                   have SR : ∀ w', Only [] w4 w' → (w'.cell? ⟨qb, 0, none⟩ = some (.int .i64 0) ∧ w'.cell? ⟨qb, 1, none⟩ = some (.int .i64 1) ∧ w'.cell? ⟨qb, 2, none⟩ = some (.int .i64 2) ∧ w'.cell? ⟨qb, 3, none⟩ = some (.int .i64 c)) := fun w' o => by
                     have h := o.keep STP.out.2.2.1 (by simp)
                     exact ⟨by rw [cell_blk h]; rfl, by rw [cell_blk h]; rfl, by rw [cell_blk h]; rfl, by rw [cell_blk h]; rfl⟩
                   clear hST
                   obtain ⟨z0, z1, z2, z3, z4, z5⟩ := op
                   simp only [HOp.v])
                | (go_at_call 23
                   refine (ST _ ((Only.refl _ _).drew.alloc _)).out.mono ?_
                   rintro e w4 ⟨op, ok, rfl, hST, hK, hsz4⟩
                   have STP := Lib.hid hST
                   have Z4 := Lib.hid (hK wr.heap.size _ _ hBs (blk_alloc_new wr.drew _))
                   have SR2 : ∀ w', Only [wr.heap.size] w4 w' → (w'.cell? ⟨qb, 0, none⟩ = some (.int .i64 0) ∧ w'.cell? ⟨qb, 1, none⟩ = some (.int .i64 1) ∧ w'.cell? ⟨qb, 2, none⟩ = some (.int .i64 2) ∧ w'.cell? ⟨qb, 3, none⟩ = some (.int .i64 c)) := fun w' o => by
                     have h := o.keep STP.out.2.2.1 (by have := HQB.out.1; simp; omega)
                     exact ⟨by rw [cell_blk h]; rfl, by rw [cell_blk h]; rfl, by rw [cell_blk h]; rfl, by rw [cell_blk h]; rfl⟩
                   have SR : ∀ w', Only [] w4 w' → (w'.cell? ⟨qb, 0, none⟩ = some (.int .i64 0) ∧ w'.cell? ⟨qb, 1, none⟩ = some (.int .i64 1) ∧ w'.cell? ⟨qb, 2, none⟩ = some (.int .i64 2) ∧ w'.cell? ⟨qb, 3, none⟩ = some (.int .i64 c)) := fun w' o => SR2 w' (o.mono (by simp))
                   have y0 := cell_blk Z4.out 0
                   have y1 := cell_blk Z4.out 1
                   have y2 := cell_blk Z4.out 2
                   have y3 := cell_blk Z4.out 3
                   have y4 := cell_blk Z4.out 4
                   have y5 := cell_blk Z4.out 5
                   have yf := fun q => free_blk Z4.out q
                   simp at y0 y1 y2 y3 y4 y5
                   clear hST hK
                   obtain ⟨z0, z1, z2, z3, z4, z5⟩ := op
                   simp only [HOp.v])))
            all_goals
              go_wp2_with fail
              go_meet
            · exact ⟨_, ⟨z0, z1, z2, z3, z4, z5⟩, ok, rfl, rfl, blk_alloc_new w4 _, by rw [HLO.out]; exact STP.out.keep0 ((Only.refl _ _).alloc _)⟩
            · have g0 := blk_setCell Z4.out 0 (.int .i64 z0)
              have g1 := blk_setCell g0 1 (.int .i64 z1)
              have g2 := blk_setCell g1 2 (.int .i64 z2)
              have g3 := blk_setCell g2 3 (.int .i64 z3)
              have g4 := blk_setCell g3 4 (.int .i64 z4)
              have g5 := blk_setCell g4 5 (.int .i64 z5)
              simp only [List.setIfInBounds_toArray, List.set_cons_zero, List.set_cons_succ] at g5
              exact ⟨wr.heap.size, ⟨z0, z1, z2, z3, z4, z5⟩, ok, rfl, rfl, g5, by rw [HLO.out]; exact STP.out.keepB (z := wr.heap.size) (((((((Only.refl [wr.heap.size] w4).setCell (.inl (by simp)) _).setCell (.inl (by simp)) _).setCell (.inl (by simp)) _).setCell (.inl (by simp)) _).setCell (.inl (by simp)) _).setCell (.inl (by simp)) _) hBs Z4.out HQB.out.1 (fun q hq => by have := (owns_lt GJ.out.2.1 q hq).2; omega)⟩
          case rest =>
            obtain ⟨ob, op, ok, rfl, rfl, hOB, hST⟩ := hcut
            have OB := Lib.hid hOB
            have STP := Lib.hid hST
            clear hOB hST q0' q1' q2' q3' SS
            cases ok with
            | false =>
              go_wp2_with fail
              go_roundw
              case rel => exact ⟨j + 1, by omega, by go_num, by rw [TK.out, gpicks_snoc, ← HGJ.out]; exact STP.out.no⟩
              case measure => simp [intOf]; omega
            | true =>
              have e0 := cell_blk OB.out 0
              have e1 := cell_blk OB.out 1
              have e2 := cell_blk OB.out 2
              have e3 := cell_blk OB.out 3
              have e4 := cell_blk OB.out 4
              have e5 := cell_blk OB.out 5
              simp at e0 e1 e2 e3 e4 e5
              obtain ⟨z0, z1, z2, z3, z4, z5⟩ := op
              simp only at e0 e1 e2 e3 e4 e5
              have hBw2 : B ≤ wc.heap.size := by
                obtain ⟨⟨_, _, _, _, _, _, hh⟩, _⟩ := STP.out
                exact hh.lt.2.2.2.2.2.2.2.2.2
              go_wp2_with (at_builtin; refine wpList_append_opC _ rfl _ _ rfl B (.slice oo lo ocp) lo gj.ops HLO.out rfl (by have h := owns_keep STP.out.2.1 ((Only.refl [] wc).alloc (.cells #[.int .i64 z0, .int .i64 z1, .int .i64 z2, .int .i64 z3, .int .i64 z4, .int .i64 z5] 36)); rw [← HLO.out] at h; exact h) ⟨wc.heap.size, 0, none⟩ ⟨z0, z1, z2, z3, z4, z5⟩ rfl (cells_newO ⟨z0, z1, z2, z3, z4, z5⟩ rfl) (by have := HLO.out; omega) (by simp; omega) ?_)
              intro v' w6 hown hgrow
              have NX := Lib.hid (STP.out.yes ((Only.refl [] wc).alloc _) hgrow (by rw [List.length_append]; exact hown) HQB.out.1)
              obtain ⟨vb, vd, rfl⟩ := owns_sl hown
              clear hown hgrow
              go_wp2_with fail
              go_roundw
              case rel => exact ⟨j + 1, by omega, by go_num, by rw [TK.out, gpicks_snoc, ← HGJ.out]; exact NX.out⟩
              case measure => simp [intOf]; omega
        · obtain rfl : np = j := by omega
          have PKA : Hid (picks.take np = picks) := Lib.hid (by rw [NP.out, List.take_length])
          rw [PKA.out] at GJ
          clear hlt hj PKA
          obtain ⟨gP, hgP⟩ : ∃ gP, gP = gpicks (q0 c) (gstart c acts) (picks.map (modN n)) := ⟨_, rfl⟩
          have BND := gp_bound (n := n) (picks := picks.map (modN n)) GXS.out (fun a ha => by
            obtain ⟨y, _, rfl⟩ := List.mem_map.1 ha
            exact modN_lt hn y) (by rw [List.length_map, ← NP.out]; exact HB.out)
          have SPEC := gpicks_spec (c := c) (n := n) (picks.map (modN n)) (gstart c acts) GXS.out (fun a ha => by
            obtain ⟨y, _, rfl⟩ := List.mem_map.1 ha
            exact modN_lt hn y) (by rw [List.length_map]; show 0 + _ < _; have := NP.out; omega)
          have hcb0 := gpicks_cb (q := q0 c) (picks.map (modN n)) (g := gstart c acts) ⟨by simp [gstart], by simp [gstart]⟩
          have OPS : Hid (gplay c n acts (picks.map (modN n)) = (gall (q0 c) gP n).ops) := Lib.hid (by rw [hgP]; rfl)
          have hpk : (gpicks (q0 c) (gstart c acts) (picks.map (modN n))).pick = np := by rw [SPEC.2.1, List.length_map, ← NP.out]; show 0 + np = np; omega
          rw [← hgP] at BND hcb0 GJ hpk
          have GS := Lib.hid (gall_spec BND.1 (n := n) BND.2)
          have BN := Lib.hid BND.2
          have CBA := Lib.hid (gall_cb (q := q0 c) hcb0)
          have HPP := Lib.hid hpk
          clear BND hcb0 hgP SPEC hpk
          go_wp2_with fail
          go_loopw [13, 14, 18] (fun ov jv iv wr => ∃ (k : Nat), k ≤ n ∧ iv = .int .i64 k ∧ SW w wr B n c rb r rc qb ov (gall (q0 c) gP k) ∧ jv = .int .i64 ((gall (q0 c) gP k).pick : Nat)) (fun _ _ iv _ => n - (intOf iv).toNat)
          case atStart => exact ⟨0, Nat.zero_le _, rfl, GJ.out, by show _ = Value.int .i64 (gP.pick : Nat); rw [HPP.out]⟩
          case round =>
            obtain ⟨k, hk, rfl, hGk, rfl⟩ := hrel
            have GK := Lib.hid hGk
            clear hGk GJ
            obtain ⟨pk0, hpk0⟩ : ∃ pk0, pk0 = (gall (q0 c) gP k).pick := ⟨_, rfl⟩
            rw [← hpk0]
            have HPK := Lib.hid hpk0
            obtain ⟨oo0, ocp0, ho0⟩ := owns_sl GK.out.2.1
            subst ho0
            obtain ⟨lo0, hlo0⟩ : ∃ lo0, lo0 = (gall (q0 c) gP k).ops.length := ⟨_, rfl⟩
            rw [← hlo0]
            have HLO0 := Lib.hid hlo0
            clear hpk0 hlo0
            by_cases hlt : k < n
            · have GSK := Lib.hid (GS.out k hk)
              obtain ⟨T, hT⟩ : ∃ T, T = gall (q0 c) gP (k + 1) := ⟨_, rfl⟩
              have HT := Lib.hid hT
              have HT2 : Hid (gdrain (q0 c) k ((gall (q0 c) gP k).acs k).work (gall (q0 c) gP k) = T) := Lib.hid (by rw [hT]; rfl)
              have PBd : Hid ((gall (q0 c) gP k).pick + ((gall (q0 c) gP k).acs k).work < 900000) := Lib.hid (by
                have h1 := GSK.out.2.2.2.1
                have h2 := GSK.out.2.2.1 k (Nat.le_refl _)
                have h3 := sumL_mono (f := fun a => (gP.acs a).work) (n := k + 1) n (by omega)
                have h4 := BN.out
                unfold Gm.cost at h4
                rw [sumL] at h3
                rw [h2]
                omega)
              clear hT
              go_wp2_with fail
              go_loopw [13, 14] (fun ov jv wr => ∃ (f : Nat) (g' : Gm), SW w wr B n c rb r rc qb ov g' ∧ jv = .int .i64 (g'.pick : Nat) ∧ GX c g' ∧ (g'.mem.count ≤ g'.pick ∧ g'.ops.length ≤ g'.pick) ∧ gdrain (q0 c) k f g' = T ∧ (g'.acs k).work ≤ f ∧ g'.pick + f < 900000) (fun _ jv _ => 900000 - (intOf jv).toNat)
              case atStart => exact ⟨_, _, by rw [HLO0.out]; exact GK.out, by rw [HPK.out], GSK.out.1, CBA.out k, HT2.out, Nat.le_refl _, PBd.out⟩
              case round =>
                obtain ⟨f, g', h1, rfl, h2, h3, h4, h5, h6⟩ := hrel
                have GJ := Lib.hid h1
                have G2 := Lib.hid h2
                have G3 := Lib.hid h3
                have G4 := Lib.hid h4
                have h5' := Lib.hid h5
                have h6' := Lib.hid h6
                obtain ⟨oo, ocp, ho⟩ := owns_sl h1.2.1
                subst ho
                obtain ⟨lo, hlo⟩ : ∃ lo, lo = g'.ops.length := ⟨_, rfl⟩
                have HLO := Lib.hid hlo
                rw [← hlo]
                have hops : lo ≤ 900000 := by rw [hlo]; omega
                have hcA : ∃ (ao : Option Addr) (cp : Nat), wr.cell? ⟨rb, k * 5, none⟩ = some (.slice ao (g'.acs k).acts.length cp) ∧ wr.cell? ⟨rb, k * 5 + 4, none⟩ = some (.int .i64 (sinceOf (g'.acs k))) := by
                  obtain ⟨⟨_, _, _, _, _, _, hh⟩, _⟩ := h1
                  obtain ⟨c0, _, _, _, c4⟩ := hh.A k hlt
                  obtain ⟨ao, cp, e, _⟩ := hh.V k hlt
                  exact ⟨ao, cp, by rw [c0, e], c4⟩
                obtain ⟨aao, acp, ca0, ca4⟩ := hcA
                obtain ⟨p, hp⟩ : ∃ p, p = g'.pick := ⟨_, rfl⟩
                have HPg := Lib.hid hp
                have hp9 : p < 900000 := by omega
                rw [← hp]
                have q0' := cell_blk h1.2.2 0
                have q1' := cell_blk h1.2.2 1
                have q2' := cell_blk h1.2.2 2
                have q3' := cell_blk h1.2.2 3
                simp at q0' q1' q2' q3'
                have ST := fun w' (o : Only [] wr w') => Lib.hid (sw_step (GJ.out.keep0 o) HQB.out h2 (by omega) h3.1 (by omega) hlt)
                rw [← hp] at ST
                have SS : ∀ w', Only [] wr w' → (w'.cell? ⟨qb, 0, none⟩ = some (.int .i64 0) ∧ w'.cell? ⟨qb, 1, none⟩ = some (.int .i64 1) ∧ w'.cell? ⟨qb, 2, none⟩ = some (.int .i64 2) ∧ w'.cell? ⟨qb, 3, none⟩ = some (.int .i64 c)) := fun w' o => ⟨o.keepCell q0' (by simp), o.keepCell q1' (by simp), o.keepCell q2' (by simp), o.keepCell q3' (by simp)⟩
                have RELN : ∀ (ov : Value) (w' : World), SW w w' B n c rb r rc qb ov (gstep (q0 c) g' k) → (g'.acs k).idle = false → ∃ (f2 : Nat) (g2 : Gm), SW w w' B n c rb r rc qb ov g2 ∧ Value.int .i64 ((p : Int) + 1) = .int .i64 (g2.pick : Nat) ∧ GX c g2 ∧ (g2.mem.count ≤ g2.pick ∧ g2.ops.length ≤ g2.pick) ∧ gdrain (q0 c) k f2 g2 = T ∧ (g2.acs k).work ≤ f2 ∧ g2.pick + f2 < 900000 := fun ov w' hsw hid => by
                  have hw := gstep_work (q := q0 c) (g := g') (a := k) (fun k2 o2 e => ⟨(G2.out.live k k2 o2 e).1, (G2.out.live k k2 o2 e).2.1⟩) hid
                  have h50 := h5'.out
                  have h60 := h6'.out
                  have h70 := G4.out
                  cases f with
                  | zero => omega
                  | succ f =>
                    rw [gdrain, if_neg (by rw [hid]; simp)] at h70
                    exact ⟨f, _, hsw, by rw [gstep_pick, HPg.out]; rfl, G2.out.gstep (by omega) k, gstep_cb G3.out, h70, by omega, by rw [gstep_pick]; omega⟩
                have RN := Lib.hid RELN
                clear RELN
                obtain ⟨sc, hsc⟩ : ∃ sc, sc = sinceOf (g'.acs k) := ⟨_, rfl⟩
                obtain ⟨la, hla⟩ : ∃ la, la = (g'.acs k).acts.length := ⟨_, rfl⟩
                rw [← hsc] at ca4
                rw [← hla] at ca0
                by_cases hid : (g'.acs k).idle = true
                · have hz : sc = -1 ∧ la = 0 := by
                    unfold Ac.idle at hid
                    rw [Bool.and_eq_true, Option.isNone_iff_eq_none, List.isEmpty_iff] at hid
                    rw [hsc, hla]
                    unfold sinceOf
                    rw [hid.1, hid.2]
                    exact ⟨rfl, rfl⟩
                  obtain ⟨rfl, rfl⟩ := hz
                  have TG : Hid (g' = gall (q0 c) gP (k + 1)) := Lib.hid (by rw [← HT.out, ← G4.out, gdrain_idle hid])
                  clear hsc hla hid ST SS h1 h2 h3 h4 h5 h6 hlo hp
                  go_wp2_with fail
                  go_roundw
                  case rel => exact ⟨k + 1, by omega, by go_num, by rw [← TG.out]; rw [HLO.out]; exact GJ.out, by rw [← TG.out, HPg.out]⟩
                  case measure => simp [intOf]; omega
                · have HID : Hid ((g'.acs k).idle = false) := Lib.hid (by simpa using hid)
                  have hways : 0 ≤ sc ∨ (sc = -1 ∧ 0 < la) := by
                    cases hn : (g'.acs k).now with
                    | some ko =>
                      left
                      have := (h2.kinds (k := ko.1) (o := ko.2) hn).2
                      rw [hsc]; unfold sinceOf; rw [hn]; exact this
                    | none =>
                      right
                      refine ⟨by rw [hsc]; unfold sinceOf; rw [hn], ?_⟩
                      rw [hla]
                      cases hx : (g'.acs k).acts with
                      | cons x r => simp
                      | nil => exact absurd (by unfold Ac.idle; rw [hn, hx]; rfl) hid
                  clear hsc hla hid h1 h2 h3 h4 h5 h6 hlo hp
                  rcases hways with hs0 | ⟨rfl, hs0⟩
                  · skip
                    go_upto_region 28 with fail
                    go_cut [19, 20] (fun s16 s17 wx => ∃ (ob : Nat) (op : HOp) (ok : Bool), s16 = .pointer (some ⟨ob, 0, none⟩) ∧ s17 = .bool ok ∧ wx.heap[ob]? = some (.cells #[.int .i64 op.kind, .int .i64 op.mach, .int .i64 op.frm, .int .i64 op.to, .int .i64 op.code, .int .i64 op.value] 36 (0, 0)) ∧
                      SWStep w B n c rb r rc qb (.slice oo lo ocp) g' (gstep (q0 c) g' k) op ok wx)
                    case first =>
                      have hBs := GJ.out.sz
                      go_region_held3 (fun w' => w'.cell? ⟨qb, 0, none⟩ = some (.int .i64 0) ∧ w'.cell? ⟨qb, 1, none⟩ = some (.int .i64 1) ∧ w'.cell? ⟨qb, 2, none⟩ = some (.int .i64 2) ∧ w'.cell? ⟨qb, 3, none⟩ = some (.int .i64 c))
                        (first
                          | (with_reducible refine SS _ ?_; (repeat (first | with_reducible refine Only.drew ?_ | with_reducible refine Only.alloc ?_ _)); with_reducible exact Only.refl _ _)
                          | (with_reducible refine SR2 _ ?_; (repeat (first | with_reducible refine Only.setCell ?_ (.inl (by simp)) _ | with_reducible refine Only.drew ?_)); with_reducible exact Only.refl _ _)
                          | (with_reducible refine SR _ ?_; (repeat (first | with_reducible refine Only.drew ?_ | with_reducible refine Only.alloc ?_ _)); with_reducible exact Only.refl _ _))
                        ((first
                          | (go_at_call 23
                             refine (ST _ (Only.refl _ _).drew).out.mono ?_
                             rintro e w4 ⟨op, ok, rfl, hST, -, -⟩
                             have STP := Lib.hid hST
                             have SR : ∀ w', Only [] w4 w' → (w'.cell? ⟨qb, 0, none⟩ = some (.int .i64 0) ∧ w'.cell? ⟨qb, 1, none⟩ = some (.int .i64 1) ∧ w'.cell? ⟨qb, 2, none⟩ = some (.int .i64 2) ∧ w'.cell? ⟨qb, 3, none⟩ = some (.int .i64 c)) := fun w' o => by
                               have h := o.keep STP.out.2.2.1 (by simp)
                               exact ⟨by rw [cell_blk h]; rfl, by rw [cell_blk h]; rfl, by rw [cell_blk h]; rfl, by rw [cell_blk h]; rfl⟩
                             clear hST
                             obtain ⟨z0, z1, z2, z3, z4, z5⟩ := op
                             simp only [HOp.v])
                          | (go_at_call 23
                             refine (ST _ ((Only.refl _ _).drew.alloc _)).out.mono ?_
                             rintro e w4 ⟨op, ok, rfl, hST, hK, hsz4⟩
                             have STP := Lib.hid hST
                             have Z4 := Lib.hid (hK wr.heap.size _ _ hBs (blk_alloc_new wr.drew _))
                             have SR2 : ∀ w', Only [wr.heap.size] w4 w' → (w'.cell? ⟨qb, 0, none⟩ = some (.int .i64 0) ∧ w'.cell? ⟨qb, 1, none⟩ = some (.int .i64 1) ∧ w'.cell? ⟨qb, 2, none⟩ = some (.int .i64 2) ∧ w'.cell? ⟨qb, 3, none⟩ = some (.int .i64 c)) := fun w' o => by
                               have h := o.keep STP.out.2.2.1 (by have := HQB.out.1; simp; omega)
                               exact ⟨by rw [cell_blk h]; rfl, by rw [cell_blk h]; rfl, by rw [cell_blk h]; rfl, by rw [cell_blk h]; rfl⟩
                             have SR : ∀ w', Only [] w4 w' → (w'.cell? ⟨qb, 0, none⟩ = some (.int .i64 0) ∧ w'.cell? ⟨qb, 1, none⟩ = some (.int .i64 1) ∧ w'.cell? ⟨qb, 2, none⟩ = some (.int .i64 2) ∧ w'.cell? ⟨qb, 3, none⟩ = some (.int .i64 c)) := fun w' o => SR2 w' (o.mono (by simp))
                             have y0 := cell_blk Z4.out 0
                             have y1 := cell_blk Z4.out 1
                             have y2 := cell_blk Z4.out 2
                             have y3 := cell_blk Z4.out 3
                             have y4 := cell_blk Z4.out 4
                             have y5 := cell_blk Z4.out 5
                             have yf := fun q => free_blk Z4.out q
                             simp at y0 y1 y2 y3 y4 y5
                             clear hST hK
                             obtain ⟨z0, z1, z2, z3, z4, z5⟩ := op
                             simp only [HOp.v])))
                      all_goals
                        go_wp2_with fail
                        go_meet
                      · exact ⟨_, ⟨z0, z1, z2, z3, z4, z5⟩, ok, rfl, rfl, blk_alloc_new w4 _, by rw [HLO.out]; exact STP.out.keep0 ((Only.refl _ _).alloc _)⟩
                      · have g0 := blk_setCell Z4.out 0 (.int .i64 z0)
                        have g1 := blk_setCell g0 1 (.int .i64 z1)
                        have g2 := blk_setCell g1 2 (.int .i64 z2)
                        have g3 := blk_setCell g2 3 (.int .i64 z3)
                        have g4 := blk_setCell g3 4 (.int .i64 z4)
                        have g5 := blk_setCell g4 5 (.int .i64 z5)
                        simp only [List.setIfInBounds_toArray, List.set_cons_zero, List.set_cons_succ] at g5
                        exact ⟨wr.heap.size, ⟨z0, z1, z2, z3, z4, z5⟩, ok, rfl, rfl, g5, by rw [HLO.out]; exact STP.out.keepB (z := wr.heap.size) (((((((Only.refl [wr.heap.size] w4).setCell (.inl (by simp)) _).setCell (.inl (by simp)) _).setCell (.inl (by simp)) _).setCell (.inl (by simp)) _).setCell (.inl (by simp)) _).setCell (.inl (by simp)) _) hBs Z4.out HQB.out.1 (fun q hq => by have := (owns_lt GJ.out.2.1 q hq).2; omega)⟩
                    case rest =>
                      obtain ⟨ob, op, ok, rfl, rfl, hOB, hST⟩ := hcut
                      have OB := Lib.hid hOB
                      have STP := Lib.hid hST
                      clear hOB hST q0' q1' q2' q3' SS
                      cases ok with
                      | false =>
                        go_wp2_with fail
                        go_roundw
                        case rel => exact RN.out _ _ STP.out.no HID.out
                        case measure => have h8 := gstep_pick (q0 c) g' k; simp [intOf]; omega
                      | true =>
                        have e0 := cell_blk OB.out 0
                        have e1 := cell_blk OB.out 1
                        have e2 := cell_blk OB.out 2
                        have e3 := cell_blk OB.out 3
                        have e4 := cell_blk OB.out 4
                        have e5 := cell_blk OB.out 5
                        simp at e0 e1 e2 e3 e4 e5
                        obtain ⟨z0, z1, z2, z3, z4, z5⟩ := op
                        simp only at e0 e1 e2 e3 e4 e5
                        have hBw2 : B ≤ wc.heap.size := by
                          obtain ⟨⟨_, _, _, _, _, _, hh⟩, _⟩ := STP.out
                          exact hh.lt.2.2.2.2.2.2.2.2.2
                        go_wp2_with (at_builtin; refine wpList_append_opC _ rfl _ _ rfl B (.slice oo lo ocp) lo g'.ops HLO.out rfl (by have h := owns_keep STP.out.2.1 ((Only.refl [] wc).alloc (.cells #[.int .i64 z0, .int .i64 z1, .int .i64 z2, .int .i64 z3, .int .i64 z4, .int .i64 z5] 36)); rw [← HLO.out] at h; exact h) ⟨wc.heap.size, 0, none⟩ ⟨z0, z1, z2, z3, z4, z5⟩ rfl (cells_newO ⟨z0, z1, z2, z3, z4, z5⟩ rfl) (by have := HLO.out; omega) (by simp; omega) ?_)
                        intro v' w6 hown hgrow
                        have NX := Lib.hid (STP.out.yes ((Only.refl [] wc).alloc _) hgrow (by rw [List.length_append]; exact hown) HQB.out.1)
                        obtain ⟨vb, vd, rfl⟩ := owns_sl hown
                        clear hown hgrow
                        go_wp2_with fail
                        go_roundw
                        case rel => exact RN.out _ _ NX.out HID.out
                        case measure => have h8 := gstep_pick (q0 c) g' k; simp [intOf]; omega
                  · skip
                    go_upto_region 28 with fail
                    go_cut [19, 20] (fun s16 s17 wx => ∃ (ob : Nat) (op : HOp) (ok : Bool), s16 = .pointer (some ⟨ob, 0, none⟩) ∧ s17 = .bool ok ∧ wx.heap[ob]? = some (.cells #[.int .i64 op.kind, .int .i64 op.mach, .int .i64 op.frm, .int .i64 op.to, .int .i64 op.code, .int .i64 op.value] 36 (0, 0)) ∧
                      SWStep w B n c rb r rc qb (.slice oo lo ocp) g' (gstep (q0 c) g' k) op ok wx)
                    case first =>
                      have hBs := GJ.out.sz
                      go_region_held3 (fun w' => w'.cell? ⟨qb, 0, none⟩ = some (.int .i64 0) ∧ w'.cell? ⟨qb, 1, none⟩ = some (.int .i64 1) ∧ w'.cell? ⟨qb, 2, none⟩ = some (.int .i64 2) ∧ w'.cell? ⟨qb, 3, none⟩ = some (.int .i64 c))
                        (first
                          | (with_reducible refine SS _ ?_; (repeat (first | with_reducible refine Only.drew ?_ | with_reducible refine Only.alloc ?_ _)); with_reducible exact Only.refl _ _)
                          | (with_reducible refine SR2 _ ?_; (repeat (first | with_reducible refine Only.setCell ?_ (.inl (by simp)) _ | with_reducible refine Only.drew ?_)); with_reducible exact Only.refl _ _)
                          | (with_reducible refine SR _ ?_; (repeat (first | with_reducible refine Only.drew ?_ | with_reducible refine Only.alloc ?_ _)); with_reducible exact Only.refl _ _))
                        ((first
                          | (go_at_call 23
                             refine (ST _ (Only.refl _ _).drew).out.mono ?_
                             rintro e w4 ⟨op, ok, rfl, hST, -, -⟩
                             have STP := Lib.hid hST
                             have SR : ∀ w', Only [] w4 w' → (w'.cell? ⟨qb, 0, none⟩ = some (.int .i64 0) ∧ w'.cell? ⟨qb, 1, none⟩ = some (.int .i64 1) ∧ w'.cell? ⟨qb, 2, none⟩ = some (.int .i64 2) ∧ w'.cell? ⟨qb, 3, none⟩ = some (.int .i64 c)) := fun w' o => by
                               have h := o.keep STP.out.2.2.1 (by simp)
                               exact ⟨by rw [cell_blk h]; rfl, by rw [cell_blk h]; rfl, by rw [cell_blk h]; rfl, by rw [cell_blk h]; rfl⟩
                             clear hST
                             obtain ⟨z0, z1, z2, z3, z4, z5⟩ := op
                             simp only [HOp.v])
                          | (go_at_call 23
                             refine (ST _ ((Only.refl _ _).drew.alloc _)).out.mono ?_
                             rintro e w4 ⟨op, ok, rfl, hST, hK, hsz4⟩
                             have STP := Lib.hid hST
                             have Z4 := Lib.hid (hK wr.heap.size _ _ hBs (blk_alloc_new wr.drew _))
                             have SR2 : ∀ w', Only [wr.heap.size] w4 w' → (w'.cell? ⟨qb, 0, none⟩ = some (.int .i64 0) ∧ w'.cell? ⟨qb, 1, none⟩ = some (.int .i64 1) ∧ w'.cell? ⟨qb, 2, none⟩ = some (.int .i64 2) ∧ w'.cell? ⟨qb, 3, none⟩ = some (.int .i64 c)) := fun w' o => by
                               have h := o.keep STP.out.2.2.1 (by have := HQB.out.1; simp; omega)
                               exact ⟨by rw [cell_blk h]; rfl, by rw [cell_blk h]; rfl, by rw [cell_blk h]; rfl, by rw [cell_blk h]; rfl⟩
                             have SR : ∀ w', Only [] w4 w' → (w'.cell? ⟨qb, 0, none⟩ = some (.int .i64 0) ∧ w'.cell? ⟨qb, 1, none⟩ = some (.int .i64 1) ∧ w'.cell? ⟨qb, 2, none⟩ = some (.int .i64 2) ∧ w'.cell? ⟨qb, 3, none⟩ = some (.int .i64 c)) := fun w' o => SR2 w' (o.mono (by simp))
                             have y0 := cell_blk Z4.out 0
                             have y1 := cell_blk Z4.out 1
                             have y2 := cell_blk Z4.out 2
                             have y3 := cell_blk Z4.out 3
                             have y4 := cell_blk Z4.out 4
                             have y5 := cell_blk Z4.out 5
                             have yf := fun q => free_blk Z4.out q
                             simp at y0 y1 y2 y3 y4 y5
                             clear hST hK
                             obtain ⟨z0, z1, z2, z3, z4, z5⟩ := op
                             simp only [HOp.v])))
                      all_goals
                        go_wp2_with fail
                        go_meet
                      · exact ⟨_, ⟨z0, z1, z2, z3, z4, z5⟩, ok, rfl, rfl, blk_alloc_new w4 _, by rw [HLO.out]; exact STP.out.keep0 ((Only.refl _ _).alloc _)⟩
                      · have g0 := blk_setCell Z4.out 0 (.int .i64 z0)
                        have g1 := blk_setCell g0 1 (.int .i64 z1)
                        have g2 := blk_setCell g1 2 (.int .i64 z2)
                        have g3 := blk_setCell g2 3 (.int .i64 z3)
                        have g4 := blk_setCell g3 4 (.int .i64 z4)
                        have g5 := blk_setCell g4 5 (.int .i64 z5)
                        simp only [List.setIfInBounds_toArray, List.set_cons_zero, List.set_cons_succ] at g5
                        exact ⟨wr.heap.size, ⟨z0, z1, z2, z3, z4, z5⟩, ok, rfl, rfl, g5, by rw [HLO.out]; exact STP.out.keepB (z := wr.heap.size) (((((((Only.refl [wr.heap.size] w4).setCell (.inl (by simp)) _).setCell (.inl (by simp)) _).setCell (.inl (by simp)) _).setCell (.inl (by simp)) _).setCell (.inl (by simp)) _).setCell (.inl (by simp)) _) hBs Z4.out HQB.out.1 (fun q hq => by have := (owns_lt GJ.out.2.1 q hq).2; omega)⟩
                    case rest =>
                      obtain ⟨ob, op, ok, rfl, rfl, hOB, hST⟩ := hcut
                      have OB := Lib.hid hOB
                      have STP := Lib.hid hST
                      clear hOB hST q0' q1' q2' q3' SS
                      cases ok with
                      | false =>
                        go_wp2_with fail
                        go_roundw
                        case rel => exact RN.out _ _ STP.out.no HID.out
                        case measure => have h8 := gstep_pick (q0 c) g' k; simp [intOf]; omega
                      | true =>
                        have e0 := cell_blk OB.out 0
                        have e1 := cell_blk OB.out 1
                        have e2 := cell_blk OB.out 2
                        have e3 := cell_blk OB.out 3
                        have e4 := cell_blk OB.out 4
                        have e5 := cell_blk OB.out 5
                        simp at e0 e1 e2 e3 e4 e5
                        obtain ⟨z0, z1, z2, z3, z4, z5⟩ := op
                        simp only at e0 e1 e2 e3 e4 e5
                        have hBw2 : B ≤ wc.heap.size := by
                          obtain ⟨⟨_, _, _, _, _, _, hh⟩, _⟩ := STP.out
                          exact hh.lt.2.2.2.2.2.2.2.2.2
                        go_wp2_with (at_builtin; refine wpList_append_opC _ rfl _ _ rfl B (.slice oo lo ocp) lo g'.ops HLO.out rfl (by have h := owns_keep STP.out.2.1 ((Only.refl [] wc).alloc (.cells #[.int .i64 z0, .int .i64 z1, .int .i64 z2, .int .i64 z3, .int .i64 z4, .int .i64 z5] 36)); rw [← HLO.out] at h; exact h) ⟨wc.heap.size, 0, none⟩ ⟨z0, z1, z2, z3, z4, z5⟩ rfl (cells_newO ⟨z0, z1, z2, z3, z4, z5⟩ rfl) (by have := HLO.out; omega) (by simp; omega) ?_)
                        intro v' w6 hown hgrow
                        have NX := Lib.hid (STP.out.yes ((Only.refl [] wc).alloc _) hgrow (by rw [List.length_append]; exact hown) HQB.out.1)
                        obtain ⟨vb, vd, rfl⟩ := owns_sl hown
                        clear hown hgrow
                        go_wp2_with fail
                        go_roundw
                        case rel => exact RN.out _ _ NX.out HID.out
                        case measure => have h8 := gstep_pick (q0 c) g' k; simp [intOf]; omega
            · obtain rfl : n = k := by omega
              clear hlt
              go_wp2_with fail
              go_ret
              refine ⟨_, rfl, ?_, GK.out.F⟩
              rw [OPS.out]
              have h := owns_mono GK.out.2.1 HBw.out
              rw [← HLO0.out] at h ⊢
              exact h
end Go.Proofs.YtfhkhknnoepfeaaGreat
