/- The decoder's numbers: Coder.Number. No condition beside those named. -/
import Derived.Test.YtncnepmgmphanaaGreatDoorMg07
import Derived.Test.YtncnepmgmphanaaGreatDoorMg06
set_option linter.unusedVariables false
set_option linter.unusedSimpArgs false
set_option linter.unusedSectionVars false
namespace Go.Proofs.YtncnepmgmphanaaGreatDoor
section
open Go.RowKit
def BytesAt (w : World) (ao : Option Addr) (n : Nat) : Prop := ∀ i : Nat, i < n → ∃ b off : Nat, ao = some ⟨b, off, none⟩ ∧ ∃ z : Int, w.cell? ⟨b, off + i, none⟩ = some (.int .u8 z) ∧ 0 ≤ z ∧ z ≤ 255
theorem BytesAt.keep {w w' : World} {ao : Option Addr} {n : Nat} (h : BytesAt w ao n) (g : Eff (fun k _ _ => w.heap.size ≤ k) w w') : BytesAt w' ao n := fun i hi => by
 obtain ⟨b, off, rfl, z, h1, h2⟩ := h i hi
 refine ⟨b, off, rfl, z, ?_, h2⟩
 have hl : b < w.heap.size := lt_of_cell h1
 rw [← h1]
 unfold World.cell?
 cases hh : w.heap[b]? with
 | none =>
   unfold World.cell? at h1
   rw [hh] at h1
   simp at h1
 | some o =>
   simp only
   rw [g.blk hh fun T j hx => by omega]
set_option maxRecDepth 100000 in
set_option maxHeartbeats 2000000 in
theorem SX (w : World) {kb n cap pos : Nat} {m : Int} {ao : Option Addr} {s1 s3 : Value} (hb : w.heap[kb]? = some (.cells #[.slice ao n cap, s1, .int .i64 pos, s3] 121 (0, 0))) (hbs : BytesAt w ao n) (hm : 0 < m) (hm2 : m ≤ 1000) (hp : pos ≤ 1000000) (hn : n ≤ 68719476736) :
   Calls Tryz.prog 55 #[.pointer (some ⟨kb, 0, none⟩), .int .i64 m] w fun e w' => ∃ r : Int, e = .returned (.int .i64 r) ∧ 0 ≤ r ∧ r < m ∧ Eff (fun k _ _ => k = kb) w w' ∧ w'.heap[kb]? = some (.cells #[.slice ao n cap, s1, .int .i64 (pos + 1 : Nat), s3] 121 (0, 0)) ∧ w'.heap.size = w.heap.size ∧ ∀ k, k ≠ kb → w'.heap[k]? = w.heap[k]? := by
 have c0 : w.cell? ⟨kb, 0, none⟩ = some (.slice ao n cap) := by rw [aa hb]; rfl
 have c2 : w.cell? ⟨kb, 2, none⟩ = some (.int .i64 pos) := by rw [aa hb]; rfl
 have f2 := ay hb 2
 have hadd : wrap64 ((pos : Int) + 1) = ((pos + 1 : Nat) : Int) := by rw [← IntWalk.i64_left, IntWalk.i64_in _ (by omega)]; omega
 have HB := Lib.hid (And.intro hb hbs)
 clear hb hbs
 by_cases hlt : pos < n
 · obtain ⟨ab, off, rfl, z, hz, hz0, hz1⟩ := HB.out.2 pos hlt
   have hlt' : (pos : Int) < (n : Int) := by omega
   have hm0 : m ≠ 0 := by omega
   go_enter Tryz.func55, Tryz.ntmps55
   go_wp2_with fail
   go_region_held3 (fun w' => w'.cell? ⟨kb, 0, none⟩ = some (.slice (some ⟨ab, off, none⟩) n cap) ∧ w'.cell? ⟨kb, 2, none⟩ = some (.int .i64 pos)) (exact ⟨c0, c2⟩) (fail)
   go_wp2_with fail
   go_region_held3 (fun w' => w'.cell? ⟨kb, 0, none⟩ = some (.slice (some ⟨ab, off, none⟩) n cap) ∧ w'.cell? ⟨kb, 2, none⟩ = some (.int .i64 pos) ∧ w'.cell? ⟨ab, off + pos, none⟩ = some (.int .u8 z)) (exact ⟨c0, c2, hz⟩) (fail)
   go_wp2_with fail
   refine bodyPost_ret (results_tmp rfl _ _ _) rfl ?_
   have hwz : IntKind.i64.wrap z = z := IntWalk.i64_in _ (by omega)
   refine ⟨_, rfl, ?_, ?_, ?_, ?_, ?_, fun k hk => ?_⟩
   · rw [hwz]; exact Int.tmod_nonneg m hz0
   · exact Int.tmod_lt_of_pos _ hm
   · exact ((Eff.refl _ w).dK HB.out.1 (.inl rfl)).drew.drew
   · show (w.setCell ⟨kb, 2, none⟩ (.int .i64 ((pos : Int) + 1))).heap[kb]? = _
     rw [aR HB.out.1]
     simp
   · show (w.setCell ⟨kb, 2, none⟩ (.int .i64 ((pos : Int) + 1))).heap.size = _
     simp [World.setCell]
   · show (w.setCell ⟨kb, 2, none⟩ (.int .i64 ((pos : Int) + 1))).heap[k]? = _
     exact bM hk _
 · have hlt' : ¬ (pos : Int) < (n : Int) := by omega
   go_enter Tryz.func55, Tryz.ntmps55
   go_wp2_with fail
   go_region_held3 (fun w' => w'.cell? ⟨kb, 0, none⟩ = some (.slice ao n cap) ∧ w'.cell? ⟨kb, 2, none⟩ = some (.int .i64 pos)) (exact ⟨c0, c2⟩) (fail)
   go_wp2_with fail
   refine bodyPost_ret (results_tmp rfl _ _ _) rfl ?_
   refine ⟨_, rfl, ?_, ?_, ?_, ?_, ?_, fun k hk => ?_⟩
   · exact Int.le_refl _
   · exact hm
   · exact ((Eff.refl _ w).dK HB.out.1 (.inl rfl)).drew
   · show (w.setCell ⟨kb, 2, none⟩ (.int .i64 ((pos : Int) + 1))).heap[kb]? = _
     rw [aR HB.out.1]
     simp
   · show (w.setCell ⟨kb, 2, none⟩ (.int .i64 ((pos : Int) + 1))).heap.size = _
     simp [World.setCell]
   · show (w.setCell ⟨kb, 2, none⟩ (.int .i64 ((pos : Int) + 1))).heap[k]? = _
     exact bM hk _
end
section
open Go.RowKit
variable {B N E s k : Nat} {w w' : World} {L : List CK} {v : Value}
theorem Eff.Aw {Ch : Nat → TypeId → Nat → Prop} {b : Nat} {c : Array Value} {T : TypeId} {f : Nat × Nat} (g : Eff Ch w w') (h : w.heap[b]? = some (.cells c T f)) (hn : ∀ j, ¬ Ch b T j) : w'.heap[b]? = some (.cells c T f) := by
 obtain ⟨c', l1, -, l3⟩ := g.cells _ _ _ _ h
 rw [l1]
 congr 2
 exact Array.ext_getElem? fun j => l3 j (hn j)
def mf (w : World) (E s B0 k : Nat) (f : Nat → List Value) (v : Value) : Prop := (v = .slice none 0 0 ∧ k = 0) ∨ ∃ lb kc cur, v = .slice (some ⟨lb, 0, none⟩) k kc ∧ B0 ≤ lb ∧ w.heap[lb]? = some (.cells cur E (0, 0)) ∧ k ≤ kc ∧ kc ≤ maxLen ∧ cur.size = kc * s ∧ ∀ j i x, j < k → i < s → (f j)[i]? = some x → w.cell? ⟨lb, j * s + i, none⟩ = some x
theorem mf.keep {B0 : Nat} {f : Nat → List Value} {Ch : Nat → TypeId → Nat → Prop} (h : mf w E s B0 k f v) (g : Eff Ch w w') (hc : ∀ b j, B0 ≤ b → b < w.heap.size → ¬ Ch b E j) : mf w' E s B0 k f v := by
 rcases h with h | ⟨lb, kc, cur, e, h1, h2, h3, h4, h5, h6⟩
 · exact .inl h
 · have hl : lb < w.heap.size := (Array.getElem?_eq_some_iff.1 h2).1
   have hk := g.Aw h2 fun j => hc lb j h1 hl
   refine .inr ⟨lb, kc, cur, e, h1, hk, h3, h4, h5, fun j i x hj hi hx => ?_⟩
   rw [aa hk, ← aa h2]
   exact h6 j i x hj hi hx
theorem mf.ok {B0 : Nat} {f : Nat → List Value} (h : mf w E s B0 k f v) (hB : B ≤ B0) (hk : k ≤ N) : aU w B N (.sl E s) v := by
 rcases h with ⟨rfl, rfl⟩ | ⟨lb, kc, cur, rfl, h1, h2, h3, h4, h5, h6⟩
 · exact ⟨0, [], Nat.zero_le _, World.ownsRow_nil _ _ _ _⟩
 · refine ⟨k, cur.toList.take (k * s), hk, ?_, .inr ⟨lb, kc, cur, rfl, by omega, h2, h3, h4, h5, rfl⟩⟩
   rw [List.length_take, Array.length_toList, h5]
   exact Nat.min_eq_left (Nat.mul_le_mul_right _ h3)
structure uq (B N E s B0 k : Nat) (w : World) (f : Nat → List Value) (row : List Value) (lb kc : Nat) (w' : World) : Prop where
 wt : WT kd.sig B N w'
 aS : Eff (fun b U _ => B0 ≤ b ∧ U = E) w w'
 ls : mf w' E s B0 (k + 1) (fun j => if j = k then row else f j) (.slice (some ⟨lb, 0, none⟩) (k + 1) kc)
set_option maxRecDepth 10000 in
set_option maxHeartbeats 1000000 in
theorem Wo {Kz E B0 b k : Nat} {op : Oper} {a : Act} {K : Act → World → Prop} {Q : Exit → Act → World → Prop} {sl x : Operand} {f : Nat → List Value} {row : List Value} {i : TypeInfo} {z : Value} (hu : Tryz.prog.underlying Kz = some (.slice E)) (hi : Tryz.prog.info? E = some i) (hz : i.zero = some z)
   (hsz : i.size = L.length) (hby : i.bytes ≤ 1024) (ig : eZ L z.cells.toList = true) (hL0 : 0 < L.length) (kE : kd.sig E = some L) (ho : op.op = .call { callee := .builtin .append, args := #[sl, x], argTypes := #[Kz, Kz] })
   (hs : a.eval sl = v) (hx : a.eval x = .slice (some ⟨b, 0, none⟩) 1 1) (hw : WT kd.sig B N w) (hB0 : B ≤ B0) (hBw : B0 ≤ w.heap.size) (hv : mf w E L.length B0 k f v) (hr : bJ w B N L row) (hb : w.heap[b]? = some (.cells row.toArray E (0, 0))) (hk : k < 68719476736)
   (h : ∀ lb kc w', uq B N E L.length B0 k w f row lb kc w' → K (a.put op.dst (.slice (some ⟨lb, 0, none⟩) (k + 1) kc)) w') : op.wp Tryz.prog a w K Q := by
 have hl : row.length = L.length := hr.len.symm
 have hc : ∀ (j : Nat) (u : Value), row[j]? = some u → w.cell? ((⟨b, 0, none⟩ : Addr).add j) = some u := fun j u hj => by rw [Go.WideShapes.add_plain, Nat.zero_add, aa hb]; simpa using hj
 rcases hv with ⟨rfl, rfl⟩ | ⟨lb, kc, cur, rfl, h1, h2, h3, h4, h5, h6⟩
 · have hr1 := run_append_nil (P := Tryz.prog) w Kz op.type E i z hu hi hz ⟨b, 0, none⟩ 1 1 row (by rw [hsz, hl, Nat.one_mul]) hc (by omega) (by omega) (by omega)
   obtain ⟨cap', vN⟩ : ∃ cap', cap' = grownCap w 1 0 E := ⟨_, rfl⟩
   have hgc := grownCap_ge w 1 0 E
   have hgm := grownCap_le_maxLen w 1 0 E (by unfold maxLen; omega)
   rw [← vN] at hr1 hgc hgm
   obtain ⟨w5, dZ⟩ : ∃ w5, w5 = w.drew.alloc (.cells (row.toArray ++ Builtin.zeroCells z.cells (cap' - 1)) E) := ⟨_, rfl⟩
   rw [← dZ] at hr1
   have hE0 : Eff (fun _ _ _ => False) w w5 := by rw [dZ]; exact (Eff.refl _ _).drew.alloc _
   have hbk : w5.heap[w.heap.size]? = some (.cells (row.toArray ++ Builtin.zeroCells z.cells (cap' - 1)) E (0, 0)) := by rw [dZ]; exact blk_alloc_new w.drew _
   have hzl : L.length = z.cells.size := by simpa using (fJ (B := B) (N := N) ig w).len
   have hsz5 : (row.toArray ++ Builtin.zeroCells z.cells (cap' - 1)).size = cap' * L.length := by
     simp only [Array.size_append, List.size_toArray, size_zeroCells, hl, ← hzl]
     conv => lhs; lhs; rw [← Nat.one_mul L.length]
     rw [← Nat.add_mul]
     congr 1
     omega
   have W5 : WT kd.sig B N w5 := by
     rw [dZ]
     exact WT.alloc hw.drew kE (((aT.one hr).app (aT.zeros ig w (cap' - 1))).mono ((Eff.refl (fun _ _ _ => False) w).drew) (Nat.le_refl _))
   have A : uq B N E L.length B0 0 w f row w.heap.size cap' w5 := by
     refine ⟨W5, hE0.mono fun _ _ _ _ h => h.elim, .inr ⟨w.heap.size, cap', _, rfl, hBw, hbk, by omega, hgm, hsz5, fun j i x hj hi hx => ?_⟩⟩
     have : j = 0 := by omega
     subst this
     simp only [if_true] at hx
     rw [aa hbk, Array.getElem?_append_left (by simp; omega)]
     simpa using hx
   unfold Oper.wp execOp
   simp only [ho, resolve, invoke, builtin, Sem.run_bind, Sem.run_pure, Result.andThen_ok, List.map_toArray, List.map_cons, List.map_nil, hs, hx, hr1]
   exact h w.heap.size cap' w5 A
 · obtain ⟨g', cap', w5, hr1, A⟩ := mg (P := Tryz.prog) (kd := kd) (L := L) (ty := op.type) (a := ⟨b, 0, none⟩) (c := 1) (news := row) hu hi hz hsz hby ig hL0 kE hw (Nat.le_trans hB0 hBw) (Nat.le_trans hB0 h1) h2 h3 h4 h5 (aT.one hr) hl hc hk
   obtain ⟨c5, c51, Ux⟩ := A.blk
   have hB' : B0 ≤ g' := by
     rcases A.at' with e | e
     · omega
     · omega
   have A2 : uq B N E L.length B0 k w f row g' cap' w5 := by
     refine ⟨A.wt, ?_, .inr ⟨g', cap', c5, rfl, hB', c51, A.cap, A.max, Ux, fun j i x hj hi hx => ?_⟩⟩
     · exact A.aS.iI fun b c U f j hk hc => by
         obtain ⟨rfl, -⟩ := hc
         rw [h2] at hk
         cases hk
         exact ⟨h1, rfl⟩
     · by_cases hjk : j = k
       · subst hjk
         simp only [if_true] at hx
         exact A.new i x hx
       · simp only [if_neg hjk] at hx
         have ah7 : j < k := by omega
         have : (j + 1) * L.length ≤ k * L.length := Nat.mul_le_mul_right _ ah7
         rw [Nat.add_mul, Nat.one_mul] at this
         rw [A.old (j * L.length + i) (by omega)]
         exact h6 j i x ah7 hi hx
   unfold Oper.wp execOp
   simp only [ho, resolve, invoke, builtin, Sem.run_bind, Sem.run_pure, Result.andThen_ok, List.map_toArray, List.map_cons, List.map_nil, hs, hx, hr1]
   exact h g' cap' w5 A2
theorem jf {ops : Array Oper} {rest : List Oper} {Kz E B0 b k : Nat} {op : Oper} {a : Act} {Q : Exit → Act → World → Prop} {sl x : Operand} {f : Nat → List Value} {row : List Value} {i : TypeInfo} {z : Value} (hgd : op.guard = none) (hu : Tryz.prog.underlying Kz = some (.slice E)) (hi : Tryz.prog.info? E = some i) (hz : i.zero = some z)
   (hsz : i.size = L.length) (hby : i.bytes ≤ 1024) (ig : eZ L z.cells.toList = true) (hL0 : 0 < L.length) (kE : kd.sig E = some L) (ho : op.op = .call { callee := .builtin .append, args := #[sl, x], argTypes := #[Kz, Kz] })
   (hs : a.eval sl = v) (hx : a.eval x = .slice (some ⟨b, 0, none⟩) 1 1) (hw : WT kd.sig B N w ∧ B ≤ B0 ∧ B0 ≤ w.heap.size ∧ mf w E L.length B0 k f v ∧ bJ w B N L row ∧ w.heap[b]? = some (.cells row.toArray E (0, 0)) ∧ k < 68719476736)
   (h : ∀ lb kc w', uq B N E L.length B0 k w f row lb kc w' → wpList Tryz.prog ops Q rest (a.put op.dst (.slice (some ⟨lb, 0, none⟩) (k + 1) kc)) w') : wpList Tryz.prog ops Q (op :: rest) a w := by
 obtain ⟨h1, h2, h3, h4, h5, h6, h7⟩ := hw
 exact wpList_plain hgd fun _ hK => Wo hu hi hz hsz hby ig hL0 kE ho hs hx h1 h2 h3 h4 h5 h6 h7 fun lb kc w' hA => hK _ _ (h lb kc w' hA)
theorem info3 {E : Nat} (h1 : (Tryz.prog.info? E).map (fun i => (i.zero.map (·.cells), i.size, decide (i.bytes ≤ 1024))) = some (some #[.int .i64 0, .int .i64 0, .int .i64 0], 3, true)) : ∃ i z, Tryz.prog.info? E = some i ∧ i.zero = some z ∧ z.cells = #[.int .i64 0, .int .i64 0, .int .i64 0] ∧ i.size = 3 ∧ i.bytes ≤ 1024 := by
 cases hi : Tryz.prog.info? E with
 | none => rw [hi] at h1; cases h1
 | some i =>
   rw [hi] at h1
   simp only [Option.map_some, Option.some.injEq, Prod.mk.injEq, decide_eq_true_eq, Option.map_eq_some_iff] at h1
   obtain ⟨⟨z, hz, hc⟩, h2, h3⟩ := h1
   exact ⟨i, z, rfl, hz, hc, h2, h3⟩
theorem aiZ {E : Nat} (h1 : (Tryz.prog.info? E).map (fun i => (i.zero.map (·.cells), i.size, decide (i.bytes ≤ 1024))) = some (some #[.int .i64 0, .int .i64 0], 2, true)) : ∃ i z, Tryz.prog.info? E = some i ∧ i.zero = some z ∧ z.cells = #[.int .i64 0, .int .i64 0] ∧ i.size = 2 ∧ i.bytes ≤ 1024 := by
 cases hi : Tryz.prog.info? E with
 | none => rw [hi] at h1; cases h1
 | some i =>
   rw [hi] at h1
   simp only [Option.map_some, Option.some.injEq, Prod.mk.injEq, decide_eq_true_eq, Option.map_eq_some_iff] at h1
   obtain ⟨⟨z, hz, hc⟩, h2, h3⟩ := h1
   exact ⟨i, z, rfl, hz, hc, h2, h3⟩
abbrev jh : Nat := 88
theorem kEn : kd.sig jh = some gW := by kernel_rfl
theorem agK : ∃ i z, Tryz.prog.info? jh = some i ∧ i.zero = some z ∧ z.cells = #[.int .i64 0, .int .i64 0] ∧ i.size = 2 ∧ i.bytes ≤ 1024 := aiZ (E := jh) (by kernel_rfl)
theorem Dz : Tryz.prog.underlying 51 = some (.slice jh) := by kernel_rfl
abbrev InT : Nat := 125
abbrev mh : Nat := 123
abbrev qY : Nat := 127
theorem zy : kd.sig InT = some fu := by kernel_rfl
theorem kIl : kd.sig mh = some [.sl InT 3] := by kernel_rfl
theorem kSb : kd.sig qY = some kD := by kernel_rfl
theorem Ig : ∃ i z, Tryz.prog.info? InT = some i ∧ i.zero = some z ∧ z.cells = #[.int .i64 0, .int .i64 0, .int .i64 0] ∧ i.size = 3 ∧ i.bytes ≤ 1024 := info3 (E := InT) (by kernel_rfl)
theorem agk : ∃ i z, Tryz.prog.info? qY = some i ∧ i.zero = some z ∧ z.cells = #[.int .i64 0, .int .i64 0, .int .i64 0] ∧ i.size = 3 ∧ i.bytes ≤ 1024 := info3 (E := qY) (by kernel_rfl)
theorem agn : ∃ i z, Tryz.prog.info? mh = some i ∧ i.zero = some z ∧ z.cells = #[.slice none 0 0] ∧ i.size = 1 ∧ i.bytes ≤ 1024 := by
 have h1 : (Tryz.prog.info? mh).map (fun i => (i.zero.map (·.cells), i.size, decide (i.bytes ≤ 1024))) = some (some #[.slice none 0 0], 1, true) := by kernel_rfl
 cases hi : Tryz.prog.info? mh with
 | none => rw [hi] at h1; cases h1
 | some i =>
   rw [hi] at h1
   simp only [Option.map_some, Option.some.injEq, Prod.mk.injEq, decide_eq_true_eq, Option.map_eq_some_iff] at h1
   obtain ⟨⟨z, hz, hc⟩, h2, h3⟩ := h1
   exact ⟨i, z, rfl, hz, hc, h2, h3⟩
theorem DF : Tryz.prog.underlying 123 = some (.slice InT) := by kernel_rfl
theorem acV : Tryz.prog.underlying 45 = some (.slice mh) := by kernel_rfl
theorem aeW : Tryz.prog.underlying 46 = some (.slice qY) := by kernel_rfl
def afA (r : List Value) : Prop := ∃ o a b : Int, r = [.int .i64 o, .int .i64 a, .int .i64 b] ∧ 0 ≤ a
def Pg (w : World) (B0 k : Nat) (v : Value) : Prop := ∃ f, mf w InT 3 B0 k f v ∧ ∀ j, j < k → afA (f j)
def oC (w : World) (B0 k : Nat) (v : Value) : Prop := ∃ f, mf w mh 1 B0 k f v ∧ ∀ j, j < k → ∃ m p, f j = [p] ∧ m ≤ 1000 ∧ Pg w B0 m p
theorem Pg.keep {B0 : Nat} {Ch : Nat → TypeId → Nat → Prop} (h : Pg w B0 k v) (g : Eff Ch w w') (hc : ∀ b j, B0 ≤ b → b < w.heap.size → ¬ Ch b InT j) : Pg w' B0 k v := by
 obtain ⟨f, h1, h2⟩ := h
 exact ⟨f, h1.keep g hc, h2⟩
theorem oC.keep {B0 : Nat} {Ch : Nat → TypeId → Nat → Prop} (h : oC w B0 k v) (g : Eff Ch w w') (hc : ∀ b T j, B0 ≤ b → b < w.heap.size → T = InT ∨ T = mh → ¬ Ch b T j) : oC w' B0 k v := by
 obtain ⟨f, h1, h2⟩ := h
 refine ⟨f, h1.keep g fun b j h3 h4 => hc b _ j h3 h4 (.inr rfl), fun j hj => ?_⟩
 obtain ⟨m, p, e, hm, hp⟩ := h2 j hj
 exact ⟨m, p, e, hm, hp.keep g fun b j h3 h4 => hc b _ j h3 h4 (.inl rfl)⟩
theorem oC.pr {B0 : Nat} (h : oC w B0 k v) : qX w v := by
 obtain ⟨f, h1, h2⟩ := h
 intro pb n cap hv i hi qb m mc hc j hj
 rcases h1 with ⟨rfl, rfl⟩ | ⟨lb, kc, cur, rfl, g1, g2, g3, g4, g5, g6⟩
 · cases hv
 · cases hv
   obtain ⟨m', p, e, hm, f', hf, hr⟩ := h2 i hi
   have hc' := g6 i 0 p hi (by omega) (by rw [e]; rfl)
   rw [Nat.mul_one, Nat.add_zero] at hc'
   rw [hc] at hc'
   cases hc'
   rcases hf with ⟨e1, -⟩ | ⟨qb', mc', cur', e1, -, -, -, -, -, q6⟩
   · cases e1
   · cases e1
     obtain ⟨o, a, b, e2, ha⟩ := hr j hj
     exact ⟨a, q6 j 1 _ hj (by omega) (by rw [e2]; rfl), ha⟩
end
section
open Go.RowKit
variable {B N nb cap kb cb pos : Nat} {w w' w0 : World} {ao : Option Addr} {s1 s3 : Value} {cs : List Value}
abbrev ll : Nat := 121
abbrev q8 : Nat := 48
theorem Iy : kd.sig q8 = some bK := by kernel_rfl
theorem aiq : kd.sig ll = none := by kernel_rfl
structure DC (B N : Nat) (w0 : World) (ao : Option Addr) (nb : Nat) : Prop where
 b : B ≤ w0.heap.size
 n1 : 131072 ≤ N
 n2 : N ≤ 68719476736
 bs : BytesAt w0 ao nb
 nb : nb ≤ 68719476736
structure DK (B N : Nat) (w0 : World) (ao : Option Addr) (nb cap kb : Nat) (s1 s3 : Value) (pos : Nat) (w : World) : Prop where
 wt : WT kd.sig B N w
 aS : Eff (fun _ _ _ => False) w0 w
 TD : w.heap[kb]? = some (.cells #[.slice ao nb cap, s1, .int .i64 pos, s3] ll (0, 0))
 kl : w0.heap.size ≤ kb
structure DS (B N : Nat) (w0 : World) (ao : Option Addr) (nb cap kb cb : Nat) (s1 s3 : Value) (cs : List Value) (pos : Nat) (w : World) : Prop where
 k : DK B N w0 ao nb cap kb s1 s3 pos w
 cfg : w.heap[cb]? = some (.cells cs.toArray q8 (0, 0))
 cl : w0.heap.size ≤ cb
theorem DK.out (h : DK B N w0 ao nb cap kb s1 s3 pos w) (hw : WT kd.sig B N w') (g : Eff (fun k T _ => w0.heap.size ≤ k ∧ T ≠ ll) w w') : DK B N w0 ao nb cap kb s1 s3 pos w' :=
 ⟨hw, ((h.aS.mono (oW := fun k _ _ => w0.heap.size ≤ k) fun _ _ _ _ h => h.elim).trans (g.mono fun _ _ _ _ h => h.1)).mono fun k _ _ hk hc => by omega, g.Aw h.TD fun _ hx => hx.2 rfl, h.kl⟩
theorem DS.out (h : DS B N w0 ao nb cap kb cb s1 s3 cs pos w) (hw : WT kd.sig B N w') (g : Eff (fun k T _ => w0.heap.size ≤ k ∧ T ≠ ll ∧ T ≠ q8) w w') : DS B N w0 ao nb cap kb cb s1 s3 cs pos w' :=
 ⟨h.k.out hw (g.mono fun _ _ _ _ h => ⟨h.1, h.2.1⟩), g.Aw h.cfg fun _ hx => hx.2.2 rfl, h.cl⟩
theorem DS.num (h : DS B N w0 ao nb cap kb cb s1 s3 cs pos w) {p : Nat} (hk : DK B N w0 ao nb cap kb s1 s3 p w') (g : Eff (fun k T _ => k = kb ∧ T = ll) w w') : DS B N w0 ao nb cap kb cb s1 s3 cs p w' :=
 ⟨hk, g.Aw h.cfg fun _ hx => absurd hx.2 (by decide), h.cl⟩
theorem DS.set (C : DC B N w0 ao nb) (h : DS B N w0 ao nb cap kb cb s1 s3 cs pos w) {i : Nat} {ck : CK} {v : Value} (hi : i < 11) (hck : bK[i]? = some ck) (hv : aU w B N ck v) : DS B N w0 ao nb cap kb cb s1 s3 (cs.set i v) pos (w.setCell ⟨cb, i, none⟩ v) := by
 have hB := C.b
 have hcl := h.cl
 have hne : kb ≠ cb := fun e => by
   have := h.cfg
   rw [← e, h.k.TD] at this
   cases this
 have e2 : Eff (fun k _ _ => k = cb) w (w.setCell ⟨cb, i, none⟩ v) := (Eff.refl _ w).dK h.cfg (.inl rfl)
 refine ⟨⟨h.k.wt.set h.cfg Iy (i := i) (ck := ck) ?_ hv, ?_, by rw [bM hne]; exact h.k.TD, h.k.kl⟩, ?_, h.cl⟩
 · rw [show i % bK.length = i from Nat.mod_eq_of_lt hi]
   exact hck
 · exact ((h.k.aS.mono (oW := fun k _ _ => w0.heap.size ≤ k) fun _ _ _ _ h => h.elim).trans (e2.mono fun _ _ _ _ h => by omega)).mono fun k _ _ hk hc => by omega
 · rw [aR h.cfg]
   simp
theorem Ik {m : Int} (C : DC B N w0 ao nb) (h : DK B N w0 ao nb cap kb s1 s3 pos w) (hm : 0 < m) (hm2 : m ≤ 1000) (hp : pos ≤ 1000000) :
   Calls Tryz.prog 55 #[.pointer (some ⟨kb, 0, none⟩), .int .i64 m] w fun e w' => ∃ r : Int, e = .returned (.int .i64 r) ∧ 0 ≤ r ∧ r < m ∧ DK B N w0 ao nb cap kb s1 s3 (pos + 1) w' ∧ Eff (fun k T _ => k = kb ∧ T = ll) w w' := by
 refine (SX w h.TD (C.bs.keep (h.aS.mono fun _ _ _ _ h => h.elim)) hm hm2 hp C.nb).mono ?_
 rintro e w' ⟨r, rfl, h0, h1, hE, hb, hsz, hO⟩
 have hE2 : Eff (fun k T _ => k = kb ∧ T = ll) w w' := hE.iI fun k c T f j hk hc => by
   subst hc
   rw [h.TD] at hk
   cases hk
   exact ⟨rfl, rfl⟩
 have hkl := h.kl
 refine ⟨r, rfl, h0, h1, ⟨?_, ?_, hb, h.kl⟩, hE2⟩
 · refine h.wt.Ao hE hsz (b := kb) hO fun c T f L hB hh hL => ?_
   rw [hb] at hh
   cases hh
   rw [aiq] at hL
   cases hL
 · exact ((h.aS.mono (oW := fun k _ _ => w0.heap.size ≤ k) fun _ _ _ _ h => h.elim).trans (hE.mono fun _ _ _ _ h => by omega)).mono fun k _ _ hk hc => by omega
theorem kQ {m : Int} (C : DC B N w0 ao nb) (h : DS B N w0 ao nb cap kb cb s1 s3 cs pos w) (hm : 0 < m) (hm2 : m ≤ 1000) (hp : pos ≤ 1000000) :
   Calls Tryz.prog 55 #[.pointer (some ⟨kb, 0, none⟩), .int .i64 m] w fun e w' => ∃ r : Int, e = .returned (.int .i64 r) ∧ 0 ≤ r ∧ r < m ∧ DS B N w0 ao nb cap kb cb s1 s3 cs (pos + 1) w' ∧ Eff (fun k T _ => k = kb ∧ T = ll) w w' :=
 (Ik C h.k hm hm2 hp).mono fun e w' ⟨r, e1, h0, h1, h2, h3⟩ => ⟨r, e1, h0, h1, h.num h2 h3, h3⟩
theorem DS.cell (h : DS B N w0 ao nb cap kb cb s1 s3 cs pos w) {i : Nat} {v : Value} (hi : cs[i]? = some v) : w.cell? ⟨cb, i, none⟩ = some v := by
 rw [aa h.cfg]
 simpa using hi
theorem add1 {r : Int} {m : Int} (h0 : 0 ≤ r) (h1 : r < m) (hm : m ≤ 1000) : wrap64 (1 + r) = 1 + r := by rw [← IntWalk.i64_left, IntWalk.i64_in _ (by omega)]
end
section
open Go.RowKit
variable {sh : Sh} {B : Nat} {G : World → Prop}
def dw (w : World) (b : Nat) (d : Bool) (k v : Int) : World := ((w.setCell ⟨b, 0, none⟩ (.bool d)).setCell ⟨b, 1, none⟩ (.int .i64 k)).setCell ⟨b, 2, none⟩ (.int .i64 v)
def bg (w : World) : World := w.alloc (.cells #[.bool false, .int .i64 0, .int .i64 0] 146)
set_option maxRecDepth 100000 in
set_option maxHeartbeats 1000000 in
theorem Rq (w : World) (pe fb o : Nat) (S : Bool → Int → Int → World → Prop) (hfl : fb < w.heap.size) (hk : w.cell? ⟨fb, o, none⟩ = some (.int .i64 24))
   (h : Calls Tryz.prog 110 #[.pointer (some ⟨pe, 0, none⟩), .pointer (some ⟨fb, o, none⟩)] (bg w) fun e w2 => ∃ d k v, e = .returned (.agg #[.bool d, .int .i64 k, .int .i64 v]) ∧ w2.heap[w.heap.size]? = some (.cells #[.bool false, .int .i64 0, .int .i64 0] 146 (0, 0)) ∧ S d k v (dw w2 w.heap.size d k v)) :
   Calls Tryz.prog 67 #[.pointer (some ⟨pe, 0, none⟩), .pointer (some ⟨fb, o, none⟩)] w fun e w' => ∃ d k v, e = .returned (.agg #[.bool d, .int .i64 k, .int .i64 v]) ∧ S d k v w' := by
 have HH := Lib.hid h
 clear h
 go_enter Tryz.func67, Tryz.ntmps67
 go_wp2_with fail
 refine HH.out.mono ?_
 rintro e w2 ⟨d, k, v, rfl, hb, hs⟩
 have HS := Lib.hid hs
 have c0 := aa hb 0
 have c1 := aa hb 1
 have c2 := aa hb 2
 simp at c0 c1 c2
 have f0 := ay hb 0
 have f1 := ay hb 1
 have f2 := ay hb 2
 clear hb hs
 go_wp2_with fail
 refine bodyPost_ret (v := .agg #[.bool d, .int .i64 k, .int .i64 v]) (by simp [results, Tryz.results67, go_sem, c0, c1, c2]) rfl ?_
 exact ⟨d, k, v, rfl, HS.out⟩
set_option maxRecDepth 100000 in
set_option maxHeartbeats 1000000 in
theorem Rf (w : World) (pe fb o : Nat) (x y : Int) (S : Bool → Int → Int → World → Prop) (hfl : fb < w.heap.size) (hk : w.cell? ⟨fb, o, none⟩ = some (.int .i64 24))
   (h : Calls Tryz.prog 116 #[.pointer (some ⟨pe, 0, none⟩), .pointer (some ⟨fb, o, none⟩), .int .i64 x, .int .i64 y] (bg w) fun e w2 => ∃ d k v, e = .returned (.agg #[.bool d, .int .i64 k, .int .i64 v]) ∧ w2.heap[w.heap.size]? = some (.cells #[.bool false, .int .i64 0, .int .i64 0] 146 (0, 0)) ∧ S d k v (dw w2 w.heap.size d k v)) :
   Calls Tryz.prog 68 #[.pointer (some ⟨pe, 0, none⟩), .pointer (some ⟨fb, o, none⟩), .int .i64 x, .int .i64 y] w fun e w' => ∃ d k v, e = .returned (.agg #[.bool d, .int .i64 k, .int .i64 v]) ∧ S d k v w' := by
 have HH := Lib.hid h
 clear h
 go_enter Tryz.func68, Tryz.ntmps68
 go_wp2_with fail
 refine HH.out.mono ?_
 rintro e w2 ⟨d, k, v, rfl, hb, hs⟩
 have HS := Lib.hid hs
 have c0 := aa hb 0
 have c1 := aa hb 1
 have c2 := aa hb 2
 simp at c0 c1 c2
 have f0 := ay hb 0
 have f1 := ay hb 1
 have f2 := ay hb 2
 clear hb hs
 go_wp2_with fail
 refine bodyPost_ret (v := .agg #[.bool d, .int .i64 k, .int .i64 v]) (by simp [results, Tryz.results68, go_sem, c0, c1, c2]) rfl ?_
 exact ⟨d, k, v, rfl, HS.out⟩
end
section
open Go.RowKit
variable {B N : Nat}
structure R3 (w : World) (pe fb o lb n cap rb nr cr np cp : Nat) (ap : Option Addr) (t : Nat) (p pc le : Int) : Prop where
 JH : fb < w.heap.size
 rbl : rb < w.heap.size
 pel : pe < w.heap.size
 f0 : w.frozen? ⟨fb, o + 1, none⟩ = false
 r2 : w.frozen? ⟨rb, t * 7 + 2, none⟩ = false
 r3 : w.frozen? ⟨rb, t * 7 + 3, none⟩ = false
 l1 : w.cell? ⟨fb, o + 1, none⟩ = some (.int .i64 3)
 Yc : w.cell? ⟨fb, o + 17, none⟩ = some (.slice (some ⟨lb, 0, none⟩) (n + 1) cap)
 lt : w.cell? ⟨lb, n, none⟩ = some (.int .i64 t)
 ln : n ≤ 68719476736
 c9 : w.cell? ⟨pe, 9, none⟩ = some (.slice ap np cp)
 c19 : w.cell? ⟨pe, 19, none⟩ = some (.slice (some ⟨rb, 0, none⟩) nr cr)
 ht : t < nr
 d0 : w.cell? ⟨rb, t * 7, none⟩ = some (.int .i64 p)
 d2 : w.cell? ⟨rb, t * 7 + 2, none⟩ = some (.int .i64 pc)
 d3 : w.cell? ⟨rb, t * 7 + 3, none⟩ = some (.int .i64 le)
set_option maxRecDepth 100000 in
set_option maxHeartbeats 1000000 in
theorem agy (w : World) (pe fb o lb n cap rb nr cr np cp : Nat) (ap : Option Addr) (t : Nat) (p pc le v : Int) (h : R3 w pe fb o lb n cap rb nr cr np cp ap t p pc le) (hle : le ≠ 0) (hv : IntKind.i64.wrap (le - 1) = v) (hv0 : v ≠ 0) (hfr : fb ≠ rb) (hrf : rb ≠ fb) :
   Calls Tryz.prog 110 #[.pointer (some ⟨pe, 0, none⟩), .pointer (some ⟨fb, o, none⟩)] w fun e w' => e = .returned (.agg #[.bool false, .int .i64 0, .int .i64 0]) ∧ ∃ q, w' = dw ((((bg w).drewN q).setCell ⟨rb, t * 7 + 3, none⟩ (.int .i64 v)).setCell ⟨fb, o + 1, none⟩ (.int .i64 1)) w.heap.size false 0 0 := by
 obtain ⟨h1, h2, h3, h4, h5, h6, h7, h8, h9, h10, h11, h12, Jr, uW, h15, h16⟩ := h
 have E := Eff.bL (fun _ _ _ => False) w (.cells #[.bool false, .int .i64 0, .int .i64 0] 146)
 have TP := Lib.hid (gF _ fb o lb n cap t h10 (E.cell h8 fun _ h => h) (E.cell h9 fun _ h => h))
 have hti : (t : Int) < (nr : Int) := by omega
 have ht0 : (0 : Int) ≤ (t : Int) := by omega
 clear E h8 h9 h10 h11 uW
 go_enter Tryz.func110, Tryz.ntmps110
 go_wp2_with (first
   | (go_at_call 156; refine TP.out.mono ?_; rintro e w' ⟨rfl, q, rfl⟩))
 refine bodyPost_ret (v := .agg #[.bool false, .int .i64 0, .int .i64 0]) (by simp [results, Tryz.results110, go_sem]) rfl ⟨rfl, q, rfl⟩
set_option maxRecDepth 100000 in
set_option maxHeartbeats 1000000 in
theorem ac7 (w : World) (pe fb o lb n cap rb nr cr np cp : Nat) (ap : Option Addr) (t : Nat) (p pc le v : Int) (h : R3 w pe fb o lb n cap rb nr cr np cp ap t p pc le) (hle : le ≠ 0) (hv : IntKind.i64.wrap (le - 1) = v) (hv0 : v = 0) (xY : Int) (QD : IntKind.i64.wrap (pc + 1) = xY) (hfr : fb ≠ rb) (hrf : rb ≠ fb) :
   Calls Tryz.prog 110 #[.pointer (some ⟨pe, 0, none⟩), .pointer (some ⟨fb, o, none⟩)] w fun e w' => e = .returned (.agg #[.bool false, .int .i64 0, .int .i64 0]) ∧ ∃ q, w' = dw (((((bg w).drewN q).setCell ⟨rb, t * 7 + 3, none⟩ (.int .i64 0)).setCell ⟨rb, t * 7 + 2, none⟩ (.int .i64 xY)).setCell ⟨fb, o + 1, none⟩ (.int .i64 1)) w.heap.size false 0 0 := by
 obtain ⟨h1, h2, h3, h4, h5, h6, h7, h8, h9, h10, h11, h12, Jr, uW, h15, h16⟩ := h
 have E := Eff.bL (fun _ _ _ => False) w (.cells #[.bool false, .int .i64 0, .int .i64 0] 146)
 have TP := Lib.hid (gF _ fb o lb n cap t h10 (E.cell h8 fun _ h => h) (E.cell h9 fun _ h => h))
 subst hv0
 have hti : (t : Int) < (nr : Int) := by omega
 have ht0 : (0 : Int) ≤ (t : Int) := by omega
 clear E h8 h9 h10 h11 uW
 go_enter Tryz.func110, Tryz.ntmps110
 go_wp2_with (first
   | (go_at_call 156; refine TP.out.mono ?_; rintro e w' ⟨rfl, q, rfl⟩))
 refine bodyPost_ret (v := .agg #[.bool false, .int .i64 0, .int .i64 0]) (by simp [results, Tryz.results110, go_sem]) rfl ⟨rfl, q, rfl⟩
end
section
open Go.RowKit
variable {B N : Nat}
set_option maxRecDepth 100000 in
set_option maxHeartbeats 1000000 in
theorem ah2 (w : World) (pe fb o lb n cap rb nr cr np cp : Nat) (ap : Option Addr) (t : Nat) (p pc le v : Int) (h : R3 w pe fb o lb n cap rb nr cr np cp ap t p pc le) (hle : le = 0) (qb m mc y : Nat) (hpv : eG w (.slice ap np cp) p (.slice (some ⟨qb, 0, none⟩) m mc)) (hy : pc = y) (hym : y < m) (mo : qb < w.heap.size) (A : Int) (hA : w.cell? ⟨qb, y * 3 + 1, none⟩ = some (.int .i64 A)) (hv : IntKind.i64.wrap (A - 1) = v) (hv0 : v ≠ 0) (hfr : fb ≠ rb) (hrf : rb ≠ fb) :
   Calls Tryz.prog 110 #[.pointer (some ⟨pe, 0, none⟩), .pointer (some ⟨fb, o, none⟩)] w fun e w' => e = .returned (.agg #[.bool false, .int .i64 0, .int .i64 0]) ∧ ∃ q, w' = dw (((((bg w).drewN q).setCell ⟨rb, t * 7 + 3, none⟩ (.int .i64 A)).setCell ⟨rb, t * 7 + 3, none⟩ (.int .i64 v)).setCell ⟨fb, o + 1, none⟩ (.int .i64 1)) w.heap.size false 0 0 := by
 obtain ⟨h1, h2, h3, h4, h5, h6, h7, h8, h9, h10, h11, h12, Jr, uW, h15, h16⟩ := h
 have E := Eff.bL (fun _ _ _ => False) w (.cells #[.bool false, .int .i64 0, .int .i64 0] 146)
 have TP := Lib.hid (gF _ fb o lb n cap t h10 (E.cell h8 fun _ h => h) (E.cell h9 fun _ h => h))
 have PG := Lib.hid (fun q => qI ((w.alloc (.cells #[.bool false, .int .i64 0, .int .i64 0] 146)).drewN q) pe rb nr cr t np cp ap p (.slice (some ⟨qb, 0, none⟩) m mc) ((E.drewN q).cell h12 fun _ h => h) Jr ((E.drewN q).cell uW fun _ h => h) ((E.drewN q).cell h11 fun _ h => h) (hpv.mono (E.drewN q)))
 subst hy
 have ahU : (y : Int) < (m : Int) := by omega
 have hy0 : (0 : Int) ≤ (y : Int) := by omega
 subst hle
 have hti : (t : Int) < (nr : Int) := by omega
 have ht0 : (0 : Int) ≤ (t : Int) := by omega
 have KA : ∀ q, (((((w.alloc (.cells #[.bool false, .int .i64 0, .int .i64 0] 146)).drewN q).setCell ⟨rb, t * 7 + 3, none⟩ (.int .i64 A)).setCell ⟨rb, t * 7 + 3, none⟩ (.int .i64 v)).cell? ⟨rb, t * 7 + 3, none⟩) = some (.int .i64 v) := fun q => by
   have c0 := (E.drewN q).cell h16 fun _ h => h
   have c1 := World.cell?_setCell_same _ _ (.int .i64 A) c0
   exact World.cell?_setCell_same _ _ _ c1
 clear E hpv h8 h9 h10 h11 uW
 go_enter Tryz.func110, Tryz.ntmps110
 go_wp2_with (first
   | (go_at_call 156; refine TP.out.mono ?_; rintro e w' ⟨rfl, q, rfl⟩))
 go_region_with (go_at_call 157; refine (PG.out _).mono ?_; rintro e w' ⟨rfl, rfl⟩)
 all_goals
   go_wp2_with fail
   refine bodyPost_ret (v := .agg #[.bool false, .int .i64 0, .int .i64 0]) (by simp [results, Tryz.results110, go_sem]) rfl ⟨rfl, _, rfl⟩
set_option maxRecDepth 100000 in
set_option maxHeartbeats 1000000 in
theorem ags (w : World) (pe fb o lb n cap rb nr cr np cp : Nat) (ap : Option Addr) (t : Nat) (p pc le v : Int) (h : R3 w pe fb o lb n cap rb nr cr np cp ap t p pc le) (hle : le = 0) (qb m mc y : Nat) (hpv : eG w (.slice ap np cp) p (.slice (some ⟨qb, 0, none⟩) m mc)) (hy : pc = y) (hym : y < m) (mo : qb < w.heap.size) (A : Int) (hA : w.cell? ⟨qb, y * 3 + 1, none⟩ = some (.int .i64 A)) (hv : IntKind.i64.wrap (A - 1) = v) (hv0 : v = 0) (xY : Int) (QD : IntKind.i64.wrap (pc + 1) = xY) (hfr : fb ≠ rb) (hrf : rb ≠ fb) :
   Calls Tryz.prog 110 #[.pointer (some ⟨pe, 0, none⟩), .pointer (some ⟨fb, o, none⟩)] w fun e w' => e = .returned (.agg #[.bool false, .int .i64 0, .int .i64 0]) ∧ ∃ q, w' = dw ((((((bg w).drewN q).setCell ⟨rb, t * 7 + 3, none⟩ (.int .i64 A)).setCell ⟨rb, t * 7 + 3, none⟩ (.int .i64 0)).setCell ⟨rb, t * 7 + 2, none⟩ (.int .i64 xY)).setCell ⟨fb, o + 1, none⟩ (.int .i64 1)) w.heap.size false 0 0 := by
 obtain ⟨h1, h2, h3, h4, h5, h6, h7, h8, h9, h10, h11, h12, Jr, uW, h15, h16⟩ := h
 have E := Eff.bL (fun _ _ _ => False) w (.cells #[.bool false, .int .i64 0, .int .i64 0] 146)
 have TP := Lib.hid (gF _ fb o lb n cap t h10 (E.cell h8 fun _ h => h) (E.cell h9 fun _ h => h))
 have PG := Lib.hid (fun q => qI ((w.alloc (.cells #[.bool false, .int .i64 0, .int .i64 0] 146)).drewN q) pe rb nr cr t np cp ap p (.slice (some ⟨qb, 0, none⟩) m mc) ((E.drewN q).cell h12 fun _ h => h) Jr ((E.drewN q).cell uW fun _ h => h) ((E.drewN q).cell h11 fun _ h => h) (hpv.mono (E.drewN q)))
 subst hy
 have ahU : (y : Int) < (m : Int) := by omega
 have hy0 : (0 : Int) ≤ (y : Int) := by omega
 subst hle
 subst hv0
 have hti : (t : Int) < (nr : Int) := by omega
 have ht0 : (0 : Int) ≤ (t : Int) := by omega
 have KA : ∀ q, (((((w.alloc (.cells #[.bool false, .int .i64 0, .int .i64 0] 146)).drewN q).setCell ⟨rb, t * 7 + 3, none⟩ (.int .i64 A)).setCell ⟨rb, t * 7 + 3, none⟩ (.int .i64 0)).cell? ⟨rb, t * 7 + 3, none⟩) = some (.int .i64 0) := fun q => by
   have c0 := (E.drewN q).cell h16 fun _ h => h
   have c1 := World.cell?_setCell_same _ _ (.int .i64 A) c0
   exact World.cell?_setCell_same _ _ _ c1
 clear E hpv h8 h9 h10 h11 uW
 go_enter Tryz.func110, Tryz.ntmps110
 go_wp2_with (first
   | (go_at_call 156; refine TP.out.mono ?_; rintro e w' ⟨rfl, q, rfl⟩))
 go_region_with (go_at_call 157; refine (PG.out _).mono ?_; rintro e w' ⟨rfl, rfl⟩)
 all_goals
   go_wp2_with fail
   refine bodyPost_ret (v := .agg #[.bool false, .int .i64 0, .int .i64 0]) (by simp [results, Tryz.results110, go_sem]) rfl ⟨rfl, _, rfl⟩
end
end Go.Proofs.YtncnepmgmphanaaGreatDoor
