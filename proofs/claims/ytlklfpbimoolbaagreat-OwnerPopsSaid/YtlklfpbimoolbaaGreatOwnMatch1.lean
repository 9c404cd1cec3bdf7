/- The laws by Match of chapter 9 (printed by gen_matchlaw.py). -/
import Derived.Test.YtlklfpbimoolbaaGreatMatchLaw
namespace Go.Proofs.YtlklfpbimoolbaaGreat
open Go.RowKit
set_option linter.unusedVariables false

/-- The deque's places lie in block b. -/
def QC (w : World) (b : Nat) (qt qb qr qc : Int) : Prop :=
  w.cell? ⟨b, 0, none⟩ = some (.int .i64 qt) ∧ w.cell? ⟨b, 1, none⟩ = some (.int .i64 qb) ∧ w.cell? ⟨b, 2, none⟩ = some (.int .i64 qr) ∧ w.cell? ⟨b, 3, none⟩ = some (.int .i64 qc)
theorem QC.keepS {S : List Nat} {w w' : World} {b : Nat} {qt qb qr qc : Int} (h : QC w b qt qb qr qc) (o : Only S w w') (hn : b ∉ S) : QC w' b qt qb qr qc :=
  ⟨o.keepCell h.1 hn, o.keepCell h.2.1 hn, o.keepCell h.2.2.1 hn, o.keepCell h.2.2.2 hn⟩
theorem QC.keep {w w' : World} {b : Nat} {qt qb qr qc : Int} (h : QC w b qt qb qr qc) (o : Only [] w w') : QC w' b qt qb qr qc :=
  ⟨o.keepCell h.1 (by simp), o.keepCell h.2.1 (by simp), o.keepCell h.2.2.1 (by simp), o.keepCell h.2.2.2 (by simp)⟩

set_option maxRecDepth 100000 in
set_option maxHeartbeats 4000000 in
theorem OwnerPushes_small (w : World) (ao : Option Addr) (cap : Nat) (xs : List Int) (hx : CellsAt w ao (xs.map (.int .u64))) (wx : ∀ z ∈ xs, (Lit.int .u64 z).wf = true) (hxl : xs.length ≤ 40) (a b c d value : Int) (bo : Option Addr) (cb : Nat) (zs : List Int) (hz : CellsAt w bo (zs.map (.int .i64))) (hzc : zs.length ≤ cb) (hzl : zs.length ≤ 400) :
    Calls Tryz.prog 3 #[.slice ao xs.length cap, .agg #[.int .i64 a, .int .i64 b, .int .i64 c, .int .i64 d], .int .i64 value, .slice bo zs.length cb] w fun e w' => e = .returned (.bool true) ∧ Only [] w w' := by
  obtain ⟨len, hlen⟩ : ∃ len, len = xs.length := ⟨_, rfl⟩
  obtain ⟨lz, hlz⟩ : ∃ lz, lz = zs.length := ⟨_, rfl⟩
  have hzn : ∀ q, bo = some q → 0 < zs.length → q.block < w.heap.size := by
    intro q e hp
    obtain ⟨bz, off, e2, hc⟩ := hz.ints hp
    rw [e] at e2; cases e2
    exact lt_of_cell (hc 0 hp)
  obtain ⟨PB, hPB⟩ : ∃ PB, PB = Obj.cells #[.int .i64 a, .int .i64 b, .int .i64 c, .int .i64 d] 23 (0, 0) := ⟨_, rfl⟩
  have s0 : (w.alloc PB).heap.size = w.heap.size + 1 := by simp
  have SH : Hid (Calls Tryz.prog 12 #[.slice none 0 0, .slice (some ⟨w.heap.size + 1, 0, none⟩) 1 1] ((w.alloc PB).alloc (.cells #[.slice bo lz cb] 24)) fun e w' => e = .returned (.bool true) ∧ ((w.alloc PB).alloc (.cells #[.slice bo lz cb] 24)) = w') := Lib.hid (by
    have := short_any ((w.alloc PB).alloc (.cells #[.slice bo lz cb] 24)) none 0 0 (by omega) (w.alloc PB).heap.size 24 (0, 0) [(bo, lz, cb)] 1 rfl (by omega) (blk_alloc_new _ _) (by simp; omega)
    rw [show (decide (∀ x ∈ [(bo, lz, cb)], x.2.1 ≤ 400) && decide (0 ≤ 400)) = true from by simp; omega, s0] at this
    exact this)
  rw [hPB] at SH
  have HX := Lib.hid hx
  have HZ := Lib.hid hz
  have HZN := Lib.hid hzn
  have HZL := Lib.hid (And.intro hzc hzl)
  have HXL := Lib.hid hlen
  have HLZ := Lib.hid hlz
  have SOK : Hid (bareMS xs).ok := Lib.hid (by intro z hz'; rw [bareMS_cells] at hz'; exact wf_u64 (wx z hz'))
  rw [← hlen] at hxl ⊢
  rw [← hlz] at hzc hzl ⊢
  have hl40 : ¬ (40 : Int) < len := by omega
  have ob : Only [] w (((w.alloc (.cells #[.int .i64 a, .int .i64 b, .int .i64 c, .int .i64 d] 23)).alloc (.cells #[.slice bo lz cb] 24))) := ((Only.refl [] w).alloc _).alloc _
  have HB := Lib.hid (blk_alloc_new w (.cells #[.int .i64 a, .int .i64 b, .int .i64 c, .int .i64 d] 23))
  have HB2 := Lib.hid (((Only.refl [] (w.alloc (.cells #[.int .i64 a, .int .i64 b, .int .i64 c, .int .i64 d] 23))).alloc (.cells #[.slice bo lz cb] 24)).keep HB.out (by simp))
  have OB := Lib.hid ob
  have QA := fun w => Lib.hid (queue09_any w ao cap len (by omega) a b c d)
  clear hx wx hz hzn hPB s0 hlen hlz ob HB
  go_enter Tryz.func3, Tryz.ntmps3
  go_wp2_with fail
  refine SH.out.mono ?_; rintro e wS ⟨rfl, rfl⟩
  generalize hwS : ((w.alloc (.cells #[.int .i64 a, .int .i64 b, .int .i64 c, .int .i64 d] 23)).alloc (.cells #[.slice bo lz cb] 24)) = wS at HB2 OB ⊢
  have a0 := cell_blk HB2.out 0
  have a1 := cell_blk HB2.out 1
  have a2 := cell_blk HB2.out 2
  have a3 := cell_blk HB2.out 3
  simp at a0 a1 a2 a3
  clear SH hwS HB2
  go_wp2_with fail
  refine (QA _).out.mono ?_; rintro e w1 ⟨q, rfl, o1, hq⟩
  have HQ := Lib.hid hq
  have O1 := Lib.hid (OB.out.then0 o1)
  obtain ⟨qt, qb, qr, qc⟩ := q
  unfold Q4.v
  simp only
  clear o1 hq QA a0 a1 a2 a3
  have q0 := blk_alloc_new w1 (.cells #[.int .i64 qt, .int .i64 qb, .int .i64 qr, .int .i64 qc] 27)
  have O2 := Lib.hid (O1.out.alloc (.cells #[.int .i64 qt, .int .i64 qb, .int .i64 qr, .int .i64 qc] 27))
  have BR := Lib.hid (bare_any (w1.alloc (.cells #[.int .i64 qt, .int .i64 qb, .int .i64 qr, .int .i64 qc] 27)) ao cap len xs (HX.out.keep0 O2.out) HXL.out (by omega))
  have Q0 := Lib.hid q0
  clear q0
  go_wp2_with fail
  refine BR.out.mono ?_; rintro e w3 ⟨en, m, bc, ck, r, rc, rfl, o3, b3, ⟨l1, l2, l3, l4, l5, l6⟩, l7, l8, l9, l10, l11, l12⟩
  have O3 := Lib.hid (O2.out.then0 o3)
  have B3 := Lib.hid b3
  have q3 := o3.keep Q0.out (by simp)
  have Q3 := Lib.hid q3
  have c0 := cell_blk q3 0
  have c1 := cell_blk q3 1
  have c2 := cell_blk q3 2
  have c3 := cell_blk q3 3
  simp at c0 c1 c2 c3
  have hb0 := O2.out.size
  have C3 : Hid (QC w3 w1.heap.size qt qb qr qc) := Lib.hid ⟨c0, c1, c2, c3⟩
  have O0 := Lib.hid ((Only.refl [] w3).drew)
  have SML : Hid ((bareMS xs).count ≤ 1000 ∧ (bareMS xs).cells.length ≤ 1000) := Lib.hid (by rw [bareMS_count, bareMS_cells, ← HXL.out]; omega)
  have FR : Hid (∀ p y fb, w3.heap.size ≤ p → w3.heap.size ≤ y → w3.heap.size ≤ fb → ∀ a, bo = some a → 0 < zs.length → a.block ∉ [p, m, bc, ck, y, fb, r, rc]) := Lib.hid (by
    intro p y fb h1 h2 h3 a' e h0
    have := HZN.out a' e h0
    have := o3.size
    simp; omega)
  have BS : Hid (∀ p y fb, w3.heap.size ≤ p → w3.heap.size ≤ y → w3.heap.size ≤ fb → ∀ t ∈ [p, m, bc, ck, y, fb, r, rc], t ∈ ([] : List Nat) ∨ w.heap.size ≤ t) := Lib.hid (by
    intro p y fb h1 h2 h3 t ht
    have := o3.size
    simp at ht
    right
    rcases ht with rfl | rfl | rfl | rfl | rfl | rfl | rfl | rfl <;> omega)
  have NQ : Hid (∀ p y fb, w3.heap.size ≤ p → w3.heap.size ≤ y → w3.heap.size ≤ fb → w1.heap.size ∉ [p, m, bc, ck, y, fb, r, rc]) := Lib.hid (by
    intro p y fb h1 h2 h3
    have := o3.size
    have : (w1.alloc (.cells #[.int .i64 qt, .int .i64 qb, .int .i64 qr, .int .i64 qc] 27)).heap.size = w1.heap.size + 1 := by simp
    simp; omega)
  have LB := Lib.hid l9
  have LR := Lib.hid l12
  clear o3 b3 q3 BR l1 l2 l3 l4 l5 l6 l7 l8 l9 l10 l11 l12 hb0
  go_wp2_with fail
  go_region_held3 (fun w' => w'.cell? ⟨w1.heap.size, 0, none⟩ = some (.int .i64 qt) ∧ w'.cell? ⟨w1.heap.size, 1, none⟩ = some (.int .i64 qb) ∧ w'.cell? ⟨w1.heap.size, 2, none⟩ = some (.int .i64 qr) ∧ w'.cell? ⟨w1.heap.size, 3, none⟩ = some (.int .i64 qc))
    (first | exact QC.keep C3.out O0.out | exact QC.keep C3.out OA.out | exact QC.keep C3.out OP.out | exact QC.keep C3.out OM.out | exact QC.keep CF.out (Only.refl _ _))
    ((first
      | (go_at_call 15; refine (awake09_any _).mono ?_; rintro e wA ⟨rfl, oA⟩; have OA := Lib.hid (O0.out.then0 oA); clear oA)
      | (go_at_call 17; refine (push_new _ ⟨qt, qb, qr, qc⟩ value).mono ?_; rintro e wP ⟨p, rfl, oP, hP, lp1, lp2⟩; have OP := Lib.hid (OA.out.then0 oP); have HP := Lib.hid (And.intro hP (And.intro lp1 lp2)); clear oP hP lp1 lp2)
      | (go_at_call 18; refine (make_any _ { newPush ⟨qt, qb, qr, qc⟩ value with line := 0 } (by simp [newPush, newPop]) rfl rfl).mono ?_; rintro e wM ⟨y, fb, rfl, oM, hM, ly, lf, hyf, ly2, lf2⟩; have OM := Lib.hid (OP.out.then0 oM); have HM := Lib.hid (And.intro oM (And.intro hM (And.intro ly (And.intro lf (And.intro hyf (And.intro ly2 lf2)))))); clear oM hM ly lf hyf ly2 lf2)
      | (go_at_call 16
         have gp : w3.heap.size ≤ p := by have := HP.out.2.1; have := OA.out.size; omega
         have gy : w3.heap.size ≤ y := by have := HM.out.2.2.1; have := OP.out.size; omega
         have gf : w3.heap.size ≤ fb := by have := HM.out.2.2.2.1; have := OP.out.size; omega
         have I := matIn_new (k := newPush ⟨qt, qb, qr, qc⟩ value) B3.out LB.out LR.out OP.out HP.out.1 gp HP.out.2.2 HM.out.1 HM.out.2.1 HM.out.2.2.1 HM.out.2.2.2.1 HM.out.2.2.2.2.1 HM.out.2.2.2.2.2.1 HM.out.2.2.2.2.2.2
         have MT := Lib.hid (match_any _ en m bc ck r rc p y fb (newPush ⟨qt, qb, qr, qc⟩ value) (bareMS xs) bo cb zs 20 (HZ.out.keep0 (O3.out.then0 OM.out)) HZL.out.1 (FR.out p y fb gp gy gf) (by have := HZL.out.2; omega) (by omega) (by simp [newPush, newPop]) rfl (QOk.push HQ.out value) ⟨rfl, rfl⟩ SOK.out SML.out.1 SML.out.2 I.1 I.2.1 I.2.2)
         rw [← HLZ.out] at MT
         refine MT.out.mono ?_; rintro e wF ⟨rfl, oF⟩
         have OF := Lib.hid ((O3.out.then0 OM.out).trans oF (BS.out p y fb gp gy gf))
         have CF := Lib.hid (QC.keepS (QC.keep C3.out OM.out) oF (NQ.out p y fb gp gy gf))
         clear I MT oF gp gy gf)))
  go_wp2_with fail
  go_ret
  exact ⟨rfl, OF.out⟩

set_option maxRecDepth 100000 in
theorem OwnerPushes_any (w : World) (ao : Option Addr) (cap : Nat) (xs : List Int) (hx : CellsAt w ao (xs.map (.int .u64))) (wx : ∀ z ∈ xs, (Lit.int .u64 z).wf = true) (lx : xs.length ≤ cap) (mx : cap ≤ maxLen) (ps : List Int) (hp : ps.length = 4) (wp : ∀ z ∈ ps, (Lit.int .i64 z).wf = true) (value : Int) (wv : (Lit.int .i64 value).wf = true)
    (bo : Option Addr) (cb : Nat) (zs : List Int) (hz : CellsAt w bo (zs.map (.int .i64))) (wz : ∀ z ∈ zs, (Lit.int .i64 z).wf = true) (lz : zs.length ≤ cb) (mz : cb ≤ maxLen) :
    Calls Tryz.prog 3 #[.slice ao xs.length cap, .agg (ps.map (.int .i64)).toArray, .int .i64 value, .slice bo zs.length cb] w fun e w' => e = .returned (.bool true) ∧ Only [] w w' := by
  obtain ⟨a, b, c, d, rfl⟩ : ∃ a b c d, ps = [a, b, c, d] := by match ps, hp with | [a, b, c, d], _ => exact ⟨a, b, c, d, rfl⟩
  simp only [List.map_cons, List.map_nil]
  unfold maxLen at mx mz
  by_cases h1 : xs.length ≤ 40
  · by_cases h2 : zs.length ≤ 400
    · exact OwnerPushes_small w ao cap xs hx wx h1 a b c d value bo cb zs hz lz h2
    · generalize zs.length = ln at lz h2 ⊢
      generalize xs.length = len at lx h1 ⊢
      have hl40 : ¬ (40 : Int) < len := by omega
      have s0 : (w.alloc (.cells #[.int .i64 a, .int .i64 b, .int .i64 c, .int .i64 d] 23)).heap.size = w.heap.size + 1 := by simp
      have SH := Lib.hid (short_any ((w.alloc (.cells #[.int .i64 a, .int .i64 b, .int .i64 c, .int .i64 d] 23)).alloc (.cells #[.slice bo ln cb] 24)) none 0 0 (by omega) _ 24 (0, 0) [(bo, ln, cb)] 1 rfl (by omega) (blk_alloc_new _ _) (by simp; omega))
      rw [show (decide (∀ x ∈ [(bo, ln, cb)], x.2.1 ≤ 400) && decide (0 ≤ 400)) = false from by simp; omega, s0] at SH
      clear hx wx hz wz s0
      go_enter Tryz.func3, Tryz.ntmps3
      go_wp2_with fail
      refine SH.out.mono ?_; rintro e wS ⟨rfl, rfl⟩
      go_wp2_with fail
      go_ret
      exact ⟨rfl, ((Only.refl _ _).alloc _).alloc _⟩
  · generalize xs.length = len at lx h1 ⊢
    have hl40 : (40 : Int) < len := by omega
    clear hx wx hz wz
    go_enter Tryz.func3, Tryz.ntmps3
    go_wp2_with fail
    go_ret
    exact ⟨rfl, (Only.refl _ _).alloc _⟩
end Go.Proofs.YtlklfpbimoolbaaGreat
