/- BitmapClears, walked (printed by gen_matchq.py). -/
import Derived.Test.YtlklfpbimoolbaaGreatMatchTail
import Derived.Test.YtlklfpbimoolbaaGreatBitAwake
namespace Go.Proofs.YtlklfpbimoolbaaGreat
open Go.RowKit
set_option linter.unusedVariables false

set_option maxRecDepth 100000 in
set_option maxHeartbeats 4000000 in
theorem BitmapClears_any (w : World) (ao : Option Addr) (cap : Nat) (xs : List Int) (hx : CellsAt w ao (xs.map (.int .u64))) (wx : ∀ z ∈ xs, (Lit.int .u64 z).wf = true) (lx : xs.length ≤ cap) (mx : cap ≤ maxLen) (cell : Int) (wc : (Lit.int .i64 cell).wf = true) (bit : Int) (wb : (Lit.int .i64 bit).wf = true) (n : Int) (wn : (Lit.int .i64 n).wf = true)
    (bo : Option Addr) (cb : Nat) (zs : List Int) (hz : CellsAt w bo (zs.map (.int .i64))) (wz : ∀ z ∈ zs, (Lit.int .i64 z).wf = true) (lzc : zs.length ≤ cb) (mz : cb ≤ maxLen) (near : Bool) :
    Calls Tryz.prog 9 #[.slice ao xs.length cap, .int .i64 cell, .int .i64 bit, .int .i64 n, .slice bo zs.length cb, .bool near] w fun e w' => e = .returned (.bool true) ∧ Only [] w w' := by
  unfold maxLen at mx mz
  have SOK : Hid (bareMS xs).ok := Lib.hid (by intro z hz'; rw [bareMS_cells] at hz'; exact wf_u64 (wx z hz'))
  have HX := Lib.hid hx
  have hzl0 := lzc
  have HZN := Lib.hid (blk_lt_of_ints hz)
  have HZ := Lib.hid hz
  obtain ⟨lz, hlz⟩ : ∃ lz, lz = zs.length := ⟨_, rfl⟩
  have HLZ := Lib.hid hlz
  rw [← hlz] at lzc ⊢
  obtain ⟨len, hlen⟩ : ∃ len, len = xs.length := ⟨_, rfl⟩
  have HXL := Lib.hid hlen
  rw [← hlen] at lx ⊢
  clear hx wx hlen wc wb wn hz wz
  by_cases h1 : len ≤ 40
  · have hl40 : ¬ (40 : Int) < len := by omega
    by_cases h2 : lz ≤ 400
    · have HZL : Hid (zs.length ≤ cb ∧ zs.length ≤ 400) := Lib.hid ⟨hzl0, by rw [← hlz]; exact h2⟩
      clear hlz hzl0
      have SH := Lib.hid (short_any (w.alloc (.cells #[.slice bo lz cb] 24)) none 0 0 (by omega) _ 24 (0, 0) [(bo, lz, cb)] 1 rfl (by omega) (blk_alloc_new _ _) (by simp; omega))
      rw [show (decide (∀ x ∈ [(bo, lz, cb)], x.2.1 ≤ 400) && decide (0 ≤ 400)) = true from by simp; omega] at SH
      cases near with
      | false =>
        go_enter Tryz.func9, Tryz.ntmps9
        go_wp2_with fail
        refine SH.out.mono ?_; rintro e wS ⟨rfl, rfl⟩
        have OS := Lib.hid ((Only.refl [] w).alloc (.cells #[.slice bo lz cb] 24))
        clear SH
        have SML : Hid ((bareMS xs).count ≤ 1000 ∧ (bareMS xs).cells.length ≤ 1000) := Lib.hid (by rw [bareMS_count, bareMS_cells, ← HXL.out]; omega)
        go_wp2_with fail
        refine (queue_any _ n).mono ?_; rintro e u0 ⟨rfl, o0⟩
        simp only [Q4.v]
        have U0 := Lib.hid (OS.out.then0 o0)
        obtain ⟨wq, hwq⟩ : ∃ wq, wq = u0.alloc (.cells #[.int .i64 0, .int .i64 1, .int .i64 2, .int .i64 n] 27) := ⟨_, rfl⟩
        obtain ⟨qb, hqb⟩ : ∃ qb, qb = u0.heap.size := ⟨_, rfl⟩
        have ow : Only [] u0 wq := by rw [hwq]; exact (Only.refl _ _).alloc _
        have QBq : Hid (wq.heap[qb]? = some (.cells #[.int .i64 0, .int .i64 1, .int .i64 2, .int .i64 n] 27 (0, 0))) := Lib.hid (by rw [hwq, hqb]; exact blk_alloc_new _ _)
        have OQ := Lib.hid (U0.out.then0 ow)
        have qs : wq.heap.size = qb + 1 := by rw [hwq, hqb]; simp
        have qs0 : w.heap.size ≤ qb := by have := U0.out.size; omega
        have HQQ := Lib.hid (And.intro hwq hqb)
        clear o0 ow hwq hqb
        go_wp2_with fail
        rw [← HQQ.out.1, ← HQQ.out.2]
        refine (bare_any wq ao cap len xs (HX.out.keep0 OQ.out) HXL.out (by omega)).mono ?_; rintro e w3 ⟨en, m, bc, ck, r, rc, rfl, o3, b3, ⟨l1, l2, l3, l4, l5, l6⟩, l7, l8, l9, l10, l11, l12⟩
        have O3 := Lib.hid (OQ.out.then0 o3)
        have B3 := Lib.hid b3
        have C3 := Lib.hid (QAt.of (o3.keep (QBq.out) (by simp)))
        have s3 := o3.size
        have EN : Hid (EnvNew w w3 qb en m bc ck r rc) := Lib.hid ⟨by omega, by omega, by omega, by omega, by omega⟩
        clear o3 b3 l1 l2 l3 l4 l5 l6 l7 l8 l9 l10 l11 l12 s3
        have O0 := Lib.hid ((Only.refl [] w3).drew)
        go_wp2_with fail
        go_region_held3 (fun w' => w'.cell? ⟨qb, 0, none⟩ = some (.int .i64 0) ∧ w'.cell? ⟨qb, 1, none⟩ = some (.int .i64 1) ∧ w'.cell? ⟨qb, 2, none⟩ = some (.int .i64 2) ∧ w'.cell? ⟨qb, 3, none⟩ = some (.int .i64 n))
          (first | exact QAt.keep C3.out O0.out | exact QAt.keep C3.out OA.out | exact QAt.keep C3.out OP.out | exact QAt.keep C3.out OM.out | exact QAt.keep CF.out (Only.refl _ _))
          ((first
            | (go_at_call 25; refine (awake12_any _).mono ?_; rintro e wA ⟨rfl, oA⟩; have OA := Lib.hid (O0.out.then0 oA); clear oA)
            | (go_at_call 27; refine (clear_new _ (cell) (bit) ⟨0, 1, 2, n⟩).mono ?_; rintro e wP ⟨p, rfl, oP, hP, lp1, lp2⟩; have OP := Lib.hid (OA.out.then0 oP); have HP := Lib.hid (And.intro hP (And.intro lp1 lp2)); clear oP hP lp1 lp2)
            | (go_at_call 18; refine (make_any _ { newClear (cell) (bit) ⟨0, 1, 2, n⟩ with line := 0 } (by simp [newClear]) rfl rfl).mono ?_; rintro e wM ⟨y, fb, rfl, oM, hM, ly, lf, hyf, ly2, lf2⟩; have OM := Lib.hid (OP.out.then0 oM); have HM := Lib.hid (And.intro oM (And.intro hM (And.intro ly (And.intro lf (And.intro hyf (And.intro ly2 lf2)))))); clear oM hM ly lf hyf ly2 lf2)
            | (go_at_call 16
               have gp : w3.heap.size ≤ p := by have := HP.out.2.1; have := OA.out.size; have : w3.drew.heap.size = w3.heap.size := rfl; omega
               have gy : w3.heap.size ≤ y := by have := HM.out.2.2.1; have := OP.out.size; omega
               have gf : w3.heap.size ≤ fb := by have := HM.out.2.2.2.1; have := OP.out.size; omega
               have I := matIn_new (k := newClear (cell) (bit) ⟨0, 1, 2, n⟩) B3.out EN.out.hi.1 EN.out.hi.2 OP.out HP.out.1 gp HP.out.2.2 HM.out.1 HM.out.2.1 HM.out.2.2.1 HM.out.2.2.2.1 HM.out.2.2.2.2.1 HM.out.2.2.2.2.2.1 HM.out.2.2.2.2.2.2
               have MT := Lib.hid (match_any _ en m bc ck r rc p y fb (newClear (cell) (bit) ⟨0, 1, 2, n⟩) (bareMS xs) bo cb zs 9 (HZ.out.keep0 (O3.out.then0 OM.out)) HZL.out.1 (EN.out.fr HZN.out gp gy gf) (by have := HZL.out.2; omega) (by omega) (by simp [newClear]) rfl (newClear_ok _ _ _ ⟨by simp, by simp⟩) ⟨rfl, rfl⟩ SOK.out SML.out.1 SML.out.2 I.1 I.2.1 I.2.2)
               rw [← HLZ.out] at MT
               refine MT.out.mono ?_; rintro e wF ⟨rfl, oF⟩
               have OF := Lib.hid ((O3.out.then0 OM.out).trans oF (EN.out.bs gp gy gf))
               have CF := Lib.hid (QAt.keepS (QAt.keep C3.out OM.out) oF (EN.out.nq gp gy gf))
               clear I MT oF gp gy gf)))
        go_wp2_with fail
        go_ret
        exact ⟨rfl, OF.out⟩
      | true =>
        go_enter Tryz.func9, Tryz.ntmps9
        go_wp2_with fail
        refine SH.out.mono ?_; rintro e wS ⟨rfl, rfl⟩
        have OS := Lib.hid ((Only.refl [] w).alloc (.cells #[.slice bo lz cb] 24))
        clear SH
        obtain ⟨wS, hwS⟩ : ∃ wS, wS = w.alloc (.cells #[.slice bo lz cb] 24) := ⟨_, rfl⟩
        have sS : wS.heap.size = w.heap.size + 1 := by rw [hwS]; simp
        have HS := Lib.hid (And.intro hwS sS)
        clear hwS sS
        go_wp2_with fail
        rw [← HS.out.1] at OS ⊢
        rw [← HS.out.2]
        clear HS
        refine (num1_any _ _ cell _ 3 (0, 0) (blk_alloc_new _ _) (by omega) (by omega)).mono ?_; rintro e wn1 ⟨x1, rfl, h1, on1⟩
        have ON1 := Lib.hid ((OS.out.alloc (.cells #[.int .i64 cell] 3)).then0 on1)
        clear on1
        go_wp2_with fail
        refine (num1_any _ _ bit _ 3 (0, 0) (blk_alloc_new _ _) (by omega) (by omega)).mono ?_; rintro e wn2 ⟨x2, rfl, h2, on2⟩
        have ON := Lib.hid ((ON1.out.alloc (.cells #[.int .i64 bit] 3)).then0 on2)
        have e1 : IntKind.i64.wrap (x1 - 1) = x1 - 1 := IntWalk.i64_in _ (by omega)
        have e2 : IntKind.i64.wrap (x2 - 1) = x2 - 1 := IntWalk.i64_in _ (by omega)
        clear on2 ON1
        have SML : Hid ((bareMS xs).count ≤ 1000 ∧ (bareMS xs).cells.length ≤ 1000) := Lib.hid (by rw [bareMS_count, bareMS_cells, ← HXL.out]; omega)
        go_wp2_with fail
        refine (queue_any _ n).mono ?_; rintro e u0 ⟨rfl, o0⟩
        simp only [Q4.v]
        have U0 := Lib.hid (ON.out.then0 o0)
        obtain ⟨wq, hwq⟩ : ∃ wq, wq = u0.alloc (.cells #[.int .i64 0, .int .i64 1, .int .i64 2, .int .i64 n] 27) := ⟨_, rfl⟩
        obtain ⟨qb, hqb⟩ : ∃ qb, qb = u0.heap.size := ⟨_, rfl⟩
        have ow : Only [] u0 wq := by rw [hwq]; exact (Only.refl _ _).alloc _
        have QBq : Hid (wq.heap[qb]? = some (.cells #[.int .i64 0, .int .i64 1, .int .i64 2, .int .i64 n] 27 (0, 0))) := Lib.hid (by rw [hwq, hqb]; exact blk_alloc_new _ _)
        have OQ := Lib.hid (U0.out.then0 ow)
        have qs : wq.heap.size = qb + 1 := by rw [hwq, hqb]; simp
        have qs0 : w.heap.size ≤ qb := by have := U0.out.size; omega
        have HQQ := Lib.hid (And.intro hwq hqb)
        clear o0 ow hwq hqb
        go_wp2_with fail
        rw [← HQQ.out.1, ← HQQ.out.2]
        refine (bare_any wq ao cap len xs (HX.out.keep0 OQ.out) HXL.out (by omega)).mono ?_; rintro e w3 ⟨en, m, bc, ck, r, rc, rfl, o3, b3, ⟨l1, l2, l3, l4, l5, l6⟩, l7, l8, l9, l10, l11, l12⟩
        have O3 := Lib.hid (OQ.out.then0 o3)
        have B3 := Lib.hid b3
        have C3 := Lib.hid (QAt.of (o3.keep (QBq.out) (by simp)))
        have s3 := o3.size
        have EN : Hid (EnvNew w w3 qb en m bc ck r rc) := Lib.hid ⟨by omega, by omega, by omega, by omega, by omega⟩
        clear o3 b3 l1 l2 l3 l4 l5 l6 l7 l8 l9 l10 l11 l12 s3
        have O0 := Lib.hid ((Only.refl [] w3).drew)
        go_wp2_with fail
        go_region_held3 (fun w' => w'.cell? ⟨qb, 0, none⟩ = some (.int .i64 0) ∧ w'.cell? ⟨qb, 1, none⟩ = some (.int .i64 1) ∧ w'.cell? ⟨qb, 2, none⟩ = some (.int .i64 2) ∧ w'.cell? ⟨qb, 3, none⟩ = some (.int .i64 n))
          (first | exact QAt.keep C3.out O0.out | exact QAt.keep C3.out OA.out | exact QAt.keep C3.out OP.out | exact QAt.keep C3.out OM.out | exact QAt.keep CF.out (Only.refl _ _))
          ((first
            | (go_at_call 25; refine (awake12_any _).mono ?_; rintro e wA ⟨rfl, oA⟩; have OA := Lib.hid (O0.out.then0 oA); clear oA)
            | (go_at_call 27; refine (clear_new _ (x1 - 1) (x2 - 1) ⟨0, 1, 2, n⟩).mono ?_; rintro e wP ⟨p, rfl, oP, hP, lp1, lp2⟩; have OP := Lib.hid (OA.out.then0 oP); have HP := Lib.hid (And.intro hP (And.intro lp1 lp2)); clear oP hP lp1 lp2)
            | (go_at_call 18; refine (make_any _ { newClear (x1 - 1) (x2 - 1) ⟨0, 1, 2, n⟩ with line := 0 } (by simp [newClear]) rfl rfl).mono ?_; rintro e wM ⟨y, fb, rfl, oM, hM, ly, lf, hyf, ly2, lf2⟩; have OM := Lib.hid (OP.out.then0 oM); have HM := Lib.hid (And.intro oM (And.intro hM (And.intro ly (And.intro lf (And.intro hyf (And.intro ly2 lf2)))))); clear oM hM ly lf hyf ly2 lf2)
            | (go_at_call 16
               have gp : w3.heap.size ≤ p := by have := HP.out.2.1; have := OA.out.size; have : w3.drew.heap.size = w3.heap.size := rfl; omega
               have gy : w3.heap.size ≤ y := by have := HM.out.2.2.1; have := OP.out.size; omega
               have gf : w3.heap.size ≤ fb := by have := HM.out.2.2.2.1; have := OP.out.size; omega
               have I := matIn_new (k := newClear (x1 - 1) (x2 - 1) ⟨0, 1, 2, n⟩) B3.out EN.out.hi.1 EN.out.hi.2 OP.out HP.out.1 gp HP.out.2.2 HM.out.1 HM.out.2.1 HM.out.2.2.1 HM.out.2.2.2.1 HM.out.2.2.2.2.1 HM.out.2.2.2.2.2.1 HM.out.2.2.2.2.2.2
               have MT := Lib.hid (match_any _ en m bc ck r rc p y fb (newClear (x1 - 1) (x2 - 1) ⟨0, 1, 2, n⟩) (bareMS xs) bo cb zs 9 (HZ.out.keep0 (O3.out.then0 OM.out)) HZL.out.1 (EN.out.fr HZN.out gp gy gf) (by have := HZL.out.2; omega) (by omega) (by simp [newClear]) rfl (newClear_ok _ _ _ ⟨by simp, by simp⟩) ⟨rfl, rfl⟩ SOK.out SML.out.1 SML.out.2 I.1 I.2.1 I.2.2)
               rw [← HLZ.out] at MT
               refine MT.out.mono ?_; rintro e wF ⟨rfl, oF⟩
               have OF := Lib.hid ((O3.out.then0 OM.out).trans oF (EN.out.bs gp gy gf))
               have CF := Lib.hid (QAt.keepS (QAt.keep C3.out OM.out) oF (EN.out.nq gp gy gf))
               clear I MT oF gp gy gf)))
        go_wp2_with fail
        go_ret
        exact ⟨rfl, OF.out⟩
    · clear hlz hzl0
      have SH := Lib.hid (short_any (w.alloc (.cells #[.slice bo lz cb] 24)) none 0 0 (by omega) _ 24 (0, 0) [(bo, lz, cb)] 1 rfl (by omega) (blk_alloc_new _ _) (by simp; omega))
      rw [show (decide (∀ x ∈ [(bo, lz, cb)], x.2.1 ≤ 400) && decide (0 ≤ 400)) = false from by simp; omega] at SH
      go_enter Tryz.func9, Tryz.ntmps9
      go_wp2_with fail
      refine SH.out.mono ?_; rintro e wS ⟨rfl, rfl⟩
      go_wp2_with fail
      go_ret
      exact ⟨rfl, (Only.refl _ _).alloc _⟩
  · have hl40 : (40 : Int) < len := by omega
    clear hlz hzl0
    go_enter Tryz.func9, Tryz.ntmps9
    go_wp2_with fail
    go_ret
    exact ⟨rfl, Only.refl _ _⟩
end Go.Proofs.YtlklfpbimoolbaaGreat
