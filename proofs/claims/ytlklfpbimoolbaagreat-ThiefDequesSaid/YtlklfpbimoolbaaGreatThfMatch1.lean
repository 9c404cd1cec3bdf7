/- ThiefDeques, walked (printed by gen_matchq.py). -/
import Derived.Test.YtlklfpbimoolbaaGreatMatchTail
import Derived.Test.YtlklfpbimoolbaaGreatThfAwake
namespace Go.Proofs.YtlklfpbimoolbaaGreat
open Go.RowKit
set_option linter.unusedVariables false

set_option maxRecDepth 100000 in
set_option maxHeartbeats 4000000 in
theorem ThiefDeques_small (w : World) (n size first : Int) (hn : 0 ≤ n ∧ n ≤ 255) (hsz : 0 ≤ size ∧ size ≤ 255) (hf : 0 ≤ first ∧ first ≤ 18446744073709551615) (ao : Option Addr) (len cap : Nat) (vs : List Int) (hv : Ns w (.slice ao vs.length cap) vs) (hlen : len = vs.length) (h400 : len ≤ 400)
    (bo : Option Addr) (cb : Nat) (zs : List Int) (hz : CellsAt w bo (zs.map (.int .i64))) (lzc : zs.length ≤ cb) (hz400 : zs.length ≤ 400) :
    Calls Tryz.prog 7 #[.int .u8 n, .int .u8 size, .int .u64 first, .slice ao len cap, .slice bo zs.length cb] w fun e w' => e = .returned (.bool true) ∧ Only [] w w' := by
  obtain ⟨hn0, hn1⟩ := hn
  obtain ⟨hsz0, hsz1⟩ := hsz
  obtain ⟨hf0, hf1⟩ := hf
  have HZL := Lib.hid (And.intro lzc hz400)
  have HZN := Lib.hid (blk_lt_of_ints hz)
  have HZ := Lib.hid hz
  obtain ⟨lz, hlz⟩ : ∃ lz, lz = zs.length := ⟨_, rfl⟩
  have HLZ := Lib.hid hlz
  rw [← hlz] at lzc ⊢
  obtain ⟨c, hc⟩ : ∃ c : Nat, 1 + n % 6 = c := ⟨(1 + n % 6).toNat, by omega⟩
  have hc1 : 1 ≤ c := by omega
  have hc9 : c ≤ 6 := by omega
  obtain ⟨k, hk⟩ : ∃ k : Nat, size % ((c : Int) + 1) = k := ⟨(size % ((c : Int) + 1)).toNat, by have := Int.emod_nonneg size (show ((c : Int) + 1) ≠ 0 by omega); omega⟩
  have hkc : k ≤ c := by have := Int.emod_lt_of_pos size (show 0 < ((c : Int) + 1) by omega); omega
  have HLEN := Lib.hid hlen
  rw [← hlen] at hv
  have HV := Lib.hid hv
  have hc0 : ((c : Int) + 1 == 0) = false := by simp; omega
  have hs400 : (decide (∀ x ∈ [(ao, len, cap), (bo, lz, cb)], x.2.1 ≤ 400) && decide (0 ≤ 400)) = true := by simp; omega
  have SH := Lib.hid (short_any (w.alloc (.cells #[.slice ao len cap, .slice bo lz cb] 24)) none 0 0 (by omega) w.heap.size 24 (0, 0) [(ao, len, cap), (bo, lz, cb)] 2 rfl (by omega) (blk_alloc_new _ _) (by simp; omega))
  rw [hs400] at SH
  have XOK : Hid (bareMS (deqTo c first k (entZ vs) k)).ok := Lib.hid (by intro x hx; rw [bareMS_cells] at hx; exact deqTo_bd (c := c) (first := first) (size := k) (f := entZ vs) ⟨hf0, hf1⟩ (fun i => by have := entZ_bd vs i; omega) k x hx)
  have XML : Hid ((bareMS (deqTo c first k (entZ vs) k)).count ≤ 1000 ∧ (bareMS (deqTo c first k (entZ vs) k)).cells.length ≤ 1000) := Lib.hid (by rw [bareMS_count, bareMS_cells, deqTo_len]; omega)
  clear hlen hz hlz hv hs400
  go_enter Tryz.func7, Tryz.ntmps7
  go_wp2_with fail
  refine SH.out.mono ?_; rintro e wS ⟨rfl, rfl⟩
  have OS := Lib.hid ((Only.refl [] w).alloc (.cells #[.slice ao len cap, .slice bo lz cb] 24))
  obtain ⟨wS, hwS⟩ : ∃ wS, wS = w.alloc (.cells #[.slice ao len cap, .slice bo lz cb] 24) := ⟨_, rfl⟩
  rw [← hwS] at OS ⊢
  clear hwS SH
  go_wp2_with fail
  refine (queue_any _ c).mono ?_; rintro e u0 ⟨rfl, o0⟩
  simp only [Q4.v]
  have U0 := Lib.hid (OS.out.then0 o0)
  obtain ⟨wq, hwq⟩ : ∃ wq, wq = u0.alloc (.cells #[.int .i64 0, .int .i64 1, .int .i64 2, .int .i64 c] 27) := ⟨_, rfl⟩
  obtain ⟨qb, hqb⟩ : ∃ qb, qb = u0.heap.size := ⟨_, rfl⟩
  have ow : Only [] u0 wq := by rw [hwq]; exact (Only.refl _ _).alloc _
  have QBq : Hid (wq.heap[qb]? = some (.cells #[.int .i64 0, .int .i64 1, .int .i64 2, .int .i64 c] 27 (0, 0))) := Lib.hid (by rw [hwq, hqb]; exact blk_alloc_new _ _)
  have OQ := Lib.hid (U0.out.then0 ow)
  have qs : wq.heap.size = qb + 1 := by rw [hwq, hqb]; simp
  have qs0 : w.heap.size ≤ qb := by have := U0.out.size; omega
  have HQQ := Lib.hid (And.intro hwq hqb)
  clear o0 ow hwq hqb
  go_wp2_with fail
  rw [← HQQ.out.1, ← HQQ.out.2]
  refine (deque_any wq c k first _ vs hc1 (by omega) (by omega) (by omega) (HV.out.keep OQ.out) (by have := HLEN.out; omega)).mono ?_; rintro e w1 ⟨da, dcap, rfl, o1, hd⟩
  have O1 := Lib.hid (OQ.out.then0 o1)
  have HD := Lib.hid hd
  have QB1 := Lib.hid (o1.keep QBq.out (by simp))
  have s1 := o1.size
  clear o1 hd
  go_wp2_with fail
  refine (bare_any w1 da dcap (c + 3) _ HD.out (by rw [deqTo_len]) (by omega)).mono ?_; rintro e w3 ⟨en, m, bc, ck, r, rc, rfl, o3, b3, ⟨l1, l2, l3, l4, l5, l6⟩, l7, l8, l9, l10, l11, l12⟩
  have O3 := Lib.hid (O1.out.then0 o3)
  have B3 := Lib.hid b3
  have C3 := Lib.hid (QAt.of (o3.keep (QB1.out) (by simp)))
  have s3 := o3.size
  have EN : Hid (EnvNew w w3 qb en m bc ck r rc) := Lib.hid ⟨by omega, by omega, by omega, by omega, by omega⟩
  clear o3 b3 l1 l2 l3 l4 l5 l6 l7 l8 l9 l10 l11 l12 s3
  obtain ⟨X, hX⟩ : ∃ X, X = deqTo c first k (entZ vs) k := ⟨_, rfl⟩
  rw [← hX] at B3
  have SOK : Hid (bareMS X).ok := Lib.hid (by rw [hX]; exact XOK.out)
  have SML : Hid ((bareMS X).count ≤ 1000 ∧ (bareMS X).cells.length ≤ 1000) := Lib.hid (by rw [hX]; exact XML.out)
  clear hX XOK XML HD s1 qs qs0 HQQ HV hc hk hc0
  have O0 := Lib.hid ((Only.refl [] w3).drew)
  go_wp2_with fail
  go_region_held3 (fun w' => w'.cell? ⟨qb, 0, none⟩ = some (.int .i64 0) ∧ w'.cell? ⟨qb, 1, none⟩ = some (.int .i64 1) ∧ w'.cell? ⟨qb, 2, none⟩ = some (.int .i64 2) ∧ w'.cell? ⟨qb, 3, none⟩ = some (.int .i64 c))
    (first | exact QAt.keep C3.out O0.out | exact QAt.keep C3.out OA.out | exact QAt.keep C3.out OP.out | exact QAt.keep C3.out OM.out | exact QAt.keep CF.out (Only.refl _ _))
    ((first
      | (go_at_call 23; refine (awake10_any _).mono ?_; rintro e wA ⟨rfl, oA⟩; have OA := Lib.hid (O0.out.then0 oA); clear oA)
      | (go_at_call 24; refine (steal_new _ ⟨0, 1, 2, c⟩).mono ?_; rintro e wP ⟨p, rfl, oP, hP, lp1, lp2⟩; have OP := Lib.hid (OA.out.then0 oP); have HP := Lib.hid (And.intro hP (And.intro lp1 lp2)); clear oP hP lp1 lp2)
      | (go_at_call 18; refine (make_any _ { newSteal ⟨0, 1, 2, c⟩ with line := 0 } (by simp [newSteal]) rfl rfl).mono ?_; rintro e wM ⟨y, fb, rfl, oM, hM, ly, lf, hyf, ly2, lf2⟩; have OM := Lib.hid (OP.out.then0 oM); have HM := Lib.hid (And.intro oM (And.intro hM (And.intro ly (And.intro lf (And.intro hyf (And.intro ly2 lf2)))))); clear oM hM ly lf hyf ly2 lf2)
      | (go_at_call 16
         have gp : w3.heap.size ≤ p := by have := HP.out.2.1; have := OA.out.size; have : w3.drew.heap.size = w3.heap.size := rfl; omega
         have gy : w3.heap.size ≤ y := by have := HM.out.2.2.1; have := OP.out.size; omega
         have gf : w3.heap.size ≤ fb := by have := HM.out.2.2.2.1; have := OP.out.size; omega
         have I := matIn_new (k := newSteal ⟨0, 1, 2, c⟩) B3.out EN.out.hi.1 EN.out.hi.2 OP.out HP.out.1 gp HP.out.2.2 HM.out.1 HM.out.2.1 HM.out.2.2.1 HM.out.2.2.2.1 HM.out.2.2.2.2.1 HM.out.2.2.2.2.2.1 HM.out.2.2.2.2.2.2
         have MT := Lib.hid (match_any _ en m bc ck r rc p y fb (newSteal ⟨0, 1, 2, c⟩) (bareMS X) bo cb zs 20 (HZ.out.keep0 (O3.out.then0 OM.out)) HZL.out.1 (EN.out.fr HZN.out gp gy gf) (by have := HZL.out.2; omega) (by omega) (by simp [newSteal]) rfl (QOk.steal ⟨by simp, by simp only; omega⟩) ⟨rfl, rfl⟩ SOK.out SML.out.1 SML.out.2 I.1 I.2.1 I.2.2)
         rw [← HLZ.out] at MT
         refine MT.out.mono ?_; rintro e wF ⟨rfl, oF⟩
         have OF := Lib.hid ((O3.out.then0 OM.out).trans oF (EN.out.bs gp gy gf))
         have CF := Lib.hid (QAt.keepS (QAt.keep C3.out OM.out) oF (EN.out.nq gp gy gf))
         clear I MT oF gp gy gf)))
  go_wp2_with fail
  go_ret
  exact ⟨rfl, OF.out⟩

set_option maxRecDepth 100000 in
theorem ThiefDeques_any (w : World) (n : Int) (wn : (Lit.int .u8 n).wf = true) (size : Int) (ws : (Lit.int .u8 size).wf = true) (first : Int) (wf : (Lit.int .u64 first).wf = true) (vs : List Int) (v : Value) (hv : Ns w v vs) (wv : ∀ z ∈ vs, (Lit.int .i64 z).wf = true) (lv : vs.length ≤ 9223372036854775807)
    (bo : Option Addr) (cb : Nat) (zs : List Int) (hz : CellsAt w bo (zs.map (.int .i64))) (wz : ∀ z ∈ zs, (Lit.int .i64 z).wf = true) (lzc : zs.length ≤ cb) (mz : cb ≤ maxLen) :
    Calls Tryz.prog 7 #[.int .u8 n, .int .u8 size, .int .u64 first, v, .slice bo zs.length cb] w fun e w' => e = .returned (.bool true) ∧ Only [] w w' := by
  have hv2 := hv
  obtain ⟨ao, cap, rfl, h1, h2, h3⟩ := hv
  unfold maxLen at mz
  by_cases h : vs.length ≤ 400 ∧ zs.length ≤ 400
  · exact ThiefDeques_small w n size first (wf_u8 wn) (wf_u8 ws) (wf_u64 wf) ao _ cap vs hv2 rfl h.1 bo cb zs hz lzc h.2
  · generalize vs.length = len at h lv h3 ⊢
    generalize zs.length = lz at h lzc ⊢
    have hs400 : (decide (∀ x ∈ [(ao, len, cap), (bo, lz, cb)], x.2.1 ≤ 400) && decide (0 ≤ 400)) = false := by simp; omega
    have SH := Lib.hid (short_any (w.alloc (.cells #[.slice ao len cap, .slice bo lz cb] 24)) none 0 0 (by omega) w.heap.size 24 (0, 0) [(ao, len, cap), (bo, lz, cb)] 2 rfl (by omega) (blk_alloc_new _ _) (by simp; omega))
    rw [hs400] at SH
    clear hs400 hv2 h1 h2 hz wz wv wn ws wf h
    go_enter Tryz.func7, Tryz.ntmps7
    go_wp2_with fail
    refine SH.out.mono ?_; rintro e wS ⟨rfl, rfl⟩
    go_wp2_with fail
    go_ret
    exact ⟨rfl, (Only.refl _ _).alloc _⟩
end Go.Proofs.YtlklfpbimoolbaaGreat
