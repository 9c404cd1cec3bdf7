/- Play, walked whole. -/
import Derived.Test.YtfhkhknnoepfeaaHistPlay
namespace Go.Proofs.Ytfhkhknnoepfeaa
open Go.RowKit
set_option linter.unusedVariables false

/-- The made game. -/
theorem BL.start {w0 w : World} {c gb en m bc ck n : Nat} {acts : Nat → List (Int × Int)} {abs : Nat → Nat} {avs : Nat → Value} {rv : Value} (h : BL w0 c gb en m bc ck n acts abs avs rv w) (hn : 1 ≤ n) :
    ∃ rb, GD w0 w.heap.size n gb en m bc ck rb abs ∧ GWx w0 w.heap.size n c gb en m bc ck rb abs rv (gstart c acts) w := by
  obtain ⟨mv, hm1, hm2, hm3, hm4⟩ := h.E.mm
  obtain ⟨arrc, hbc⟩ := mem_row h.E.mm (by simp [zerosN]; omega)
  obtain ⟨hl, ⟨rfl, h0⟩ | ⟨rb, cap, cur, rfl, hrb, hh, hcn, hcm, hs, ht⟩⟩ := h.R
  · simp at h0; omega
  have G := h.G
  have tG : w.heap[gb]? = some (.cells _ 66 (0, 0)) := G
  have tE : w.heap[en]? = some (.cells _ 93 (0, 0)) := h.E.e
  have tC : w.heap[ck]? = some (.cells _ 105 (0, 0)) := h.E.c
  have tM : w.heap[m]? = some (.cells _ 103 (0, 0)) := hm1
  have tA : ∀ a, a < n → w.heap[abs a]? = some (.cells #[.int .i64 a, avs a, .nilIface, .int .i64 0, .int .i64 0, .int .i64 0, .int .i64 0, .int .i64 0, .int .i64 0] 72 (0, 0)) := fun a ha => (h.A a ha).2
  refine ⟨rb, ⟨⟨h.lo.2.2, h.lo.1, h.lo.2.1⟩, ⟨lt_of_blk tG, lt_of_blk tE, lt_of_blk tM, lt_of_blk hbc, lt_of_blk tC, lt_of_blk hh⟩, ⟨typ_ne tG tE (by decide), typ_ne tG tM (by decide), typ_ne tG hbc (by decide), typ_ne tG tC (by decide), typ_ne tG hh (by decide)⟩, ⟨typ_ne hh tM (by decide), typ_ne hh hbc (by decide)⟩,
    fun a ha => ⟨(h.A a ha).1, lt_of_blk (tA a ha), typ_ne (tA a ha) tG (by decide), typ_ne (tA a ha) tE (by decide), typ_ne (tA a ha) tM (by decide), typ_ne (tA a ha) hbc (by decide), typ_ne (tA a ha) tC (by decide), typ_ne (tA a ha) hh (by decide)⟩, h.inj⟩,
    fun _ => 0, fun _ => HOp.zero, avs, .slice none 0 0, ⟨h.E, G, fun a ha => (h.A a ha).2, fun a ha => acts_owns (h.V a ha) rfl, fun a ha b off k cap e => ?_, (fun a ha k o e => by cases e), (fun a b _ _ e => absurd rfl e), ⟨rfl, .inl ⟨rfl, rfl⟩⟩, ⟨cap, cur, by simp, by simpa using hcn, hh, fun a ha => ?_⟩, h.F, Nat.le_refl _⟩⟩
  · obtain ⟨hb1, arr, hb2⟩ := row_blk (h.V a ha) b (by rw [e]; rfl)
    exact ⟨lt_of_blk hb2, typ_ne hb2 tG (by decide), typ_ne hb2 tM (by decide), typ_ne hb2 hbc (by decide), fun a' ha' => typ_ne hb2 (tA a' ha') (by decide)⟩
  · simp only [List.length_map, List.length_range, Nat.mul_one] at ht
    have h6 : (cur.toList.take n)[a]? = some (Value.pointer (some ⟨abs a, 0, none⟩)) := by rw [ht]; simp [ha]
    rw [List.getElem?_take] at h6
    simpa [ha] using h6

theorem gpicks_cb {q : Q4} : ∀ (l : List Nat) {g : Gm}, g.mem.count ≤ g.pick ∧ g.ops.length ≤ g.pick → (gpicks q g l).mem.count ≤ (gpicks q g l).pick ∧ (gpicks q g l).ops.length ≤ (gpicks q g l).pick
  | [], _, h => h
  | a :: r, _, h => gpicks_cb r (gstep_cb h)
theorem gdrain_cb {q : Q4} {a : Nat} : ∀ (n : Nat) {g : Gm}, g.mem.count ≤ g.pick ∧ g.ops.length ≤ g.pick → (gdrain q a n g).mem.count ≤ (gdrain q a n g).pick ∧ (gdrain q a n g).ops.length ≤ (gdrain q a n g).pick
  | 0, _, h => h
  | n + 1, g, h => by
    rw [gdrain]
    split
    · exact h
    · exact gdrain_cb n (gstep_cb h)
theorem gall_cb {q : Q4} {g : Gm} (h : g.mem.count ≤ g.pick ∧ g.ops.length ≤ g.pick) : ∀ k, (gall q g k).mem.count ≤ (gall q g k).pick ∧ (gall q g k).ops.length ≤ (gall q g k).pick
  | 0 => h
  | k + 1 => gdrain_cb _ (gall_cb h k)
theorem gpicks_snoc {q : Q4} : ∀ (l : List Nat) (a : Nat) (g : Gm), gpicks q g (l ++ [a]) = gstep q (gpicks q g l) a
  | [], _, _ => rfl
  | b :: r, a, g => gpicks_snoc r a (gstep q g b)

/-- The machine that a pick names. -/
def modN (n : Nat) (p : Int) : Nat := (p % (n : Int)).toNat
theorem modN_lt {n : Nat} (h : 1 ≤ n) (p : Int) : modN n p < n := by
  have h1 := Int.emod_nonneg p (show (n : Int) ≠ 0 by omega)
  have h2 := Int.emod_lt_of_pos p (show 0 < (n : Int) by omega)
  unfold modN; omega
theorem modN_int {n : Nat} (h : 1 ≤ n) (p : Int) : ((modN n p : Nat) : Int) = p % n := by
  have h1 := Int.emod_nonneg p (show (n : Int) ≠ 0 by omega)
  unfold modN; omega

theorem mod_any (w : World) (p : Int) (n : Nat) (hn : 1 ≤ n) (hb : n ≤ 1000000) :
    Calls Try.prog 25 #[.int .i64 p, .int .i64 n] w fun e w' => e = .returned (.int .i64 (modN n p)) ∧ w = w' := by
  have h1 := Int.emod_nonneg p (show (n : Int) ≠ 0 by omega)
  have h2 := Int.emod_lt_of_pos p (show 0 < (n : Int) by omega)
  have e := Lib.hid (modN_int hn p)
  obtain ⟨t, ht⟩ : ∃ t, t = p.tmod n := ⟨_, rfl⟩
  have hT := Lib.hid (show p % (n : Int) = if t < 0 then t + n else t from by
    have hna : ((n : Int).natAbs : Int) = n := by omega
    by_cases hd : 0 ≤ p ∨ (n : Int) ∣ p
    · have e1 : t = p % n := by rw [ht, Int.tmod_eq_emod, if_pos hd]; omega
      rw [if_neg (by omega), e1]
    · have e1 : t = p % n - n := by rw [ht, Int.tmod_eq_emod, if_neg hd, hna]
      rw [if_pos (by omega)]; omega)
  have ht1 : -(n : Int) ≤ t ∧ t < n := by
    have := hT.out
    split at this <;> omega
  have hz : ((n : Int) == 0) = false := by simp; omega
  by_cases hneg : t < 0
  · have hT2 := hT.out
    rw [if_pos hneg] at hT2
    have E : Hid ((modN n p : Int) = t + n) := Lib.hid (by rw [e.out, hT2])
    have hw1 : IntKind.i64.wrap (t + n) = t + n := IntWalk.i64_in _ (by omega)
    have hw2 : IntKind.i64.wrap t = t := IntWalk.i64_in _ (by omega)
    clear hT2 e hT h1 h2
    go_enter Try.func25, Try.ntmps25
    go_wp2_with fail
    all_goals (go_ret; exact ⟨ret_int (by have := E.out; first | omega | (rw [this]; omega)), rfl⟩)
  · have hT2 := hT.out
    rw [if_neg hneg] at hT2
    have E : Hid ((modN n p : Int) = t) := Lib.hid (by rw [e.out, hT2])
    have hw2 : IntKind.i64.wrap t = t := IntWalk.i64_in _ (by omega)
    clear hT2 e hT h1 h2
    go_enter Try.func25, Try.ntmps25
    go_wp2_with fail
    all_goals (go_ret; exact ⟨ret_int (by have := E.out; first | omega | (rw [this]; omega)), rfl⟩)
end Go.Proofs.Ytfhkhknnoepfeaa
