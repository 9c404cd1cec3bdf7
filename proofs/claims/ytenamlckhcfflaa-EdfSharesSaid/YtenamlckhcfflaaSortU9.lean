/- Sorting words: patterns broken (a permutation, whichever; no more is said). -/
import Derived.Test.YtenamlckhcfflaaSortU4
import Derived.Test.YtenamlckhcfflaaBitsLen
namespace Go.Proofs.Ytenamlckhcfflaa
open Go.RowKit Go.Sort
set_option linter.unusedVariables false

theorem len_any (x : Int) (w : World) (h0 : 0 ≤ x) (h1 : x ≤ 18446744073709551615) :
    Calls Try.prog 24 #[.int .u64 x] w fun e w' => e = .returned (.int .i64 (Lib.bitLen x.toNat)) ∧ w = w' := by
  have L := Lib.hid (len64_int x w h0 h1)
  obtain ⟨r, hr⟩ : ∃ r : Int, r = (Lib.bitLen x.toNat : Int) := ⟨_, rfl⟩
  rw [← hr] at L ⊢
  clear hr h0 h1
  go_enter Try.func24, Try.ntmps24
  go_wp2_with fail
  refine L.out.mono ?_; rintro e w' ⟨rfl, rfl⟩
  go_wp2_with fail
  go_ret
  exact ⟨rfl, rfl⟩

theorem aux0 : ∀ f, Lib.bitLenAux f 0 = 0
  | 0 => rfl
  | f + 1 => by rw [Lib.bitLenAux, if_pos rfl]
theorem two_aux : ∀ (f x : Nat), 0 < x → 2 ^ Lib.bitLenAux f x ≤ 2 * x
  | 0, x, h => by simp [Lib.bitLenAux]; omega
  | f + 1, x, h => by
    rw [Lib.bitLenAux, if_neg (by omega), Nat.add_comm, Nat.pow_succ]
    rcases Nat.eq_zero_or_pos (x / 2) with h0 | h0
    · rw [h0, aux0]; omega
    · have := two_aux f (x / 2) h0
      omega
theorem two_bitLen {n : Nat} (h : 0 < n) : 2 ^ Lib.bitLen n ≤ 2 * n ∧ 0 < 2 ^ Lib.bitLen n := ⟨two_aux 64 n h, Nat.two_pow_pos _⟩

set_option maxRecDepth 100000 in
theorem np2_any (w : World) (n : Nat) (h : 0 < n) (hn : n ≤ 4000000000000) :
    Calls Try.prog 37 #[.int .i64 n] w fun e w' => ∃ m : Nat, e = .returned (.int .u64 m) ∧ (0 < m ∧ m ≤ 2 * n) ∧ w = w' := by
  have hw : IntKind.u64.wrap (n : Int) = (n : Int) := by rw [IntKind.wrap_u64]; omega
  have L := Lib.hid (len_any n w (by omega) (by omega))
  obtain ⟨k, hk⟩ : ∃ k, k = Lib.bitLen n := ⟨_, rfl⟩
  have h2 := two_bitLen h
  rw [show ((n : Int).toNat) = n from by omega, ← hk] at L
  rw [← hk] at h2
  have H2 := Lib.hid h2
  have hk64 : k < 64 := by
    rcases Nat.lt_or_ge k 64 with g | g
    · exact g
    · have := Nat.pow_le_pow_right (n := 2) (by omega) g
      omega
  have hp : IntKind.u64.wrap ((2 : Int) ^ min k 64) = ((2 ^ k : Nat) : Int) := by
    rw [Nat.min_eq_left (by omega), IntKind.wrap_u64, show ((2 : Int) ^ k) = ((2 ^ k : Nat) : Int) from by simp]
    generalize 2 ^ k = m at h2 ⊢
    omega
  have HP := Lib.hid hp
  clear hk h2 hp hk64
  go_enter Try.func37, Try.ntmps37
  go_wp2_with fail
  refine L.out.mono ?_; rintro e w' ⟨rfl, rfl⟩
  go_wp2_with fail
  go_ret
  exact ⟨2 ^ k, by rw [HP.out]; rfl, ⟨H2.out.2, H2.out.1⟩, rfl⟩

/-- A generator of numbers at block rb. -/
def RngAt (w : World) (rb : Nat) : Prop := ∃ x : Int, w.heap[rb]? = some (.cells #[.int .u64 x] 50 (0, 0))

theorem RngAt.keep9 {S : List Nat} {w w' : World} {rb : Nat} (h : RngAt w rb) (o : Only S w w') (hn : rb ∉ S) : RngAt w' rb := by
  obtain ⟨x, hx⟩ := h
  exact ⟨x, o.keep hx hn⟩

set_option maxRecDepth 100000 in
theorem next_any (w : World) (rb : Nat) (h : RngAt w rb) :
    Calls Try.prog 38 #[.pointer (some ⟨rb, 0, none⟩)] w fun e w' => ∃ r : Int, e = .returned (.int .u64 r) ∧ Only [rb] w w' ∧ RngAt w' rb := by
  obtain ⟨x, hx⟩ := h
  have c0 := cell_blk hx 0
  have f0 := free_blk hx 0
  simp at c0
  have HX := Lib.hid hx
  clear hx
  go_enter Try.func38, Try.ntmps38
  go_wp2_with fail
  go_region
  obtain ⟨x1, hx1⟩ : ∃ z : Int, z = bits .xor .u64 x (IntKind.u64.wrap (x * 8192)) := ⟨_, rfl⟩
  obtain ⟨w1, hw1⟩ : ∃ w', w' = (w.setCell ⟨rb, 0, none⟩ (.int .u64 x1)).drew := ⟨_, rfl⟩
  have HX1 : Hid (w1.heap[rb]? = some (.cells #[.int .u64 x1] 50 (0, 0))) := Lib.hid (by
    rw [hw1]
    exact (blk_setCell HX.out 0 (.int .u64 x1)).trans rfl)
  have O1 : Hid (Only [rb] w w1) := Lib.hid (by rw [hw1]; exact ((Only.refl [rb] w).setCell (by simp) _).drew)
  rw [← hx1, ← hw1]
  clear hx1 hw1 c0 f0
  have c0 := cell_blk HX1.out 0
  have f0 := free_blk HX1.out 0
  simp at c0
  go_wp2_with fail
  go_region
  obtain ⟨x2, hx2⟩ : ∃ z : Int, z = bits .xor .u64 x1 (x1 / 128) := ⟨_, rfl⟩
  obtain ⟨w2, hw2⟩ : ∃ w', w' = (w1.setCell ⟨rb, 0, none⟩ (.int .u64 x2)).drew := ⟨_, rfl⟩
  have HX2 : Hid (w2.heap[rb]? = some (.cells #[.int .u64 x2] 50 (0, 0))) := Lib.hid (by
    rw [hw2]
    exact (blk_setCell HX1.out 0 (.int .u64 x2)).trans rfl)
  have O2 : Hid (Only [rb] w w2) := Lib.hid (by rw [hw2]; exact (O1.out.setCell (by simp) _).drew)
  rw [← hx2, ← hw2]
  clear hx2 hw2 c0 f0
  have c0 := cell_blk HX2.out 0
  have f0 := free_blk HX2.out 0
  simp at c0
  go_wp2_with fail
  go_region
  obtain ⟨x3, hx3⟩ : ∃ z : Int, z = bits .xor .u64 x2 (IntKind.u64.wrap (x2 * 131072)) := ⟨_, rfl⟩
  obtain ⟨w3, hw3⟩ : ∃ w', w' = (w2.setCell ⟨rb, 0, none⟩ (.int .u64 x3)).drew := ⟨_, rfl⟩
  have HX3 : Hid (w3.heap[rb]? = some (.cells #[.int .u64 x3] 50 (0, 0))) := Lib.hid (by
    rw [hw3]
    exact (blk_setCell HX2.out 0 (.int .u64 x3)).trans rfl)
  have O3 : Hid (Only [rb] w w3) := Lib.hid (by rw [hw3]; exact (O2.out.setCell (by simp) _).drew)
  rw [← hx3, ← hw3]
  clear hx3 hw3 c0 f0
  have c0 := cell_blk HX3.out 0
  have f0 := free_blk HX3.out 0
  simp at c0
  go_wp2_with fail
  go_ret
  exact ⟨x3, rfl, O3.out, x3, HX3.out⟩

/-- Words as bit vectors. -/
def bv9 (x : Int) : BitVec 64 := BitVec.ofInt 64 x
theorem wrapU9 (v : BitVec 64) : IntKind.u64.wrap (v.toNat : Int) = (v.toNat : Int) := by
  rw [IntKind.wrap_u64]
  have := v.isLt
  omega
theorem bits_and9 (x y : Int) : bits .and .u64 x y = ((bv9 x &&& bv9 y).toNat : Int) := wrapU9 (bv9 x &&& bv9 y)
theorem and_small (x : Int) (m : Nat) (hm : m < 18446744073709551616) : ∃ o : Nat, bits .and .u64 x (m : Int) = (o : Int) ∧ o ≤ m := by
  refine ⟨(bv9 x &&& bv9 m).toNat, bits_and9 x m, ?_⟩
  rw [BitVec.toNat_and]
  have : (bv9 (m : Int)).toNat = m := by unfold bv9; simp; omega
  rw [this]
  exact Nat.and_le_right

/-- What breaking patterns comes to. -/
def BrkEnd (b a e : Nat) (d : Array Int) (w : World) (en : Ending) (w' : World) : Prop := ∃ d', en = .returned (.tuple #[]) ∧ Only [b] w w' ∧ Rw w' b d' ∧ PermIn a e d d'

set_option maxRecDepth 100000 in
set_option maxHeartbeats 2000000 in
theorem brk_any (w : World) (b cap n a e : Nat) (d : Array Int) (h : Rw w b d) (hn : d.size = n) (he : e ≤ n) (hae : a < e) (hsz : n ≤ 4000000000000) :
    Calls Try.prog 27 #[.slice (some ⟨b, 0, none⟩) n cap, .int .i64 a, .int .i64 e] w (BrkEnd b a e d w) := by
  have hb := h.lt
  have H := Lib.hid h
  have HN := Lib.hid hn
  obtain ⟨l, hl⟩ : ∃ l, l = e - a := ⟨_, rfl⟩
  have hll : ((e : Int) - (a : Int)) = (l : Int) := by omega
  have hal : a + l = e := by omega
  clear h hn hl
  by_cases h8 : 8 ≤ l
  · obtain ⟨I, hI⟩ : ∃ I : Nat, I = a + l / 4 * 2 - 1 := ⟨_, rfl⟩
    have eI : ((a : Int) + (l : Int) / 4 * 2 - 1) = (I : Int) := by omega
    have eI2 : ((a : Int) + (l : Int) / 4 * 2 + 1) = (I : Int) + 2 := by omega
    have bI : a ≤ I ∧ I + 3 ≤ e := by omega
    clear hI
    go_enter Try.func27, Try.ntmps27
    go_wp2_with fail
    have O0 := Lib.hid ((Only.refl [b] w).alloc (.cells #[.int .u64 (l : Int)] 50))
    have R0 := Lib.hid (H.out.keep ((Only.refl [] w).alloc (.cells #[.int .u64 (l : Int)] 50)) (by simp))
    have G0 : Hid (RngAt (w.alloc (.cells #[.int .u64 (l : Int)] 50)) w.heap.size) := Lib.hid ⟨l, blk_alloc_new _ _⟩
    obtain ⟨rb, hrb⟩ : ∃ rb, rb = w.heap.size := ⟨_, rfl⟩
    obtain ⟨w0, hw0⟩ : ∃ w0, w0 = w.alloc (.cells #[.int .u64 (l : Int)] 50) := ⟨_, rfl⟩
    have nrb : rb ≠ b := by omega
    rw [← hrb, ← hw0] at G0
    rw [← hw0] at O0 R0
    rw [← hrb, ← hw0]
    have HRB := Lib.hid hrb
    clear hrb hw0 hb
    refine (np2_any w0 l (by omega) (by omega)).mono ?_; rintro en w1 ⟨m, rfl, hm, rfl⟩
    go_wp2_with fail
    go_loopw [9] (fun vi wr => ∃ (idx : Nat) (dk : Array Int), vi = .int .i64 idx ∧ I ≤ idx ∧ idx ≤ I + 3 ∧ dk.size = n ∧ Only [b] w wr ∧ Rw wr b dk ∧ RngAt wr rb ∧ PermIn a e d dk) (fun i _ => I + 3 - (intOf i).toNat)
    case atStart => exact ⟨I, d, rfl, Nat.le_refl _, by omega, HN.out, O0.out, R0.out, G0.out, permIn_refl _ _ _⟩
    case round =>
      obtain ⟨idx, dk, rfl, hi1, hi2, hk, hO, hR, hg, hP⟩ := hrel
      have HO6 := Lib.hid hO
      have HR6 := Lib.hid hR
      have HG6 := Lib.hid hg
      have HP := Lib.hid hP
      have HK7 := Lib.hid hk
      clear hO hR hg hP hk
      by_cases hlt : idx ≤ I + 2
      · have NX := Lib.hid (next_any w0 rb G0.out)
        clear NX
        have NX := Lib.hid (next_any wr rb HG6.out)
        have em : ((m : Int) - 1) = ((m - 1 : Nat) : Int) := by omega
        go_wp2_with fail
        refine NX.out.mono ?_; rintro en w2 ⟨r, rfl, o2, g2⟩
        have HO7 := Lib.hid (HO6.out.trans o2 (by have := HRB.out; simp; omega))
        have HR7 := Lib.hid (HR6.out.keep o2 (by simpa using nrb.symm))
        have HG7 := Lib.hid g2
        obtain ⟨o, ho, hom⟩ := and_small r (m - 1) (by omega)
        have hw1 : IntKind.i64.wrap (o : Int) = (o : Int) := IntWalk.i64_in _ (by omega)
        clear o2 g2 NX
        by_cases hol : l ≤ o
        · have hol2 : (l : Int) ≤ (o : Int) := by omega
          obtain ⟨q, hq⟩ : ∃ q, q = a + (o - l) := ⟨_, rfl⟩
          have hqq : ((a : Int) + ((o : Int) - (l : Int))) = (q : Int) := by omega
          have bq : a ≤ q ∧ q < e := by omega
          clear hq
          by_cases hpq : idx = q
          · subst hpq
            have c1 := HR7.out.cell idx (by rw [HK7.out]; omega)
            have f1 := HR7.out.free idx
            have SW := Lib.hid (HR7.out.swp (i := idx) (j := idx) (by rw [HK7.out]; omega) (by rw [HK7.out]; omega))
            have SP := Lib.hid (swp_permIn dk a e idx idx (by omega) (by omega) (by omega) (by omega) (by rw [HK7.out]; omega))
            obtain ⟨G, hG⟩ : ∃ G : Nat → Int, ∀ t, G t = dk[t]! := ⟨fun t => dk[t]!, fun _ => rfl⟩
            rw [← hG] at SW
            rw [← hG] at c1
            clear hG
            go_wp2_with fail
            go_region
            have HO8 := Lib.hid (HO7.out.trans (only_swp w2 b idx idx (.int .u64 (G idx)) (.int .u64 (G idx))) (by simp)).drew
            have HG8 := Lib.hid (HG7.out.keep9 (only_swp w2 b idx idx (.int .u64 (G idx)) (.int .u64 (G idx))).drew (by simpa using nrb))
            go_wp2_with fail
            go_roundw
            case rel => exact ⟨idx + 1, _, by go_num, by omega, by omega, by rw [size_swp]; exact HK7.out, HO8.out, SW.out, HG8.out, permIn_trans _ _ _ _ _ HP.out SP.out⟩
            case measure => simp [intOf] <;> omega
          · have hqp : ¬ q = idx := fun e => hpq e.symm
            have c1 := HR7.out.cell idx (by rw [HK7.out]; omega)
            have f1 := HR7.out.free idx
            have c2 := HR7.out.cell q (by rw [HK7.out]; omega)
            have f2 := HR7.out.free q
            have SW := Lib.hid (HR7.out.swp (i := idx) (j := q) (by rw [HK7.out]; omega) (by rw [HK7.out]; omega))
            have SP := Lib.hid (swp_permIn dk a e idx q (by omega) (by omega) (by omega) (by omega) (by rw [HK7.out]; omega))
            obtain ⟨G, hG⟩ : ∃ G : Nat → Int, ∀ t, G t = dk[t]! := ⟨fun t => dk[t]!, fun _ => rfl⟩
            rw [← hG, ← hG] at SW
            rw [← hG] at c1 c2
            clear hG
            go_wp2_with fail
            go_region
            have HO8 := Lib.hid (HO7.out.trans (only_swp w2 b idx q (.int .u64 (G q)) (.int .u64 (G idx))) (by simp)).drew
            have HG8 := Lib.hid (HG7.out.keep9 (only_swp w2 b idx q (.int .u64 (G q)) (.int .u64 (G idx))).drew (by simpa using nrb))
            go_wp2_with fail
            go_roundw
            case rel => exact ⟨idx + 1, _, by go_num, by omega, by omega, by rw [size_swp]; exact HK7.out, HO8.out, SW.out, HG8.out, permIn_trans _ _ _ _ _ HP.out SP.out⟩
            case measure => simp [intOf] <;> omega
        · have hol2 : (o : Int) < (l : Int) := by omega
          obtain ⟨q, hq⟩ : ∃ q, q = a + o := ⟨_, rfl⟩
          have hqq : ((a : Int) + (o : Int)) = (q : Int) := by omega
          have bq : a ≤ q ∧ q < e := by omega
          clear hq
          by_cases hpq : idx = q
          · subst hpq
            have c1 := HR7.out.cell idx (by rw [HK7.out]; omega)
            have f1 := HR7.out.free idx
            have SW := Lib.hid (HR7.out.swp (i := idx) (j := idx) (by rw [HK7.out]; omega) (by rw [HK7.out]; omega))
            have SP := Lib.hid (swp_permIn dk a e idx idx (by omega) (by omega) (by omega) (by omega) (by rw [HK7.out]; omega))
            obtain ⟨G, hG⟩ : ∃ G : Nat → Int, ∀ t, G t = dk[t]! := ⟨fun t => dk[t]!, fun _ => rfl⟩
            rw [← hG] at SW
            rw [← hG] at c1
            clear hG
            go_wp2_with fail
            go_region
            have HO8 := Lib.hid (HO7.out.trans (only_swp w2 b idx idx (.int .u64 (G idx)) (.int .u64 (G idx))) (by simp)).drew
            have HG8 := Lib.hid (HG7.out.keep9 (only_swp w2 b idx idx (.int .u64 (G idx)) (.int .u64 (G idx))).drew (by simpa using nrb))
            go_wp2_with fail
            go_roundw
            case rel => exact ⟨idx + 1, _, by go_num, by omega, by omega, by rw [size_swp]; exact HK7.out, HO8.out, SW.out, HG8.out, permIn_trans _ _ _ _ _ HP.out SP.out⟩
            case measure => simp [intOf] <;> omega
          · have hqp : ¬ q = idx := fun e => hpq e.symm
            have c1 := HR7.out.cell idx (by rw [HK7.out]; omega)
            have f1 := HR7.out.free idx
            have c2 := HR7.out.cell q (by rw [HK7.out]; omega)
            have f2 := HR7.out.free q
            have SW := Lib.hid (HR7.out.swp (i := idx) (j := q) (by rw [HK7.out]; omega) (by rw [HK7.out]; omega))
            have SP := Lib.hid (swp_permIn dk a e idx q (by omega) (by omega) (by omega) (by omega) (by rw [HK7.out]; omega))
            obtain ⟨G, hG⟩ : ∃ G : Nat → Int, ∀ t, G t = dk[t]! := ⟨fun t => dk[t]!, fun _ => rfl⟩
            rw [← hG, ← hG] at SW
            rw [← hG] at c1 c2
            clear hG
            go_wp2_with fail
            go_region
            have HO8 := Lib.hid (HO7.out.trans (only_swp w2 b idx q (.int .u64 (G q)) (.int .u64 (G idx))) (by simp)).drew
            have HG8 := Lib.hid (HG7.out.keep9 (only_swp w2 b idx q (.int .u64 (G q)) (.int .u64 (G idx))).drew (by simpa using nrb))
            go_wp2_with fail
            go_roundw
            case rel => exact ⟨idx + 1, _, by go_num, by omega, by omega, by rw [size_swp]; exact HK7.out, HO8.out, SW.out, HG8.out, permIn_trans _ _ _ _ _ HP.out SP.out⟩
            case measure => simp [intOf] <;> omega
      · go_wp2_with fail
        go_end0
        exact ⟨dk, rfl, HO6.out, HR6.out, HP.out⟩
  · go_enter Try.func27, Try.ntmps27
    go_wp2_with fail
    go_end0
    exact ⟨d, rfl, Only.refl _ _, H.out, permIn_refl _ _ _⟩
end Go.Proofs.Ytenamlckhcfflaa
