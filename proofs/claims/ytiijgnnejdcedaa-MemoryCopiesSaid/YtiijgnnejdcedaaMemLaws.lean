/- The laws of chapter 2 that do not speak of the reference, walked. -/
import Derived.Test.YtiijgnnejdcedaaMemMeth
import Derived.Laws.Bits64
namespace Go.Proofs.Ytiijgnnejdcedaa
open Go.RowKit

theorem memAwake_any (w : World) : Calls Try.prog 21 #[] w fun e w' => e = .returned (.bool true) ∧ Only [] w w' := by
  go_enter Try.func21, Try.ntmps21
  go_wp2_with fail
  refine (memNew_any _ 2 2 2 (by omega) rfl (by omega)).mono ?_; rintro e w1 ⟨m, bc, rfl, o1, h1, l1, l2, l3⟩
  go_wp2_with fail
  refine (memAdd_in _ m bc ⟨[0, 0], 0, 0, 0, 0, 0⟩ _ 1 rfl 0 5 h1 (by simp) rfl (by simp)).mono ?_; rintro e w2 ⟨rfl, o2, h2'⟩
  have h2 : MemAt w2 m bc ⟨[0, 5], 6, 1, 0, 5, 1⟩ := h2'
  have p2 : Only [] w w2 := o1.trans o2 (by simp; omega)
  clear o1 h1 o2 h2'
  go_wp2_with fail
  refine (memCAS_in _ m bc _ _ 1 rfl 5 5 9 h2 (by simp) rfl (by simp)).mono ?_; rintro e w3 ⟨rfl, o3, h3'⟩
  have h3 : MemAt w3 m bc ⟨[0, 9], 3, 1, 5, 9, 2⟩ := h3'
  have p3 : Only [] w w3 := p2.trans o3 (by simp; omega)
  clear p2 h2 o3 h3'
  go_wp2_with fail
  refine (memCAS_in _ m bc _ _ 1 rfl 9 5 7 h3 (by simp) rfl (by simp)).mono ?_; rintro e w4 ⟨rfl, o4, h4'⟩
  have h4 : MemAt w4 m bc ⟨[0, 9], 3, 1, 9, 9, 3⟩ := h4'
  have p4 : Only [] w w4 := p3.trans o4 (by simp; omega)
  clear p3 h3 o4 h4'
  go_wp2_with fail
  refine (memCount_any _ m bc _ h4).mono ?_; rintro e w5 ⟨rfl, rfl⟩
  go_wp2_with fail
  refine (memLast_any _ m bc _ h4).mono ?_; rintro e w5 ⟨rfl, o5⟩
  go_wp2_with fail
  go_ret
  exact ⟨rfl, p4.then0 o5⟩

theorem sumW_succ {zs : List Int} {k : Nat} (h : k < zs.length) : (zs.take (k + 1)).foldl (fun a z => addB a z) 0 = addB ((zs.take k).foldl (fun a z => addB a z) 0) (zs.getD k 0) := by
  rw [List.take_succ_eq_append_getElem h, List.foldl_append]
  simp [List.getD, h]

theorem addB_bd (a b : Int) : 0 ≤ addB a b ∧ addB a b ≤ 18446744073709551615 := by
  have : (IntKind.u64.wrap (a + b)) = (a + b) % 18446744073709551616 := by simp [IntKind.wrap, IntKind.signed, IntKind.bits]
  unfold addB
  rw [this]
  omega

set_option maxHeartbeats 400000 in
theorem MemorySums_any (w : World) (ao : Option Addr) (cap : Nat) (zs : List Int) (hao : CellsAt w ao (zs.map (.int .u64))) :
    Calls Try.prog 6 #[.slice ao zs.length cap] w fun e w' => e = .returned (.bool true) ∧ Only [] w w' := by
  obtain ⟨len, hlen⟩ : ∃ len, len = zs.length := ⟨_, rfl⟩
  rw [← hlen]
  have hc := Lib.hid hao
  have HL := Lib.hid hlen
  clear hao hlen
  go_enter Try.func6, Try.ntmps6
  by_cases hbig : 100 < len
  · go_wp2_with fail
    go_ret
    exact ⟨rfl, Only.refl _ _⟩
  · have hsm : len ≤ 100 := by omega
    go_wp2_with fail
    refine (memNew_any _ 1 1 1 (by omega) rfl (by omega)).mono ?_; rintro e w1 ⟨m, bc, rfl, o1, h1, l1, l2, l3⟩
    go_wp2_with fail
    refine (memAwake_any _).mono ?_; rintro e w2 ⟨rfl, o2⟩
    have h2 : MemAt w2 m bc ⟨[0], 0, 0, 0, 0, 0⟩ := h1.keep o2 (by simp) (by simp)
    have p2 := o1.then0 o2
    clear o1 h1 o2 l3
    go_wp2_with fail
    go_loopw [4, 5] (fun sm i wr => ∃ (k : Nat) (s : MS), k ≤ len ∧ i = .int .i64 k ∧ sm = .int .u64 ((zs.take k).foldl (fun a z => addB a z) 0) ∧ s.cells = [(zs.take k).foldl (fun a z => addB a z) 0] ∧ s.count = k ∧ Only [] w wr ∧ MemAt wr m bc s)
      (fun _ i _ => len - (intOf i).toNat)
    case atStart => exact ⟨0, _, Nat.zero_le _, rfl, rfl, rfl, rfl, p2, h2⟩
    case round =>
      obtain ⟨k, s, hk, rfl, rfl, hs, hcnt, p3, h3⟩ := hrel
      have HS := Lib.hid hs
      have HC := Lib.hid hcnt
      clear h2 p2 hs hcnt
      obtain ⟨S, hS⟩ : ∃ S, S = (zs.take k).foldl (fun a z => addB a z) 0 := ⟨_, rfl⟩
      rw [← hS] at HS ⊢
      by_cases hlt : k < len
      · obtain ⟨bl, off, rfl, hcl⟩ := hc.out.ints (by have := HL.out; omega)
        have hcell : wr.cell? ⟨bl, off + k, none⟩ = some (.int .u64 (zs.getD k 0)) := p3.keepCell (hcl k (by have := HL.out; omega)) (by simp)
        have hS' := Lib.hid hS
        have hcl' := Lib.hid hcl
        obtain ⟨z, hz⟩ : ∃ z, z = zs.getD k 0 := ⟨_, rfl⟩
        rw [← hz] at hcell
        have HZ := Lib.hid hz
        clear hz hS hcl
        go_wp2_with fail
        refine (memAdd_in _ m bc _ _ 0 rfl S z h3 (by rw [HS.out]; simp) (by simp [HS.out]) (by rw [HC.out]; omega)).mono ?_; rintro e w4 ⟨rfl, o4, h4⟩
        have p4 : Only [] w w4 := p3.trans o4 (by simp; omega)
        have hcell4 : w4.cell? ⟨bl, off + k, none⟩ = some (.int .u64 z) := by
          have := p4.keepCell (hcl'.out k (by have := HL.out; omega)) (by simp)
          rw [this, HZ.out]
        clear p3 o4 h3 hcell
        go_wp2_with fail
        go_roundw
        case rel => exact ⟨k + 1, _, by omega, by go_num, by rw [sumW_succ (by have := HL.out; omega), ← hS'.out, ← HZ.out]; rfl, by rw [sumW_succ (by have := HL.out; omega), ← hS'.out, ← HZ.out]; simp [MS.acc, HS.out], by simp [MS.acc, HC.out], p4, h4⟩
        case measure => simp [intOf]; omega
      · obtain rfl : k = len := by omega
        clear hS
        go_wp2_with fail
        refine (memPeek_in _ m bc _ _ 0 rfl S h3 (by rw [HS.out]; simp) (by simp [HS.out])).mono ?_; rintro e w4 ⟨rfl, rfl⟩
        go_wp2_with fail
        refine (memCount_any _ m bc _ h3).mono ?_; rintro e w4 ⟨rfl, rfl⟩
        have hcnt := HC.out
        go_wp2_with fail
        go_ret
        exact ⟨rfl, p3⟩

/-- Words as bit vectors. -/
def bv (x : Int) : BitVec 64 := BitVec.ofInt 64 x
theorem wrapU (v : BitVec 64) : IntKind.u64.wrap (v.toNat : Int) = (v.toNat : Int) := by
  rw [IntKind.wrap_u64]
  have := v.isLt
  omega
theorem bits_and (x y : Int) : bits .and .u64 x y = ((bv x &&& bv y).toNat : Int) := wrapU (bv x &&& bv y)
theorem bits_or (x y : Int) : bits .or .u64 x y = ((bv x ||| bv y).toNat : Int) := wrapU (bv x ||| bv y)
theorem bits_xor (x y : Int) : bits .xor .u64 x y = ((bv x ^^^ bv y).toNat : Int) := wrapU (bv x ^^^ bv y)
theorem bits_andNot (x y : Int) : bits .andNot .u64 x y = ((bv x &&& ~~~ bv y).toNat : Int) := wrapU (bv x &&& ~~~ bv y)
theorem bv_toNat (v : BitVec 64) : bv (v.toNat : Int) = v := by
  apply BitVec.eq_of_toNat_eq
  unfold bv
  rw [BitVec.toNat_ofInt]
  have := v.isLt
  omega
theorem bits_end (x y : Int) : andB (orB x y) (bits .xor .u64 IntKind.u64.max y) = bits .andNot .u64 x y := by
  unfold andB orB
  rw [bits_and, bits_or, bits_xor, bits_andNot, bv_toNat, bv_toNat, show bv IntKind.u64.max = BitVec.allOnes 64 from rfl]
  congr 2
  apply BitVec.eq_of_getElem_eq
  intro i hi
  simp only [BitVec.getElem_and, BitVec.getElem_or, BitVec.getElem_xor, BitVec.getElem_not, BitVec.getElem_allOnes]
  cases (bv x)[i] <;> cases (bv y)[i] <;> rfl

set_option maxHeartbeats 400000 in
theorem MemoryBits_any (w : World) (x y : Int) :
    Calls Try.prog 9 #[.int .u64 x, .int .u64 y] w fun e w' => e = .returned (.bool true) ∧ Only [] w w' := by
  go_enter Try.func9, Try.ntmps9
  go_wp2_with fail
  refine (memNew_any _ 3 3 3 (by omega) rfl (by omega)).mono ?_; rintro e w1 ⟨m, bc, rfl, o1, h1, l1, l2, l3⟩
  go_wp2_with fail
  refine (memAwake_any _).mono ?_; rintro e w2 ⟨rfl, o2⟩
  have h2 : MemAt w2 m bc ⟨[0, 0, 0], 0, 0, 0, 0, 0⟩ := h1.keep o2 (by simp) (by simp)
  have p2 := o1.then0 o2
  clear o1 h1 o2 l3
  go_wp2_with fail
  refine (memStore_in _ m bc _ _ 1 rfl 0 x h2 (by simp) rfl (by simp)).mono ?_; rintro e w3 ⟨rfl, o3, h3'⟩
  have h3 : MemAt w3 m bc ⟨[0, x, 0], 2, 1, 0, x, 1⟩ := h3'
  have p3 : Only [] w w3 := p2.trans o3 (by simp; omega)
  clear p2 h2 o3 h3'
  go_wp2_with fail
  refine (memOr_in _ m bc _ _ 1 rfl x y h3 (by simp) rfl (by simp)).mono ?_; rintro e w4 ⟨rfl, o4, h4'⟩
  have h4 : MemAt w4 m bc ⟨[0, orB x y, 0], 4, 1, x, orB x y, 2⟩ := h4'
  have p4 : Only [] w w4 := p3.trans o4 (by simp; omega)
  clear p3 h3 o4 h4'
  go_wp2_with fail
  refine (memAnd_in _ m bc _ _ 1 rfl (orB x y) _ h4 (by simp) rfl (by simp)).mono ?_; rintro e w5 ⟨rfl, o5, h5'⟩
  rw [bits_end] at h5'
  have h5 : MemAt w5 m bc ⟨[0, bits .andNot .u64 x y, 0], 5, 1, orB x y, bits .andNot .u64 x y, 3⟩ := h5'
  have p5 : Only [] w w5 := p4.trans o5 (by simp; omega)
  have hor : bits .or .u64 x y = orB x y := rfl
  clear p4 h4 o5 h5'
  go_wp2_with fail
  refine (memLoad_in _ m bc _ _ 1 rfl _ h5 (by simp) rfl (by simp)).mono ?_; rintro e w6 ⟨rfl, o6, h6'⟩
  have h6 : MemAt w6 m bc ⟨[0, bits .andNot .u64 x y, 0], 1, 1, bits .andNot .u64 x y, bits .andNot .u64 x y, 4⟩ := h6'
  have p6 : Only [] w w6 := p5.trans o6 (by simp; omega)
  clear p5 h5 o6 h6'
  go_wp2_with fail
  refine (memLast_any _ m bc _ h6).mono ?_; rintro e w7 ⟨rfl, o7⟩
  have h7 := h6.keep o7 (by simp) (by simp)
  have p7 := p6.then0 o7
  clear h6 o7 p6
  go_wp2_with fail
  refine (memCount_any _ m bc _ h7).mono ?_; rintro e w8 ⟨rfl, rfl⟩
  go_wp2_with fail
  go_ret
  exact ⟨rfl, p7⟩

set_option maxHeartbeats 400000 in
theorem MemorySizes_any (w : World) (c : Int) (hc : -9223372036854775808 ≤ c ∧ c ≤ 9223372036854775807) :
    Calls Try.prog 8 #[.int .i64 c] w fun e w' => e = .returned (.bool true) ∧ Only [] w w' := by
  obtain ⟨n, hn⟩ : ∃ n : Nat, n = (min (max c 0) 131072).toNat := ⟨_, rfl⟩
  have hn0 : (n : Int) = min (max c 0) 131072 := by omega
  have hn1 : n ≤ 131072 := by omega
  have HN := Lib.hid hn0
  have h3 : c < 0 ∧ (n : Int) = 0 ∨ 131072 < c ∧ (n : Int) = 131072 ∨ 0 ≤ c ∧ c ≤ 131072 ∧ (n : Int) = c := by omega
  clear hn hn0 hc
  have h4 : c < 0 ∨ 131072 < c ∨ c = 0 ∨ 0 < c ∧ c ≤ 131072 := by omega
  have H3 := Lib.hid h3
  clear h3
  rcases h4 with h1 | h1 | rfl | ⟨h1, h2⟩
  all_goals
    go_enter Try.func8, Try.ntmps8
    go_wp2_with fail
    refine (memNew_any _ _ _ _ rfl HN.out.symm hn1).mono ?_; rintro e w1 ⟨m, bc, rfl, o1, h1, l1, l2, l3⟩
    go_wp2_with fail
    refine (memAwake_any _).mono ?_; rintro e w2 ⟨rfl, o2⟩
    have h2 := h1.keep o2 (by simp) (by simp)
    have p2 := o1.then0 o2
    clear o1 h1 o2 l1 l2 l3
    go_wp2_with fail
    refine (memSize_any _ m bc _ h2).mono ?_; rintro e w3 ⟨rfl, rfl⟩
    have hs : ((zeros n).length : Int) = n := by rw [zeros_len]
    have h3 := H3.out
    go_wp2_with fail
    refine (memCount_any _ m bc _ h2).mono ?_; rintro e w3 ⟨rfl, rfl⟩
    go_wp2_with fail
    refine (memLast_any _ m bc _ h2).mono ?_; rintro e w3 ⟨rfl, o3⟩
    have h4 := h2.keep o3 (by simp) (by simp)
    have p3 := p2.then0 o3
    clear h2 p2 o3
    go_wp2_with fail
    refine (memPeek_zero _ m bc _ _ h4 (fun x hx => zeros_mem hx)).mono ?_; rintro e w4 ⟨rfl, rfl⟩
    go_wp2_with fail
    refine (memPeek_zero _ m bc _ _ h4 (fun x hx => zeros_mem hx)).mono ?_; rintro e w4 ⟨rfl, rfl⟩
    go_wp2_with fail
    refine (memPeek_zero _ m bc _ _ h4 (fun x hx => zeros_mem hx)).mono ?_; rintro e w4 ⟨rfl, rfl⟩
    go_wp2_with fail
    refine (memLoad_out _ m bc _ _ h4 (by simp only [zeros_len]; omega)).mono ?_; rintro e w4 ⟨rfl, rfl⟩
    go_wp2_with fail
    refine (memCount_any _ m bc _ h4).mono ?_; rintro e w4 ⟨rfl, rfl⟩
    go_wp2_with fail
    go_ret
    exact ⟨rfl, p3⟩

/-- What is left of 'from' after the first number that is another. -/
def onceC (from_ : Int) (zs : List Int) : Int := (zs.find? (fun z => z != from_)).getD from_
def onceN (from_ : Int) (zs : List Int) : Int := if (zs.find? (fun z => z != from_)).isSome then 1 else 0

theorem once_skip {f z : Int} {zs : List Int} (h : z = f) : onceC f (zs ++ [z]) = onceC f zs ∧ onceN f (zs ++ [z]) = onceN f zs := by
  subst h
  unfold onceC onceN
  rw [List.find?_append]
  simp
theorem once_first {f z : Int} {zs : List Int} (h : z ≠ f) (hn : onceC f zs = f) : onceN f zs = 0 ∧ onceC f (zs ++ [z]) = z ∧ onceN f (zs ++ [z]) = 1 := by
  unfold onceC onceN at *
  cases hf : zs.find? (fun z => z != f) with
  | none =>
    rw [List.find?_append, hf]
    simp [h]
  | some y =>
    have := List.find?_some hf
    rw [hf] at hn
    simp at this hn
    exact absurd hn this
theorem once_more {f z : Int} {zs : List Int} (hn : onceC f zs ≠ f) : onceC f (zs ++ [z]) = onceC f zs ∧ onceN f (zs ++ [z]) = onceN f zs ∧ onceN f zs = 1 := by
  unfold onceC onceN at *
  cases hf : zs.find? (fun z => z != f) with
  | none => rw [hf] at hn; simp at hn
  | some y => rw [List.find?_append, hf]; simp

theorem take_snoc {zs : List Int} {k : Nat} (h : k < zs.length) : zs.take (k + 1) = zs.take k ++ [zs.getD k 0] := by
  rw [List.take_succ_eq_append_getElem h]
  simp [List.getD, h]

set_option maxHeartbeats 800000 in
theorem MemoryOnce_any (w : World) (f : Int) (ao : Option Addr) (cap : Nat) (zs : List Int) (hao : CellsAt w ao (zs.map (.int .u64))) :
    Calls Try.prog 7 #[.int .u64 f, .slice ao zs.length cap] w fun e w' => e = .returned (.bool true) ∧ Only [] w w' := by
  obtain ⟨len, hlen⟩ : ∃ len, len = zs.length := ⟨_, rfl⟩
  rw [← hlen]
  have hc := Lib.hid hao
  have HL := Lib.hid hlen
  clear hao hlen
  go_enter Try.func7, Try.ntmps7
  by_cases hbig : 60 < len
  · go_wp2_with fail
    go_ret
    exact ⟨rfl, Only.refl _ _⟩
  · have hsm : len ≤ 60 := by omega
    go_wp2_with fail
    refine (memNew_any _ 1 1 1 (by omega) rfl (by omega)).mono ?_; rintro e w1 ⟨m, bc, rfl, o1, h1, l1, l2, l3⟩
    go_wp2_with fail
    refine (memAwake_any _).mono ?_; rintro e w2 ⟨rfl, o2⟩
    have h2 : MemAt w2 m bc ⟨[0], 0, 0, 0, 0, 0⟩ := h1.keep o2 (by simp) (by simp)
    have p2 := o1.then0 o2
    clear o1 h1 o2 l3
    go_wp2_with fail
    refine (memStore_in _ m bc _ _ 0 rfl 0 f h2 (by simp) rfl (by simp)).mono ?_; rintro e w3 ⟨rfl, o3, h3'⟩
    have h3 : MemAt w3 m bc ⟨[f], 2, 0, 0, f, 1⟩ := h3'
    have p3 : Only [] w w3 := p2.trans o3 (by simp; omega)
    clear p2 h2 o3 h3'
    go_wp2_with fail
    go_loopw [6, 7] (fun wn i wr => ∃ (k : Nat) (s : MS) (C N : Int), k ≤ len ∧ i = .int .i64 k ∧ C = onceC f (zs.take k) ∧ N = onceN f (zs.take k) ∧ 0 ≤ N ∧ N ≤ k ∧ wn = .int .i64 N ∧ s.cells = [C] ∧ s.count ≤ k + 1 ∧ Only [] w wr ∧ MemAt wr m bc s)
      (fun _ i _ => len - (intOf i).toNat)
    case atStart => exact ⟨0, _, f, 0, Nat.zero_le _, rfl, rfl, rfl, by omega, by omega, rfl, rfl, by simp, p3, h3⟩
    case round =>
      obtain ⟨k, s, C, N, hk, rfl, hC, hN, hN0, hN1, rfl, hs, hcnt, p4, h4⟩ := hrel
      have HS := Lib.hid hs
      have HC := Lib.hid hC
      have HN := Lib.hid hN
      clear h3 p3 hs hC hN
      by_cases hlt : k < len
      · obtain ⟨bl, off, rfl, hcl⟩ := hc.out.ints (by have := HL.out; omega)
        have hcl' := Lib.hid hcl
        have hcell : wr.cell? ⟨bl, off + k, none⟩ = some (.int .u64 (zs.getD k 0)) := p4.keepCell (hcl k (by have := HL.out; omega)) (by simp)
        have HT := Lib.hid (take_snoc (zs := zs) (k := k) (by have := HL.out; omega))
        obtain ⟨z, hz⟩ : ∃ z, z = zs.getD k 0 := ⟨_, rfl⟩
        rw [← hz] at hcell HT
        clear hz hcl
        by_cases hzf : z = f
        · have h5 : (z == f) = true := by simpa using hzf
          have HZ := Lib.hid hzf
          clear hzf
          go_wp2_with fail
          go_roundw
          case rel => exact ⟨k + 1, s, C, N, by omega, by go_num, by rw [HT.out, (once_skip HZ.out).1, ← HC.out], by rw [HT.out, (once_skip HZ.out).2, ← HN.out], hN0, by omega, rfl, HS.out, by omega, p4, h4⟩
          case measure => simp [intOf]; omega
        · have h5 : (z == f) = false := by simpa using hzf
          have HZ := Lib.hid hzf
          clear hzf
          by_cases hcf : C = f
          · have h6 : (C == f) = true := by simpa using hcf
            have HCF := Lib.hid hcf
            have hon := Lib.hid (once_first HZ.out (HC.out ▸ HCF.out))
            have hN' : N = 0 := by rw [HN.out]; exact hon.out.1
            have HN' := Lib.hid hN'
            clear hcf hN'
            go_wp2_with fail
            refine (memCAS_in _ m bc _ _ 0 rfl C f z h4 (by rw [HS.out]; simp) (by simp [HS.out]) (by omega)).mono ?_; rintro e w5 ⟨rfl, o5, h7⟩
            have p5 : Only [] w w5 := p4.trans o5 (by simp; omega)
            clear p4 o5 h4 hcell
            go_wp2_with fail
            go_roundw
            case rel => exact ⟨k + 1, _, z, N + 1, by omega, by go_num, by rw [HT.out]; exact hon.out.2.1.symm, by rw [HT.out, hon.out.2.2, HN'.out]; rfl, by omega, by omega, rfl, by simp [MS.acc, HS.out, casB, HCF.out], by simp [MS.acc]; omega, p5, h7⟩
            case measure => simp [intOf]; omega
          · have h6 : (C == f) = false := by simpa using hcf
            have hon := Lib.hid (once_more (z := z) (HC.out ▸ hcf))
            have HCF := Lib.hid hcf
            clear hcf
            go_wp2_with fail
            refine (memCAS_in _ m bc _ _ 0 rfl C f z h4 (by rw [HS.out]; simp) (by simp [HS.out]) (by omega)).mono ?_; rintro e w5 ⟨rfl, o5, h7⟩
            have p5 : Only [] w w5 := p4.trans o5 (by simp; omega)
            clear p4 o5 h4 hcell
            go_wp2_with fail
            go_roundw
            case rel => exact ⟨k + 1, _, C, N, by omega, by go_num, by rw [HT.out, hon.out.1, ← HC.out], by rw [HT.out, hon.out.2.1, ← HN.out], by omega, by omega, rfl, by simp [MS.acc, HS.out, casB, HCF.out], by simp [MS.acc]; omega, p5, h7⟩
            case measure => simp [intOf]; omega
      · obtain rfl : k = len := by omega
        have hdec : N = 0 ∧ C = f ∨ N = 1 ∧ C ≠ f := by
          rw [HC.out, HN.out]
          unfold onceC onceN
          cases hf : (zs.take k).find? (fun z => z != f) with
          | none => simp
          | some y => have := List.find?_some hf; simp at this; simp [this]
        rcases hdec with ⟨rfl, hCf⟩ | ⟨rfl, hCf⟩
        · have h6 : (C != f) = false := by simpa using hCf
          clear hCf
          go_wp2_with fail
          refine (memPeek_in _ m bc _ _ 0 rfl C h4 (by rw [HS.out]; simp) (by simp [HS.out])).mono ?_; rintro e w5 ⟨rfl, rfl⟩
          go_wp2_with fail
          go_ret
          exact ⟨rfl, p4⟩
        · have h6 : (C != f) = true := by simpa using hCf
          clear hCf
          go_wp2_with fail
          refine (memPeek_in _ m bc _ _ 0 rfl C h4 (by rw [HS.out]; simp) (by simp [HS.out])).mono ?_; rintro e w5 ⟨rfl, rfl⟩
          go_wp2_with fail
          go_ret
          exact ⟨rfl, p4⟩
end Go.Proofs.Ytiijgnnejdcedaa
