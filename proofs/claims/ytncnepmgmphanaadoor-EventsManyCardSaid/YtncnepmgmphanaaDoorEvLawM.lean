/- The limit of the number of events: the law walked. No condition beside the library's variables. -/
import Derived.Test.YtncnepmgmphanaaDoorEvManyP
import Derived.Test.YtncnepmgmphanaaDoorEvNum
import Derived.Test.YtncnepmgmphanaaDoorStoreAgg
import Derived.Lib.AppendStr
import Derived.Laws.BytesArg
import Derived.Laws.MakeOwn
namespace Go.Proofs.YtncnepmgmphanaaDoor
open Go.RowKit
set_option linter.unusedVariables false
set_option linter.unusedSimpArgs false

theorem infoU8 : (Tryd.prog.info? 5).map (fun i => (i.zero, i.size, i.bytes)) = some (some (.int .u8 0), 1, 1) := by kernel_rfl
def bytesV (l : List UInt8) : List Value := l.map fun b => .int .u8 b.toNat

/-- The list and the text while they are made: k of n events. -/
structure MR (w wr : World) (bl n k : Nat) (tx : Value) : Prop where
  o : Only [] w wr
  lt : w.heap.size ≤ bl
  bs : bl < wr.heap.size
  blk : ∃ cs, wr.heap[bl]? = some (.cells cs 23 (0, 0)) ∧ cs.size = n * 5
  ev : ∀ j, j < k → EvCells wr bl (0 + j * 5) parkE
  own : wr.ownsRow (bl + 1) 5 1 tx (7 * k) (bytesV (parks k))

theorem madeEv (n : Nat) (hn : n ≤ 1000000) : ∃ M : Array Value, M.size = n * 5 ∧ ∀ w : World, (Instr.makeSlice 29 (.int .i64 n) (.int .i64 n)).run Tryd.prog w = .ok (.slice (some ⟨w.heap.size, 0, none⟩) n n) (w.alloc (.cells M 23)) := by
  obtain ⟨i0, hi0, z0, z1, z2⟩ := info_parts infoEv
  refine ⟨madeCells (.agg #[.int .i64 0, .int .i64 0, .int .i64 0, .int .i64 0, .int .i64 0] : Value).cells (n * 5), by rw [size_madeCells], fun w => ?_⟩
  have hr := run_make (P := Tryd.prog) w 29 23 i0 _ Tryd.underlying29 hi0 z0 .i64 .i64 n n (by omega) (Int.le_refl _) (by rw [z2]; omega) (by omega)
  simp only [Int.toNat_natCast, z1] at hr
  exact hr
theorem madeU8 (n : Nat) (hn : n ≤ 10000000) : ∃ M : Array Value, M.size = n ∧ ∀ w : World, (Instr.makeSlice 30 (.int .i64 0) (.int .i64 n)).run Tryd.prog w = .ok (.slice (some ⟨w.heap.size, 0, none⟩) 0 n) (w.alloc (.cells M 5)) := by
  obtain ⟨i0, hi0, z0, z1, z2⟩ := info_parts infoU8
  refine ⟨madeCells (.int .u8 0 : Value).cells n, by rw [size_madeCells], fun w => ?_⟩
  have hr := run_make (P := Tryd.prog) w 30 5 i0 _ Tryd.underlying30 hi0 z0 .i64 .i64 0 n (by omega) (by omega) (by rw [z2]; omega) (by omega)
  simp only [Int.toNat_natCast, z1, Nat.mul_one, Int.toNat_zero] at hr
  exact hr

theorem MR.list {w wr : World} {bl n : Nat} {tx : Value} (h : MR w wr bl n n tx) : EL wr (.slice (some ⟨bl, 0, none⟩) n n) (List.replicate n parkE) :=
  ⟨_, n, by rw [List.length_replicate], by simp, fun _ => ⟨bl, 0, rfl, fun i hi => by
    rw [List.length_replicate] at hi
    rw [show (List.replicate n parkE).getD i Ev.zero = parkE by simp [List.getD_eq_getElem?_getD, hi]]
    exact h.ev i hi⟩⟩
theorem bytesV_len (l : List UInt8) : (bytesV l).length = l.length := by simp [bytesV]

set_option maxRecDepth 100000 in
/-- The text's bytes as a string. -/
theorem conv_own {w : World} {B : Nat} {v : Value} {l : List UInt8} (h : w.ownsRow B 5 1 v l.length (bytesV l)) : (convert 30 9 v).run Tryd.prog w = .ok (.string ⟨l.toArray⟩) w := by
  have hh := h
  obtain ⟨hl, ⟨rfl, h0⟩ | ⟨g, cap, cur, rfl, hb, hg, hn, hm, hs, ht⟩⟩ := hh
  · obtain rfl : l = [] := List.eq_nil_of_length_eq_zero h0
    exact run_convert_bytes_nil w 30 5 Tryd.underlying30 Tryd.underlying5 0 0 9 Tryd.underlying9
  · have hc := h.cells (g := g) rfl
    have hr := run_convert_bytes_arg (P := Tryd.prog) w 30 5 Tryd.underlying30 Tryd.underlying5 g 0 l.length cap (l.map fun b => (b.toNat : Int)) (by simp) (fun i hi => by
      have := hc i (.int .u8 ((l.map fun b => (b.toNat : Int)).getD i 0)) (by simp [bytesV, hi])
      rwa [Go.WideShapes.add_plain] at this) 9 Tryd.underlying9
    rw [hr]
    congr 2
    simp only [strOfNums, List.map_map]
    congr 2
    conv => rhs; rw [← List.map_id l]
    apply List.map_congr_left
    intro b _
    simp

theorem owns_keepE {S : List Nat} {w w' : World} {base : Nat} {T : TypeId} {sz : Nat} {v : Value} {n : Nat} {xs : List Value} (h : w.ownsRow base T sz v n xs) (ho : Only S w w') (hS : ∀ b, base ≤ b → b ∉ S) : w'.ownsRow base T sz v n xs := by
  obtain ⟨hl, ⟨rfl, h0⟩ | ⟨g, cap, cur, rfl, hb, hg, hn, hm, hs, ht⟩⟩ := h
  · exact ⟨hl, .inl ⟨rfl, h0⟩⟩
  · exact ⟨hl, .inr ⟨g, cap, cur, rfl, hb, ho.keep hg (hS g hb), hn, hm, hs, ht⟩⟩
def parkV : List Value := [.int .i64 16, .int .i64 0, .int .i64 0, .int .i64 0, .int .i64 0]
theorem MR.stored {w wr : World} {bl n k : Nat} {tx : Value} (h : MR w wr bl n k tx) (hk : k < n) :
    Only [] w (wr.setCells bl (k * 5) parkV) ∧ (∃ cs, (wr.setCells bl (k * 5) parkV).heap[bl]? = some (.cells cs 23 (0, 0)) ∧ cs.size = n * 5) ∧ (∀ j, j < k + 1 → EvCells (wr.setCells bl (k * 5) parkV) bl (0 + j * 5) parkE) ∧
      (wr.setCells bl (k * 5) parkV).ownsRow (bl + 1) 5 1 tx (7 * k) (bytesV (parks k)) ∧ Only [bl] wr (wr.setCells bl (k * 5) parkV) := by
  obtain ⟨cs, hc, hs⟩ := h.blk
  have ho := only_setCells bl parkV (k * 5) wr
  obtain ⟨arr', h1, h2, h3, h4⟩ := blk_setCells parkV (k * 5) wr cs hc (by simp [parkV]; omega)
  refine ⟨h.o.thenN ho h.lt, ⟨arr', h1, h2.trans hs⟩, fun j hj => ?_, owns_keepE h.own ho (fun b hb => by simp; omega), ho⟩
  by_cases e : j = k
  · subst e
    have g : ∀ q, q < parkV.length → (wr.setCells bl (j * 5) parkV).cell? ⟨bl, 0 + j * 5 + q, none⟩ = parkV[q]? := fun q hq => (cell_blk h1 (0 + j * 5 + q)).trans (by rw [Nat.zero_add]; exact h4 q hq)
    exact ⟨g 0 (by simp [parkV]), g 1 (by simp [parkV]), g 2 (by simp [parkV]), g 3 (by simp [parkV]), g 4 (by simp [parkV])⟩
  · have g := h.ev j (by omega)
    have hq : ∀ q v, q < 5 → wr.cell? ⟨bl, 0 + j * 5 + q, none⟩ = some v → (wr.setCells bl (k * 5) parkV).cell? ⟨bl, 0 + j * 5 + q, none⟩ = some v := fun q v hq hv => by
      rw [cell_blk h1, h3 _ (by simp [parkV]; omega), ← cell_blk hc]; exact hv
    exact ⟨hq 0 _ (by omega) g.1, hq 1 _ (by omega) g.2.1, hq 2 _ (by omega) g.2.2.1, hq 3 _ (by omega) g.2.2.2.1, hq 4 _ (by omega) g.2.2.2.2⟩
theorem bytesV_parks (k : Nat) : bytesV (parks k) ++ Lib.strCells ⟨#[112, 97, 114, 107, 32, 48, 10]⟩ = bytesV (parks (k + 1)) := by
  rw [parks_snoc]
  simp [bytesV, Lib.strCells, parkN]
theorem MR.step {w wr w2 : World} {bl n k : Nat} {tx tx' : Value} (h : MR w wr bl n k tx) (hk : k < n)
    (hown : w2.ownsRow (bl + 1) 5 1 tx' (7 * k + 7) (bytesV (parks k) ++ Lib.strCells ⟨#[112, 97, 114, 107, 32, 48, 10]⟩)) (hg : (wr.setCells bl (k * 5) parkV).grownBy w2 tx.ownBlock) : MR w w2 bl n (k + 1) tx' := by
  obtain ⟨h1, ⟨cs, h2, h2s⟩, h3, h4, h5⟩ := h.stored hk
  have hq : ∀ q, tx.ownBlock = some q → bl + 1 ≤ q := fun q hq => by
    obtain ⟨-, ⟨rfl, _⟩ | ⟨g, cap, cur, rfl, hb, _⟩⟩ := h.own
    · cases hq
    · cases hq; exact hb
  have hlt := h.lt
  have o2 : Only (match tx.ownBlock with | some q => [q] | none => []) (wr.setCells bl (k * 5) parkV) w2 := (Only.refl _ _).grown hg (fun q e => by rw [e]; simp)
  have hne : bl ∉ (match tx.ownBlock with | some q => [q] | none => []) := by
    split
    · rename_i q e; have := hq q e; simp; omega
    · simp
  have ob := h5.size
  refine ⟨h1.trans o2 (fun t ht => ?_), hlt, by have := hg.size; have := h.bs; omega, ⟨cs, o2.keep h2 hne, h2s⟩, fun j hj => ?_, by rw [Nat.mul_succ, ← bytesV_parks]; exact hown⟩
  · split at ht
    · rename_i q e; have := hq q e; simp at ht; subst ht; exact .inr (by omega)
    · simp at ht
  · have g := h3 j hj
    exact ⟨o2.keepCell g.1 hne, o2.keepCell g.2.1 hne, o2.keepCell g.2.2.1 hne, o2.keepCell g.2.2.2.1 hne, o2.keepCell g.2.2.2.2 hne⟩
theorem MR.start {w w1 : World} {n m : Nat} {M1 M2 : Array Value} (o : Only [] w w1) (h1 : M1.size = n * 5) (h2 : M2.size = m) (hm : m ≤ maxLen) :
    MR w ((w1.alloc (.cells M1 23)).alloc (.cells M2 5)) w1.heap.size n 0 (.slice (some ⟨w1.heap.size + 1, 0, none⟩) 0 m) := by
  have hb : ((w1.alloc (.cells M1 23)).alloc (.cells M2 5)).heap[w1.heap.size]? = some (.cells M1 23 (0, 0)) := by
    rw [blk_alloc_old (by simp)]; exact blk_alloc_new _ _
  have hb2 : ((w1.alloc (.cells M1 23)).alloc (.cells M2 5)).heap[w1.heap.size + 1]? = some (.cells M2 5 (0, 0)) := by
    have := blk_alloc_new (w1.alloc (.cells M1 23)) (.cells M2 5)
    simpa using this
  exact ⟨(o.alloc _).alloc _, o.size, lt_of_blk hb, ⟨M1, hb, h1⟩, fun j hj => by omega, ⟨rfl, .inr ⟨w1.heap.size + 1, m, M2, rfl, Nat.le_refl _, hb2, by omega, hm, by omega, rfl⟩⟩⟩

set_option maxRecDepth 100000 in
set_option maxHeartbeats 300000 in
theorem EventsMany_any (w : World) (hL : LibAt w) (z : Int) :
    Calls Tryd.prog 4 #[.int .i64 z] w fun e w' => e = .returned (.bool true) ∧ Only [] w w' := by
  have HL := Lib.hid hL
  have N0 := Lib.hid (number_any (w.alloc (.cells #[.int .i64 z] 3)) (.slice (some ⟨w.heap.size, 0, none⟩) 1 1) [z] 0 3 (ns_new [z] (blk_alloc_new _ _) rfl) (by omega) (by simp) (by omega))
  clear hL
  go_enter Tryd.func4, Tryd.ntmps4
  go_wp2_with fail
  refine N0.out.mono ?_; rintro e w1 ⟨x, rfl, hx0, hx1, o1⟩
  have hx3 := hx1 (by omega)
  obtain ⟨n, hn⟩ : ∃ n : Nat, 65537 - x = (n : Int) := ⟨(65537 - x).toNat, by omega⟩
  obtain ⟨m, hm⟩ : ∃ m : Nat, m = 7 * n := ⟨_, rfl⟩
  have h7 : (7 : Int) * (n : Int) = (m : Int) := by omega
  have hn1 : n ≤ 65537 := by omega
  have hn2 : 65535 ≤ n := by omega
  obtain ⟨M1, hM1, MK1⟩ := madeEv n (by omega)
  obtain ⟨M2, hM2, MK2⟩ := madeU8 m (by omega)
  have O1 : Hid (Only [] w w1) := Lib.hid (((Only.refl [] w).alloc _).then0 o1)
  have HM1 := Lib.hid hM1
  have HM2 := Lib.hid hM2
  have HM := Lib.hid hm
  obtain ⟨bl, hbl⟩ : ∃ bl, bl = w1.heap.size := ⟨_, rfl⟩
  have hw1 := O1.out.size
  have HB := Lib.hid hbl
  clear o1 hM1 hM2 hx1 N0 hm
  go_wp2_with fail
  have M0 := Lib.hid (MR.start (w := w) O1.out HM1.out HM2.out (by unfold maxLen; omega))
  go_loopw [5, 6] (fun s5 r wr => ∃ k : Nat, r = .int .i64 k ∧ k ≤ n ∧ MR w wr w1.heap.size n k s5) (fun _ r _ => n - (intOf r).toNat)
  case atStart => exact ⟨0, rfl, by omega, M0.out⟩
  case round =>
    obtain ⟨k, rfl, hk, hMR⟩ := hrel
    have HR := Lib.hid hMR
    clear hMR
    have hnn : (n : Int) ≤ 65537 := by omega
    by_cases hkn : k < n
    · have hki : (k : Int) < (n : Int) := by omega
      have hwk : IntKind.i64.wrap ((k : Int) + 1) = ((k + 1 : Nat) : Int) := IntWalk.i64_in _ (by omega)
      obtain ⟨cs0, hc0, hs0⟩ := HR.out.blk
      obtain ⟨v0, c0⟩ : ∃ v, wr.cell? ⟨w1.heap.size, k * 5, none⟩ = some v := by rw [cell_blk hc0]; exact ⟨_, Array.getElem?_eq_getElem (by omega)⟩
      obtain ⟨v1, c1⟩ : ∃ v, wr.cell? ⟨w1.heap.size, k * 5 + 1, none⟩ = some v := by rw [cell_blk hc0]; exact ⟨_, Array.getElem?_eq_getElem (by omega)⟩
      obtain ⟨v2, c2⟩ : ∃ v, wr.cell? ⟨w1.heap.size, k * 5 + 2, none⟩ = some v := by rw [cell_blk hc0]; exact ⟨_, Array.getElem?_eq_getElem (by omega)⟩
      obtain ⟨v3, c3⟩ : ∃ v, wr.cell? ⟨w1.heap.size, k * 5 + 3, none⟩ = some v := by rw [cell_blk hc0]; exact ⟨_, Array.getElem?_eq_getElem (by omega)⟩
      obtain ⟨v4, c4⟩ : ∃ v, wr.cell? ⟨w1.heap.size, k * 5 + 4, none⟩ = some v := by rw [cell_blk hc0]; exact ⟨_, Array.getElem?_eq_getElem (by omega)⟩
      have f0 := free_blk hc0 (k * 5)
      have f1 := free_blk hc0 (k * 5 + 1)
      have f2 := free_blk hc0 (k * 5 + 2)
      have f3 := free_blk hc0 (k * 5 + 3)
      have f4 := free_blk hc0 (k * 5 + 4)
      have hlt := lt_of_blk hc0
      clear hc0 hs0
      obtain ⟨i0, hi0, z0, z1, z2⟩ := info_parts infoU8
      have ST : Hid ((((((wr.setCell ⟨w1.heap.size, k * 5, none⟩ (.int .i64 16)).setCell ⟨w1.heap.size, k * 5 + 1, none⟩ (.int .i64 0)).setCell ⟨w1.heap.size, k * 5 + 2, none⟩ (.int .i64 0)).setCell ⟨w1.heap.size, k * 5 + 3, none⟩ (.int .i64 0)).setCell ⟨w1.heap.size, k * 5 + 4, none⟩ (.int .i64 0)).ownsRow (w1.heap.size + 1) 5 1 u5 (7 * k) (bytesV (parks k))) := Lib.hid (HR.out.stored hkn).2.2.2.1
      have ND : Hid (∀ tx' w2, w2.ownsRow (w1.heap.size + 1) 5 1 tx' (7 * k + 7) (bytesV (parks k) ++ Lib.strCells ⟨#[112, 97, 114, 107, 32, 48, 10]⟩) → (((((wr.setCell ⟨w1.heap.size, k * 5, none⟩ (.int .i64 16)).setCell ⟨w1.heap.size, k * 5 + 1, none⟩ (.int .i64 0)).setCell ⟨w1.heap.size, k * 5 + 2, none⟩ (.int .i64 0)).setCell ⟨w1.heap.size, k * 5 + 3, none⟩ (.int .i64 0)).setCell ⟨w1.heap.size, k * 5 + 4, none⟩ (.int .i64 0)).grownBy w2 u5.ownBlock → MR w w2 w1.heap.size n (k + 1) tx') := Lib.hid (fun tx' w2 => HR.out.step hkn)
      have hnb : 7 * k + 7 ≤ 10000000 := by omega
      obtain ⟨xs, hxs⟩ : ∃ xs, xs = bytesV (parks k) := ⟨_, rfl⟩
      obtain ⟨q, hq⟩ : ∃ q, q = 7 * k := ⟨_, rfl⟩
      rw [← hxs, ← hq] at ST ND
      rw [← hq] at hnb
      clear hxs hq MK1 MK2 h7 hx0 hx3
      go_upto_region 8 with fail
      go_wp2_with (at_builtin; go_loud (refine Lib.wpList_append_own_string _ rfl _ _ 30 9 rfl (w1.heap.size + 1) 5 i0 Tryd.underlying30 Tryd.underlying9 hi0 z0 z1 z2 _ _ _ rfl ST.out _ rfl ?_ ?_ ?_ ?_))
      · have : (⟨#[112, 97, 114, 107, 32, 48, 10]⟩ : ByteArray).size = 7 := rfl
        rw [this]; unfold maxLen; omega
      · have : (⟨#[112, 97, 114, 107, 32, 48, 10]⟩ : ByteArray).size = 7 := rfl
        rw [this]; omega
      · simp only [World.setCell, Array.size_modify]; omega
      intro tx' w2 hown hg _
      have NR := Lib.hid (ND.out tx' w2 hown hg)
      clear hown hg
      go_wp2_with fail
      go_roundw
      case rel => exact ⟨k + 1, by go_num, by omega, NR.out⟩
      case measure => simp [intOf]; omega
    · obtain rfl : k = n := by omega
      have LR := Lib.hid (HL.out.keep0 HR.out.o)
      have FM0 := format_any wr LR.out _ _ HR.out.list (by simp; omega)
      have OW := Lib.hid (show wr.ownsRow (w1.heap.size + 1) 5 1 u5 (parks k).length (bytesV (parks k)) by rw [parks_len]; exact HR.out.own)
      have CV := Lib.hid (fun w' (o : Only [] wr w') => conv_own (owns_keepE OW.out o (by simp)))
      have OR := Lib.hid HR.out.o
      have PA0 := (fun w' (o : Only [] wr w') => parse_any w' (LR.out.keep0 o) ⟨(parks k).toArray⟩ (by rw [Lib.size_eq]; simp [parks_len]; omega))
      have AW := Lib.hid (fun w' (o : Only [] wr w') => awake_any w' (LR.out.keep0 o))
      clear MK1 MK2 h7 hx0 hx3
      go_upto_region 9 with fail
      by_cases hbig : k ≤ 65536
      · have F1 := fmt_parks hbig
        have P1 := parse_parks hbig
        obtain ⟨t, ht⟩ : ∃ t : ByteArray, t = ⟨(parks k).toArray⟩ := ⟨_, rfl⟩
        rw [F1] at FM0
        simp only at FM0
        have hd : (⟨(parks k).toArray⟩ : ByteArray).data.toList = parks k := by simp
        rw [hd, P1] at PA0
        rw [← ht] at FM0 PA0 CV
        have FM := Lib.hid FM0
        have PA := Lib.hid PA0
        clear F1 P1 hd ht FM0 PA0
        have hki : (k : Int) ≤ 65536 := by omega
        go_wp2_with fail
        refine FM.out.mono ?_; rintro e w2 ⟨rfl, o2⟩
        have cv2 := CV.out w2 o2
        have O2 := Lib.hid o2
        clear o2
        go_wp2_with fail
        refine (PA.out w2 O2.out).mono ?_; rintro e w3 ⟨o3, v, rfl, hv⟩
        obtain ⟨ao, cap, rfl, -, -⟩ := hv
        have O3 := Lib.hid (O2.out.then0 o3)
        rw [List.length_replicate]
        clear o3 cv2
        go_wp2_with fail
        refine (AW.out w3 O3.out).mono ?_; rintro e w4 ⟨rfl, o4⟩
        have O4 := Lib.hid (O3.out.then0 o4)
        have cv4 := CV.out w4 O4.out
        clear o4
        go_wp2_with fail
        go_ret
        exact ⟨by simp, OR.out.then0 O4.out⟩
      · obtain rfl : k = 65537 := by omega
        have F1 := fmt_over
        have P1 := parse_over
        obtain ⟨t, ht⟩ : ∃ t : ByteArray, t = ⟨(parks 65537).toArray⟩ := ⟨_, rfl⟩
        rw [F1] at FM0
        simp only at FM0
        have hd : (⟨(parks 65537).toArray⟩ : ByteArray).data.toList = parks 65537 := by simp
        rw [hd, P1] at PA0
        rw [← ht] at PA0 CV
        have FM := Lib.hid FM0
        have PA := Lib.hid PA0
        clear F1 P1 hd ht FM0 PA0
        go_wp2_with fail
        refine FM.out.mono ?_; rintro e w2 ⟨rfl, o2⟩
        have cv2 := CV.out w2 o2
        have O2 := Lib.hid o2
        clear o2
        go_wp2_with fail
        refine (PA.out w2 O2.out).mono ?_; rintro e w3 ⟨o3, v, rfl, hv⟩
        obtain ⟨ao, cap, rfl, -, -⟩ := hv
        have O3 := Lib.hid (O2.out.then0 o3)
        rw [List.length_nil]
        clear o3 cv2
        go_wp2_with fail
        refine (AW.out w3 O3.out).mono ?_; rintro e w4 ⟨rfl, o4⟩
        have O4 := Lib.hid (O3.out.then0 o4)
        clear o4
        go_wp2_with fail
        go_ret
        exact ⟨by simp, OR.out.then0 O4.out⟩
end Go.Proofs.YtncnepmgmphanaaDoor
