/- Whether no value is taken more often than it was pushed, walked. -/
import Derived.Test.YtfhkhknnoepfeaaGreatHistLin3
import Derived.Maps.OwnSet
import Derived.Maps.OwnOps
import Derived.Maps.Views
import Derived.Maps.RangeWalk
namespace Go.Proofs.YtfhkhknnoepfeaaGreat
open Go.RowKit Go.ChangeMaps Go.MapKept Go.Maps
open Go.Maps (Keyed)
set_option linter.unusedVariables false

theorem lawInt : Keyed Tryz.prog 3 := int_keyed Tryz.underlying3
theorem zeroInt (w : World) : (zeroValue 3).run Tryz.prog w = .ok (.int .i64 0) w := by kernel_rfl

/-- How often v was pushed, less how often it was taken, in the first k operations. -/
def netV (f : Nat → HOp) (v : Int) : Nat → Int
  | 0 => 0
  | k + 1 => netV f v k + (if (f k).pushes v then 1 else 0) - (if (f k).takes v then 1 else 0)
theorem netV_eq (f : Nat → HOp) (v : Int) : ∀ k, netV f v k = ((List.range k).countP (fun j => (f j).pushes v) : Int) - ((List.range k).countP (fun j => (f j).takes v) : Int)
  | 0 => by simp [netV]
  | k + 1 => by
    rw [netV, netV_eq f v k, List.range_succ, List.countP_append, List.countP_append, List.countP_singleton, List.countP_singleton]
    split <;> split <;> simp <;> omega
theorem netV_bd (f : Nat → HOp) (v : Int) : ∀ k : Nat, -(k : Int) ≤ netV f v k ∧ netV f v k ≤ k
  | 0 => by simp [netV]
  | k + 1 => by
    have := netV_bd f v k
    rw [netV]
    split <;> split <;> omega

/-- The map's reading after k operations. -/
def NetAt (w : World) (mb k : Nat) (f : Nat → HOp) : Prop := ∃ D : DataW Unit, w.ownsMap Tryz.prog 3 (plainElem Tryz.prog 3) mb k D ∧ IsMap D ∧ ∀ v, D.atKey (.int .i64 v) (.lit (.int .i64 0)) = .lit (.int .i64 (netV f v k))

theorem net_put {D : DataW Unit} {f : Nat → HOp} {k : Nat} {x y : Int} (hm : IsMap D) (h : ∀ v, D.atKey (.int .i64 v) (.lit (.int .i64 0)) = .lit (.int .i64 (netV f v k))) (hx : netV f x (k + 1) = y) (ho : ∀ v, v ≠ x → netV f v (k + 1) = netV f v k) :
    ∀ v, (D.put (.int .i64 x) (.lit (.int .i64 y))).atKey (.int .i64 v) (.lit (.int .i64 0)) = .lit (.int .i64 (netV f v (k + 1))) := by
  intro v
  by_cases e : v = x
  · subst e
    rw [atKey_put_same hm (show WideAt.IsKeyLit (.int .i64 v) from trivial), hx]
  · rw [atKey_put_other (by simpa using e), h, ho v e]

def supB (l : List HOp) : Prop := ∀ v, (List.range l.length).countP (fun j => (l.getD j HOp.zero).takes v) ≤ (List.range l.length).countP (fun j => (l.getD j HOp.zero).pushes v)

set_option maxRecDepth 100000 in
set_option maxHeartbeats 2000000 in
theorem supplied_any (w : World) (v : Value) (l : List HOp) (hv : OL w v l) (hn : l.length ≤ 12) (hwf : ∀ i, i < l.length → -9223372036854775808 ≤ (l.getD i HOp.zero).value ∧ (l.getD i HOp.zero).value ≤ 9223372036854775807) :
    Calls Tryz.prog 26 #[v] w fun e w' => ∃ r, e = .returned (.bool r) ∧ (r = true ↔ supB l) ∧ Only [] w w' := by
  obtain ⟨ao, c1, rfl, hc, g1⟩ := hv
  obtain ⟨n, hnn⟩ : ∃ n, n = l.length := ⟨_, rfl⟩
  obtain ⟨f, hf⟩ : ∃ f : Nat → HOp, f = fun i => l.getD i HOp.zero := ⟨_, rfl⟩
  have FA := Lib.hid (fun i => show f i = l.getD i HOp.zero from by rw [hf])
  have SUP : Hid (supB l ↔ ∀ v, 0 ≤ netV f v n) := Lib.hid (by
    unfold supB
    refine forall_congr' fun v => ?_
    rw [netV_eq, hf, hnn]
    simp only
    constructor <;> intro h <;> omega)
  rw [← hnn] at hn hc g1 hwf ⊢
  have G := Lib.hid g1
  have WF := Lib.hid hwf
  have hmm := @run_makeMap Tryz.prog
  clear g1 hnn hwf hf
  have B0 : Hid (NetAt (w.alloc (.map #[] 0)) w.heap.size 0 f) := Lib.hid ⟨.map [], World.ownsMap_made _ _ _ _, ⟨_, rfl⟩, fun v => by rw [atKey_of_not_has (by rfl)]; rfl⟩
  go_enter Tryz.func26, Tryz.ntmps26
  go_wp2_with fail
  obtain ⟨mb, hmb⟩ : ∃ mb, mb = w.heap.size := ⟨_, rfl⟩
  rw [← hmb] at B0 ⊢
  have HMB := Lib.hid hmb
  clear hmb
  go_loopw [11] (fun i wr => ∃ k : Nat, k ≤ n ∧ i = .int .i64 k ∧ NetAt wr mb k f ∧ Only [] w wr) (fun i _ => n - (intOf i).toNat)
  case atStart => exact ⟨0, Nat.zero_le _, rfl, B0.out, (Only.refl _ _).alloc _⟩
  case round =>
    obtain ⟨k, hk, rfl, hN, hP⟩ := hrel
    have P := Lib.hid hP
    obtain ⟨D, d1, d2, d3⟩ := hN
    have D1 := Lib.hid d1
    have D2 := Lib.hid d2
    have D3 := Lib.hid d3
    clear d1 d2 d3 hP B0
    by_cases hlt : k < n
    · obtain ⟨b, off, rfl, hc1⟩ := G.out (by omega)
      have e1 := (hc1 k hlt).keep P.out (by simp)
      obtain ⟨A, hA⟩ : ∃ A, A = l.getD k HOp.zero := ⟨_, rfl⟩
      have hAv := WF.out k hlt
      rw [← hA] at e1 hAv
      have FK : Hid (f k = A) := Lib.hid (by rw [hA]; exact FA.out k)
      unfold OpAt at e1
      clear hA hc1
      obtain ⟨a0, a1, a2, a3, a4, a5⟩ := e1
      have NX : Hid (∀ v, netV f v (k + 1) = netV f v k + (if A.pushes v then 1 else 0) - (if A.takes v then 1 else 0)) := Lib.hid (fun v => by rw [netV, FK.out])
      obtain ⟨ak, am, af, at', ac, av⟩ := A
      simp only at a0 a1 a2 a3 a4 a5 hAv
      have hkey : keyOf Tryz.prog 3 (.int .i64 av) = some (.int .i64 av) := keyOf_int_mk Tryz.underlying3 (by simp [Lit.wf, IntKind.min, IntKind.max, IntKind.signed, IntKind.bits]; omega)
      have hnb := netV_bd f av k
      obtain ⟨c, hcn⟩ : ∃ c, c = netV f av k := ⟨_, rfl⟩
      rw [← hcn] at hnb
      have HAt : Hid (D.atKey (.int .i64 av) (.lit (.int .i64 0)) = .lit (.int .i64 c)) := Lib.hid (by rw [D3.out, hcn])
      have HC := Lib.hid hcn
      clear hcn
      by_cases hp : ak = 0 ∧ ac = 0
      · obtain ⟨rfl, rfl⟩ := hp
        have HX : Hid (netV f av (k + 1) = c + 1) := Lib.hid (by rw [NX.out, HC.out]; simp [HOp.pushes, HOp.takes])
        have HO : Hid (∀ v, v ≠ av → netV f v (k + 1) = netV f v k) := Lib.hid (fun v hv => by rw [NX.out]; have h9 : ¬ av = v := fun e => hv e.symm; simp [HOp.pushes, HOp.takes, h9])
        go_wp2_with (first | (at_lookup; refine wpList_lookup_own_int _ rfl _ _ 121 rfl 3 3 .i64 lawInt Tryz.underlying121 Tryz.underlying3 (zeroInt _) mb _ D rfl (D1.out.alloc _) _ _ rfl hkey ?_; intro c2 hat hwc; obtain rfl : c = c2 := (by rw [HAt.out] at hat; simpa using hat); clear hat hwc) | (at_mapUpdate; refine wpList_mapUpdate_own _ rfl _ _ _ 121 rfl 3 3 lawInt Tryz.underlying121 _ mb _ D rfl (D1.out.alloc _) (by unfold maxLen; omega) _ _ _ rfl rfl hkey (.lit (.int .i64 (c + 1))) [] (plainElem_int Tryz.underlying3 (by simp [Lit.wf, IntKind.min, IntKind.max, IntKind.signed, IntKind.bits] <;> omega)) ?_))
        intro w3 hown3 hgrow3
        have P3 := Lib.hid ((P.out.alloc _).grown hgrow3 (fun q hq => by cases hq; exact .inr (by rw [HMB.out]; exact Nat.le_refl _)))
        have N3 : Hid (NetAt w3 mb (k + 1) f) := Lib.hid ⟨_, hown3, hown3.isMap, net_put D2.out D3.out HX.out HO.out⟩
        clear hown3 hgrow3
        go_wp2_with fail
        go_roundw
        case rel => exact ⟨k + 1, by omega, by go_num, N3.out, P3.out⟩
        case measure => simp [intOf]; omega
      · by_cases ht : ¬ ak = 0 ∧ ac = 1
        · obtain ⟨hk0, rfl⟩ := ht
          have HX : Hid (netV f av (k + 1) = c - 1) := Lib.hid (by rw [NX.out, HC.out]; simp [HOp.pushes, HOp.takes, hk0])
          have HO : Hid (∀ v, v ≠ av → netV f v (k + 1) = netV f v k) := Lib.hid (fun v hv => by rw [NX.out]; have h9 : ¬ av = v := fun e => hv e.symm; simp [HOp.pushes, HOp.takes, h9])
          clear hp
          go_wp2_with (first | (at_lookup; refine wpList_lookup_own_int _ rfl _ _ 121 rfl 3 3 .i64 lawInt Tryz.underlying121 Tryz.underlying3 (zeroInt _) mb _ D rfl (D1.out.alloc _) _ _ rfl hkey ?_; intro c2 hat hwc; obtain rfl : c = c2 := (by rw [HAt.out] at hat; simpa using hat); clear hat hwc) | (at_mapUpdate; refine wpList_mapUpdate_own _ rfl _ _ _ 121 rfl 3 3 lawInt Tryz.underlying121 _ mb _ D rfl (D1.out.alloc _) (by unfold maxLen; omega) _ _ _ rfl rfl hkey (.lit (.int .i64 (c - 1))) [] (plainElem_int Tryz.underlying3 (by simp [Lit.wf, IntKind.min, IntKind.max, IntKind.signed, IntKind.bits] <;> omega)) ?_))
          intro w3 hown3 hgrow3
          have P3 := Lib.hid ((P.out.alloc _).grown hgrow3 (fun q hq => by cases hq; exact .inr (by rw [HMB.out]; exact Nat.le_refl _)))
          have N3 : Hid (NetAt w3 mb (k + 1) f) := Lib.hid ⟨_, hown3, hown3.isMap, net_put D2.out D3.out HX.out HO.out⟩
          clear hown3 hgrow3
          go_wp2_with fail
          go_roundw
          case rel => exact ⟨k + 1, by omega, by go_num, N3.out, P3.out⟩
          case measure => simp [intOf]; omega
        · have HO : Hid (∀ v, netV f v (k + 1) = netV f v k) := Lib.hid (fun v => by
            rw [NX.out]
            have h1 : (⟨ak, am, af, at', ac, av⟩ : HOp).pushes v = false := by
              simp only [HOp.pushes, Bool.and_eq_false_iff, decide_eq_false_iff_not]; by_cases h : ak = 0
              · exact .inl (.inr (fun e => hp ⟨h, e⟩))
              · exact .inl (.inl h)
            have h2 : (⟨ak, am, af, at', ac, av⟩ : HOp).takes v = false := by
              simp only [HOp.takes, Bool.and_eq_false_iff, Bool.not_eq_false', decide_eq_true_eq, decide_eq_false_iff_not]; by_cases h : ak = 0
              · exact .inl (.inl h)
              · exact .inl (.inr (fun e => ht ⟨h, e⟩))
            rw [h1, h2]; simp)
          have N3 : Hid (NetAt wr mb (k + 1) f) := Lib.hid ⟨D, D1.out.mono (by omega), D2.out, fun v => by rw [HO.out]; exact D3.out v⟩
          by_cases hk0 : ak = 0
          · have hc0 : ¬ ac = 0 := fun e => hp ⟨hk0, e⟩
            subst hk0
            clear hp ht
            go_wp2_with fail
            go_roundw
            case rel => exact ⟨k + 1, by omega, by go_num, by obtain ⟨D', g1, g2, g3⟩ := N3.out; exact ⟨D', g1.alloc _, g2, g3⟩, P.out.alloc _⟩
            case measure => simp [intOf]; omega
          · have hc0 : ¬ ac = 1 := fun e => ht ⟨hk0, e⟩
            have hb1 : (ak == 0) = false := by simpa using hk0
            have hb2 : (ac == 1) = false := by simpa using hc0
            clear hp ht
            go_wp2_with fail
            go_roundw
            case rel => exact ⟨k + 1, by omega, by go_num, by obtain ⟨D', g1, g2, g3⟩ := N3.out; exact ⟨D', g1.alloc _, g2, g3⟩, P.out.alloc _⟩
            case measure => simp [intOf]; omega
    · obtain rfl : n = k := by omega
      go_wp2_with (at_range; refine wpList_range_own _ rfl _ 121 rfl 3 3 lawInt Tryz.underlying121 _ mb n D rfl D1.out ?_)
      intro w0 hrg0 hg0 hs0
      have P0 := Lib.hid (P.out.grown hg0 (by simp))
      have RG0 := Lib.hid hrg0
      obtain ⟨rr, hrr⟩ : ∃ rr, rr = wr.heap.size := ⟨_, rfl⟩
      rw [← hrr] at RG0 ⊢
      have HRR : Hid (w.heap.size ≤ rr) := Lib.hid (by rw [hrr]; exact P.out.size)
      clear hrg0 hg0 hs0 hrr
      go_wp2_with fail
      go_loopw [] (fun wr => ∃ (left : Lit → Bool) (cnt : Nat), wr.ranges Tryz.prog 3 (plainElem Tryz.prog 3) mb rr n D left cnt ∧ Only [] w wr ∧ ∀ v, Maps.has D (.int .i64 v) = true → left (.int .i64 v) = false → 0 ≤ netV f v n) (fun wr => wr.rangeLeft mb rr)
      case atStart => exact ⟨_, _, RG0.out, P0.out, fun v h1 h2 => by rw [h1] at h2; cases h2⟩
      case round =>
        obtain ⟨left, cnt, hrg, hPr, hinv⟩ := hrel
        have PR := Lib.hid hPr
        have INV := Lib.hid hinv
        have RG := Lib.hid hrg
        clear hrg hPr hinv
        go_wp2_with (at_next; refine wpList_next_ranges_ii _ rfl _ rfl 3 3 .i64 .i64 lawInt Tryz.underlying3 Tryz.underlying3 mb rr n _ _ _ rfl RG.out ?_ ?_)
        · intro _ hl0
          have HALL : Hid (∀ v, 0 ≤ netV f v n) := Lib.hid (fun v => by
            cases h : Maps.has D (.int .i64 v) with
            | true => exact INV.out v h (hl0 _)
            | false =>
              have e := D3.out v
              rw [atKey_of_not_has h] at e
              simp at e
              omega)
          go_wp2_with fail
          go_ret
          exact ⟨true, rfl, by simp [SUP.out]; exact HALL.out, PR.out⟩
        · intro x c w1 cnt1 hwx hwc hlx hat hrg1 hlt1 hg1 hs1 hen
          have P1 := Lib.hid (PR.out.grown hg1 (fun q hq => by cases hq; exact .inr HRR.out))
          have HX : Hid (netV f x n = c) := Lib.hid (by
            have e1 := D3.out x
            rw [hat] at e1
            simpa using e1.symm)
          have RG1 := Lib.hid hrg1
          clear hg1 hrg1 hat
          by_cases hneg : c < 0
          · go_wp2_with fail
            go_ret
            refine ⟨false, rfl, ?_, P1.out⟩
            simp [SUP.out]
            exact ⟨x, by rw [HX.out]; exact hneg⟩
          · go_wp2_with fail
            go_roundw
            case rel =>
              refine ⟨_, cnt1, RG1.out, P1.out, fun v h1 h2 => ?_⟩
              rw [Bool.and_eq_false_iff] at h2
              rcases h2 with h2 | h2
              · exact INV.out v h1 h2
              · have e : v = x := by simpa [Lit.sameKey] using h2
                rw [e, HX.out]; omega
            case measure => rw [RG1.out.left_eq, RG.out.left_eq]; exact hlt1
end Go.Proofs.YtfhkhknnoepfeaaGreat
