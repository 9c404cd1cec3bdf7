/- Sorting words: pdqsort (a sorted permutation), slices.Sort (printed by gen_sort10.py). -/
import Derived.Test.YtenamlckhcfflaaSortU5
import Derived.Test.YtenamlckhcfflaaSortU6
import Derived.Test.YtenamlckhcfflaaSortU7
import Derived.Test.YtenamlckhcfflaaSortU8
import Derived.Test.YtenamlckhcfflaaSortU9
import Derived.Sort.LotA
import Derived.Sort.LotB
import Derived.Sort.LotD3
namespace Go.Proofs.Ytenamlckhcfflaa
open Go.RowKit Go.Sort
set_option linter.unusedVariables false

/-- What sorting a range comes to. -/
def PdqEnd (b a e : Nat) (d : Array Int) (w : World) (en : Ending) (w' : World) : Prop := ∃ d', en = .returned (.tuple #[]) ∧ Only [b] w w' ∧ Rw w' b d' ∧ PermIn a e d d' ∧ SortedIn ltInt a e d'

set_option maxRecDepth 100000 in
set_option maxHeartbeats 8000000 in
theorem pdq_any : ∀ (k : Nat) (w : World) (b cap n a e : Nat) (lim : Int) (d : Array Int), e - a = k → Rw w b d → d.size = n → a ≤ e → e ≤ n → Sort.Below ltInt a e d → n ≤ 4000000000000 →
    Calls Try.prog 23 #[.slice (some ⟨b, 0, none⟩) n cap, .int .i64 a, .int .i64 e, .int .i64 lim] w (PdqEnd b a e d w) := by
  intro k
  induction k using Nat.strongRecOn with
  | _ k IH =>
  intro w b cap n a e lim d hk h hn hae he hB hsz
  have H := Lib.hid h
  have HN := Lib.hid hn
  have HB := Lib.hid hB
  clear h hn hB
  go_enter Try.func23, Try.ntmps23
  go_wp2_with fail
  go_loopw [1, 2, 3, 8, 9] (fun va ve vl vb vp wr => ∃ (a' e' : Nat) (lim' : Int) (b1 b2 : Bool) (dk : Array Int), va = .int .i64 a' ∧ ve = .int .i64 e' ∧ vl = .int .i64 lim' ∧ vb = .bool b1 ∧ vp = .bool b2 ∧ a ≤ a' ∧ a' ≤ e' ∧ e' ≤ e ∧ dk.size = n ∧ Only [b] w wr ∧ Rw wr b dk ∧ Sort.Below ltInt a' e' dk ∧
      (∀ R, PermIn a' e' dk R → SortedIn ltInt a' e' R → PermIn a e d R ∧ SortedIn ltInt a e R)) (fun va ve _ _ _ _ => (intOf ve).toNat - (intOf va).toNat)
  case atStart => exact ⟨a, e, lim, true, true, d, rfl, rfl, rfl, rfl, rfl, Nat.le_refl _, hae, Nat.le_refl _, HN.out, Only.refl _ _, H.out, HB.out, fun R h1 h2 => ⟨h1, h2⟩⟩
  case round =>
    obtain ⟨a', e', lim', b1, b2, dk, rfl, rfl, rfl, rfl, rfl, ha1, ha2, ha3, hkk, hO, hR, hBk, hG⟩ := hrel
    have HO1 := Lib.hid hO
    have HR1 := Lib.hid hR
    have HB1 := Lib.hid hBk
    have HGL := Lib.hid hG
    have HK := Lib.hid hkk
    clear hO hR hBk hG hkk
    by_cases h12 : e' - a' ≤ 12
    · have q1 : ((e' : Int) - (a' : Int)) ≤ 12 := by omega
      have INS := Lib.hid (ins_any wr b cap n a' e' dk HR1.out HK.out (by omega) ha2 hsz)
      go_wp2_with fail
      refine INS.out.mono ?_; rintro en w2 ⟨rfl, o2, r2⟩
      have HO2 := Lib.hid (HO1.out.trans o2 (by simp))
      have HR2 := Lib.hid r2
      clear o2 r2 INS
      go_wp2_with fail
      obtain ⟨g1, g2⟩ := insertionSort_holds swo_ltInt dk a' e' ha2 (by rw [HK.out]; omega)
      obtain ⟨g3, g4⟩ := HGL.out _ g1 g2
      exact bodyPost_ret (v := .tuple #[]) (by simp [results, Try.results23, go_sem]) rfl ⟨_, rfl, HO2.out, HR2.out, g3, g4⟩
    · have q1 : 12 < ((e' : Int) - (a' : Int)) := by omega
      by_cases hl0 : lim' = 0
      · subst hl0
        have HS := Lib.hid (heap_any wr b cap n a' e' dk HR1.out HK.out (by omega) ha2 hsz)
        go_wp2_with fail
        refine HS.out.mono ?_; rintro en w2 ⟨rfl, o2, r2⟩
        have HO2 := Lib.hid (HO1.out.trans o2 (by simp))
        have HR2 := Lib.hid r2
        clear o2 r2 HS
        go_wp2_with fail
        obtain ⟨g1, g2⟩ := heapSort_holds swo_ltInt dk a' e' ha2 (by rw [HK.out]; omega)
        obtain ⟨g3, g4⟩ := HGL.out _ g1 g2
        exact bodyPost_ret (v := .tuple #[]) (by simp [results, Try.results23, go_sem]) rfl ⟨_, rfl, HO2.out, HR2.out, g3, g4⟩
      · have ql : (lim' == 0) = false := by simpa using hl0
        go_upto_if 35 with fail
        go_cut [3] (fun vl wx => ∃ (l1 : Int) (D1 : Array Int), vl = .int .i64 l1 ∧ PermIn a' e' dk D1 ∧ Only [b] w wx ∧ Rw wx b D1)
        case first =>
          cases b1 with
          | true =>
            go_wp2_with fail
            go_meet
            exact ⟨_, dk, rfl, permIn_refl _ _ _, HO1.out, HR1.out⟩
          | false =>
            have BK := Lib.hid (brk_any wr b cap n a' e' dk HR1.out HK.out (by omega) (by omega) hsz)
            go_wp2_with fail
            refine BK.out.mono ?_; rintro en w2 ⟨d2, rfl, o2, r2, p2⟩
            have HO2 := Lib.hid (HO1.out.trans o2 (by simp))
            have HR2 := Lib.hid r2
            have HP2 := Lib.hid p2
            clear o2 r2 p2 BK
            go_wp2_with fail
            go_meet
            exact ⟨_, d2, rfl, HP2.out, HO2.out, HR2.out⟩
        case rest =>
          obtain ⟨l1, D1, rfl, hP, hO, hR⟩ := hcut
          have P1 := Lib.hid hP
          have HO2 := Lib.hid hO
          have HR2 := Lib.hid hR
          have HK1 := Lib.hid (show D1.size = n by rw [hP.1]; exact HK.out)
          clear hP hO hR ql hl0
          have PV := Lib.hid (piv_any wc b cap n a' e' D1 HR2.out HK1.out (by omega) (by omega) hsz)
          go_wp2_with fail
          refine PV.out.mono ?_; rintro en w3 ⟨p0, h0, rfl, bp1, bp2, o3⟩
          have HO3 := Lib.hid (HO2.out.then0 o3)
          have HR3 := Lib.hid (HR2.out.keep o3 (by simp))
          clear o3 PV
          go_upto_if 50 with fail
          go_cut [11, 12] (fun vp vh wx => ∃ (p : Nat) (h1 : Int) (D2 : Array Int), vp = .int .i64 p ∧ vh = .int .i64 h1 ∧ (a' ≤ p ∧ p < e') ∧ PermIn a' e' D1 D2 ∧ Only [b] w wx ∧ Rw wx b D2)
          case first =>
            by_cases hh : h0 = 2
            · subst hh
              have RV := Lib.hid (rev_any w3 b cap n a' e' D1 HR3.out HK1.out (by omega) (by omega) hsz)
              have PR := Lib.hid (reverseRange_holds D1 a' e' ha2 (by rw [HK1.out]; omega))
              go_wp2_with fail
              refine RV.out.mono ?_; rintro en w4 ⟨rfl, o4, r4⟩
              have HO4 := Lib.hid (HO3.out.trans o4 (by simp))
              have HR4 := Lib.hid r4
              clear o4 r4 RV
              go_wp2_with fail
              go_meet
              exact ⟨(e' - 1) - (p0 - a'), _, _, by congr 1; omega, rfl, by omega, PR.out, HO4.out, HR4.out⟩
            · have qh : (h0 == 2) = false := by simpa using hh
              go_wp2_with fail
              go_meet
              exact ⟨p0, _, D1, rfl, rfl, ⟨bp1, bp2⟩, permIn_refl _ _ _, HO3.out, HR3.out⟩
          case rest =>
            obtain ⟨p, h1, D2, rfl, rfl, bp, hP, hO, hR⟩ := hcut
            have P2 := Lib.hid (permIn_trans _ _ _ _ _ P1.out hP)
            have HO4 := Lib.hid hO
            have HR4 := Lib.hid hR
            have HK2 := Lib.hid (show D2.size = n by rw [hP.1]; exact HK1.out)
            have B2 := Lib.hid (HB1.out.perm (by rw [HK.out]; omega) P2.out)
            clear hP hO hR
            go_upto_region 15 with fail
            go_cut [68] (fun vc wx => ∃ c : Bool, vc = .bool c ∧ Only [b] w wx ∧ Rw wx b D2)
            case first =>
              cases b1
              · go_wp2_with fail
                go_meet
                exact ⟨_, rfl, HO4.out, HR4.out⟩
              · cases b2
                · go_wp2_with fail
                  go_meet
                  exact ⟨_, rfl, HO4.out, HR4.out⟩
                · go_wp2_with fail
                  go_meet
                  exact ⟨_, rfl, HO4.out, HR4.out⟩
            case rest =>
              obtain ⟨c, rfl, hO, hR⟩ := hcut
              have HO5 := Lib.hid hO
              have HR5 := Lib.hid hR
              clear hO hR
              go_upto_if 68 with fail
              go_cut [] (fun wx => ∃ D3 : Array Int, PermIn a' e' D2 D3 ∧ Only [b] w wx ∧ Rw wx b D3)
              case first =>
                cases c
                · go_wp2_with fail
                  go_meet
                  exact ⟨D2, permIn_refl _ _ _, HO5.out, HR5.out⟩
                · have PI := Lib.hid (pins_any wc b cap n a' e' D2 HR5.out HK2.out (by omega) (by omega) hsz)
                  have PIH := partialInsertionSort_holds swo_ltInt D2 a' e' (by omega) (by rw [HK2.out]; omega) B2.out
                  obtain ⟨⟨D3, t⟩, hr⟩ : ∃ r, r = Sort.partialInsertionSort ltInt D2 a' e' := ⟨_, rfl⟩
                  rw [← hr] at PI PIH
                  obtain ⟨i1, i2⟩ := PIH
                  simp only at i1 i2
                  have I1 := Lib.hid i1
                  have I2 := Lib.hid i2
                  clear hr i1 i2
                  unfold PinsEnd at PI
                  go_wp2_with fail
                  refine PI.out.mono ?_; rintro en w6 ⟨rfl, o6, r6⟩
                  have HO6 := Lib.hid (HO5.out.trans o6 (by simp))
                  have HR6 := Lib.hid r6
                  clear o6 r6 PI
                  cases t
                  · go_wp2_with fail
                    go_meet
                    exact ⟨D3, I1.out, HO6.out, HR6.out⟩
                  · go_wp2_with fail
                    obtain ⟨g3, g4⟩ := HGL.out _ (permIn_trans _ _ _ _ _ P2.out I1.out) (I2.out (by first | trivial | rfl))
                    exact bodyPost_ret (v := .tuple #[]) (by simp [results, Try.results23, go_sem]) rfl ⟨_, rfl, HO6.out, HR6.out, g3, g4⟩
              case rest =>
                obtain ⟨D3, hP, hO, hR⟩ := hcut
                have P3 := Lib.hid (permIn_trans _ _ _ _ _ P2.out hP)
                have HO6 := Lib.hid hO
                have HR6 := Lib.hid hR
                have HK3 := Lib.hid (show D3.size = n by rw [hP.1]; exact HK2.out)
                have B3 := Lib.hid (HB1.out.perm (by rw [HK.out]; omega) P3.out)
                clear hP hO hR
                by_cases ha0 : 0 < a'
                · obtain ⟨G, hG⟩ : ∃ G : Nat → Int, ∀ t, G t = D3[t]! := ⟨fun t => D3[t]!, fun _ => rfl⟩
                  have c1 := HR6.out.cell (a' - 1) (by rw [HK3.out]; omega)
                  have c2 := HR6.out.cell p (by rw [HK3.out]; omega)
                  rw [← hG] at c1 c2
                  have HG := Lib.hid hG
                  clear hG
                  go_wp2_with fail
                  go_quiet ((go_at_call 31; exact Calls.quiet_of_same (less_any _ _ _)))
                  have oq : Only [] wc (wc.drewN nq) := (Only.refl [] wc).drewN nq
                  generalize hwq : wc.drewN nq = wq at oq ⊢
                  have HO7 := Lib.hid (HO6.out.then0 oq)
                  have HR7 := Lib.hid (HR6.out.keep oq (by simp))
                  clear oq hwq
                  clear c1 c2
                  cases hl : ltInt (G (a' - 1)) (G p)
                  · have HL := Lib.hid hl
                    clear hl
                    have PE := Lib.hid (parteq_any wq b cap n a' e' p D3 HR7.out HK3.out (by omega) bp.1 bp.2 hsz)
                    obtain ⟨⟨mid, D4⟩, hx⟩ : ∃ r, r = Sort.partitionEqual ltInt D3 a' e' p := ⟨_, rfl⟩
                    rw [← hx] at PE
                    obtain ⟨hm1, hm2, hs4, hB4, hF4⟩ := round_eq swo_ltInt (partitionEqual_holds _) ha0 bp.1 bp.2 (by rw [HK3.out]; omega) B3.out (by rw [← HG.out, ← HG.out]; exact HL.out) hx.symm
                    have HB4 := Lib.hid hB4
                    have HF4 := Lib.hid hF4
                    have HK4 := Lib.hid (show D4.size = n by rw [hs4]; exact HK3.out)
                    clear hx hB4 hF4 hs4
                    unfold PartEqEnd at PE
                    go_wp2_with fail
                    refine PE.out.mono ?_; rintro en w5 ⟨rfl, o5, r5⟩
                    have HO8 := Lib.hid (HO7.out.trans o5 (by simp))
                    have HR8 := Lib.hid r5
                    clear o5 r5 PE
                    go_wp2_with fail
                    go_roundw
                    case rel => exact ⟨mid, e', _, _, _, D4, rfl, rfl, rfl, rfl, rfl, by omega, hm2, by omega, HK4.out, HO8.out, HR8.out, HB4.out, fun R h1 h2 => by
                      obtain ⟨g1, g2⟩ := HF4.out R h1 h2
                      exact HGL.out R (permIn_trans _ _ _ _ _ P3.out g1) g2⟩
                    case measure => simp [intOf] <;> omega
                  · clear hl
                    have PT := Lib.hid (part_any wq b cap n a' e' p D3 HR7.out HK3.out (by omega) bp.1 bp.2 hsz)
                    obtain ⟨⟨mid, ap, D4⟩, hx⟩ : ∃ r, r = Sort.partition ltInt D3 a' e' p := ⟨_, rfl⟩
                    rw [← hx] at PT
                    have RP := round_part swo_ltInt (partition_holds _) bp.1 bp.2 (by rw [HK3.out]; omega) B3.out hx.symm
                    obtain ⟨hm1, hm2, hs4, hBa, hBr, hL, hRt⟩ := RP
                    have HBa := Lib.hid hBa
                    have HBr := Lib.hid hBr
                    have HLt := Lib.hid hL
                    have HRt := Lib.hid hRt
                    have HK4 := Lib.hid (show D4.size = n by rw [hs4]; exact HK3.out)
                    clear hx hBa hBr hL hRt hs4
                    unfold PartEnd at PT
                    go_wp2_with fail
                    refine PT.out.mono ?_; rintro en w5 ⟨rfl, o5, r5⟩
                    have HO5 := Lib.hid (HO7.out.trans o5 (by simp))
                    have HR5 := Lib.hid r5
                    clear o5 r5 PT
                    by_cases hlr : mid - a' < e' - mid
                    · have q5 : ((mid : Int) - (a' : Int)) < ((e' : Int) - (mid : Int)) := by omega
                      have RC := Lib.hid (fun l => IH (mid - a') (by omega) w5 b cap n a' mid l D4 rfl HR5.out HK4.out hm1 (by omega) HBa.out hsz)
                      go_wp2_with fail
                      refine (RC.out _).mono ?_; rintro en w6 ⟨L, rfl, o6, r6, p6, s6⟩
                      obtain ⟨hB6, hF6⟩ := HLt.out L p6 s6
                      have HO6 := Lib.hid (HO5.out.trans o6 (by simp))
                      have HR6 := Lib.hid r6
                      have HK6 := Lib.hid (show L.size = n by rw [p6.1]; exact HK4.out)
                      have HB6 := Lib.hid hB6
                      have HF6 := Lib.hid hF6
                      clear o6 r6 p6 s6 hB6 hF6 RC
                      go_wp2_with fail
                      go_roundw
                      case rel => exact ⟨mid + 1, e', _, _, _, L, by go_num, rfl, rfl, rfl, rfl, by omega, by omega, by omega, HK6.out, HO6.out, HR6.out, HB6.out, fun R h1 h2 => by
                        obtain ⟨g1, g2⟩ := HF6.out R h1 h2
                        exact HGL.out R (permIn_trans _ _ _ _ _ P3.out g1) g2⟩
                      case measure => simp [intOf] <;> omega
                    · have q5 : ((e' : Int) - (mid : Int)) ≤ ((mid : Int) - (a' : Int)) := by omega
                      have RC := Lib.hid (fun l => IH (e' - (mid + 1)) (by omega) w5 b cap n (mid + 1) e' l D4 rfl HR5.out HK4.out (by omega) (by omega) HBr.out hsz)
                      obtain ⟨m1, hm1'⟩ : ∃ m1, m1 = mid + 1 := ⟨_, rfl⟩
                      rw [← hm1'] at RC
                      have em : ((mid : Int) + 1) = (m1 : Int) := by omega
                      have HM := Lib.hid hm1'
                      clear hm1'
                      go_wp2_with fail
                      refine (RC.out _).mono ?_; rintro en w6 ⟨L, rfl, o6, r6, p6, s6⟩
                      rw [HM.out] at p6 s6
                      obtain ⟨hB6, hF6⟩ := HRt.out L p6 s6
                      have HO6 := Lib.hid (HO5.out.trans o6 (by simp))
                      have HR6 := Lib.hid r6
                      have HK6 := Lib.hid (show L.size = n by rw [p6.1]; exact HK4.out)
                      have HB6 := Lib.hid hB6
                      have HF6 := Lib.hid hF6
                      clear o6 r6 p6 s6 hB6 hF6 RC
                      go_wp2_with fail
                      go_roundw
                      case rel => exact ⟨a', mid, _, _, _, L, rfl, rfl, rfl, rfl, rfl, by omega, by omega, by omega, HK6.out, HO6.out, HR6.out, HB6.out, fun R h1 h2 => by
                        obtain ⟨g1, g2⟩ := HF6.out R h1 h2
                        exact HGL.out R (permIn_trans _ _ _ _ _ P3.out g1) g2⟩
                      case measure => simp [intOf] <;> omega
                · have q0 : a' = 0 := by omega
                  have qa : ((a' : Int) ≤ 0) := by omega
                  clear q0
                  go_wp2_with fail
                  go_quiet (fail)
                  have oq : Only [] wc (wc.drewN nq) := (Only.refl [] wc).drewN nq
                  generalize hwq : wc.drewN nq = wq at oq ⊢
                  have HO7 := Lib.hid (HO6.out.then0 oq)
                  have HR7 := Lib.hid (HR6.out.keep oq (by simp))
                  clear oq hwq
                  have PT := Lib.hid (part_any wq b cap n a' e' p D3 HR7.out HK3.out (by omega) bp.1 bp.2 hsz)
                  obtain ⟨⟨mid, ap, D4⟩, hx⟩ : ∃ r, r = Sort.partition ltInt D3 a' e' p := ⟨_, rfl⟩
                  rw [← hx] at PT
                  have RP := round_part swo_ltInt (partition_holds _) bp.1 bp.2 (by rw [HK3.out]; omega) B3.out hx.symm
                  obtain ⟨hm1, hm2, hs4, hBa, hBr, hL, hRt⟩ := RP
                  have HBa := Lib.hid hBa
                  have HBr := Lib.hid hBr
                  have HLt := Lib.hid hL
                  have HRt := Lib.hid hRt
                  have HK4 := Lib.hid (show D4.size = n by rw [hs4]; exact HK3.out)
                  clear hx hBa hBr hL hRt hs4
                  unfold PartEnd at PT
                  go_wp2_with fail
                  refine PT.out.mono ?_; rintro en w5 ⟨rfl, o5, r5⟩
                  have HO5 := Lib.hid (HO7.out.trans o5 (by simp))
                  have HR5 := Lib.hid r5
                  clear o5 r5 PT
                  by_cases hlr : mid - a' < e' - mid
                  · have q5 : ((mid : Int) - (a' : Int)) < ((e' : Int) - (mid : Int)) := by omega
                    have RC := Lib.hid (fun l => IH (mid - a') (by omega) w5 b cap n a' mid l D4 rfl HR5.out HK4.out hm1 (by omega) HBa.out hsz)
                    go_wp2_with fail
                    refine (RC.out _).mono ?_; rintro en w6 ⟨L, rfl, o6, r6, p6, s6⟩
                    obtain ⟨hB6, hF6⟩ := HLt.out L p6 s6
                    have HO6 := Lib.hid (HO5.out.trans o6 (by simp))
                    have HR6 := Lib.hid r6
                    have HK6 := Lib.hid (show L.size = n by rw [p6.1]; exact HK4.out)
                    have HB6 := Lib.hid hB6
                    have HF6 := Lib.hid hF6
                    clear o6 r6 p6 s6 hB6 hF6 RC
                    go_wp2_with fail
                    go_roundw
                    case rel => exact ⟨mid + 1, e', _, _, _, L, by go_num, rfl, rfl, rfl, rfl, by omega, by omega, by omega, HK6.out, HO6.out, HR6.out, HB6.out, fun R h1 h2 => by
                      obtain ⟨g1, g2⟩ := HF6.out R h1 h2
                      exact HGL.out R (permIn_trans _ _ _ _ _ P3.out g1) g2⟩
                    case measure => simp [intOf] <;> omega
                  · have q5 : ((e' : Int) - (mid : Int)) ≤ ((mid : Int) - (a' : Int)) := by omega
                    have RC := Lib.hid (fun l => IH (e' - (mid + 1)) (by omega) w5 b cap n (mid + 1) e' l D4 rfl HR5.out HK4.out (by omega) (by omega) HBr.out hsz)
                    obtain ⟨m1, hm1'⟩ : ∃ m1, m1 = mid + 1 := ⟨_, rfl⟩
                    rw [← hm1'] at RC
                    have em : ((mid : Int) + 1) = (m1 : Int) := by omega
                    have HM := Lib.hid hm1'
                    clear hm1'
                    go_wp2_with fail
                    refine (RC.out _).mono ?_; rintro en w6 ⟨L, rfl, o6, r6, p6, s6⟩
                    rw [HM.out] at p6 s6
                    obtain ⟨hB6, hF6⟩ := HRt.out L p6 s6
                    have HO6 := Lib.hid (HO5.out.trans o6 (by simp))
                    have HR6 := Lib.hid r6
                    have HK6 := Lib.hid (show L.size = n by rw [p6.1]; exact HK4.out)
                    have HB6 := Lib.hid hB6
                    have HF6 := Lib.hid hF6
                    clear o6 r6 p6 s6 hB6 hF6 RC
                    go_wp2_with fail
                    go_roundw
                    case rel => exact ⟨a', mid, _, _, _, L, rfl, rfl, rfl, rfl, rfl, by omega, by omega, by omega, HK6.out, HO6.out, HR6.out, HB6.out, fun R h1 h2 => by
                      obtain ⟨g1, g2⟩ := HF6.out R h1 h2
                      exact HGL.out R (permIn_trans _ _ _ _ _ P3.out g1) g2⟩
                    case measure => simp [intOf] <;> omega

set_option maxRecDepth 100000 in
theorem sort_any (w : World) (b cap n : Nat) (d : Array Int) (h : Rw w b d) (hn : d.size = n) (hsz : n ≤ 4000000000000) :
    Calls Try.prog 22 #[.slice (some ⟨b, 0, none⟩) n cap] w (PdqEnd b 0 n d w) := by
  have P := Lib.hid (fun l => pdq_any n w b cap n 0 n l d (by omega) h hn (Nat.zero_le _) (Nat.le_refl _) (.inl rfl) hsz)
  have hw : IntKind.u64.wrap (n : Int) = (n : Int) := by rw [IntKind.wrap_u64]; omega
  have L := Lib.hid (len_any n w (by omega) (by omega))
  obtain ⟨l, hl⟩ : ∃ l : Int, l = (Lib.bitLen (n : Int).toNat : Int) := ⟨_, rfl⟩
  rw [← hl] at L
  clear h hn hl
  go_enter Try.func22, Try.ntmps22
  go_wp2_with fail
  refine L.out.mono ?_; rintro e w' ⟨rfl, rfl⟩
  go_wp2_with fail
  refine (P.out _).mono ?_; rintro e w2 ⟨d', rfl, o2, r2, p2, s2⟩
  have Q := Lib.hid (And.intro o2 (And.intro r2 (And.intro p2 s2)))
  clear o2 r2 p2 s2
  go_wp2_with fail
  go_end0
  exact ⟨d', rfl, Q.out⟩
end Go.Proofs.Ytenamlckhcfflaa
