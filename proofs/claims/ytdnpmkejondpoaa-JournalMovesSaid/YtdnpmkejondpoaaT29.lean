/- Parts of a proof, joined: MovesW. -/
import Derived.Test.YtdnpmkejondpoaaT25
import Derived.Test.YtdnpmkejondpoaaT27
import Derived.Test.YtdnpmkejondpoaaT28

/- JournalMoves, walked. -/
namespace Go.Proofs.Ytdnpmkejondpoaa
open Go.RowKit Go.Maps
set_option linter.unusedVariables false
set_option linter.unusedSimpArgs false

set_option maxRecDepth 100000 in
set_option maxHeartbeats 8000000 in
theorem moves_any (w : World) (size : Int) (hsI : inI size) (a : Option Addr) (n c : Nat) (l : List OpD) (hn : l.length = n) (hR : RdOps w a l) (hm : n ≤ 9223372036854775807) :
    Calls Try.prog 3 #[.int .i64 size, .slice a n c] w fun e w' => e = .returned (.bool true) ∧ Only noB w w' := by
  have HN := Lib.hid hn; have HR := Lib.hid hR
  clear hn hR
  by_cases hbig : 128 < size
  · go_enter Try.func3, Try.ntmps3
    go_wp2_with (go_at_call 7; refine (alive_any w).mono ?_; rintro e w1 ⟨rfl, k1⟩)
    go_ret
    exact ⟨rfl, k1⟩
  have hb : size ≤ 128 := by omega
  clear hbig
  obtain ⟨B, hB⟩ : ∃ B, smallOps l = B := ⟨_, rfl⟩
  have HB := Lib.hid hB
  clear hB
  go_enter Try.func3, Try.ntmps3
  go_wp2_with fail
  refine (alive_any w).mono ?_
  rintro e w1 ⟨rfl, k1⟩
  have K1 := Lib.hid k1
  clear k1
  go_wp2_with fail
  refine (small_any w1 a n c l HN.out (HR.out.keep0 K1.out) hm).mono ?_
  rintro e w2 ⟨rfl, k2⟩
  rw [HB.out]
  have K2 := Lib.hid (K1.out.then k2)
  clear k2
  cases B with
  | false =>
    go_wp2_with fail
    go_ret
    exact ⟨rfl, K2.out⟩
  | true =>
    have hsm : n ≤ 40 ∧ ∀ i, (hi : i < l.length) → l[i].val.length ≤ 300 := by
      have h := HB.out
      unfold smallOps at h
      rw [Bool.and_eq_true, List.all_eq_true] at h
      exact ⟨by have := h.2; rw [HN.out] at this; simpa using this, fun i hi => by simpa using h.1 _ (List.getElem_mem hi)⟩
    have hn40 := hsm.1
    have HSM := Lib.hid hsm.2
    clear hsm HB
    go_wp2_with fail
    refine (groups_any w2 size).mono ?_
    rintro e w3 ⟨E, rfl, h1, h2, h3, h4, h5⟩
    have t0 := two_fresh size
    obtain ⟨N, hN⟩ : ∃ N, 2 * (clampZ size).toNat = N := ⟨_, rfl⟩
    rw [hN] at t0
    obtain ⟨j0, ho, g0, l0, e0, m0, f0⟩ := open_fresh t0
    have hop := jopen w3 E _ N h1 t0.n h2 h3
    rw [ho] at hop
    have hfr : ∀ k, E.FS k → w.heap.size ≤ k := fun k hk => by have := h5 k hk; have := K2.out.size; omega
    have HFR := Lib.hid hfr
    have T0 := Lib.hid t0; have HOP := Lib.hid hop; have G0 := Lib.hid g0; have E0 := Lib.hid e0
    have K3 := Lib.hid (K2.out.then h4)
    clear h1 h2 h3 h4 h5 t0 hN ho g0 e0 m0 f0 hop hfr
    go_wp2_with fail
    refine HOP.out.mono ?_
    rintro e w4 ⟨o1, _, _, o4⟩
    obtain ⟨jb, hjb, rfl, hJ⟩ := o4 rfl
    have hK4 : Only noB w w4 := K3.out.trans o1 (fun x hx h => by have := HFR.out x h; omega)
    have K4 := Lib.hid hK4; have HJ := Lib.hid hJ
    have hjw : ∀ k, JWS E jb k → w.heap.size ≤ k := fun k hk => by
      rcases hk with hk | hk
      · exact HFR.out k hk
      · have e2 : k = jb := hk; have := K3.out.size; omega
    have HJW := Lib.hid hjw
    clear o1 o4 hJ hK4 hjw
    go_wp2_with fail
    go_loopw [42] (fun t wr => ∃ (k : Nat) (j : JSt), t = .int .i64 (k : Int) ∧ k ≤ n ∧ JW wr E jb N j ∧ JGood EA N j ∧ j.s.left < 0 ∧ j.epoch ≤ 1 + k ∧ Only noB w wr) (fun t _ => n - (intOf t).toNat)
    case atStart => exact ⟨0, j0, rfl, by omega, HJ.out, G0.out, l0, by rw [E0.out]; omega, K4.out⟩
    case round =>
      clear l0 HJ G0 E0 HOP K4 K3 K2 K1
      obtain ⟨k, j, rfl, hk, hJ, hG, hL, hE, hO⟩ := hrel
      have HJ := Lib.hid hJ; have HG := Lib.hid hG; have HO := Lib.hid hO
      have hfin := hG.holds.fin_le.2.2
      have h32 := hG.holds.two.n32
      clear hJ hG hO
      by_cases hlt : k < n
      · obtain ⟨g, o, a2, c2, rfl, hg, q1, q2, q3, r2, n2, i1, i2, hml⟩ := HR.out.at_ (i := k) (by rw [HN.out]; exact hlt)
        replace q1 := (HO.out.cell (a := ⟨g, o + k * 3, none⟩) hg (noB_not _)).trans q1
        replace q2 := (HO.out.cell (a := ⟨g, o + k * 3 + 1, none⟩) hg (noB_not _)).trans q2
        replace q3 := (HO.out.cell (a := ⟨g, o + k * 3 + 2, none⟩) hg (noB_not _)).trans q3
        replace hg := Nat.lt_of_lt_of_le hg HO.out.size
        have hv3 := HSM.out k (by rw [HN.out]; exact hlt)
        obtain ⟨q, hq⟩ : ∃ q, l[k]'(by rw [HN.out]; exact hlt) = q := ⟨_, rfl⟩
        rw [hq] at q1 q2 q3 r2 i1 i2 hml hv3
        obtain ⟨kd, ky, v⟩ := q
        simp only at q1 q2 q3 r2 i1 i2 hml hv3
        have R2 := Lib.hid r2; have N2 := Lib.hid n2; have I2 := Lib.hid i2
        clear hq r2 n2 i2 i1
        obtain ⟨ep, hep⟩ : ∃ x, j.epoch = x := ⟨_, rfl⟩
        obtain ⟨fin, hfn⟩ : ∃ x, j.fin = x := ⟨_, rfl⟩
        rw [hep] at hE; rw [hfn] at hfin
        have HEP := Lib.hid hep; have HFN := Lib.hid hfn
        clear hep hfn
        go_wp2_with fail
        obtain ⟨wa, hwa⟩ : ∃ x, wr.alloc (.cells #[.int .i64 kd, .int .i64 ky, .slice a2 v.length c2] 35) = x := ⟨_, rfl⟩
        rw [hwa]
        obtain ⟨b0, hb0⟩ : ∃ x, wr.heap.size = x := ⟨_, rfl⟩
        have ha : Only noB wr wa := by rw [← hwa]; exact (Only.refl _ _).alloc _
        have rowa : Row wa b0 #[.int .i64 kd, .int .i64 ky, .slice a2 v.length c2] := by rw [← hwa, ← hb0]; exact Row.new _ _ _
        have hoff : ∀ x, JWS E jb x → x < b0 := by rw [← hb0]; exact HJ.out.lt
        have HA := Lib.hid ha; have HROW := Lib.hid rowa; have HOFF := Lib.hid hoff
        rw [hb0]
        clear ha rowa hoff hwa hg q1 q2 q3 hb0
        refine (jroom (HJ.out.keep0 HA.out)).mono ?_
        rintro e w5 ⟨rfl, k5⟩
        rw [HFN.out]
        have HJ5 := Lib.hid ((HJ.out.keep0 HA.out).keep0 k5)
        have HO5 := Lib.hid ((HO.out.then HA.out).then k5)
        have HR5 := Lib.hid (HROW.out.keep0 k5)
        have HB5 := Lib.hid (R2.out.keep0 ((HO.out.then HA.out).then k5))
        clear k5
        go_wp2_with fail
        refine (jepoch HJ5.out).mono ?_
        rintro e w6 ⟨rfl, rfl⟩
        rw [HEP.out]
        obtain ⟨d0, d1, d2⟩ := HR5.out.c3
        go_wp2_with fail
        refine (jget HJ5.out ky I2.out).mono ?_
        rintro e w6 ⟨v6, rfl, g1, g2⟩
        have HJ6 := Lib.hid (HJ5.out.keep0 g2)
        have HO6 := Lib.hid (HO5.out.then g2)
        have HR6 := Lib.hid (HR5.out.keep0 g2)
        have HB6 := Lib.hid (HB5.out.keep0 g2)
        have HV6 := Lib.hid g1
        clear g1 g2 d0 d1 d2
        obtain ⟨d0, d1, d2⟩ := HR6.out.c3
        obtain ⟨lv, hlv⟩ : ∃ x, (kget j.m ky).getD [] = x := ⟨_, rfl⟩
        obtain ⟨B, hBk⟩ : ∃ x, (kget j.m ky).isSome = x := ⟨_, rfl⟩
        have hv6 := HV6.out
        rw [hlv] at hv6
        rw [hBk]
        have hsame : (B && (lv == v)) = decide (kget j.m ky = some v) := by
          rw [← hBk, ← hlv]
          cases hkg : kget j.m ky with
          | none => rfl
          | some x => rw [Bool.eq_iff_iff]; simp
        have hlvm : lv.length ≤ 250 := by
          rw [← hlv]
          cases hkg : kget j.m ky with
          | none => simp
          | some x => exact (HG.out.holds.fin_le.1).small _ (kget_some hkg)
        obtain ⟨a6, c6, rfl, _⟩ := hv6.form
        have HV := Lib.hid hv6; have HSAME := Lib.hid hsame
        have hb05 := HR5.out.lt
        clear hlv hBk hv6 hsame HV6
        by_cases hk01 : kd = 0 ∨ kd = 1
        · have hJ6 := HJ6.out
          have hpw := put_went HG.out hL ky v (by rw [HEP.out]; omega)
          obtain ⟨r, hr⟩ : ∃ r, EA.put N j ky v = r := ⟨_, rfl⟩
          have hput := jput HJ6.out ky a2 v.length c2 v I2.out rfl N2.out HB6.out
          rw [hr] at hpw hput
          obtain ⟨pw, pg, pl, pe⟩ := hpw
          have HPUT := Lib.hid hput; have HPG := Lib.hid pg; have HPL := Lib.hid pl; have HPE := Lib.hid pe; have HPW := Lib.hid pw
          clear hJ6 hput pg pl pe pw hr
          rcases hk01 with rfl | rfl
          all_goals
            go_wp2_with fail
            refine HPUT.out.mono ?_
            rintro e w7 ⟨rfl, p1, p2⟩
            have HJ7 := Lib.hid p1
            have HO7 := Lib.hid (HO6.out.trans p2 (fun x hx h => by have := HJW.out x h; omega))
            have HR7 := Lib.hid (HR6.out.keep p2 (fun h => by have := HOFF.out _ h; omega))
            have HV7 := Lib.hid (HV.out.keep p2 (fun x h => by have := HOFF.out _ h; omega))
            have HB7 := Lib.hid (RdB.keep0 (R2.out) HO7.out)
            clear p1 p2 d0 d1 d2 HPUT
            obtain ⟨d0, d1, d2⟩ := HR7.out.c3
            have pw := HPW.out
            clear HPW
            cases pw with
            | no h hc =>
              rename_i cd
              have hcb : (cd != 0) = true := by simpa using h
              clear h hc
              go_wp2_with fail
              refine (jroom HJ7.out).mono ?_
              rintro e w8 ⟨rfl, k8⟩
              rw [HFN.out]
              have HJ8 := Lib.hid (HJ7.out.keep0 k8)
              have HO8 := Lib.hid (HO7.out.then k8)
              clear k8
              go_wp2_with fail
              refine (jepoch HJ8.out).mono ?_
              rintro e w9 ⟨rfl, rfl⟩
              rw [HEP.out]
              go_wp2_with fail
              go_roundw
              case rel => exact ⟨k + 1, j, by go_num, by omega, HJ8.out, HG.out, hL, by rw [HEP.out]; omega, HO8.out⟩
              case measure => simp [intOf]; omega
            | same h =>
              go_upto_region 21 with fail
              go_cut [102] from 103 to 109 (fun u w' => u = .bool (decide (kget j.m ky = some v)) ∧ Only noB w7 w')
              case first =>
                cases B with
                | true =>
                  go_wp2_with fail
                  refine (same01_any w7 a6 a2 _ c6 _ c2 lv v rfl rfl (by obtain ⟨_, _, e2, r2, _⟩ := HV7.out.form; cases e2; exact r2) HB7.out (by omega)).mono ?_
                  rintro e w8 ⟨rfl, n8, rfl⟩
                  go_wp2_with fail
                  go_meet
                  exact ⟨by rw [← HSAME.out, Bool.true_and], (Only.refl _ _).drewN _⟩
                | false =>
                  go_wp2_with fail
                  go_meet
                  exact ⟨by rw [← HSAME.out, Bool.false_and], Only.refl _ _⟩
              case rest =>
                obtain ⟨rfl, hcO⟩ := hcut
                have HJc := Lib.hid (HJ7.out.keep0 hcO)
                have HOc := Lib.hid (HO7.out.then hcO)
                clear hcO d0 d1 d2
                rw [decide_eq_true h]
                clear h
                go_wp2_with fail
                refine (jroom HJc.out).mono ?_
                rintro e w8 ⟨rfl, k8⟩
                rw [HFN.out]
                have HJ8 := Lib.hid (HJc.out.keep0 k8)
                have HO8 := Lib.hid (HOc.out.then k8)
                clear k8
                go_wp2_with fail
                refine (jepoch HJ8.out).mono ?_
                rintro e w9 ⟨rfl, rfl⟩
                rw [HEP.out]
                go_wp2_with fail
                go_roundw
                case rel => exact ⟨k + 1, j, by go_num, by omega, HJ8.out, HG.out, hL, by rw [HEP.out]; omega, HO8.out⟩
                case measure => simp [intOf]; omega
            | fits h hm hn hr hf he hl =>
              rename_i j'
              have HH := Lib.hid h; have HMM := Lib.hid hm; have HF := Lib.hid hf; have HE := Lib.hid he
              rw [HFN.out] at hr
              have hle : ((v.length : Int) + 7 ≤ (N : Int) - (fin : Int)) := by omega
              clear h hm hf he hn
              go_upto_region 21 with fail
              go_cut [102] from 103 to 109 (fun u w' => u = .bool (decide (kget j.m ky = some v)) ∧ Only noB w7 w')
              case first =>
                cases B with
                | true =>
                  go_wp2_with fail
                  refine (same01_any w7 a6 a2 _ c6 _ c2 lv v rfl rfl (by obtain ⟨_, _, e2, r2, _⟩ := HV7.out.form; cases e2; exact r2) HB7.out (by omega)).mono ?_
                  rintro e w8 ⟨rfl, n8, rfl⟩
                  go_wp2_with fail
                  go_meet
                  exact ⟨by rw [← HSAME.out, Bool.true_and], (Only.refl _ _).drewN _⟩
                | false =>
                  go_wp2_with fail
                  go_meet
                  exact ⟨by rw [← HSAME.out, Bool.false_and], Only.refl _ _⟩
              case rest =>
                obtain ⟨rfl, hcO⟩ := hcut
                have HJc := Lib.hid (HJ7.out.keep0 hcO)
                have HOc := Lib.hid (HO7.out.then hcO)
                clear hcO d0 d1 d2
                rw [decide_eq_false HH.out]
                go_wp2_with fail
                refine (jroom HJc.out).mono ?_
                rintro e w8 ⟨rfl, k8⟩
                have hrm : (N : Int) - (j'.fin : Int) = (N : Int) - (fin : Int) - ((v.length : Int) + 7) := by rw [HF.out, HFN.out]; omega
                dsimp only
                rw [hrm]
                have HJ8 := Lib.hid (HJc.out.keep0 k8)
                have HO8 := Lib.hid (HOc.out.then k8)
                clear k8 hrm
                go_wp2_with fail
                refine (jepoch HJ8.out).mono ?_
                rintro e w9 ⟨rfl, rfl⟩
                dsimp only
                rw [HE.out, HEP.out]
                go_wp2_with fail
                go_roundw
                case rel => exact ⟨k + 1, j', by go_num, by omega, HJ8.out, HPG.out, HPL.out, by rw [HE.out, HEP.out]; omega, HO8.out⟩
                case measure => simp [intOf]; omega
            | moved h hm hn hr hf he hl =>
              rename_i j'
              have HH := Lib.hid h; have HMM := Lib.hid hm; have HF := Lib.hid hf; have HE := Lib.hid he
              rw [HFN.out] at hr
              have hle : ((N : Int) - (fin : Int) < (v.length : Int) + 7) := by omega
              have hnd : needV j'.m ≤ 8192 := by rw [HMM.out]; omega
              clear h hm hf he hn
              go_upto_region 21 with fail
              go_cut [102] from 103 to 109 (fun u w' => u = .bool (decide (kget j.m ky = some v)) ∧ Only noB w7 w')
              case first =>
                cases B with
                | true =>
                  go_wp2_with fail
                  refine (same01_any w7 a6 a2 _ c6 _ c2 lv v rfl rfl (by obtain ⟨_, _, e2, r2, _⟩ := HV7.out.form; cases e2; exact r2) HB7.out (by omega)).mono ?_
                  rintro e w8 ⟨rfl, n8, rfl⟩
                  go_wp2_with fail
                  go_meet
                  exact ⟨by rw [← HSAME.out, Bool.true_and], (Only.refl _ _).drewN _⟩
                | false =>
                  go_wp2_with fail
                  go_meet
                  exact ⟨by rw [← HSAME.out, Bool.false_and], Only.refl _ _⟩
              case rest =>
                obtain ⟨rfl, hcO⟩ := hcut
                have HJc := Lib.hid (HJ7.out.keep0 hcO)
                have HOc := Lib.hid (HO7.out.then hcO)
                clear hcO d0 d1 d2
                rw [decide_eq_false HH.out]
                go_wp2_with fail
                refine (jepoch HJc.out).mono ?_
                rintro e w9 ⟨rfl, rfl⟩
                have hee : (j'.epoch : Int) = (ep : Int) + 1 := by rw [HE.out, HEP.out]; omega
                dsimp only
                rw [hee]
                clear hee
                go_wp2_with fail
                refine (jroom HJc.out).mono ?_
                rintro e w8 ⟨rfl, k8⟩
                have HJ8 := Lib.hid (HJc.out.keep0 k8)
                have HO8 := Lib.hid (HOc.out.then k8)
                have hrm : (N : Int) - (j'.fin : Int) = (N : Int) - (needV j'.m : Int) := by rw [HF.out, HMM.out]
                dsimp only
                rw [hrm]
                clear k8 hrm
                go_wp2_with fail
                refine (psize_any _ E.pa E.f E.bb E.bw E.p0 j'.s HJ8.out.sys.a HJ8.out.sys.fl HJ8.out.sys.f0).mono ?_
                rintro e w9 ⟨rfl, n9, rfl⟩
                have hps : E.p0.size j'.s = N := by rw [HJ8.out.p0]; exact HPG.out.holds.two.n
                rw [hps]
                clear hps
                go_wp2_with fail
                refine (jpairs (HJ8.out.keep0 ((Only.refl _ _).drewN n9))).mono ?_
                rintro e w10 ⟨v10, rfl, p1, p2⟩
                have P10 := Lib.hid (p1.rd (HJ8.out.keep0 ((Only.refl _ _).drewN n9)).lt)
                have HJ10 := Lib.hid ((HJ8.out.keep0 ((Only.refl _ _).drewN n9)).keep0 p2)
                have HO10 := Lib.hid ((HO8.out.drewN n9).then p2)
                clear p1 p2
                go_wp2_with fail
                have hvm : j'.m.length ≤ 32 ∧ ∀ p ∈ j'.m, p.2.length ≤ 250 := by
                  obtain ⟨mb, _, hV⟩ := HJ10.out.jr.row
                  exact ⟨hV.short, hV.small⟩
                refine (need5_any w10 _ v10 j'.m P10.out hvm.1 hvm.2).mono ?_
                clear hvm
                rintro e w11 ⟨rfl, n11, rfl⟩
                go_wp2_with fail
                go_roundw
                case rel => exact ⟨k + 1, j', by go_num, by omega, HJ10.out.keep0 ((Only.refl _ _).drewN n11), HPG.out, HPL.out, by rw [HE.out, HEP.out]; omega, HO10.out.drewN n11⟩
                case measure => simp [intOf]; omega
        · have hb1 : (kd != 0) = true := by simp; omega
          have hb2 : (kd != 1) = true := by simp; omega
          clear hk01
          go_wp2_with fail
          go_roundw
          case rel => exact ⟨k + 1, j, by go_num, by omega, HJ6.out, HG.out, hL, by rw [HEP.out]; omega, HO6.out⟩
          case measure => simp [intOf]; omega
      · obtain rfl : k = n := by omega
        go_wp2
        go_ret
        exact ⟨rfl, HO.out⟩

end Go.Proofs.Ytdnpmkejondpoaa
