/- Parts of a proof, joined: KeepsW. -/
import Derived.Deep.CutBlock
import Derived.Laws.Closers25b
import Derived.Test.YtdnpmkejondpoaaT25
import Derived.Test.YtdnpmkejondpoaaT27
import Derived.Test.YtdnpmkejondpoaaT28
import Derived.Test.YtdnpmkejondpoaaT29

/- JournalKeeps, walked: the row of steps. -/
namespace Go.Proofs.Ytdnpmkejondpoaa
open Go.RowKit Go.Maps
set_option linter.unusedVariables false
set_option linter.unusedSimpArgs false

/-- behind the steps: what the flash holds, what the law has noted -/
def KeepsR (w : World) (E : Env) (jb N : Nat) (v : Value) (w' : World) : Prop :=
  ∃ (s : FSt) (no ep fin : Nat) (m : Vals), SysR w' E s ∧ Holds EA N s no ep m fin ∧ ep ≤ 41 ∧ RdP w' (JWS E jb) v m ∧ Only noB w w'

set_option maxRecDepth 100000 in
set_option maxHeartbeats 16000000 in
theorem keeps_any (w : World) (size : Int) (hsI : inI size) (a : Option Addr) (n c : Nat) (l : List OpD) (hn : l.length = n) (hR : RdOps w a l) (hm : n ≤ 9223372036854775807) (cut : Int) (hcI : inI cut) (again : Int) (haI : inI again) :
    Calls Try.prog 5 #[.int .i64 size, .slice a n c, .int .i64 cut, .int .i64 again] w fun e w' => e = .returned (.bool true) ∧ Only noB w w' := by
  have HN := Lib.hid hn; have HR := Lib.hid hR; have HCI := Lib.hid hcI; have HAI := Lib.hid haI
  clear hn hR hcI haI
  by_cases hbig : 128 < size
  · go_enter Try.func5, Try.ntmps5
    go_wp2_with (go_at_call 7; refine (alive_any w).mono ?_; rintro e w1 ⟨rfl, k1⟩)
    go_ret
    exact ⟨rfl, k1⟩
  have hb : size ≤ 128 := by omega
  clear hbig
  obtain ⟨B, hB⟩ : ∃ B, smallOps l = B := ⟨_, rfl⟩
  have HB := Lib.hid hB
  clear hB
  go_enter Try.func5, Try.ntmps5
  go_wp2_with fail
  refine (alive_any w).mono ?_
  rintro e w1 ⟨rfl, k1⟩
  have K1 := Lib.hid k1
  clear k1
  go_wp2_with fail
  refine (small_any w1 a n c l HN.out (HR.out.keep0 K1.out) hm).mono ?_
  rintro e w2 ⟨rfl, k2⟩
  rw [HB.out]
  have K2 := Lib.hid (K1.out.then k2)
  clear k2
  cases B with
  | false =>
    go_wp2_with fail
    go_ret
    exact ⟨rfl, K2.out⟩
  | true =>
    have hsm : n ≤ 40 ∧ ∀ i, (hi : i < l.length) → l[i].val.length ≤ 300 := by
      have h := HB.out
      unfold smallOps at h
      rw [Bool.and_eq_true, List.all_eq_true] at h
      exact ⟨by have := h.2; rw [HN.out] at this; simpa using this, fun i hi => by simpa using h.1 _ (List.getElem_mem hi)⟩
    have hn40 := hsm.1
    have HSM := Lib.hid hsm.2
    clear hsm HB
    go_wp2_with fail
    refine (groups_any w2 size).mono ?_
    rintro e w3 ⟨E, rfl, h1, h2, h3, h4, h5⟩
    have t0 := two_fresh size
    obtain ⟨N, hN⟩ : ∃ N, 2 * (clampZ size).toNat = N := ⟨_, rfl⟩
    rw [hN] at t0
    obtain ⟨j0, ho, g0, l0, e0, m0, f0⟩ := open_fresh t0
    have hop := jopen w3 E _ N h1 t0.n h2 h3
    rw [ho] at hop
    have hfr : ∀ k, E.FS k → w.heap.size ≤ k := fun k hk => by have := h5 k hk; have := K2.out.size; omega
    have HFR := Lib.hid hfr
    have HOPN := Lib.hid hop; have G0 := Lib.hid g0; have E0 := Lib.hid e0; have M0 := Lib.hid m0
    have H2 := Lib.hid h2; have H3 := Lib.hid h3
    have K3 := Lib.hid (K2.out.then h4)
    clear h1 h2 h3 h4 h5 t0 hN ho g0 l0 e0 m0 f0 hop hfr
    go_wp2_with fail
    refine HOPN.out.mono ?_
    rintro e w4 ⟨o1, _, _, o4⟩
    obtain ⟨jb, hjb, rfl, hJ⟩ := o4 rfl
    have hK4 : Only noB w w4 := K3.out.trans o1 (fun x hx h => by have := HFR.out x h; omega)
    have K4 := Lib.hid hK4; have HJ := Lib.hid hJ
    have hjw : ∀ k, JWS E jb k → w.heap.size ≤ k := fun k hk => by
      rcases hk with hk | hk
      · exact HFR.out k hk
      · have e2 : k = jb := hk; have := K3.out.size; omega
    have HJW := Lib.hid hjw
    clear o1 o4 hJ hK4 hjw
    go_wp2_with fail
    obtain ⟨cv, hcv⟩ : ∃ x, bits BinOp.and IntKind.i64 cut 4095 = x := ⟨_, rfl⟩
    have hcb : cv ≤ 9223372036854775807 := by rw [← hcv]; exact (bits_within BinOp.and IntKind.i64 cut 4095).2
    rw [hcv]
    clear hcv
    refine (fcut_any w4 E.f E.bb E.bw j0.s cv HJ.out.sys.fl hcb).mono ?_
    rintro e w5 ⟨rfl, f1, f2⟩
    have hj5 := HJ.out.flash f1 f2 rfl
    have hg5 := G0.out.cut cv hcb
    have he5 : ({ j0 with s := j0.s.cut cv } : JSt).epoch = 1 := E0.out
    have hm5 : ({ j0 with s := j0.s.cut cv } : JSt).m = [] := M0.out
    obtain ⟨j1, hj1⟩ : ∃ x : JSt, ({ j0 with s := j0.s.cut cv } : JSt) = x := ⟨_, rfl⟩
    rw [hj1] at hj5 hg5 he5 hm5
    have hO5 : Only noB w w5 := K4.out.trans f2 (fun x hx h => by have := HFR.out x h; omega)
    have hrd : RdP (w5.alloc (.cells #[] 78)) (JWS E jb) (.slice (some ⟨w5.heap.size, 0, none⟩) 0 0) j1.m := by rw [hm5]; exact (OwnP.new w5 (JWS E jb)).rd hj5.lt
    have HJ5 := Lib.hid hj5; have HG5 := Lib.hid hg5; have HE5 := Lib.hid he5; have HO5 := Lib.hid hO5
    have HRD := Lib.hid (hrd.keep ((Only.refl _ _).alloc (.cells #[] 78)))
    clear f1 f2 hj5 hg5 he5 hm5 hj1 hO5 hrd HJ G0 E0 M0 K4
    go_upto_block 0 with fail
    go_cut [14, 15, 17, 18] from 55 to 107 (fun v _ _ _ w' => KeepsR w E jb N v w')
    case first =>
      go_wp2_with fail
      go_loopw [14, 15, 17, 18, 55] (fun v _ _ _ t wr => ∃ (k : Nat) (j : JSt), t = .int .i64 (k : Int) ∧ k ≤ n ∧ JW wr E jb N j ∧ JGood EA N j ∧ j.epoch ≤ 1 + k ∧ RdP wr (JWS E jb) v j.m ∧ Only noB w wr) (fun _ _ _ _ t _ => n - (intOf t).toNat)
      case atStart => exact ⟨0, j1, rfl, by omega, HJ5.out.keep0 (((Only.refl _ _).alloc _).alloc _), HG5.out, by rw [HE5.out]; omega, HRD.out, (HO5.out.alloc _).alloc _⟩
      case round =>
        clear HJ5 HG5 HE5 HO5 HRD
        obtain ⟨k, j, rfl, hk, hJ, hG, hE, hP, hO⟩ := hrel
        have HJ := Lib.hid hJ; have HG := Lib.hid hG; have HO := Lib.hid hO; have HP := Lib.hid hP
        clear hJ hG hO hP
        by_cases hlt : k < n
        · obtain ⟨g, o, a2, c2, rfl, hg, q1, q2, q3, r2, n2, i1, i2, hml⟩ := HR.out.at_ (i := k) (by rw [HN.out]; exact hlt)
          replace q1 := (HO.out.cell (a := ⟨g, o + k * 3, none⟩) hg (noB_not _)).trans q1
          replace q2 := (HO.out.cell (a := ⟨g, o + k * 3 + 1, none⟩) hg (noB_not _)).trans q2
          replace q3 := (HO.out.cell (a := ⟨g, o + k * 3 + 2, none⟩) hg (noB_not _)).trans q3
          replace hg := Nat.lt_of_lt_of_le hg HO.out.size
          have hv3 := HSM.out k (by rw [HN.out]; exact hlt)
          obtain ⟨q, hq⟩ : ∃ q, l[k]'(by rw [HN.out]; exact hlt) = q := ⟨_, rfl⟩
          rw [hq] at q1 q2 q3 r2 i1 i2 hml hv3
          obtain ⟨kd, ky, v⟩ := q
          simp only at q1 q2 q3 r2 i1 i2 hml hv3
          have R2 := Lib.hid r2; have N2 := Lib.hid n2; have I2 := Lib.hid i2
          clear hq r2 n2 i2 i1
          obtain ⟨wo, rfl⟩ : ∃ x : World, x = wr := ⟨_, rfl⟩
          have hoff : ∀ x, JWS E jb x → x < wo.heap.size := HJ.out.lt
          have HOFF := Lib.hid hoff
          have ha : Only noB wo (wo.alloc (.cells #[.int .i64 kd, .int .i64 ky, .slice a2 v.length c2] 35)) := (Only.refl _ _).alloc _
          have hrow : Row (wo.alloc (.cells #[.int .i64 kd, .int .i64 ky, .slice a2 v.length c2] 35)) wo.heap.size #[.int .i64 kd, .int .i64 ky, .slice a2 v.length c2] := Row.new _ _ _
          have HA := Lib.hid ha; have HROW := Lib.hid hrow
          clear hoff ha hrow
          obtain ⟨w5', hw5⟩ : ∃ x, wo.alloc (.cells #[.int .i64 kd, .int .i64 ky, .slice a2 v.length c2] 35) = x := ⟨_, rfl⟩
          have HJ5 := Lib.hid (HJ.out.keep0 HA.out)
          have HO5 := Lib.hid (HO.out.then HA.out)
          have HP5 := Lib.hid (HP.out.keep HA.out.ofNo)
          have HR5 := HROW
          have HB5 := Lib.hid (R2.out.keep0 (HO.out.then HA.out))
          rw [hw5] at HJ5 HO5 HP5 HR5 HB5
          have HW5 := Lib.hid hw5
          clear hw5 HA HROW
          have HUP := Lib.hid HG.out.holds.fin_le.1.up
          have HLEN : Hid (j.m.length ≤ 32) := Lib.hid (by obtain ⟨mb, _, hV⟩ := HJ5.out.jr.row; exact hV.short)
          obtain ⟨d0, d1, d2⟩ := HR5.out.c3
          by_cases hk01 : kd = 0 ∨ kd = 1
          · rcases hk01 with rfl | rfl
            all_goals
              have hpw := put_k HG.out (by omega) ky v
              obtain ⟨r, hr⟩ : ∃ r, EA.put N j ky v = r := ⟨_, rfl⟩
              have hput := jput HJ5.out ky a2 v.length c2 v I2.out rfl N2.out HB5.out
              rw [hr] at hpw hput
              have HPUT := Lib.hid hput; have HPW := Lib.hid hpw
              clear hput hpw hr
              go_wp2_with fail
              rw [HW5.out]
              refine HPUT.out.mono ?_
              rintro e w7 ⟨rfl, p1, p2⟩
              have HJ7 := Lib.hid p1
              have HO7 := Lib.hid (HO5.out.trans p2 (fun x hx h => by have := HJW.out x h; omega))
              have HR7 := Lib.hid (HR5.out.keep p2 (fun h => by have := HOFF.out _ h; omega))
              have HP7 := Lib.hid (HP5.out.keep p2)
              clear p1 p2 d0 d1 d2 HPUT
              obtain ⟨d0, d1, d2⟩ := HR7.out.c3
              have pw := HPW.out
              clear HPW
              cases pw with
              | no h0 h1 =>
                rename_i cd
                have hb0 : (cd == 0) = false := by simpa using h0
                have hb30 : (cd == 30) = false := by simpa using h1
                have HJ7' : Hid (JW w7 E jb N j) := HJ7
                clear h0 h1
                go_wp2_with fail
                refine (jpairs HJ7'.out).mono ?_
                rintro e wp ⟨vp, rfl, p1, p2⟩
                have PP := Lib.hid (p1.rd HJ7'.out.lt)
                have HJP := Lib.hid (HJ7'.out.keep0 p2)
                have HOP := Lib.hid (HO7.out.then p2)
                have HPN := Lib.hid (HP7.out.keep p2.ofNo)
                clear p1 p2
                have hvm : j.m.length ≤ 1000000 ∧ ∀ p ∈ j.m, p.2.length ≤ 1000000 := by
                  obtain ⟨mb, _, hV⟩ := HJP.out.jr.row
                  exact ⟨by have := hV.short; omega, fun p hp => by have := hV.small p hp; omega⟩
                have HVM := Lib.hid hvm
                clear hvm
                go_wp2_with fail
                refine (same05_any wp _ (JWS E jb) vp _ j.m j.m PP.out HPN.out HVM.out.1 HVM.out.2).mono ?_
                rintro e wz ⟨rfl, nz, rfl⟩
                rw [decide_eq_true rfl]
                go_wp2_with fail
                go_roundw
                case rel => exact ⟨k + 1, j, by go_num, by omega, HJP.out.keep0 ((Only.refl _ _).drewN nz), HG.out, by omega, HPN.out.keep ((Only.refl _ _).drewN nz), HOP.out.drewN nz⟩
                case measure => simp [intOf]; omega
              | ok g hm he =>
                rename_i j'
                have HG7 := Lib.hid g; have HM := Lib.hid hm
                have HJ7' : Hid (JW w7 E jb N j') := HJ7
                clear g hm
                go_wp2_with fail
                refine (with_any w7 (JWS E jb) _ j.m ky a2 v.length c2 v HP7.out HJ7'.out.lt (by have := HLEN.out; omega) HUP.out rfl (R2.out.keep0 HO7.out) (by omega)).mono ?_
                rintro e w8 ⟨v8, rfl, u1, u2⟩
                have hp8 := u1.rd HJ7'.out.lt
                rw [← HM.out] at hp8
                have HP8 := Lib.hid hp8
                have HJ8 := Lib.hid (HJ7'.out.keep0 u2)
                have HO8 := Lib.hid (HO7.out.then u2)
                clear u1 u2 hp8 d0 d1 d2 HJ7 HJ7'
                go_wp2_with fail
                refine (jpairs HJ8.out).mono ?_
                rintro e wp ⟨vp, rfl, p1, p2⟩
                have PP := Lib.hid (p1.rd HJ8.out.lt)
                have HJP := Lib.hid (HJ8.out.keep0 p2)
                have HOP := Lib.hid (HO8.out.then p2)
                have HPN := Lib.hid (HP8.out.keep p2.ofNo)
                clear p1 p2
                have hvm : j'.m.length ≤ 1000000 ∧ ∀ p ∈ j'.m, p.2.length ≤ 1000000 := by
                  obtain ⟨mb, _, hV⟩ := HJP.out.jr.row
                  exact ⟨by have := hV.short; omega, fun p hp => by have := hV.small p hp; omega⟩
                have HVM := Lib.hid hvm
                clear hvm
                go_wp2_with fail
                refine (same05_any wp _ (JWS E jb) vp _ j'.m j'.m PP.out HPN.out HVM.out.1 HVM.out.2).mono ?_
                rintro e wz ⟨rfl, nz, rfl⟩
                rw [decide_eq_true rfl]
                go_wp2_with fail
                go_roundw
                case rel => exact ⟨k + 1, j', by go_num, by omega, HJP.out.keep0 ((Only.refl _ _).drewN nz), HG7.out, by omega, HPN.out.keep ((Only.refl _ _).drewN nz), HOP.out.drewN nz⟩
                case measure => simp [intOf]; omega
              | cut h =>
                rename_i j'
                have HH := Lib.hid h
                have HJ7' : Hid (JW w7 E jb N j') := HJ7
                clear h
                go_wp2_with fail
                refine (with_any w7 (JWS E jb) _ j.m ky a2 v.length c2 v HP7.out HJ7'.out.lt (by have := HLEN.out; omega) HUP.out rfl (R2.out.keep0 HO7.out) (by omega)).mono ?_
                rintro e w8 ⟨v8, rfl, u1, u2⟩
                have HJ8 := Lib.hid (HJ7'.out.keep0 u2)
                have HO8 := Lib.hid (HO7.out.then u2)
                have HP8 := Lib.hid (HP7.out.keep u2.ofNo)
                clear u1 u2 d0 d1 d2 HJ7 HJ7'
                go_wp2_with fail
                go_meet
                exact ⟨j'.s, j.now, j.epoch, j.fin, j.m, HJ8.out.sys, HH.out, by omega, HP8.out, HO8.out⟩
          by_cases hk2 : kd = 2
          · subst hk2
            have hpw := drop_k HG.out (by omega) ky
            obtain ⟨r, hr⟩ : ∃ r, EA.drop N j ky = r := ⟨_, rfl⟩
            have hput := jdrop HJ5.out ky I2.out
            rw [hr] at hpw hput
            have HPUT := Lib.hid hput; have HPW := Lib.hid hpw
            clear hput hpw hr
            go_wp2_with fail
            rw [HW5.out]
            refine HPUT.out.mono ?_
            rintro e w7 ⟨rfl, p1, p2⟩
            have HJ7 := Lib.hid p1
            have HO7 := Lib.hid (HO5.out.trans p2 (fun x hx h => by have := HJW.out x h; omega))
            have HR7 := Lib.hid (HR5.out.keep p2 (fun h => by have := HOFF.out _ h; omega))
            have HP7 := Lib.hid (HP5.out.keep p2)
            clear p1 p2 d0 d1 d2 HPUT
            obtain ⟨d0, d1, d2⟩ := HR7.out.c3
            have pw := HPW.out
            clear HPW
            cases pw with
            | no h0 h1 =>
              rename_i cd
              have hb0 : (cd == 0) = false := by simpa using h0
              have hb30 : (cd == 30) = false := by simpa using h1
              have HJ7' : Hid (JW w7 E jb N j) := HJ7
              clear h0 h1
              go_wp2_with fail
              refine (jpairs HJ7'.out).mono ?_
              rintro e wp ⟨vp, rfl, p1, p2⟩
              have PP := Lib.hid (p1.rd HJ7'.out.lt)
              have HJP := Lib.hid (HJ7'.out.keep0 p2)
              have HOP := Lib.hid (HO7.out.then p2)
              have HPN := Lib.hid (HP7.out.keep p2.ofNo)
              clear p1 p2
              have hvm : j.m.length ≤ 1000000 ∧ ∀ p ∈ j.m, p.2.length ≤ 1000000 := by
                obtain ⟨mb, _, hV⟩ := HJP.out.jr.row
                exact ⟨by have := hV.short; omega, fun p hp => by have := hV.small p hp; omega⟩
              have HVM := Lib.hid hvm
              clear hvm
              go_wp2_with fail
              refine (same05_any wp _ (JWS E jb) vp _ j.m j.m PP.out HPN.out HVM.out.1 HVM.out.2).mono ?_
              rintro e wz ⟨rfl, nz, rfl⟩
              rw [decide_eq_true rfl]
              go_wp2_with fail
              go_roundw
              case rel => exact ⟨k + 1, j, by go_num, by omega, HJP.out.keep0 ((Only.refl _ _).drewN nz), HG.out, by omega, HPN.out.keep ((Only.refl _ _).drewN nz), HOP.out.drewN nz⟩
              case measure => simp [intOf]; omega
            | ok g hm he =>
              rename_i j'
              have HG7 := Lib.hid g; have HM := Lib.hid hm
              have HJ7' : Hid (JW w7 E jb N j') := HJ7
              clear g hm
              go_wp2_with fail
              refine (without_any w7 (JWS E jb) _ j.m ky HP7.out HJ7'.out.lt (by have := HLEN.out; omega)).mono ?_
              rintro e w8 ⟨v8, rfl, u1, u2⟩
              have hp8 := u1.rd HJ7'.out.lt
              rw [← HM.out] at hp8
              have HP8 := Lib.hid hp8
              have HJ8 := Lib.hid (HJ7'.out.keep0 u2)
              have HO8 := Lib.hid (HO7.out.then u2)
              clear u1 u2 hp8 d0 d1 d2 HJ7 HJ7'
              go_wp2_with fail
              refine (jpairs HJ8.out).mono ?_
              rintro e wp ⟨vp, rfl, p1, p2⟩
              have PP := Lib.hid (p1.rd HJ8.out.lt)
              have HJP := Lib.hid (HJ8.out.keep0 p2)
              have HOP := Lib.hid (HO8.out.then p2)
              have HPN := Lib.hid (HP8.out.keep p2.ofNo)
              clear p1 p2
              have hvm : j'.m.length ≤ 1000000 ∧ ∀ p ∈ j'.m, p.2.length ≤ 1000000 := by
                obtain ⟨mb, _, hV⟩ := HJP.out.jr.row
                exact ⟨by have := hV.short; omega, fun p hp => by have := hV.small p hp; omega⟩
              have HVM := Lib.hid hvm
              clear hvm
              go_wp2_with fail
              refine (same05_any wp _ (JWS E jb) vp _ j'.m j'.m PP.out HPN.out HVM.out.1 HVM.out.2).mono ?_
              rintro e wz ⟨rfl, nz, rfl⟩
              rw [decide_eq_true rfl]
              go_wp2_with fail
              go_roundw
              case rel => exact ⟨k + 1, j', by go_num, by omega, HJP.out.keep0 ((Only.refl _ _).drewN nz), HG7.out, by omega, HPN.out.keep ((Only.refl _ _).drewN nz), HOP.out.drewN nz⟩
              case measure => simp [intOf]; omega
            | cut h =>
              rename_i j'
              have HH := Lib.hid h
              have HJ7' : Hid (JW w7 E jb N j') := HJ7
              clear h
              go_wp2_with fail
              refine (without_any w7 (JWS E jb) _ j.m ky HP7.out HJ7'.out.lt (by have := HLEN.out; omega)).mono ?_
              rintro e w8 ⟨v8, rfl, u1, u2⟩
              have HJ8 := Lib.hid (HJ7'.out.keep0 u2)
              have HO8 := Lib.hid (HO7.out.then u2)
              have HP8 := Lib.hid (HP7.out.keep u2.ofNo)
              clear u1 u2 d0 d1 d2 HJ7 HJ7'
              go_wp2_with fail
              go_meet
              exact ⟨j'.s, j.now, j.epoch, j.fin, j.m, HJ8.out.sys, HH.out, by omega, HP8.out, HO8.out⟩
          have hb0 : (kd == 0) = false := by simp; omega
          have hb1 : (kd == 1) = false := by simp; omega
          have hb2 : (kd == 2) = false := by simp; omega
          clear hk01 hk2
          go_wp2_with fail
          rw [HW5.out]
          refine (jpairs HJ5.out).mono ?_
          rintro e wp ⟨vp, rfl, p1, p2⟩
          have PP := Lib.hid (p1.rd HJ5.out.lt)
          have HJP := Lib.hid (HJ5.out.keep0 p2)
          have HOP := Lib.hid (HO5.out.then p2)
          have HPN := Lib.hid (HP5.out.keep p2.ofNo)
          clear p1 p2
          have hvm : j.m.length ≤ 1000000 ∧ ∀ p ∈ j.m, p.2.length ≤ 1000000 := by
            obtain ⟨mb, _, hV⟩ := HJP.out.jr.row
            exact ⟨by have := hV.short; omega, fun p hp => by have := hV.small p hp; omega⟩
          have HVM := Lib.hid hvm
          clear hvm
          go_wp2_with fail
          refine (same05_any wp _ (JWS E jb) vp _ j.m j.m PP.out HPN.out HVM.out.1 HVM.out.2).mono ?_
          rintro e wz ⟨rfl, nz, rfl⟩
          rw [decide_eq_true rfl]
          go_wp2_with fail
          go_roundw
          case rel => exact ⟨k + 1, j, by go_num, by omega, HJP.out.keep0 ((Only.refl _ _).drewN nz), HG.out, by omega, HPN.out.keep ((Only.refl _ _).drewN nz), HOP.out.drewN nz⟩
          case measure => simp [intOf]; omega
        · obtain rfl : k = n := by omega
          go_wp2_with fail
          go_meet
          have hG := HG.out
          exact ⟨j.s, j.now, j.epoch, j.fin, j.m, HJ.out.sys, hG.holds, by omega, HP.out, HO.out⟩
    case rest =>
      obtain ⟨s, no, ep, fin, m, hS, hH, he, hP, hO⟩ := hcut
      have HS := Lib.hid hS; have HH := Lib.hid hH; have HP := Lib.hid hP; have HO := Lib.hid hO
      clear hS hH hP hO
      go_wp2_with fail
      refine (frestore_any wc E.f E.bb E.bw s HS.out.fl).mono ?_
      rintro e w6 ⟨rfl, f1, f2⟩
      have HS6 := Lib.hid (HS.out.step f1 f2 rfl)
      have HH6 := Lib.hid HH.out.restore
      have HO6 := Lib.hid (HO.out.trans f2 (fun x hx h => by have := HFR.out x h; omega))
      have HP6 := Lib.hid (HP.out.keep (f2.mono fun x _ h => JWS.fs h))
      clear f1 f2
      go_wp2_with fail
      obtain ⟨cw, hcw⟩ : ∃ x, bits BinOp.and IntKind.i64 again 511 = x := ⟨_, rfl⟩
      have hcb2 : cw ≤ 9223372036854775807 := by rw [← hcw]; exact (bits_within BinOp.and IntKind.i64 again 511).2
      rw [hcw]
      clear hcw
      refine (fcut_any w6 E.f E.bb E.bw s.restore cw HS6.out.fl hcb2).mono ?_
      rintro e w7 ⟨rfl, f1, f2⟩
      have HS7 := Lib.hid (HS6.out.step f1 f2 rfl)
      have hh7 := HH6.out.cut cw hcb2
      have HO7 := Lib.hid (HO6.out.trans f2 (fun x hx h => by have := HFR.out x h; omega))
      have HP7 := Lib.hid (HP6.out.keep (f2.mono fun x _ h => JWS.fs h))
      have hd7 : (s.restore.cut cw).down = false := rfl
      have hop7 := jopen w7 E (s.restore.cut cw) N HS7.out hh7.two.n H2.out H3.out
      obtain ⟨r7, hr7⟩ : ∃ r, EA.open' N (s.restore.cut cw) = r := ⟨_, rfl⟩
      have hq7 := hh7.open hd7 (by omega)
      rw [hr7] at hop7 hq7
      have HOP7 := Lib.hid hop7; have HQ7 := Lib.hid hq7
      clear f1 f2 hh7 hd7 hop7 hq7 hr7
      go_wp2_with fail
      refine HOP7.out.mono ?_
      rintro e w8 ⟨o1, o2, o3, o4⟩
      have HO8 := Lib.hid (HO7.out.trans o1 (fun x hx h => by have := HFR.out x h; omega))
      have HP8 := Lib.hid (HP7.out.keep (o1.mono fun x _ h => JWS.fs h))
      clear o1
      rcases HQ7.out with ⟨s', now', ep', fin', e7, u1, _, u2, u3, u4⟩ | ⟨_, s', e7, e8, u1, u2⟩
      · rw [e7] at o2 o3 o4
        obtain ⟨jc, hjc, rfl, hJ⟩ := o4 rfl
        have hm9 : (⟨s', now', ep', fin', m⟩ : JSt).m = m := rfl
        have hg9 : JGood EA N ⟨s', now', ep', fin', m⟩ := ⟨u2, u3, u1⟩
        obtain ⟨j9, hj9⟩ : ∃ x, (⟨s', now', ep', fin', m⟩ : JSt) = x := ⟨_, rfl⟩
        have hJ' : JW w8 E jc N ⟨s', now', ep', fin', m⟩ := hJ
        rw [hj9] at hm9 hg9 hJ'
        have HM9 := Lib.hid hm9; have HG9 := Lib.hid hg9; have HJ9 := Lib.hid hJ'
        have HO9 := HO8; have HP9 := HP8
        clear o2 o3 o4 e7 u1 u2 u3 hm9 hg9 hj9 hJ' hJ
        go_wp2_with fail
        refine (frestore_any _ E.f E.bb E.bw j9.s HJ9.out.sys.fl).mono ?_
        rintro e wa ⟨rfl, f1, f2⟩
        have hja := HJ9.out.flash f1 f2 rfl
        have hga : JGood EA N { j9 with s := j9.s.restore } := ⟨HG9.out.holds.restore, HG9.out.clean.bits rfl rfl, rfl⟩
        have hma : ({ j9 with s := j9.s.restore } : JSt).m = m := HM9.out
        obtain ⟨j10, hj10⟩ : ∃ x : JSt, ({ j9 with s := j9.s.restore } : JSt) = x := ⟨_, rfl⟩
        rw [hj10] at hja hga hma
        have HJA := Lib.hid hja; have HGA := Lib.hid hga; have HMA := Lib.hid hma
        have HOA := Lib.hid (HO9.out.trans f2 (fun x hx h => by have := HFR.out x h; omega))
        have HPA := Lib.hid (HP9.out.keep (f2.mono fun x _ h => JWS.fs h))
        clear f1 f2 hja hga hma hj10
        go_wp2_with fail
        refine (jpairs HJA.out).mono ?_
        rintro e wb ⟨vp, rfl, p1, p2⟩
        rw [HMA.out] at p1
        have HPP := Lib.hid (p1.rd HJA.out.lt)
        have HJB := Lib.hid (HJA.out.keep0 p2); have HOB := Lib.hid (HOA.out.then p2); have HPB := Lib.hid (HPA.out.keep p2.ofNo)
        clear p1 p2
        go_wp2_with fail
        have hop := jopen wb E j10.s N HJB.out.sys HGA.out.holds.two.n H2.out H3.out
        rw [HGA.out.holds.open_clean HGA.out.clean HGA.out.up] at hop
        refine hop.mono ?_
        clear hop
        rintro e wd ⟨o1, _, _, o4⟩
        obtain ⟨jd, hjd, rfl, hJd⟩ := o4 rfl
        have HJD := Lib.hid hJd
        have HOD := Lib.hid (HOB.out.trans o1 (fun x hx h => by have := HFR.out x h; omega))
        have HPD := Lib.hid (HPB.out.keep (o1.mono fun x _ h => JWS.fs h))
        have HQD := Lib.hid (HPP.out.keep (o1.mono fun x _ h => JWS.fs h))
        have hvm : m.length ≤ 1000000 ∧ ∀ p ∈ m, p.2.length ≤ 1000000 := by
          obtain ⟨mb, _, hV⟩ := HJB.out.jr.row
          rw [HMA.out] at hV
          exact ⟨by have := hV.short; omega, fun p hp => by have := hV.small p hp; omega⟩
        have HVM := Lib.hid hvm
        clear o1 o4 hJd hvm
        go_wp2_with fail
        refine (same05_any wd _ _ vp _ m m HQD.out HPD.out HVM.out.1 HVM.out.2).mono ?_
        rintro e we ⟨rfl, ne, rfl⟩
        rw [decide_eq_true rfl]
        go_wp2_with fail
        refine (jpairs (HJD.out.keep0 ((Only.refl _ _).drewN ne))).mono ?_
        rintro e wf ⟨vq, rfl, p1, p2⟩
        have hpq := p1.rd (HJD.out.keep0 ((Only.refl _ _).drewN ne)).lt
        rw [HMA.out] at hpq
        have HPQ := Lib.hid hpq
        have HQF := Lib.hid (HQD.out.keep (((Only.refl noB wd).drewN ne).then p2).ofNo)
        have HOF := Lib.hid ((HOD.out.drewN ne).then p2)
        clear p1 p2 hpq
        go_wp2_with fail
        refine (same05_any wf _ _ vq _ m m HPQ.out HQF.out HVM.out.1 HVM.out.2).mono ?_
        rintro e wg ⟨rfl, ng, rfl⟩
        rw [decide_eq_true rfl]
        go_wp2_with fail
        go_ret
        exact ⟨rfl, HOF.out.drewN ng⟩
      · have o3' := o3 (by rw [e7]; decide)
        obtain rfl := o3'
        rw [e7]
        rw [e8] at o2
        have HS8 := Lib.hid o2; have HH8 := Lib.hid u2
        clear o2 o3 o4 e7 e8 u1 u2
        go_wp2_with fail
        refine (frestore_any w8 E.f E.bb E.bw s' HS8.out.fl).mono ?_
        rintro e w10 ⟨rfl, f1, f2⟩
        have HS10 := Lib.hid (HS8.out.step f1 f2 rfl)
        have hh10 := HH8.out.restore
        have HO10 := Lib.hid (HO8.out.trans f2 (fun x hx h => by have := HFR.out x h; omega))
        have HP10 := Lib.hid (HP8.out.keep (f2.mono fun x _ h => JWS.fs h))
        have hop10 := jopen w10 E s'.restore N HS10.out hh10.two.n H2.out H3.out
        have hq10 : ∃ j9 : JSt, EA.open' N s'.restore = (0, j9) ∧ JGood EA N j9 ∧ j9.m = m := by
          rcases hh10.open rfl (by omega) with ⟨s2, now2, ep2, fin2, e2, a1, _, a2, a3, _⟩ | ⟨a1, _⟩
          · exact ⟨_, e2, ⟨a2, a3, a1⟩, rfl⟩
          · have : (-1 : Int) ≥ 0 := a1; omega
        obtain ⟨j9, e9, hg9, hm9⟩ := hq10
        rw [e9] at hop10
        have HOP10 := Lib.hid hop10; have HM9 := Lib.hid hm9; have HG9 := Lib.hid hg9
        clear f1 f2 hh10 hop10 e9 hg9 hm9
        go_wp2_with fail
        refine HOP10.out.mono ?_
        rintro e w11 ⟨o1, _, _, o4⟩
        obtain ⟨jc, hjc, rfl, hJ⟩ := o4 rfl
        have HJ9 := Lib.hid hJ
        have HO9 := Lib.hid (HO10.out.trans o1 (fun x hx h => by have := HFR.out x h; omega))
        have HP9 := Lib.hid (HP10.out.keep (o1.mono fun x _ h => JWS.fs h))
        clear o1 o4 hJ
        go_wp2_with fail
        refine (frestore_any _ E.f E.bb E.bw j9.s HJ9.out.sys.fl).mono ?_
        rintro e wa ⟨rfl, f1, f2⟩
        have hja := HJ9.out.flash f1 f2 rfl
        have hga : JGood EA N { j9 with s := j9.s.restore } := ⟨HG9.out.holds.restore, HG9.out.clean.bits rfl rfl, rfl⟩
        have hma : ({ j9 with s := j9.s.restore } : JSt).m = m := HM9.out
        obtain ⟨j10, hj10⟩ : ∃ x : JSt, ({ j9 with s := j9.s.restore } : JSt) = x := ⟨_, rfl⟩
        rw [hj10] at hja hga hma
        have HJA := Lib.hid hja; have HGA := Lib.hid hga; have HMA := Lib.hid hma
        have HOA := Lib.hid (HO9.out.trans f2 (fun x hx h => by have := HFR.out x h; omega))
        have HPA := Lib.hid (HP9.out.keep (f2.mono fun x _ h => JWS.fs h))
        clear f1 f2 hja hga hma hj10
        go_wp2_with fail
        refine (jpairs HJA.out).mono ?_
        rintro e wb ⟨vp, rfl, p1, p2⟩
        rw [HMA.out] at p1
        have HPP := Lib.hid (p1.rd HJA.out.lt)
        have HJB := Lib.hid (HJA.out.keep0 p2); have HOB := Lib.hid (HOA.out.then p2); have HPB := Lib.hid (HPA.out.keep p2.ofNo)
        clear p1 p2
        go_wp2_with fail
        have hop := jopen wb E j10.s N HJB.out.sys HGA.out.holds.two.n H2.out H3.out
        rw [HGA.out.holds.open_clean HGA.out.clean HGA.out.up] at hop
        refine hop.mono ?_
        clear hop
        rintro e wd ⟨o1, _, _, o4⟩
        obtain ⟨jd, hjd, rfl, hJd⟩ := o4 rfl
        have HJD := Lib.hid hJd
        have HOD := Lib.hid (HOB.out.trans o1 (fun x hx h => by have := HFR.out x h; omega))
        have HPD := Lib.hid (HPB.out.keep (o1.mono fun x _ h => JWS.fs h))
        have HQD := Lib.hid (HPP.out.keep (o1.mono fun x _ h => JWS.fs h))
        have hvm : m.length ≤ 1000000 ∧ ∀ p ∈ m, p.2.length ≤ 1000000 := by
          obtain ⟨mb, _, hV⟩ := HJB.out.jr.row
          rw [HMA.out] at hV
          exact ⟨by have := hV.short; omega, fun p hp => by have := hV.small p hp; omega⟩
        have HVM := Lib.hid hvm
        clear o1 o4 hJd hvm
        go_wp2_with fail
        refine (same05_any wd _ _ vp _ m m HQD.out HPD.out HVM.out.1 HVM.out.2).mono ?_
        rintro e we ⟨rfl, ne, rfl⟩
        rw [decide_eq_true rfl]
        go_wp2_with fail
        refine (jpairs (HJD.out.keep0 ((Only.refl _ _).drewN ne))).mono ?_
        rintro e wf ⟨vq, rfl, p1, p2⟩
        have hpq := p1.rd (HJD.out.keep0 ((Only.refl _ _).drewN ne)).lt
        rw [HMA.out] at hpq
        have HPQ := Lib.hid hpq
        have HQF := Lib.hid (HQD.out.keep (((Only.refl noB wd).drewN ne).then p2).ofNo)
        have HOF := Lib.hid ((HOD.out.drewN ne).then p2)
        clear p1 p2 hpq
        go_wp2_with fail
        refine (same05_any wf _ _ vq _ m m HPQ.out HQF.out HVM.out.1 HVM.out.2).mono ?_
        rintro e wg ⟨rfl, ng, rfl⟩
        rw [decide_eq_true rfl]
        go_wp2_with fail
        go_ret
        exact ⟨rfl, HOF.out.drewN ng⟩

end Go.Proofs.Ytdnpmkejondpoaa
