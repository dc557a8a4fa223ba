/- Parts of a proof, joined: FullW. -/
import Derived.Test.YtdnpmkejondpoaaT27
import Derived.Test.YtdnpmkejondpoaaT29
import Derived.Test.YtdnpmkejondpoaaT30

/- JournalFull, walked. -/
namespace Go.Proofs.Ytdnpmkejondpoaa
open Go.RowKit Go.Maps
set_option linter.unusedVariables false
set_option linter.unusedSimpArgs false

set_option maxRecDepth 100000 in
set_option maxHeartbeats 8000000 in
theorem full_any (w : World) (size : Int) (hsI : inI size) (a : Option Addr) (n c : Nat) (l : List (List UInt8)) (hn : l.length = n) (hR : RdRows w a l) (hm : n ≤ 9223372036854775807)
    (b : Option Addr) (nb cb : Nat) (lb : List UInt8) (hnb : lb.length = nb) (hRb : RdB w b lb) (hnil : b = none → cb = 0) (hmb : nb ≤ 9223372036854775807) :
    Calls Try.prog 4 #[.int .i64 size, .slice a n c, .slice b nb cb] w fun e w' => e = .returned (.bool true) ∧ Only noB w w' := by
  have HN := Lib.hid hn; have HR := Lib.hid hR; have HNB := Lib.hid hnb; have HRB := Lib.hid hRb; have HNIL := Lib.hid hnil
  clear hn hR hnb hRb hnil
  by_cases hbig : 64 < size
  · go_enter Try.func4, Try.ntmps4
    go_wp2_with (go_at_call 7; refine (alive_any w).mono ?_; rintro e w1 ⟨rfl, k1⟩)
    go_ret
    exact ⟨rfl, k1⟩
  have hsz : size ≤ 64 := by omega
  clear hbig
  by_cases hlong : 12 < n
  · go_enter Try.func4, Try.ntmps4
    go_wp2_with (go_at_call 7; refine (alive_any w).mono ?_; rintro e w1 ⟨rfl, k1⟩)
    go_ret
    exact ⟨rfl, k1⟩
  have hn12 : n ≤ 12 := by omega
  clear hlong
  by_cases hmore : 200 < nb
  · go_enter Try.func4, Try.ntmps4
    go_wp2_with (go_at_call 7; refine (alive_any w).mono ?_; rintro e w1 ⟨rfl, k1⟩)
    go_ret
    exact ⟨rfl, k1⟩
  have hnb2 : nb ≤ 200 := by omega
  clear hmore
  go_enter Try.func4, Try.ntmps4
  go_wp2_with fail
  refine (alive_any w).mono ?_
  rintro e w1 ⟨rfl, k1⟩
  have K1 := Lib.hid k1
  clear k1
  go_wp2_with fail
  refine (groups_any w1 size).mono ?_
  rintro e w3 ⟨E, rfl, h1, h2, h3, h4, h5⟩
  have t0 := two_fresh size
  obtain ⟨N, hN⟩ : ∃ N, 2 * (clampZ size).toNat = N := ⟨_, rfl⟩
  rw [hN] at t0
  obtain ⟨j0, ho, g0, l0, e0, m0, f0⟩ := open_fresh t0
  have hop := jopen w3 E _ N h1 t0.n h2 h3
  rw [ho] at hop
  have hfr : ∀ k, E.FS k → w.heap.size ≤ k := fun k hk => by have := h5 k hk; have := K1.out.size; omega
  have hfa : FullAt N j0 0 l := ⟨g0, l0, by omega, by rw [f0, m0]; rfl, by rw [m0]; simp, by rw [m0]; simp, by have := g0.holds.fin_le.2.2; exact this⟩
  have HFR := Lib.hid hfr; have F0 := Lib.hid f0
  have HOP := Lib.hid hop; have HFA := Lib.hid hfa
  have K3 := Lib.hid (K1.out.then h4)
  have h32 := t0.n32
  clear h1 h2 h3 h4 h5 t0 hN ho g0 l0 e0 m0 f0 hop hfr hfa
  go_wp2_with fail
  refine HOP.out.mono ?_
  rintro e w4 ⟨o1, _, _, o4⟩
  obtain ⟨jb, hjb, rfl, hJ⟩ := o4 rfl
  have hK4 : Only noB w w4 := K3.out.trans o1 (fun x hx h => by have := HFR.out x h; omega)
  have K4 := Lib.hid hK4; have HJ := Lib.hid hJ
  have hjw : ∀ k, JWS E jb k → w.heap.size ≤ k := fun k hk => by
    rcases hk with hk | hk
    · exact HFR.out k hk
    · have e2 : k = jb := hk; have := K3.out.size; omega
  have HJW := Lib.hid hjw
  clear o1 o4 hJ hK4 hjw
  go_wp2_with fail
  go_loopw [12, 56] (fun u t wr => ∃ (k : Nat) (j : JSt) (fin : Nat), t = .int .i64 (k : Int) ∧ u = .int .i64 (fin : Int) ∧ j.fin = fin ∧ k ≤ n ∧ JW wr E jb N j ∧ FullAt N j k l ∧ Only noB w wr) (fun _ t _ => n - (intOf t).toNat)
  case atStart => exact ⟨0, j0, 8, rfl, rfl, F0.out, by omega, HJ.out, HFA.out, K4.out⟩
  case round =>
    clear HJ F0 HFA HOP K4 K3 K1
    obtain ⟨k, j, fin, rfl, rfl, hfn, hk, hJ, hF, hO⟩ := hrel
    have HJ := Lib.hid hJ; have HF := Lib.hid hF; have HO := Lib.hid hO; have HFN := Lib.hid hfn
    have hfin := hF.le
    rw [hfn] at hfin
    clear hJ hF hO hfn
    by_cases hlt : k < n
    · obtain ⟨g, o, a2, c2, rfl, hg, q1, r2, n2, hml⟩ := HR.out.at_ (i := k) (by rw [HN.out]; exact hlt)
      replace q1 := (HO.out.cell (a := ⟨g, o + k, none⟩) hg (noB_not _)).trans q1
      replace hg := Nat.lt_of_lt_of_le hg HO.out.size
      obtain ⟨v, hv⟩ : ∃ q, l[k]'(by rw [HN.out]; exact hlt) = q := ⟨_, rfl⟩
      have hlx : l[k]? = some v := by rw [List.getElem?_eq_getElem (by rw [HN.out]; exact hlt), hv]
      rw [hv] at q1 r2 hml
      have R2 := Lib.hid (r2.keep0 HO.out); have N2 := Lib.hid n2; have HLX := Lib.hid hlx
      clear hv r2 n2 hlx
      by_cases hv2 : 200 < v.length
      · go_wp2_with fail
        go_ret
        exact ⟨rfl, HO.out⟩
      · have hv3 : v.length ≤ 200 := by omega
        clear hv2
        go_wp2_with fail
        refine (psize_any _ E.pa E.f E.bb E.bw E.p0 j.s HJ.out.sys.a HJ.out.sys.fl HJ.out.sys.f0).mono ?_
        rintro e w5 ⟨rfl, n5, rfl⟩
        have hps : E.p0.size j.s = N := by rw [HJ.out.p0]; exact HF.out.good.holds.two.n
        rw [hps]
        have HJ5 := Lib.hid (HJ.out.keep0 ((Only.refl _ _).drewN n5)); have HO5 := Lib.hid (HO.out.drewN n5)
        clear hps
        go_wp2_with fail
        have hput := jput HJ5.out (k : Int) a2 v.length c2 v (by unfold inI; omega) rfl N2.out (R2.out.keep0 ((Only.refl _ _).drewN n5))
        rcases HF.out.put (x := k) (Nat.le_refl _) (by omega) (v := v) (by omega) with ⟨p1, p2⟩ | ⟨p1, j', p2, p3, p4, p5⟩
        · rw [p2] at hput
          rw [HFN.out] at p1
          refine hput.mono ?_
          clear hput p2
          rintro e w6 ⟨rfl, u1, u2⟩
          have HJ6 := Lib.hid u1
          have HO6 := Lib.hid (HO5.out.trans u2 (fun x hx h => by have := HJW.out x h; omega))
          clear u1 u2
          have hgt : (N : Int) - (fin : Int) < (v.length : Int) + 7 := by omega
          go_wp2_with fail
          go_roundw
          case rel => exact ⟨k + 1, j, fin, by go_num, rfl, HFN.out, by omega, HJ6.out, HF.out.up (by omega), HO6.out⟩
          case measure => simp [intOf]; omega
        · rw [p2] at hput
          have P3 := Lib.hid p3; have P4 := Lib.hid p4
          rw [HFN.out] at p1
          refine hput.mono ?_
          clear hput p2 p3 p4 p5
          rintro e w6 ⟨rfl, u1, u2⟩
          have HJ6 := Lib.hid u1
          have HO6 := Lib.hid (HO5.out.trans u2 (fun x hx h => by have := HJW.out x h; omega))
          clear u1 u2
          have hgt : (v.length : Int) + 7 ≤ (N : Int) - (fin : Int) := by omega
          go_wp2_with fail
          go_roundw
          case rel => exact ⟨k + 1, j', fin + (v.length + 7), by go_num, by go_num, by rw [P3.out, HFN.out]; omega, by omega, HJ6.out, P4.out HLX.out, HO6.out⟩
          case measure => simp [intOf]; omega
    · obtain rfl : k = n := by omega
      go_wp2_with fail
      refine (fturned_any wr E.f E.bb E.bw j.s HJ.out.sys.fl).mono ?_
      rintro e w5 ⟨rfl, rfl⟩
      obtain ⟨tn, htn⟩ : ∃ x, j.s.turned = x := ⟨_, rfl⟩
      rw [htn]
      have HTN := Lib.hid htn
      clear htn
      go_wp2_with fail
      refine (jkeys HJ.out).mono ?_
      rintro e w6 ⟨v6, rfl, g1, g2⟩
      obtain ⟨a6, c6, rfl, hty⟩ := g1.typed
      rw [List.length_map] at *
      have hjlt := HJ.out.lt
      have HY := Lib.hid g1; have HJ6 := Lib.hid (HJ.out.keep0 g2); have HO6 := Lib.hid (HO.out.then g2); have HLT := Lib.hid hjlt
      have hml := HF.out.good.holds.fin_le.1
      have hm32 : j.m.length ≤ 32 := by obtain ⟨mb, _, hV⟩ := HJ6.out.jr.row; exact hV.short
      have hs6 := g2.size
      clear g1 g2 hjlt hty hml
      go_wp2_with fail
      obtain ⟨wo, rfl⟩ : ∃ wo : World, wo = w6 := ⟨_, rfl⟩
      obtain ⟨wl, rfl⟩ : ∃ x : World, x = wr := ⟨_, rfl⟩
      go_loopw [101] (fun t wq => ∃ i : Nat, t = .int .i64 (i : Int) ∧ i ≤ j.m.length ∧ JW wq E jb N j ∧ Only (JWS E jb) wo wq) (fun t _ => j.m.length - (intOf t).toNat)
      case atStart => exact ⟨0, rfl, by omega, HJ6.out, Only.refl _ _⟩
      case round =>
        obtain ⟨i, rfl, hi, hJq, hOq⟩ := hrel
        obtain ⟨wq, rfl⟩ : ∃ x : World, x = wr := ⟨_, rfl⟩
        have HJQ := Lib.hid hJq; have HOQ := Lib.hid hOq
        clear hJq hOq
        by_cases hil : i < j.m.length
        · have hkl := (HY.out.keep HOQ.out (fun x h => HLT.out x h)).typed
          obtain ⟨a6', c6', e6, hty⟩ := hkl
          rw [List.length_map] at e6
          cases e6
          obtain ⟨q, hq⟩ : ∃ q, j.m[i] = q := ⟨_, rfl⟩
          have hmem : q ∈ j.m := by rw [← hq]; exact List.getElem_mem hil
          have hcell : ∃ g, a6 = some ⟨g, 0, none⟩ ∧ wq.cell? ⟨g, i, none⟩ = some (.int .i64 q.1) ∧ g < wq.heap.size := by
            rcases hty with h | ⟨g, cs, fz, ea, hg, hh, h⟩
            · rw [List.map_eq_nil_iff] at h; rw [h] at hil; simp at hil
            · have h2 := h wq hh i (by simpa using hil)
              simp only [List.getElem_map, hq] at h2
              exact ⟨g, ea, h2, lt_of_block hh⟩
          obtain ⟨x, v⟩ := q
          have hxk := HF.out.keys _ hmem
          have hx0 := (HF.out.good.holds.fin_le.1).keys _ hmem
          have hvs := (HF.out.good.holds.fin_le.1).small _ hmem
          have hkg := kget_mem (HF.out.good.holds.fin_le.1).up hmem
          have hlv := HF.out.vals _ hmem
          simp only at hxk hx0 hvs hlv
          obtain ⟨xn, rfl⟩ : ∃ xn : Nat, x = xn := Int.eq_ofNat_of_zero_le hx0.1
          rw [Int.toNat_natCast] at hlv
          have hxn : xn < k := by omega
          obtain ⟨g6, rfl, cx, hg6⟩ := hcell
          simp only at cx
          have HMEM := Lib.hid hmem; have HKG := Lib.hid hkg; have HLV := Lib.hid hlv
          clear hty hq hmem hkg hlv hxk hx0
          go_wp2_with fail
          refine (jget HJQ.out (xn : Int) (by unfold inI; omega)).mono ?_
          rintro e w7 ⟨v7, rfl, g1, g2⟩
          rw [HKG.out] at g1 ⊢
          have g1' : OwnB w7 wq.heap.size v7 v := g1
          obtain ⟨a7, c7, rfl, _⟩ := g1'.form
          have HV7 := Lib.hid g1'; have HO7 := Lib.hid g2
          clear g1 g1' g2 cx
          go_wp2_with fail
          go_loopw [113] (fun t ws => ∃ (q : Nat) (l' : List UInt8), t = .int .i64 (q : Int) ∧ q ≤ v.length ∧ l'.length = v.length ∧ OwnB ws wq.heap.size (.slice a7 v.length c7) l' ∧ Only noB wq ws) (fun t _ => v.length - (intOf t).toNat)
          case atStart => exact ⟨0, v, rfl, by omega, rfl, HV7.out, HO7.out⟩
          case round =>
            obtain ⟨q, l', rfl, hqv, hl', hown, hOs⟩ := hrel
            obtain ⟨ws, rfl⟩ : ∃ x : World, x = wr := ⟨_, rfl⟩
            have HOWN := Lib.hid hown; have HOS := Lib.hid hOs; have HL' := Lib.hid hl'
            clear hown hOs hl'
            by_cases hql : q < v.length
            · obtain ⟨g7, c7', e7, hgb, _, hcl⟩ := HOWN.out.row (by intro h; have := HL'.out; rw [h] at this; simp at this; omega)
              rw [HL'.out] at e7
              cases e7
              have cy := hcl q (by rw [HL'.out]; exact hql)
              have zy : ∀ j, ws.frozen? ⟨g7, j, none⟩ = false := fun j => World.ownsRow.frozenAt (by have := HOWN.out; unfold OwnB at this; rw [HL'.out] at this; exact this) j
              obtain ⟨y, hy⟩ : ∃ y, l'.getD q 0 = y := ⟨_, rfl⟩
              rw [hy] at cy
              clear hcl hy
              have hinc : Value.int .u8 (((y.toNat : Int) + 1) % 256) = bv (UInt8.ofNat ((y.toNat + 1) % 256)) := by
                have h1 : (UInt8.ofNat ((y.toNat + 1) % 256)).toNat = (y.toNat + 1) % 256 := by rw [UInt8.toNat_ofNat']; omega
                unfold bv; rw [h1]; congr 1
              have hst := HOWN.out.set HL'.out q (UInt8.ofNat ((y.toNat + 1) % 256))
              have HINC := Lib.hid hinc; have HST := Lib.hid hst
              clear hinc hst
              go_wp2_with fail
              go_roundw
              case rel =>
                rw [HINC.out]
                exact ⟨q + 1, _, by go_num, by omega, by rw [List.length_set]; exact HL'.out, HST.out.1, HOS.out.trans HST.out.2.1 (fun x hx e => by have e2 : x = g7 := e; omega)⟩
              case measure => simp [intOf]; omega
            · obtain rfl : q = v.length := by omega
              clear HOWN HL' HV7 HO7
              go_wp2_with fail
              refine (jget (HJQ.out.keep0 HOS.out) (xn : Int) (by unfold inI; omega)).mono ?_
              rintro e w8 ⟨v8, rfl, g1, g2⟩
              rw [HKG.out] at g1 ⊢
              have g1' : OwnB w8 ws.heap.size v8 v := g1
              obtain ⟨a8, c8, rfl, r8, _, _, n8⟩ := g1'.form
              have HO8 := Lib.hid (HOS.out.then g2)
              have HR8 := Lib.hid r8; have HN8 := Lib.hid n8
              have HW8 := Lib.hid (((HO6.out.trans HOQ.out (fun x hx h => by have := HJW.out x h; omega)).then HO8.out))
              clear g1 g1' g2 r8 n8
              obtain ⟨g, o, a2, c2, rfl, hg, q1, r2, n2, hml⟩ := HR.out.at_ (i := xn) (by rw [HN.out]; omega)
              have hlx : l[xn]'(by rw [HN.out]; omega) = v := by
                have := HLV.out; rw [List.getElem?_eq_getElem (by rw [HN.out]; omega)] at this; exact Option.some.inj this
              rw [hlx] at q1 r2
              replace q1 := (HW8.out.cell (a := ⟨g, o + xn, none⟩) hg (noB_not _)).trans q1
              have R2 := Lib.hid (r2.keep0 HW8.out)
              clear r2 hlx
              go_wp2_with fail
              refine (same01_any w8 a8 a2 _ c8 _ c2 v v rfl rfl HR8.out R2.out (by omega)).mono ?_
              rintro e w9 ⟨rfl, n9, rfl⟩
              rw [beq_self_eq_true]
              clear q1
              go_wp2_with fail
              have hput := jput ((HJQ.out.keep0 HO8.out).keep0 ((Only.refl _ _).drewN n9)) (xn : Int) a8 v.length c8 v (by unfold inI; omega) rfl HN8.out (HR8.out.keep0 ((Only.refl _ _).drewN n9))
              rw [put_again HF.out.good HMEM.out] at hput
              refine hput.mono ?_
              clear hput
              rintro e w10 ⟨rfl, u1, u2⟩
              have HJ10 := Lib.hid u1
              have HO10 := Lib.hid (HOQ.out.trans ((HO8.out.drewN n9).noThen u2) (fun _ _ h => h))
              clear u1 u2
              go_wp2_with fail
              go_roundw
              case rel => exact ⟨i + 1, by go_num, by omega, HJ10.out, HO10.out⟩
              case measure => simp [intOf]; omega
        · obtain rfl : i = j.m.length := by omega
          have HW := Lib.hid (HO6.out.trans HOQ.out (fun x hx h => by have := HJW.out x h; omega))
          go_wp2_with fail
          refine (fturned_any wq E.f E.bb E.bw j.s HJQ.out.sys.fl).mono ?_
          rintro e w7 ⟨rfl, rfl⟩
          rw [HTN.out]
          go_wp2_with fail
          have hput := jput HJQ.out 20 b nb cb lb (by unfold inI; omega) HNB.out HNIL.out (HRB.out.keep0 HW.out)
          rcases HF.out.put (x := 20) (by omega) (by omega) (v := lb) (by rw [HNB.out]; omega) with ⟨p1, p2⟩ | ⟨p1, j', p2, p3, _, p5⟩
          · have p2' : EA.put N j 20 lb = (6, j) := p2
            rw [p2'] at hput
            rw [HFN.out, HNB.out] at p1
            refine hput.mono ?_
            clear hput p2 p2'
            rintro e w8 ⟨rfl, u1, u2⟩
            have HJ8 := Lib.hid u1
            have HO8 := Lib.hid (HW.out.trans u2 (fun x hx h => by have := HJW.out x h; omega))
            clear u1 u2
            have hgt : (N : Int) - (fin : Int) < (nb : Int) + 7 := by omega
            go_wp2_with fail
            refine (psize_any _ E.pa E.f E.bb E.bw E.p0 j.s HJ8.out.sys.a HJ8.out.sys.fl HJ8.out.sys.f0).mono ?_
            rintro e w9 ⟨rfl, n9, rfl⟩
            have hps : E.p0.size j.s = N := by rw [HJ8.out.p0]; exact HF.out.good.holds.two.n
            rw [hps]
            clear hps
            go_wp2_with fail
            refine (fturned_any _ E.f E.bb E.bw j.s (HJ8.out.keep0 ((Only.refl _ _).drewN n9)).sys.fl).mono ?_
            rintro e w10 ⟨rfl, rfl⟩
            rw [HTN.out]
            go_wp2_with fail
            go_ret
            exact ⟨rfl, HO8.out.drewN n9⟩
          · have p2' : EA.put N j 20 lb = (0, j') := p2
            rw [p2'] at hput
            rw [HFN.out, HNB.out] at p1
            have P5 := Lib.hid p5
            refine hput.mono ?_
            clear hput p2 p2' p3 p5
            rintro e w8 ⟨rfl, u1, u2⟩
            have HJ8 := Lib.hid u1
            have HO8 := Lib.hid (HW.out.trans u2 (fun x hx h => by have := HJW.out x h; omega))
            clear u1 u2
            have hgt : (nb : Int) + 7 ≤ (N : Int) - (fin : Int) := by omega
            go_wp2_with fail
            refine (psize_any _ E.pa E.f E.bb E.bw E.p0 j'.s HJ8.out.sys.a HJ8.out.sys.fl HJ8.out.sys.f0).mono ?_
            rintro e w9 ⟨rfl, n9, rfl⟩
            have hps : E.p0.size j'.s = N := by rw [HJ8.out.p0]; exact P5.out.holds.two.n
            rw [hps]
            clear hps
            go_wp2_with fail
            go_ret
            exact ⟨rfl, HO8.out.drewN n9⟩

end Go.Proofs.Ytdnpmkejondpoaa
