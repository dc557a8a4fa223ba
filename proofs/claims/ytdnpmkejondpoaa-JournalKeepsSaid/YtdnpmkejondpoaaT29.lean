/- Parts of a proof, joined: TwiceW. -/
import Derived.Test.YtdnpmkejondpoaaT22
import Derived.Test.YtdnpmkejondpoaaT27

/- JournalTwice, walked. -/
namespace Go.Proofs.Ytdnpmkejondpoaa
open Go.RowKit Go.Maps
set_option linter.unusedVariables false
set_option linter.unusedSimpArgs false

theorem two_fresh (z : Int) : Two EA (2 * (clampZ z).toNat) (FSt.fresh (clampN 4) (clampZ z)) := by
  refine ⟨FSt.fresh_ok 4 z, rfl, rfl, ?_, rfl⟩
  show (List.replicate (clampN 4).toNat (0 : Int)).length = 4
  rw [List.length_replicate]; rfl
theorem two_load {n : Nat} {s : FSt} (h : Two EA n s) (l : List UInt8) : Two EA n (s.load l) := h.of (FSt.load_ok h.ok l) rfl rfl

set_option maxRecDepth 100000 in
set_option maxHeartbeats 4000000 in
theorem twice_any (w : World) (size : Int) (a : Option Addr) (n c : Nat) (l : List UInt8) (hn : l.length = n) (hR : RdB w a l) (hm : n ≤ 9223372036854775807) :
    Calls Try.prog 6 #[.int .i64 size, .slice a n c] w fun e w' => e = .returned (.bool true) ∧ Only noB w w' := by
  have HN := Lib.hid hn; have HR := Lib.hid hR
  clear hn hR
  by_cases hbig : 128 < size
  · go_enter Try.func6, Try.ntmps6
    go_wp2_with (go_at_call 7; refine (alive_any w).mono ?_; rintro e w1 ⟨rfl, k1⟩)
    go_ret
    exact ⟨rfl, k1⟩
  by_cases hlong : 600 < n
  · go_enter Try.func6, Try.ntmps6
    go_wp2_with (go_at_call 7; refine (alive_any w).mono ?_; rintro e w1 ⟨rfl, k1⟩)
    go_ret
    exact ⟨rfl, k1⟩
  have hb : size ≤ 128 := by omega
  have hl : n ≤ 600 := by omega
  clear hbig hlong hm
  go_enter Try.func6, Try.ntmps6
  go_wp2_with fail
  refine (alive_any w).mono ?_
  rintro e w1 ⟨rfl, k1⟩
  have K1 := Lib.hid k1
  clear k1
  go_wp2_with fail
  refine (groups_any w1 size).mono ?_
  rintro e w2 ⟨E, rfl, h1, h2, h3, h4, h5⟩
  have t0 := two_fresh size
  obtain ⟨s0, hs0⟩ : ∃ s0, FSt.fresh (clampN 4) (clampZ size) = s0 := ⟨_, rfl⟩
  obtain ⟨N, hN⟩ : ∃ N, 2 * (clampZ size).toNat = N := ⟨_, rfl⟩
  rw [hs0] at h1 t0
  rw [hN] at t0
  have T0 := Lib.hid t0
  have H1 := Lib.hid h1; have H2 := Lib.hid h2; have H3 := Lib.hid h3; have H4 := Lib.hid h4; have H5 := Lib.hid h5
  clear h1 h2 h3 h4 h5 t0 hs0 hN
  go_wp2_with fail
  refine (fload_any w2 E.f E.bb E.bw s0 a n c l H1.out.fl HN.out ((HR.out.keep0 K1.out).keep0 H4.out)).mono ?_
  rintro e w3 ⟨rfl, f1, f2⟩
  obtain ⟨s1, hs1⟩ : ∃ s1, s0.load l = s1 := ⟨_, rfl⟩
  have t1 : Two EA N s1 := by rw [← hs1]; exact two_load T0.out l
  have hd1 : s1.down = false := by rw [← hs1]; rfl
  have hl1 : s1.left < 0 := by rw [← hs1]; show (-1 : Int) < 0; omega
  have S3 : SysR w3 E s1 := by rw [← hs1]; exact H1.out.step f1 f2 rfl
  have tw := open_twice t1 hd1 hl1
  obtain ⟨r, hr⟩ : ∃ r, EA.open' N s1 = r := ⟨_, rfl⟩
  have hop := jopen w3 E s1 N S3 t1.n H2.out H3.out
  rw [hr] at hop tw
  have hsec : 2 * r.2.s.sector.toNat = N := by rw [← hr, open_sector]; exact t1.n
  have HOP := Lib.hid hop; have TW := Lib.hid tw; have F2 := Lib.hid f2; have HR1 := Lib.hid hr; have T1 := Lib.hid t1
  have HSEC := Lib.hid hsec
  clear hs1 t1 hd1 hl1 S3 tw hr hop hsec f1 f2
  go_wp2_with fail
  refine HOP.out.mono ?_
  rintro e w4 ⟨o1, o2, o3, o4⟩
  have O1 := Lib.hid o1; have O2 := Lib.hid o2
  clear o1 o2
  have hop2 := jopen w4 E r.2.s N O2.out HSEC.out H2.out H3.out
  rw [TW.out] at hop2
  by_cases hr0 : r.1 = 0
  · obtain ⟨jb, hjb, rfl, hJ⟩ := o4 hr0
    have HR0 := Lib.hid hr0; have HOP2 := Lib.hid hop2; have HJ := Lib.hid hJ
    clear o3 o4 hr0 hop2 hJ
    go_wp2_with fail
    refine (fturned_any w4 E.f E.bb E.bw r.2.s HJ.out.sys.fl).mono ?_
    rintro e w5 ⟨rfl, rfl⟩
    obtain ⟨t, ht⟩ : ∃ t, r.2.s.turned = t := ⟨_, rfl⟩
    rw [ht]
    have HT := Lib.hid ht
    clear ht
    go_wp2_with fail
    refine (fimage_any w4 E.f E.bb E.bw r.2.s HJ.out.sys.fl).mono ?_
    rintro e w5 ⟨img, rfl, i1, i2, _⟩
    have HI := Lib.hid i1; have HK5 := Lib.hid i2; have HJ5 := Lib.hid (HJ.out.keep0 i2)
    clear i1 i2
    go_wp2_with fail
    have hop2 := jopen w5 E r.2.s N HJ5.out.sys HSEC.out H2.out H3.out
    rw [TW.out] at hop2
    refine hop2.mono ?_
    clear hop2
    rintro e w6 ⟨o1, o2, _, o4⟩
    obtain ⟨jc, hjc, rfl, hJ6⟩ := o4 HR0.out
    have HJB6 := Lib.hid (HJ5.out.reopen o1 o2)
    have hlt : ∀ k, E.FS k → k < w4.heap.size := fun k hk => HJ.out.lt k (JWS.fs hk)
    have e1 : OwnB w6 w4.heap.size img r.2.s.b := HI.out.keep o1 hlt
    obtain ⟨ai, ci, rfl, ri, _⟩ := e1.form
    have HRI := Lib.hid ri
    have O6 := Lib.hid o1; have HJ6 := Lib.hid hJ6
    have hlb := HJ5.out.sys.fl.ok.small
    have HLB := Lib.hid hlb
    clear hlb o1 o2 o4 hJ6 e1 ri hlt
    go_wp2_with fail
    refine (fturned_any w6 E.f E.bb E.bw r.2.s HJ6.out.sys.fl).mono ?_
    rintro e w7 ⟨rfl, rfl⟩
    rw [HT.out]
    go_wp2_with fail
    refine (fimage_any w6 E.f E.bb E.bw r.2.s HJ6.out.sys.fl).mono ?_
    rintro e w7 ⟨img2, rfl, i1, i2, _⟩
    obtain ⟨a2, c2, rfl, r2, _⟩ := i1.form
    have HR2 := Lib.hid r2; have HK7 := Lib.hid i2; have HJ7 := Lib.hid (HJ6.out.keep0 i2); have HJB7 := Lib.hid (HJB6.out.keep0 i2)
    clear i1 i2 r2
    go_wp2_with fail
    refine (same01_any w7 a2 ai _ c2 _ ci r.2.s.b r.2.s.b rfl rfl HR2.out (HRI.out.keep0 HK7.out) (by have := HLB.out; omega)).mono ?_
    rintro e w8 ⟨rfl, n8, rfl⟩
    rw [beq_self_eq_true]
    go_wp2_with fail
    refine (jpairs (HJB7.out.keep0 ((Only.refl _ _).drewN n8))).mono ?_
    rintro e w9 ⟨v9, rfl, p1, p2⟩
    have hk9 := ((Only.refl noB w7).drewN n8).then p2
    have P9 := Lib.hid (p1.rd (HJB7.out.keep0 ((Only.refl _ _).drewN n8)).lt)
    have HK9 := Lib.hid hk9; have HJ9 := Lib.hid (HJ7.out.keep0 hk9); have HJB9 := Lib.hid (HJB7.out.keep0 hk9)
    clear p1 p2 hk9
    go_wp2_with fail
    refine (jpairs HJ9.out).mono ?_
    rintro e w10 ⟨v10, rfl, p1, p2⟩
    have P10 := Lib.hid (p1.rd HJ9.out.lt)
    have HK10 := Lib.hid p2; have HJ10 := Lib.hid (HJ9.out.keep0 p2); have HJB10 := Lib.hid (HJB9.out.keep0 p2)
    clear p1 p2
    go_wp2_with fail
    have hvm : r.2.m.length ≤ 1000000 ∧ ∀ p ∈ r.2.m, p.2.length ≤ 1000000 := by
      obtain ⟨mb, _, hV⟩ := HJ10.out.jr.row
      exact ⟨by have := hV.short; omega, fun p hp => by have := hV.small p hp; omega⟩
    refine (same05_any w10 (JWS E jb) (JWS E jc) v9 v10 r.2.m r.2.m (P9.out.keep HK10.out.ofNo) P10.out hvm.1 hvm.2).mono ?_
    clear hvm
    rintro e w11 ⟨rfl, n11, rfl⟩
    rw [decide_eq_true rfl]
    go_wp2_with fail
    refine (jepoch (HJB10.out.keep0 ((Only.refl _ _).drewN n11))).mono ?_
    rintro e w12 ⟨rfl, rfl⟩
    obtain ⟨ep, hep⟩ : ∃ x, r.2.epoch = x := ⟨_, rfl⟩
    rw [hep]
    have HEP := Lib.hid hep
    clear hep
    go_wp2_with fail
    refine (jepoch (HJ10.out.keep0 ((Only.refl _ _).drewN n11))).mono ?_
    rintro e w12 ⟨rfl, rfl⟩
    rw [HEP.out]
    go_wp2_with fail
    refine (jroom (HJB10.out.keep0 ((Only.refl _ _).drewN n11))).mono ?_
    rintro e w12 ⟨rfl, k12⟩
    obtain ⟨rm, hrm⟩ : ∃ x, (N : Int) - (r.2.fin : Int) = x := ⟨_, rfl⟩
    rw [hrm]
    have HRM := Lib.hid hrm
    have HK12 := Lib.hid (((Only.refl noB w10).drewN n11).then k12)
    clear hrm k12
    go_wp2_with fail
    refine (jroom (HJ10.out.keep0 HK12.out)).mono ?_
    rintro e w13 ⟨rfl, k13⟩
    rw [HRM.out]
    have HK13 := Lib.hid k13
    clear k13
    go_wp2_with fail
    go_ret
    refine ⟨rfl, ?_⟩
    have f1 : ∀ x, x < w.heap.size → E.FS x → noB x := fun x hx h => by have := H5.out x h; have := K1.out.size; omega
    have u3 : Only noB w w3 := (K1.out.then H4.out).trans F2.out f1
    have u6 : Only noB w w6 := (((u3.trans O1.out f1).then HK5.out).trans O6.out f1)
    exact ((((u6.then HK7.out).then HK9.out).then HK10.out).then HK12.out).then HK13.out
  · obtain rfl := o3 hr0
    obtain ⟨rc, hrc⟩ : ∃ x, r.1 = x := ⟨_, rfl⟩
    have hne : (rc != 0) = true := by rw [← hrc]; simpa using hr0
    have HRC := Lib.hid hrc; have HR0 := Lib.hid hr0; have HOP2 := Lib.hid hop2
    rw [hrc]
    clear o3 o4 hrc hr0 hop2
    go_wp2_with fail
    refine HOP2.out.mono ?_
    rintro e w5 ⟨o1, _, o3, _⟩
    obtain rfl := o3 HR0.out
    rw [HRC.out]
    have O5 := Lib.hid o1
    clear o1 o3
    go_wp2_with fail
    go_ret
    refine ⟨rfl, ?_⟩
    have f1 : ∀ x, x < w.heap.size → E.FS x → noB x := fun x hx h => by have := H5.out x h; have := K1.out.size; omega
    have u3 : Only noB w w3 := (K1.out.then H4.out).trans F2.out f1
    exact (u3.trans O1.out f1).trans O5.out f1

end Go.Proofs.Ytdnpmkejondpoaa
