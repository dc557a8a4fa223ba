/- Parts of a proof, joined: Replay, Fill, PMove, Move, Acc, Write. -/
import Derived.Deep.LoopGhost
import Derived.Deep.CutRange
import Derived.Test.YtdnpmkejondpoaaT18

/- The journal: a group's records are read into the map. -/
namespace Go.Proofs.Ytdnpmkejondpoaa
open Go.RowKit Go.Maps
set_option linter.unusedVariables false
set_option linter.unusedSimpArgs false

theorem SysR.ltF {w : World} {E : Env} {s : FSt} (h : SysR w E s) : ∀ k, E.FS k → k < w.heap.size := fun k hk => FlashS.lt h.fl k hk
theorem SysR.ltJ {w : World} {E : Env} {s : FSt} (h : SysR w E s) (hj : E.jb < w.heap.size) : ∀ k, E.JS k → k < w.heap.size := by
  intro k hk
  rcases hk with hk | rfl
  · exact h.ltF k hk
  · exact hj
theorem tornB_step {b : List UInt8} {i : Nat} (h : i < b.length) : tornB b i = ((b.getD i 0 != 255) || tornB b (i + 1)) := by
  unfold tornB
  have : b.getD i 0 = b[i] := by simp [List.getD, h]
  rw [List.drop_eq_getElem_cons h, List.any_cons, this]
theorem tornB_end {b : List UInt8} {i : Nat} (h : b.length ≤ i) : tornB b i = false := by
  unfold tornB; rw [List.drop_eq_nil_of_le h]; rfl
theorem OwnB.cap {w : World} {base : Nat} {a : Option Addr} {n c : Nat} {l : List UInt8} (h : OwnB w base (.slice a n c) l) : c ≤ 9223372036854775807 := by
  rcases h.2 with ⟨e, _⟩ | ⟨g, cap, cur, e, _, _, _, h4, _⟩
  · cases e; omega
  · cases e; exact Nat.le_trans h4 (by decide)
theorem setCell_size' (w : World) (a : Addr) (v : Value) : (w.setCell a v).heap.size = w.heap.size := by simp

set_option maxRecDepth 100000 in
set_option maxHeartbeats 4000000 in
theorem replay_any (w : World) (E : Env) (s : FSt) (size now epoch fin : Nat) (mv : Value) (hS : SysR w E s) (hJ : JRow w E size now epoch fin mv) (hE : E.apart) (hd : s.down = false) (hnow : now ≤ 1) (h8 : 32 ≤ size) (hsm : size ≤ 262144)
    (hsz : size ≤ (E.part now).size s) (b : List UInt8) (hb : E.bytes s now size = b) :
    Calls Try.prog 35 #[.pointer (some ⟨E.jb, 0, none⟩)] w (ReplayPost E size now epoch b w) := by
  have hbl : b.length = size := by
    have hr := (hS.fits now).room hS.fl.ok
    rw [← hb]; unfold Env.bytes; simp; omega
  obtain ⟨c0, c1, c2, c3, c4, c5, c6⟩ := Row.c7 hJ
  have zj := Row.z hJ
  have hmm := @run_makeMap Try.prog
  have HS := Lib.hid hS; have HJ := Lib.hid hJ; have HE := Lib.hid hE; have HD := Lib.hid hd; have HB := Lib.hid hb; have HBL := Lib.hid hbl
  clear hS hJ hE hd hb hbl
  go_enter Try.func35, Try.ntmps35
  go_wp2_with fail
  refine (bytes_any _ E s size now epoch fin mv now HS.out HJ.out HD.out hnow hsz).mono ?_
  rintro e w1 ⟨v, rfl, q1, q2, q3⟩
  obtain ⟨q4, q5⟩ := q2 rfl
  rw [HB.out] at q4
  obtain ⟨a, c, rfl, q6, q7, q8, q9⟩ := q4.form
  have hcap := q4.cap
  rw [HBL.out] at q8 ⊢
  obtain ⟨g, o, rfl, q10⟩ := q6.at_ne (by intro h; have := HBL.out; rw [h] at this; simp at this; omega)
  have hgw := q7 _ rfl
  simp only at hgw
  have hJ1 : JRow w1 E size now epoch fin mv := HJ.out.keep0 q1
  obtain ⟨d0, d1, d2, d3, d4, d5, d6⟩ := Row.c7 hJ1
  have zj1 := Row.z hJ1
  have hjl := Row.lt hJ1
  have hjl0 := Row.lt HJ.out
  have Q1 := Lib.hid q1; have Q10 := Lib.hid q10; have HJ1 := Lib.hid hJ1
  clear q1 q2 q3 q4 q5 q6 q7 q9 q10 hJ1 c0 c1 c2 c3 c4 c5 c6 zj
  go_wp2_with fail
  go_loopg [] (size + 1) (fun k wr => ∃ (i : Nat) (m : Vals) (mb : Nat), JRow wr E size now epoch i (.map (some mb)) ∧ JV wr E.JS mb m ∧ Only (fun x => x = E.jb) w wr ∧ RdB wr (some ⟨g, o, none⟩) b ∧ w.heap.size ≤ mb ∧ i ≤ size ∧ size < i + k ∧ replayB b = replayF b k i m)
  case atStart =>
    have hO1 : Only (fun x => x = E.jb) w1 _ := ((((Only.refl (fun x => x = E.jb) w1).set E.jb 6 (.map (some w1.heap.size)) rfl).set E.jb 5 (.int .i64 8) rfl).alloc (.map #[] 0))
    have hjv := JV.new ((w1.setCell ⟨E.jb, 6, none⟩ (.map (some w1.heap.size))).setCell ⟨E.jb, 5, none⟩ (.int .i64 8)) E.JS (by
      rw [setCell_size', setCell_size']; intro h
      have := (HS.out.keep0 Q1.out).ltJ hjl _ h; omega)
    rw [setCell_size', setCell_size'] at hjv
    refine ⟨8, [], w1.heap.size, ?_, hjv, (Only.ofNo Q1.out).then hO1, Q10.out.keep hO1 (fun p hp e => ?_), Q1.out.size, by omega, by omega, by unfold replayB; rw [HBL.out]⟩
    · have := ((Row.set HJ1.out 6 (.map (some w1.heap.size))).set 5 (.int .i64 8)).alloc (.map #[] 0)
      simpa [JRow] using this
    · cases hp; simp only at e; omega
  case round =>
    obtain ⟨i, m, mb, hJi, hV, hO, hR, hmb, hi, hk, hrp⟩ := hrel
    obtain ⟨c0, c1, c2, c3, c4, c5, c6⟩ := Row.c7 hJi
    have zj := Row.z hJi
    have hjr := Row.lt hJi
    clear d0 d1 d2 d3 d4 d5 d6 zj1
    have HJi := Lib.hid hJi; have HV := Lib.hid hV; have HO := Lib.hid hO; have HR := Lib.hid hR; have HK := Lib.hid hk; have HRP := Lib.hid hrp
    clear hJi hV hO hR hk hrp
    go_wp2_with fail
    refine (next_any wr g o size c i b HBL.out hi (by omega) HR.out q8).mono ?_
    rintro e w2 ⟨r1, r2⟩
    have HJ2 := Lib.hid (show JRow w2 E size now epoch i (.map (some mb)) from HJi.out.keep0 r1)
    have HR2 := Lib.hid (HR.out.keep0 r1)
    have HV2 := Lib.hid (HV.out.keep0 r1)
    have HO2 := Lib.hid (HO.out.thenNo r1)
    obtain ⟨d0, d1, d2, d3, d4, d5, d6⟩ := Row.c7 HJ2.out
    have zj2 := Row.z HJ2.out
    have hj2 := Row.lt HJ2.out
    have R1 := Lib.hid r1
    clear c0 c1 c2 c3 c4 c5 c6 zj r1
    cases hnr : nextR b i with
    | none =>
      rw [hnr] at r2
      simp only [zeroRec] at r2
      subst r2
      have hrf : replayB b = some (m, i) := by
        have := HK.out
        rw [HRP.out]
        cases gk with
        | zero => rfl
        | succ k => unfold replayF; rw [hnr]
      have hcells : ∀ j, j < size → w2.cell? ⟨g, o + j, none⟩ = some (.int .u8 ((b.getD j 0).toNat : Int)) := by
        obtain ⟨g', o', e', q⟩ := HR2.out.at_ (by rw [HBL.out]; omega)
        cases e'
        intro j hj
        exact q j (by rw [HBL.out]; exact hj)
      have HRF := Lib.hid hrf; have HC := Lib.hid hcells; have HNR := Lib.hid hnr
      clear hrf hcells hnr
      have hfin : ∀ w', Only noB w2 w' → ReplayPost E size now epoch b w (.returned (.tuple #[.bool (tornB b i), .int .i64 0])) w' := by
        intro w' ho
        unfold ReplayPost
        rw [HRF.out]
        exact ⟨rfl, HO2.out.thenNo ho, mb, HJ2.out.keep0 ho, HV2.out.keep0 ho, hmb, by rw [HBL.out]; exact hi⟩
      have HFIN := Lib.hid hfin
      clear hfin
      by_cases hci : c = i
      · obtain rfl : size = i := by omega
        subst hci
        go_wp2_with fail
        go_loop [76] (fun t => t = .int .i64 0) (fun t => 0)
        case atStart => rfl
        case round =>
          subst hrel
          go_wp2
          go_ret2
          have h := HFIN.out _ ((Only.refl noB w2).alloc (.cells #[.int .i64 0, .slice none 0 0, .bool false, .int .i64 0] 96))
          rw [tornB_end (by rw [HBL.out]; exact Nat.le_refl _)] at h
          exact h
      · go_wp2_with fail
        go_loop [76] (fun t => ∃ j : Nat, t = .int .i64 (j : Int) ∧ i + j ≤ size ∧ tornB b i = tornB b (i + j)) (fun t => size - (intOf t).toNat)
        case atStart => exact ⟨0, rfl, by omega, rfl⟩
        case round =>
          obtain ⟨j, rfl, hj, htn⟩ := hrel
          have HTN := Lib.hid htn; clear htn
          by_cases hlt : i + j < size
          · have cx := HC.out (i + j) hlt
            rw [← Nat.add_assoc] at cx
            have hgl := World.block_lt_of_cell? w2 _ cx
            simp only at hgl
            obtain ⟨x, hx⟩ : ∃ x, b.getD (i + j) 0 = x := ⟨_, rfl⟩
            rw [hx] at cx
            have HX := Lib.hid hx; clear hx
            by_cases h255 : x = 255
            · have hxb : ((x.toNat : Int) == 255) = true := by rw [h255]; rfl
              have H255 := Lib.hid h255; clear h255
              go_wp2
              go_round
              case rel => exact ⟨j + 1, by go_num, by omega, by rw [HTN.out, tornB_step (by rw [HBL.out]; exact hlt), HX.out, H255.out]; rfl⟩
              case measure => simp [intOf]; omega
            · have hxb : ((x.toNat : Int) == 255) = false := by
                rw [beq_eq_false_iff_ne]; intro e; apply h255; rw [← UInt8.toNat_inj]; show x.toNat = 255; omega
              have H255 := Lib.hid h255; clear h255
              go_wp2
              go_ret2
              have h := HFIN.out _ ((Only.refl noB w2).alloc (.cells #[.int .i64 0, .slice none 0 0, .bool false, .int .i64 0] 96))
              rw [HTN.out, tornB_step (by rw [HBL.out]; exact hlt), HX.out, (show (x != 255) = true by rw [bne_iff_ne]; exact H255.out), Bool.true_or] at h
              exact h
          · go_wp2
            go_ret2
            have h := HFIN.out _ ((Only.refl noB w2).alloc (.cells #[.int .i64 0, .slice none 0 0, .bool false, .int .i64 0] 96))
            rw [HTN.out, tornB_end (by rw [HBL.out]; omega)] at h
            exact h
    | some r =>
      rw [hnr] at r2
      obtain ⟨o2, rfl, r3⟩ := r2
      obtain ⟨s1, s2, s3, s4⟩ := nextR_spec hnr
      rw [HBL.out] at s4
      have hrf : replayB b = if rightR b i r.fin = false then none else replayF b (gk - 1) r.fin (r.apply m) := by
        obtain ⟨k, rfl⟩ : ∃ k, gk = k + 1 := ⟨gk - 1, by have := HK.out; omega⟩
        rw [HRP.out]
        conv => lhs; unfold replayF
        rw [hnr]
        rfl
      obtain ⟨key, val, drp, fn⟩ := r
      simp only at r3 s1 s2 s3 s4 hrf
      have HRF := Lib.hid hrf; have HNR := Lib.hid hnr; have R3 := Lib.hid r3; have S3 := Lib.hid s3
      obtain ⟨rb, hrb⟩ : ∃ rb, rightR b i fn = rb := ⟨_, rfl⟩
      have HRB := Lib.hid hrb
      have hif : i < fn := by omega
      clear hrf hnr r3 hrb s3
      have hw3 : ∀ w3, Only noB (w2.alloc (.cells #[.int .i64 key, .slice (some ⟨g, o2, none⟩) val.length val.length, .bool drp, .int .i64 fn] 96)) w3 →
          Only noB w2 w3 ∧ Row w3 w2.heap.size #[.int .i64 key, .slice (some ⟨g, o2, none⟩) val.length val.length, .bool drp, .int .i64 fn] :=
        fun w3 h => ⟨((Only.refl noB w2).alloc _).then h, (Row.new w2 _ _).keep0 h⟩
      have HW3 := Lib.hid hw3
      clear hw3
      go_upto_region 7 with fail
      go_cut [46] from 28 to 68 (fun v w' => v = .bool (!rb) ∧ Only noB (w2.alloc (.cells #[.int .i64 key, .slice (some ⟨g, o2, none⟩) val.length val.length, .bool drp, .int .i64 fn] 96)) w')
      case first =>
        go_region_with (go_at_call 56; refine (right_any _ g o size c i fn b _ _ _ HBL.out (by omega) (HR2.out.keep0 (((Only.refl _ _).alloc _).drew)) q8 hcap hif s4).mono ?_; rintro e w3 ⟨rfl, t1⟩; have T1 := Lib.hid t1; clear t1; rw [HRB.out])
        all_goals (go_wp2_with fail; go_meet; exact ⟨rfl, ((Only.refl _ _).drew).then T1.out⟩)
      case rest =>
        obtain ⟨rfl, t1⟩ := hcut
        obtain ⟨hO3, hrow⟩ := HW3.out _ t1
        have hJ3 : JRow wc E size now epoch i (.map (some mb)) := HJ2.out.keep0 hO3
        have HV3 := Lib.hid (HV2.out.keep0 hO3)
        have hmbl := HV2.out.lt
        obtain ⟨f0, f1, f2, f3, f4, f5, f6⟩ := Row.c7 hJ3
        have zj3 := Row.z hJ3
        have g0 := hrow.c 0 _ rfl
        have g1 := hrow.c 1 _ rfl
        have g2 := hrow.c 2 _ rfl
        have g3 := hrow.c 3 _ rfl
        have zr := hrow.z
        have HROW := Lib.hid hrow; have HJ3 := Lib.hid hJ3; have HO3 := Lib.hid hO3
        have hr3 := R3.out.keep0 (R1.out.then hO3)
        have HR3 := Lib.hid hr3
        have hlr := Row.lt hrow
        have hj3 := Row.lt hJ3
        have hmb3 : mb < wc.heap.size := HV3.out.lt
        clear hrow hJ3 hO3 hr3 t1
        cases rb with
        | false =>
          go_wp2
          go_ret2
          refine (?_ : ReplayPost E size now epoch b w (.returned (.tuple #[.bool false, .int .i64 40])) wc)
          unfold ReplayPost
          rw [HRF.out, if_pos HRB.out]
          exact ⟨rfl, HO2.out.thenNo HO3.out, i, _, HJ3.out⟩
        | true =>
          have hnx : ∀ (w4 w5 : World) (m' : Vals), Only noB wc w4 → JV w5 E.JS mb m' → Only (fun x => x = mb) w4 w5 →
              JRow w5 E size now epoch i (.map (some mb)) ∧ JV w5 E.JS mb m' ∧ Only (fun x => x = E.jb) w w5 ∧ RdB w5 (some ⟨g, o, none⟩) b ∧ w5.cell? ⟨w2.heap.size, 3, none⟩ = some (.int .i64 fn) := by
            intro w4 w5 m' h1 h2 h3
            have hne : E.jb ≠ mb := fun e => HV3.out.off (.inr e.symm)
            obtain ⟨vs, hmv, _⟩ := (HV3.out.keep0 h1).ex
            refine ⟨(HJ3.out.keep0 h1).keep h3 hne, h2, ((HO2.out.thenNo HO3.out).thenNo h1).trans h3 (fun x hx e => ?_), (HR2.out.keep0 (HO3.out.then h1)).keepMap hmv h3, ((HROW.out.keep0 h1).keep h3 (fun e => ?_)).c 3 _ rfl⟩
            · omega
            · omega
          have HNX := Lib.hid hnx
          clear hnx
          cases drp with
          | false =>
            go_upto_region 11 with fail
            go_cut [] from 28 to 68 (fun w' => JRow w' E size now epoch i (.map (some mb)) ∧ JV w' E.JS mb (kput m key val) ∧ Only (fun x => x = E.jb) w w' ∧ RdB w' (some ⟨g, o, none⟩) b ∧ w'.cell? ⟨w2.heap.size, 3, none⟩ = some (.int .i64 fn))
            case first =>
              clear f0 f1 f2 f3 f4 f5
              go_region_with (go_at_call 36; refine (clone_any _ (some ⟨g, o2, none⟩) val.length val.length val rfl (HR3.out.keep0 ((Only.refl _ _).drew)) (fun h => by cases h) (by omega)).mono ?_; rintro e w4 ⟨v, rfl, u1, u2, u3⟩
                              have hO4 := ((Only.refl noB wc).drew).then u2
                              obtain ⟨w5, hrun, hV5, hO5⟩ := (HV3.out.keep0 hO4).store (k := key) ⟨by omega, by omega⟩ (u1.slB E.JS (fun k hk => Nat.lt_of_lt_of_le (HS.out.ltJ hjl0 k hk) ((HO2.out.thenNo HO3.out).size))) s2
                              have k6 := (Row.c7 (HJ3.out.keep0 hO4)).2.2.2.2.2.2
                              have l0 := (HROW.out.keep0 hO4).c 0 _ rfl
                              have l1 := (HROW.out.keep0 hO4).c 1 _ rfl
                              have HO4 := Lib.hid hO4; have HV5 := Lib.hid hV5; have HO5 := Lib.hid hO5
                              clear u1 u2 u3 hO4 hV5 hO5)
              all_goals (go_wp2_with fail; go_meet; exact HNX.out _ _ _ HO4.out HV5.out HO5.out)
            case rest =>
              obtain ⟨p1, p2, p3, p4, p5⟩ := hcut
              obtain ⟨k0, k1, k2, k3, k4, k5, k6⟩ := Row.c7 p1
              have zk := Row.z p1
              have hjk := Row.lt p1
              have P1 := Lib.hid p1; have P2 := Lib.hid p2; have P3 := Lib.hid p3; have P4 := Lib.hid p4
              clear p1 p2 p3 p4 f0 f1 f2 f3 f4 f5 f6 g0 g1 g2 g3 zr zj3 hjr hj2 hlr
              go_wp2_with fail
              go_roundg (gk - 1)
              case measure => have := HK.out; omega
              case rel =>
                have hOk : Only (fun x => x = E.jb) wc (wc.setCell ⟨E.jb, 5, none⟩ (.int .i64 (fn : Int))) := (Only.refl _ _).set E.jb 5 _ rfl
                refine ⟨fn, kput m key val, mb, ?_, P2.out.keep (hOk.mono fun x _ e => .inr e), P3.out.then hOk, P4.out.keep hOk (fun p hp e => ?_), hmb, s4, by have := HK.out; omega, ?_⟩
                · have := Row.set P1.out 5 (.int .i64 (fn : Int))
                  simpa [JRow] using this
                · cases hp; simp only at e; omega
                · rw [HRF.out, HRB.out]; rfl
          | true =>
            go_upto_region 10 with fail
            go_cut [] from 28 to 68 (fun w' => JRow w' E size now epoch i (.map (some mb)) ∧ JV w' E.JS mb (kdel m key) ∧ Only (fun x => x = E.jb) w w' ∧ RdB w' (some ⟨g, o, none⟩) b ∧ w'.cell? ⟨w2.heap.size, 3, none⟩ = some (.int .i64 fn))
            case first =>
              clear f0 f1 f2 f3 f4 f5 g1 g2 g3
              obtain ⟨w5, hrun, hV5, hO5⟩ := (HV3.out.keep0 ((Only.refl noB wc).drew)).drop (k := key) ⟨by omega, by omega⟩ 0
              have HV5 := Lib.hid hV5; have HO5 := Lib.hid hO5
              clear hV5 hO5
              go_region
              all_goals (go_wp2_with fail; go_meet; exact HNX.out _ _ _ ((Only.refl noB wc).drew) HV5.out HO5.out)
            case rest =>
              obtain ⟨p1, p2, p3, p4, p5⟩ := hcut
              obtain ⟨k0, k1, k2, k3, k4, k5, k6⟩ := Row.c7 p1
              have zk := Row.z p1
              have hjk := Row.lt p1
              have P1 := Lib.hid p1; have P2 := Lib.hid p2; have P3 := Lib.hid p3; have P4 := Lib.hid p4
              clear p1 p2 p3 p4 f0 f1 f2 f3 f4 f5 f6 g0 g1 g2 g3 zr zj3 hjr hj2 hlr
              go_wp2_with fail
              go_roundg (gk - 1)
              case measure => have := HK.out; omega
              case rel =>
                have hOk : Only (fun x => x = E.jb) wc (wc.setCell ⟨E.jb, 5, none⟩ (.int .i64 (fn : Int))) := (Only.refl _ _).set E.jb 5 _ rfl
                refine ⟨fn, kdel m key, mb, ?_, P2.out.keep (hOk.mono fun x _ e => .inr e), P3.out.then hOk, P4.out.keep hOk (fun p hp e => ?_), hmb, s4, by have := HK.out; omega, ?_⟩
                · have := Row.set P1.out 5 (.int .i64 (fn : Int))
                  simpa [JRow] using this
                · cases hp; simp only at e; omega
                · rw [HRF.out, HRB.out]; rfl

end Go.Proofs.Ytdnpmkejondpoaa

/- The journal: the records of all keys are laid, by rising keys. -/
namespace Go.Proofs.Ytdnpmkejondpoaa
open Go.RowKit Go.Maps
set_option linter.unusedVariables false
set_option linter.unusedSimpArgs false

/-- the end, the code, the flash -/
def PSt.fill (p : PSt) : FSt → Nat → Vals → Nat × Int × FSt
  | s, i, [] => (i, 0, s)
  | s, i, q :: r => if (p.lay s i (bodyB q.1.toNat q.2 false)).1 = 0 then PSt.fill p (p.lay s i (bodyB q.1.toNat q.2 false)).2 (i + (7 + q.2.length)) r
      else (0, p.lay s i (bodyB q.1.toNat q.2 false))
theorem PSt.fill_ok (p : PSt) (m : Vals) : ∀ {s : FSt} (h : s.ok) (i : Nat), (p.fill s i m).2.2.ok := by
  induction m with
  | nil => intro s h i; exact h
  | cons q r ih =>
    intro s h i; unfold PSt.fill; split
    · exact ih (PSt.lay_ok p h _ _) _
    · exact PSt.lay_ok p h _ _
theorem PSt.fill_same (p : PSt) (m : Vals) : ∀ (s : FSt) (i : Nat), (p.fill s i m).2.2.sector = s.sector ∧ (p.fill s i m).2.2.wear = s.wear ∧ (p.fill s i m).2.2.b.length = s.b.length := by
  induction m with
  | nil => intro s i; exact ⟨rfl, rfl, rfl⟩
  | cons q r ih =>
    intro s i; unfold PSt.fill
    have h := p.lay_same s i (bodyB q.1.toNat q.2 false)
    split
    · have h' := ih (p.lay s i (bodyB q.1.toNat q.2 false)).2 (i + (7 + q.2.length)); exact ⟨h'.1.trans h.1, h'.2.1.trans h.2.1, h'.2.2.trans h.2.2⟩
    · exact h

def FillPost (f bb bw : Nat) (r : Nat × Int × FSt) (w : World) (e : Ending) (w' : World) : Prop :=
  e = .returned (.tuple #[.int .i64 (r.1 : Int), .int .i64 r.2.1]) ∧ FlashR w' f bb bw r.2.2 ∧ Only (FlashS f bb bw) w w'

theorem OwnI.cells {w : World} {base : Nat} {v : Value} {l : List Int} (h : OwnI w base v l) :
    ∃ a c, v = .slice a l.length c ∧ (l = [] ∨ ∃ g, a = some ⟨g, 0, none⟩ ∧ base ≤ g ∧ g < w.heap.size ∧ ∀ i, (hi : i < l.length) → w.cell? ⟨g, i, none⟩ = some (.int .i64 l[i])) := by
  obtain ⟨a, c, e, _, h⟩ := h.form
  refine ⟨a, c, e, ?_⟩
  rcases h with h | ⟨g, ea, hg, ex, hr⟩
  · exact .inl h
  · refine .inr ⟨g, ea, hg, hr.lt, fun i hi => hr.c i _ ?_⟩
    rw [List.getElem?_toArray, List.getElem?_append_left (by simpa using hi)]
    simp [hi, encZ]

set_option maxRecDepth 100000 in
set_option maxHeartbeats 4000000 in
theorem fill_any (w : World) (b f bb bw : Nat) (p : PSt) (s : FSt) (S : Nat → Prop) (mb : Nat) (m : Vals) (hP : PartR w b f p) (hF : FlashR w f bb bw s) (hf : p.fits s) (hb : ¬ FlashS f bb bw b) (hV : JV w S mb m) (hS : ∀ k, FlashS f bb bw k → S k) :
    Calls Try.prog 52 #[.pointer (some ⟨b, 0, none⟩), .map (some mb)] w (FillPost f bb bw (p.fill s 8 m) w) := by
  obtain ⟨vs, hmv, hvr⟩ := hV.ex
  have hkeys := hvr.keys
  have hlt := FlashS.lt hF
  have hmbl := hV.lt
  have hms := hV.short
  have HP := Lib.hid hP; have HF := Lib.hid hF; have HH := Lib.hid hf; have HB := Lib.hid hb; have HV := Lib.hid hV; have HS := Lib.hid hS; have HMV := Lib.hid hmv; have HK := Lib.hid hkeys; have HLT := Lib.hid hlt
  clear hP hF hf hb hV hS hmv hvr hkeys hlt
  go_enter Try.func52, Try.ntmps52
  go_wp2_with fail
  refine (keysF mb _).mono ?_
  rintro e w1 ⟨rfl, hw1⟩
  rw [hw1]; clear hw1
  go_wp2_with fail
  refine (sorted_any w mb vs HMV.out).mono ?_
  rintro e w1 ⟨v, rfl, h1, h2⟩
  rw [HK.out] at h1
  have hO1 : Only noB w w1 := ((Only.refl noB w).alloc _).then h2
  obtain ⟨a, c, rfl, hcells⟩ := h1.cells
  rw [List.length_map] at *
  have HO1 := Lib.hid hO1; have HC := Lib.hid hcells
  clear h1 h2 hO1 hcells
  go_wp2_with fail
  go_loopw [6, 14] (fun v t wr => ∃ (k i : Nat) (s' : FSt), t = .int .i64 (k : Int) ∧ v = .int .i64 (i : Int) ∧ k ≤ m.length ∧ i ≤ 8 + k * 257 ∧ FlashR wr f bb bw s' ∧ Only (FlashS f bb bw) w1 wr ∧ p.fits s' ∧ p.fill s 8 m = p.fill s' i (m.drop k)) (fun _ t _ => m.length - (intOf t).toNat)
  case atStart => exact ⟨0, 8, s, rfl, rfl, by omega, by omega, HF.out.keep0 HO1.out, Only.refl _ _, HH.out, rfl⟩
  case round =>
    obtain ⟨k, i, s', rfl, rfl, hk, hi, hF', hO, hf', hrel⟩ := hrel
    have HF' := Lib.hid hF'; have HO := Lib.hid hO; have HH' := Lib.hid hf'; have HREL := Lib.hid hrel
    clear hF' hO hf' hrel
    by_cases hlt : k < m.length
    · obtain ⟨q, hq⟩ : ∃ q, m[k] = q := ⟨_, rfl⟩
      obtain ⟨x, l⟩ := q
      have hmem : (x, l) ∈ m := by rw [← hq]; exact List.getElem_mem hlt
      have hxk := HV.out.keys _ hmem
      have hll := HV.out.small _ hmem
      simp only at hxk hll
      obtain ⟨key, rfl⟩ : ∃ key : Nat, x = (key : Int) := ⟨x.toNat, by omega⟩
      have hwr : Only S w wr := (HO1.out.noThen HO.out).mono (fun k _ h => HS.out k h)
      have hcell : ∃ g, a = some ⟨g, 0, none⟩ ∧ wr.cell? ⟨g, k, none⟩ = some (.int .i64 (key : Int)) ∧ g < wr.heap.size := by
        rcases HC.out with h | ⟨g, ea, hg, hgl, h⟩
        · rw [List.map_eq_nil_iff] at h; rw [h] at hlt; simp at hlt
        · have h2 := h k (by simpa using hlt)
          simp only [List.getElem_map, hq] at h2
          refine ⟨g, ea, ?_, Nat.lt_of_lt_of_le hgl HO.out.size⟩
          rw [HO.out.cell (a := ⟨g, k, none⟩) hgl (fun hs => by have := HLT.out _ hs; simp only at this; omega)]
          exact h2
      obtain ⟨g, rfl, cx, hgl⟩ := hcell
      obtain ⟨a2, c2, hlook, hr2, hn2, ho2, _⟩ := (HV.out.keep hwr).look hmem
      have hstep : p.fill s' i (m.drop k) = if (p.lay s' i (bodyB key l false)).1 = 0 then p.fill (p.lay s' i (bodyB key l false)).2 (i + (7 + l.length)) (m.drop (k + 1)) else (0, p.lay s' i (bodyB key l false)) := by
        rw [List.drop_eq_getElem_cons hlt, hq]; rfl
      have HST := Lib.hid hstep; have HR2 := Lib.hid hr2; have HN2 := Lib.hid hn2; have HO2 := Lib.hid ho2; have HW := Lib.hid hwr; have HQ := Lib.hid hq
      clear hstep hr2 hn2 ho2 hwr hmem hq
      obtain ⟨E, hE⟩ : ∃ E, (p.lay s' i (bodyB key l false)).1 = E := ⟨_, rfl⟩
      have HE := Lib.hid hE; clear hE
      go_wp2_with fail
      refine (body_any _ key a2 l.length c2 l false (by omega) rfl hll HR2.out HN2.out).mono ?_
      rintro e w2 ⟨v, rfl, b1, b2⟩
      obtain ⟨a3, c3, rfl, b3, b4, b5, b6⟩ := b1.form
      have B2 := Lib.hid b2; have B3 := Lib.hid b3; have B4 := Lib.hid b4
      clear b1 b2 b3 b4 b5 b6
      rw [bodyB_len] at *
      go_wp2_with fail
      refine (lay_any w2 b f bb bw p s' i a3 (l.length + 6) c3 (bodyB key l false) (Row.keep (Row.keep0 (Row.keep (Row.keep0 HP.out HO1.out) HO.out HB.out) B2.out) (Only.refl noB _) (noB_not _)) (HF'.out.keep0 B2.out) HH'.out HB.out (bodyB_len _ _ _) B3.out (B4.out.off _ (fun k hk => Nat.lt_of_lt_of_le (HLT.out k hk) (HO1.out.noThen HO.out).size)) (by omega) (by omega) (by omega)).mono ?_
      rintro e w3 ⟨rfl, u1, u2⟩
      rw [HE.out]
      have U1 := Lib.hid u1; have U2 := Lib.hid u2
      clear u1 u2
      have HO3 := Lib.hid ((HO.out.thenNo B2.out).then U2.out)
      have hwr3 : Only S w w3 := (HO1.out.noThen HO3.out).mono (fun k _ h => HS.out k h)
      obtain ⟨a4, c4, hlook4, _⟩ := (HV.out.keep hwr3).look (k := (key : Int)) (l := l) (by have := List.getElem_mem hlt; rw [HQ.out] at this; exact this)
      clear hwr3
      by_cases hz : E = 0
      · subst hz
        go_wp2_with (go_at_call 66; refine (size_any _ _ _ _ (by omega)).mono ?_; rintro e w' ⟨rfl, rfl⟩)
        go_roundw
        case rel =>
          refine ⟨k + 1, i + (7 + l.length), _, by go_num, by go_num, by omega, by omega, U1.out, HO3.out, HH'.out.of (by rw [(p.lay_same s' i (bodyB key l false)).2.1]), ?_⟩
          rw [HREL.out, HST.out, if_pos HE.out]
        case measure => simp [intOf]; omega
      · have hbz : (E != 0) = true := by simpa using hz
        have HZ := Lib.hid hz; clear hz
        go_wp2
        go_ret2
        have e : p.fill s 8 m = (0, p.lay s' i (bodyB key l false)) := by rw [HREL.out, HST.out, if_neg (by rw [HE.out]; exact HZ.out)]
        exact ⟨by rw [e]; show _ = Ending.returned (.tuple #[.int .i64 0, .int .i64 (p.lay s' i (bodyB key l false)).1]); rw [HE.out]; rfl, by rw [e]; exact U1.out, HO1.out.noThen HO3.out⟩
    · obtain rfl : k = m.length := by omega
      go_wp2
      go_ret2
      have e : p.fill s 8 m = (i, 0, s') := by rw [HREL.out, List.drop_length]; rfl
      exact ⟨by rw [e]; rfl, by rw [e]; exact HF'.out, HO1.out.noThen HO.out⟩

end Go.Proofs.Ytdnpmkejondpoaa

/- The journal as plain data: what counts moves into the other group. -/
namespace Go.Proofs.Ytdnpmkejondpoaa
open Go.RowKit Go.Maps
set_option linter.unusedVariables false
set_option linter.unusedSimpArgs false

structure JSt where
  s : FSt
  now : Nat
  epoch : Nat
  fin : Nat
  m : Vals

/-- the other group is cleared, filled, marked -/
def PSt.refill (p : PSt) (s : FSt) (epoch : Nat) (m : Vals) : Int × Nat × FSt :=
  if (p.clear s).1 ≠ 0 then ((p.clear s).1, 0, (p.clear s).2)
  else if (p.fill (p.clear s).2 8 m).2.1 ≠ 0 then ((p.fill (p.clear s).2 8 m).2.1, 0, (p.fill (p.clear s).2 8 m).2.2)
  else if (p.write (p.fill (p.clear s).2 8 m).2.2 1 (put32 (epoch + 1))).1 ≠ 0 then ((p.write (p.fill (p.clear s).2 8 m).2.2 1 (put32 (epoch + 1))).1, 0, (p.write (p.fill (p.clear s).2 8 m).2.2 1 (put32 (epoch + 1))).2)
  else ((p.write (p.write (p.fill (p.clear s).2 8 m).2.2 1 (put32 (epoch + 1))).2 0 [0]).1, (p.fill (p.clear s).2 8 m).1, (p.write (p.write (p.fill (p.clear s).2 8 m).2.2 1 (put32 (epoch + 1))).2 0 [0]).2)

def Env.move (E : Env) (size : Nat) (j : JSt) (m : Vals) : Int × JSt :=
  if size < needV m then (6, j) else if j.epoch = 4294967295 then (3, j)
  else if ((E.part (1 - j.now)).refill j.s j.epoch m).1 = 0 then (0, ⟨((E.part (1 - j.now)).refill j.s j.epoch m).2.2, 1 - j.now, j.epoch + 1, ((E.part (1 - j.now)).refill j.s j.epoch m).2.1, m⟩)
  else (((E.part (1 - j.now)).refill j.s j.epoch m).1, { j with s := ((E.part (1 - j.now)).refill j.s j.epoch m).2.2 })

theorem PSt.clear_same (p : PSt) (s : FSt) : (p.clear s).2.sector = s.sector ∧ (p.clear s).2.wear.length = s.wear.length ∧ (p.clear s).2.b.length = s.b.length := FSt.eraseN_same _ _ _
theorem PSt.refill_same (p : PSt) (s : FSt) (epoch : Nat) (m : Vals) : (p.refill s epoch m).2.2.sector = s.sector ∧ (p.refill s epoch m).2.2.wear.length = s.wear.length ∧ (p.refill s epoch m).2.2.b.length = s.b.length := by
  have h1 := p.clear_same s
  have h2 := p.fill_same m (p.clear s).2 8
  have h3 := p.write_same (p.fill (p.clear s).2 8 m).2.2 1 (put32 (epoch + 1))
  have h4 := p.write_same (p.write (p.fill (p.clear s).2 8 m).2.2 1 (put32 (epoch + 1))).2 0 [0]
  have k2 : (p.fill (p.clear s).2 8 m).2.2.sector = s.sector ∧ (p.fill (p.clear s).2 8 m).2.2.wear.length = s.wear.length ∧ (p.fill (p.clear s).2 8 m).2.2.b.length = s.b.length := ⟨h2.1.trans h1.1, (congrArg List.length h2.2.1).trans h1.2.1, h2.2.2.trans h1.2.2⟩
  have k3 : (p.write (p.fill (p.clear s).2 8 m).2.2 1 (put32 (epoch + 1))).2.sector = s.sector ∧ (p.write (p.fill (p.clear s).2 8 m).2.2 1 (put32 (epoch + 1))).2.wear.length = s.wear.length ∧ (p.write (p.fill (p.clear s).2 8 m).2.2 1 (put32 (epoch + 1))).2.b.length = s.b.length := ⟨h3.1.trans k2.1, (congrArg List.length h3.2.1).trans k2.2.1, h3.2.2.trans k2.2.2⟩
  unfold PSt.refill
  split; exact h1
  split; exact k2
  split; exact k3
  exact ⟨h4.1.trans k3.1, (congrArg List.length h4.2.1).trans k3.2.1, h4.2.2.trans k3.2.2⟩

def MovePost (E : Env) (size : Nat) (mv : Value) (mb : Nat) (r : Int × JSt) (w : World) (e : Ending) (w' : World) : Prop :=
  e = .returned (.int .i64 r.1) ∧ SysR w' E r.2.s ∧ JRow w' E size r.2.now r.2.epoch r.2.fin (if r.1 = 0 then .map (some mb) else mv) ∧ Only E.JS w w'

end Go.Proofs.Ytdnpmkejondpoaa

/- The journal: what counts moves into the other group. -/
namespace Go.Proofs.Ytdnpmkejondpoaa
open Go.RowKit Go.Maps
set_option linter.unusedVariables false
set_option linter.unusedSimpArgs false

theorem refill_of {p : PSt} {s s1 s2 s3 s4 : FSt} {epoch n2 : Nat} {m : Vals} {E1 E2 E3 E4 : Int} (h1 : p.clear s = (E1, s1)) (h2 : p.fill s1 8 m = (n2, E2, s2)) (h3 : p.write s2 1 (put32 (epoch + 1)) = (E3, s3)) (h4 : p.write s3 0 [0] = (E4, s4)) :
    p.refill s epoch m = if E1 ≠ 0 then (E1, 0, s1) else if E2 ≠ 0 then (E2, 0, s2) else if E3 ≠ 0 then (E3, 0, s3) else (E4, n2, s4) := by
  unfold PSt.refill; simp only [h1, h2, h3, h4]
theorem move_fail {E : Env} {size nd tg : Nat} {j : JSt} {m : Vals} {c : Int} {k : Nat} {s' : FSt} (hn : needV m = nd) (h1 : ¬ size < nd) (h2 : ¬ j.epoch = 4294967295) (ht : j.now + tg = 1)
    (hr : (E.part tg).refill j.s j.epoch m = (c, k, s')) (hc : c ≠ 0) : E.move size j m = (c, ⟨s', j.now, j.epoch, j.fin, j.m⟩) := by
  have : 1 - j.now = tg := by omega
  unfold Env.move; rw [hn, if_neg h1, if_neg h2, this, hr, if_neg hc]
theorem move_done {E : Env} {size nd tg : Nat} {j : JSt} {m : Vals} {k : Nat} {s' : FSt} (hn : needV m = nd) (h1 : ¬ size < nd) (h2 : ¬ j.epoch = 4294967295) (ht : j.now + tg = 1)
    (hr : (E.part tg).refill j.s j.epoch m = (0, k, s')) : E.move size j m = (0, ⟨s', tg, j.epoch + 1, k, m⟩) := by
  have : 1 - j.now = tg := by omega
  unfold Env.move; rw [hn, if_neg h1, if_neg h2, this, hr, if_pos rfl]

set_option maxRecDepth 100000 in
set_option maxHeartbeats 4000000 in
theorem move_any (w : World) (E : Env) (size mb : Nat) (mv : Value) (j : JSt) (m : Vals) (tg : Nat) (hS : SysR w E j.s) (hJ : JRow w E size j.now j.epoch j.fin mv) (hE : E.apart) (hV : JV w E.JS mb m) (hto : j.now + tg = 1) (hep : j.epoch < 4294967296) (hsm : size ≤ 262144) :
    Calls Try.prog 34 #[.pointer (some ⟨E.jb, 0, none⟩), .map (some mb)] w (MovePost E size mv mb (E.move size j m) w) := by
  obtain ⟨s, now, epoch, fin, om⟩ := j
  simp only at hS hJ hto hep
  obtain ⟨c0, c1, c2, c3, c4, c5, c6⟩ := Row.c7 hJ
  have zj := Row.z hJ
  have hjl := Row.lt hJ
  have cto : w.cell? ⟨E.jb, tg, none⟩ = some (.pointer (some ⟨E.pblk tg, 0, none⟩)) := by
    have : tg = 0 ∨ tg = 1 := by omega
    rcases this with rfl | rfl
    · exact c0
    · exact c1
  have hto1 : tg ≤ 1 := by omega
  have hnow1 : now ≤ 1 := by omega
  have h1n : (1 : Int) - (now : Int) = (tg : Int) := by omega
  have hlJ := hS.ltJ hjl
  have hneed := needV_le hV.small hV.short
  have HS := Lib.hid hS; have HJ := Lib.hid hJ; have HE := Lib.hid hE; have HV := Lib.hid hV; have HLJ := Lib.hid hlJ
  obtain ⟨nd, hnd⟩ : ∃ nd, needV m = nd := ⟨_, rfl⟩
  rw [hnd] at hneed
  have HND := Lib.hid hnd
  clear hS hJ hE hV hlJ hnd
  go_enter Try.func34, Try.ntmps34
  go_upto_region 1 with fail
  go_cut [10] from 11 (fun v w' => v = .bool (decide (size < nd)) ∧ Only noB w w')
  case first =>
    go_region_with (go_at_call 50; go_loud (refine (need_any w.drew E.JS mb m (HLJ.out) (HV.out.keep0 ((Only.refl _ _).drew))).mono ?_); rintro e w1 ⟨rfl, u1⟩; rw [HND.out]; have d2 := (Row.c7 (HJ.out.keep0 (((Only.refl noB w).drew).then u1))).2.2.1; have U1 := Lib.hid u1; clear u1)
    all_goals (go_wp2_with fail; go_meet; exact ⟨rfl, ((Only.refl noB w).drew).then U1.out⟩)
  case rest =>
    obtain ⟨rfl, hO1⟩ := hcut
    have hJ1 : JRow wc E size now epoch fin mv := HJ.out.keep0 hO1
    have HS1 := Lib.hid (HS.out.keep0 hO1)
    have HV1 := Lib.hid (HV.out.keep0 hO1)
    obtain ⟨d0, d1, d2, d3, d4, d5, d6⟩ := Row.c7 hJ1
    have zj1 := Row.z hJ1
    have hjl1 := Row.lt hJ1
    have dto : wc.cell? ⟨E.jb, tg, none⟩ = some (.pointer (some ⟨E.pblk tg, 0, none⟩)) := by
      have : tg = 0 ∨ tg = 1 := by omega
      rcases this with rfl | rfl
      · exact d0
      · exact d1
    have HJ1 := Lib.hid hJ1; have HO1 := Lib.hid hO1
    clear hJ1 hO1 c0 c1 c2 c3 c4 c5 c6 cto zj d0 d1
    by_cases hbig : size < nd
    · have e : E.move size ⟨s, now, epoch, fin, om⟩ m = (6, ⟨s, now, epoch, fin, om⟩) := by unfold Env.move; rw [HND.out, if_pos hbig]
      have HM := Lib.hid e; clear e
      go_wp2
      go_ret
      rw [HM.out]
      exact ⟨ret_int rfl, HS1.out, HJ1.out, Only.ofNo HO1.out⟩
    · by_cases hmax : epoch = 4294967295
      · have e : E.move size ⟨s, now, epoch, fin, om⟩ m = (3, ⟨s, now, epoch, fin, om⟩) := by unfold Env.move; rw [HND.out, if_neg hbig, if_pos hmax]
        have HM := Lib.hid e; clear e
        have hmb : ((epoch : Int) == 4294967295) = true := by rw [hmax]; rfl
        have HMAX := Lib.hid hmax; clear hmax
        go_wp2
        go_ret
        rw [HM.out]
        exact ⟨ret_int rfl, HS1.out, HJ1.out, Only.ofNo HO1.out⟩
      · have hmb : ((epoch : Int) == 4294967295) = false := by rw [beq_eq_false_iff_ne]; omega
        have hne : ∃ ne : Nat, epoch + 1 = ne := ⟨_, rfl⟩
        obtain ⟨ne, hne⟩ := hne
        have hne' : (epoch : Int) + 1 = (ne : Int) := by omega
        have hnel : ne < 4294967296 := by omega
        obtain ⟨⟨E1, s1⟩, hr1⟩ : ∃ x, (E.part tg).clear s = x := ⟨_, rfl⟩
        obtain ⟨⟨n2, E2, s2⟩, hr2⟩ : ∃ x, (E.part tg).fill s1 8 m = x := ⟨_, rfl⟩
        obtain ⟨⟨E3, s3⟩, hr3⟩ : ∃ x, (E.part tg).write s2 1 (put32 (epoch + 1)) = x := ⟨_, rfl⟩
        obtain ⟨⟨E4, s4⟩, hr4⟩ : ∃ x, (E.part tg).write s3 0 [0] = x := ⟨_, rfl⟩
        have hrf := refill_of hr1 hr2 hr3 hr4
        have hw1 : s1.wear.length = s.wear.length := by have := ((E.part tg).clear_same s).2.1; rw [hr1] at this; exact this
        have hw2 : s2.wear.length = s.wear.length := by have := ((E.part tg).fill_same m s1 8).2.1; rw [hr2] at this; exact (congrArg List.length this).trans hw1
        have hw3 : s3.wear.length = s.wear.length := by have := ((E.part tg).write_same s2 1 (put32 (epoch + 1))).2.1; rw [hr3] at this; exact (congrArg List.length this).trans hw2
        have hw4 : s4.wear.length = s.wear.length := by have := ((E.part tg).write_same s3 0 [0]).2.1; rw [hr4] at this; exact (congrArg List.length this).trans hw3
        rw [hne] at hr3
        have R1 := Lib.hid hr1; have R2 := Lib.hid hr2; have R3 := Lib.hid hr3; have R4 := Lib.hid hr4; have RF := Lib.hid hrf
        have W1 := Lib.hid hw1; have W2 := Lib.hid hw2; have W3 := Lib.hid hw3; have W4 := Lib.hid hw4; have NE := Lib.hid hne; have MX := Lib.hid hmax; have BG := Lib.hid hbig
        have hbgb : decide (size < nd) = false := by simpa using hbig
        clear hr1 hr2 hr3 hr4 hrf hw1 hw2 hw3 hw4 hne hmax hbig
        go_wp2_with fail
        refine (pclear_any wc (E.pblk tg) E.f E.bb E.bw (E.part tg) s (HS1.out.part tg) HS1.out.fl (HS1.out.fits tg) (HS1.out.npart tg)).mono ?_
        rintro e w2 ⟨rfl, u1, u2⟩
        rw [R1.out] at u1 ⊢
        have HS2 := Lib.hid (HS1.out.step u1 u2 W1.out)
        have HO2 := Lib.hid u2
        have HV2 := Lib.hid (HV1.out.keep (u2.mono fun k _ h => .inl h))
        clear u1 u2
        by_cases hz1 : E1 = 0
        · subst hz1
          go_wp2_with fail
          refine (fill_any w2 (E.pblk tg) E.f E.bb E.bw (E.part tg) s1 E.JS mb m (HS2.out.part tg) HS2.out.fl (HS2.out.fits tg) (HS2.out.npart tg) HV2.out (fun k h => .inl h)).mono ?_
          rintro e w3 ⟨rfl, u1, u2⟩
          rw [R2.out] at u1 ⊢
          have HS3 := Lib.hid (HS2.out.step u1 u2 (W2.out.trans W1.out.symm))
          have HO3 := Lib.hid (HO2.out.then u2)
          have hJ3 : JRow w3 E size now epoch fin mv := HJ1.out.keep HO3.out HE.out.n0
          obtain ⟨k0, k1, k2, k3, k4, k5, k6⟩ := Row.c7 hJ3
          have zj3 := Row.z hJ3
          have hjl3 := Row.lt hJ3
          have HJ3 := Lib.hid hJ3
          clear u1 u2 hJ3 d2 d3 d4 d5 d6 dto zj1
          by_cases hz2 : E2 = 0
          · subst hz2
            go_wp2_with fail
            refine (put32_any w3 none 0 0 [] ne rfl (.inl rfl) (fun _ => ⟨rfl, rfl⟩) (by omega) hnel).mono ?_
            rintro e w4 ⟨v, rfl, u1, u2⟩
            rw [List.nil_append] at u1
            obtain ⟨a, c, rfl, u3, u4, u5, u6⟩ := u1.form
            have U2 := Lib.hid u2; have U3 := Lib.hid u3; have U4 := Lib.hid u4
            clear u1 u2 u3 u4 u5 u6
            have hp4 : (put32 ne).length = 4 := rfl
            rw [hp4]
            go_wp2_with fail
            refine (pwrite_any w4 (E.pblk tg) E.f E.bb E.bw (E.part tg) s2 1 a 4 c (put32 ne) ((HS3.out.keep0 U2.out).part tg) (HS3.out.keep0 U2.out).fl (HS3.out.fits tg) rfl U3.out (U4.out.off _ (fun k hk => HS3.out.ltF k hk))).mono ?_
            rintro e w5 ⟨rfl, u1, u2⟩
            rw [R3.out] at u1 ⊢
            have HS5 := Lib.hid ((HS3.out.keep0 U2.out).step u1 u2 (W3.out.trans W2.out.symm))
            have HO5 := Lib.hid ((HO3.out.thenNo U2.out).then u2)
            clear u1 u2
            by_cases hz3 : E3 = 0
            · subst hz3
              go_wp2_with fail
              have hw5 : Only noB w5 (w5.alloc (.cells #[.int .u8 0] 5)) := (Only.refl _ _).alloc _
              refine (pwrite_any (w5.alloc (.cells #[.int .u8 0] 5)) (E.pblk tg) E.f E.bb E.bw (E.part tg) s3 0 (some ⟨w5.heap.size, 0, none⟩) 1 1 [0] ((HS5.out.keep0 hw5).part tg) (HS5.out.keep0 hw5).fl (HS5.out.fits tg) rfl (rd_new1 _ _ 0 (by decide)) (fun q hq hs => by cases hq; have := HS5.out.ltF _ hs; simp only at this; omega)).mono ?_
              rintro e w6 ⟨rfl, u1, u2⟩
              rw [R4.out] at u1 ⊢
              have HS6 := Lib.hid ((HS5.out.keep0 hw5).step u1 u2 (W4.out.trans W3.out.symm))
              have HO6 := Lib.hid ((HO5.out.thenNo hw5).then u2)
              clear u1 u2 hw5
              have hJ6 : JRow w6 E size now epoch fin mv := HJ1.out.keep HO6.out HE.out.n0
              obtain ⟨l0, l1, l2, l3, l4, l5, l6⟩ := Row.c7 hJ6
              have zj6 := Row.z hJ6
              have hjl6 := Row.lt hJ6
              have HJ6 := Lib.hid hJ6
              clear hJ6 k0 k1 k2 k3 k4 k5 k6 zj3 l0 l1
              by_cases hz4 : E4 = 0
              · subst hz4
                go_wp2
                go_ret
                have e := move_done (j := ⟨s, now, epoch, fin, om⟩) HND.out BG.out MX.out hto (by rw [RF.out, if_neg (by simp), if_neg (by simp), if_neg (by simp)])
                rw [e]
                have hO : Only (fun x => x = E.jb) w6 _ := ((((Only.refl (fun x => x = E.jb) w6).set E.jb 3 (.int .i64 (tg : Int)) rfl).set E.jb 5 (.int .i64 (n2 : Int)) rfl).set E.jb 6 (.map (some mb)) rfl).set E.jb 4 (.int .u32 (ne : Int)) rfl
                refine ⟨ret_int rfl, HS6.out.keepJ HE.out hO, ?_, (HO1.out.noThen (HO6.out.mono fun k _ h => .inl h)).then (hO.mono fun k _ h => .inr h)⟩
                have h := (((Row.set HJ6.out 3 (.int .i64 (tg : Int))).set 5 (.int .i64 (n2 : Int))).set 6 (.map (some mb))).set 4 (.int .u32 (ne : Int))
                have hn := NE.out
                rw [if_pos rfl]
                show JRow _ E size tg (epoch + 1) n2 _
                rw [hn]
                simpa [JRow] using h
              · have hbz : (E4 != 0) = true := by simpa using hz4
                have hbz2 : (E4 == 0) = false := by simpa using hz4
                have Z4 := Lib.hid hz4; clear hz4
                go_wp2
                go_ret
                have e := move_fail (j := ⟨s, now, epoch, fin, om⟩) HND.out BG.out MX.out hto (by rw [RF.out, if_neg (by simp), if_neg (by simp), if_neg (by simp)]) Z4.out
                rw [e]
                exact ⟨ret_int rfl, HS6.out, by rw [if_neg Z4.out]; exact HJ6.out, HO1.out.noThen (HO6.out.mono fun k _ h => .inl h)⟩
            · have hbz : (E3 != 0) = true := by simpa using hz3
              have hbz2 : (E3 == 0) = false := by simpa using hz3
              have Z3 := Lib.hid hz3; clear hz3
              go_wp2
              go_ret
              have e := move_fail (j := ⟨s, now, epoch, fin, om⟩) HND.out BG.out MX.out hto (by rw [RF.out, if_neg (by simp), if_neg (by simp), if_pos Z3.out]) Z3.out
              rw [e]
              exact ⟨ret_int rfl, HS5.out, by rw [if_neg Z3.out]; exact HJ1.out.keep HO5.out HE.out.n0, HO1.out.noThen (HO5.out.mono fun k _ h => .inl h)⟩
          · have hbz : (E2 != 0) = true := by simpa using hz2
            have hbz2 : (E2 == 0) = false := by simpa using hz2
            have Z2 := Lib.hid hz2; clear hz2
            go_wp2
            go_ret
            have e := move_fail (j := ⟨s, now, epoch, fin, om⟩) HND.out BG.out MX.out hto (by rw [RF.out, if_neg (by simp), if_pos Z2.out]) Z2.out
            rw [e]
            exact ⟨ret_int rfl, HS3.out, by rw [if_neg Z2.out]; exact HJ1.out.keep HO3.out HE.out.n0, HO1.out.noThen (HO3.out.mono fun k _ h => .inl h)⟩
        · have hbz : (E1 != 0) = true := by simpa using hz1
          have Z1 := Lib.hid hz1; clear hz1
          go_wp2
          go_ret
          have e := move_fail (j := ⟨s, now, epoch, fin, om⟩) HND.out BG.out MX.out hto (by rw [RF.out, if_pos Z1.out]) Z1.out
          rw [e]
          exact ⟨ret_int rfl, HS2.out, by rw [if_neg Z1.out]; exact HJ1.out.keep HO2.out HE.out.n0, HO1.out.noThen (HO2.out.mono fun k _ h => .inl h)⟩

end Go.Proofs.Ytdnpmkejondpoaa

/- The journal: what it tells. -/
namespace Go.Proofs.Ytdnpmkejondpoaa
open Go.RowKit Go.Maps
set_option linter.unusedVariables false
set_option linter.unusedSimpArgs false

def inI (k : Int) : Prop := -9223372036854775808 ≤ k ∧ k ≤ 9223372036854775807
theorem keyW {k : Int} (h : inI k) : keyOf Try.prog 3 (.int .i64 k) = some (.int .i64 k) := keyOf_int_mk Try.underlying3 (WalkArith.wf_i64 (by unfold inI at h; omega))
theorem MapV.look_okW {w : World} {b : Nat} {m : List (Int × Value)} (h : MapV w b m) {k : Int} (hk : inI k) :
    (Instr.lookup 64 (.map (some b)) (.int .i64 k) true).run Try.prog w = .ok (.tuple #[(kget m k).getD (.slice none 0 0), .bool (kget m k).isSome]) w := by
  obtain ⟨v, ps, hrun, hv⟩ := h.own.look_ok mapK Try.underlying64 (zeroB w) (zd := .held (.slice none 0 0)) (zp := []) rfl (keyW hk)
  rw [toD_has] at hrun
  rw [toD_at] at hv
  cases hg : kget m k with
  | none => rw [hg] at hv hrun; simp [Rh] at hv; rw [hrun, hv.1]; rfl
  | some x => rw [hg] at hv hrun; simp [Rh] at hv; rw [hrun, hv.1]; rfl
theorem JV.look_okW {w : World} {S : Nat → Prop} {b : Nat} {m : Vals} (h : JV w S b m) {k : Int} (hk : inI k) :
    (kget m k = none ∧ (Instr.lookup 64 (.map (some b)) (.int .i64 k) true).run Try.prog w = .ok (.tuple #[.slice none 0 0, .bool false]) w) ∨
    ∃ l a c, kget m k = some l ∧ (Instr.lookup 64 (.map (some b)) (.int .i64 k) true).run Try.prog w = .ok (.tuple #[.slice a l.length c, .bool true]) w ∧ RdB w a l ∧ (a = none → c = 0) ∧ OffB S a ∧ l.length ≤ 250 := by
  obtain ⟨vs, hm, hv⟩ := h.ex
  have hrun := hm.look_okW hk
  rcases hv.get k with ⟨h1, h2⟩ | ⟨v, l, h1, h2, a, c, rfl, hr, hn, hO⟩
  · rw [h1] at hrun; exact .inl ⟨h2, hrun⟩
  · rw [h1] at hrun; exact .inr ⟨l, a, c, h2, hrun, hr, hn, hO, h.small _ (kget_some h2)⟩

theorem room_any (w : World) (E : Env) (size now epoch fin : Nat) (mv : Value) (hJ : JRow w E size now epoch fin mv) (hs : size ≤ 262144) (hf : fin ≤ 262144) :
    Calls Try.prog 11 #[.pointer (some ⟨E.jb, 0, none⟩)] w fun e w' => e = .returned (.int .i64 ((size : Int) - fin)) ∧ Only noB w w' := by
  obtain ⟨c0, c1, c2, c3, c4, c5, c6⟩ := Row.c7 hJ
  clear hJ
  go_enter Try.func11, Try.ntmps11
  go_wp2
  go_region
  go_wp2
  go_ret
  exact ⟨ret_int rfl, (Only.refl _ _).drew⟩

theorem epoch_any (w : World) (E : Env) (size now epoch fin : Nat) (mv : Value) (hJ : JRow w E size now epoch fin mv) :
    Calls Try.prog 12 #[.pointer (some ⟨E.jb, 0, none⟩)] w fun e w' => e = .returned (.int .u32 (epoch : Int)) ∧ w = w' := by
  obtain ⟨c0, c1, c2, c3, c4, c5, c6⟩ := Row.c7 hJ
  clear hJ
  go_enter Try.func12, Try.ntmps12
  go_wp2
  go_ret
  exact ⟨rfl, rfl⟩

def GetPost (m : Vals) (k : Int) (w : World) (e : Ending) (w' : World) : Prop :=
  Only noB w w' ∧ match kget m k with
  | none => e = .returned (.tuple #[.slice none 0 0, .bool false])
  | some l => ∃ v, e = .returned (.tuple #[v, .bool true]) ∧ OwnB w' w.heap.size v l

theorem get_any (w : World) (E : Env) (size now epoch fin mb : Nat) (S : Nat → Prop) (m : Vals) (k : Int) (hJ : JRow w E size now epoch fin (.map (some mb))) (hV : JV w S mb m) (hk : inI k) :
    Calls Try.prog 13 #[.pointer (some ⟨E.jb, 0, none⟩), .int .i64 k] w (GetPost m k w) := by
  obtain ⟨c0, c1, c2, c3, c4, c5, c6⟩ := Row.c7 hJ
  clear hJ
  rcases hV.look_okW hk with ⟨hn, hrun⟩ | ⟨l, a, c, hn, hrun, hR, hnil, _, hl⟩
  · have HN := Lib.hid hn
    clear hn hV
    go_enter Try.func13, Try.ntmps13
    go_wp2_with (go_at_call 36; refine (clone_any _ none 0 0 [] rfl (.inl rfl) (fun _ => ⟨rfl, rfl⟩) (by simp)).mono ?_; rintro e w' ⟨v, rfl, h1, h2, h3⟩; obtain rfl := h3.2 rfl; have H2 := Lib.hid h2; clear h1 h2 h3)
    go_ret2
    refine ⟨H2.out, ?_⟩
    rw [HN.out]; rfl
  · have HN := Lib.hid hn; have HR := Lib.hid hR; have HNIL := Lib.hid hnil
    clear hn hV hR hnil
    have hz : a = none → l.length = 0 ∧ c = 0 := by
      intro h
      refine ⟨?_, HNIL.out h⟩
      rcases HR.out with h2 | ⟨g, o, h2, _⟩
      · rw [h2]; rfl
      · rw [h] at h2; cases h2
    have HZ := Lib.hid hz; clear hz
    go_enter Try.func13, Try.ntmps13
    go_wp2_with (go_at_call 36; refine (clone_any _ a l.length c l rfl HR.out HZ.out (by omega)).mono ?_; rintro e w' ⟨v, rfl, h1, h2, h3⟩; have H1 := Lib.hid h1; have H2 := Lib.hid h2; clear h1 h2 h3)
    go_ret2
    refine ⟨H2.out, ?_⟩
    rw [HN.out]; exact ⟨v, rfl, H1.out⟩

theorem OwnI.mono {w : World} {base B : Nat} {v : Value} {l : List Int} (h : OwnI w base v l) (hB : B ≤ base) : OwnI w B v l := by
  refine ⟨h.1, ?_⟩
  rcases h.2 with h0 | ⟨g, cap, cur, rfl, hg, r⟩
  · exact .inl h0
  · exact .inr ⟨g, cap, cur, rfl, by omega, r⟩

theorem keys_any (w : World) (E : Env) (size now epoch fin mb : Nat) (S : Nat → Prop) (m : Vals) (hJ : JRow w E size now epoch fin (.map (some mb))) (hV : JV w S mb m) :
    Calls Try.prog 20 #[.pointer (some ⟨E.jb, 0, none⟩)] w fun e w' => ∃ v, e = .returned v ∧ OwnI w' w.heap.size v (m.map (·.1)) ∧ Only noB w w' := by
  obtain ⟨c0, c1, c2, c3, c4, c5, c6⟩ := Row.c7 hJ
  obtain ⟨vs, hmv, hvr⟩ := hV.ex
  have hk := hvr.keys
  have HMV := Lib.hid hmv; have HK := Lib.hid hk
  clear hJ hV hmv hvr hk
  go_enter Try.func20, Try.ntmps20
  go_wp2_with fail
  refine (keysF mb _).mono ?_
  rintro e w1 ⟨rfl, hw1⟩
  rw [hw1]; clear hw1
  go_wp2_with fail
  refine (sorted_any w mb vs HMV.out).mono ?_
  rintro e w1 ⟨v, rfl, h1, h2⟩
  rw [HK.out] at h1
  have H1 := Lib.hid h1; have H2 := Lib.hid h2
  clear h1 h2
  go_wp2
  go_ret
  exact ⟨v, rfl, H1.out.mono (by omega), ((Only.refl noB w).alloc _).then H2.out⟩

def faultJ (s : FSt) (k : Int) (n : Nat) : Int := if s.down = true then 30 else if k < 0 ∨ 32 ≤ k then 1 else if 250 < n then 2 else 0
theorem jfault_any (w : World) (E : Env) (s : FSt) (size now epoch fin : Nat) (mv : Value) (k : Int) (a : Option Addr) (n c : Nat) (hS : SysR w E s) (hJ : JRow w E size now epoch fin mv) :
    Calls Try.prog 37 #[.pointer (some ⟨E.jb, 0, none⟩), .int .i64 k, .slice a n c] w fun e w' => e = .returned (.int .i64 (faultJ s k n)) ∧ w = w' := by
  obtain ⟨c0, c1, c2, c3, c4, c5, c6⟩ := Row.c7 hJ
  have HS := Lib.hid hS
  clear hJ hS
  obtain ⟨b, bl, sc, we, tu, le, dn⟩ : ∃ x : FSt, x = s := ⟨s, rfl⟩
  obtain ⟨d, hd⟩ : ∃ d, s.down = d := ⟨_, rfl⟩
  have hf : faultJ s k n = if d = true then 30 else if k < 0 ∨ 32 ≤ k then 1 else if 250 < n then 2 else 0 := by unfold faultJ; rw [hd]
  have HD := Lib.hid hd; have HF := Lib.hid hf
  clear hd hf
  go_enter Try.func37, Try.ntmps37
  cases d
  all_goals
    go_wp2_with (first
      | (go_at_call 31; first | ((with_reducible refine (pflash_any w E.pa E.f E.p0 HS.out.a).mono ?_); rintro e w' ⟨rfl, rfl⟩) | ((with_reducible refine (pflash_any w E.pb E.f E.p1 HS.out.b).mono ?_); rintro e w' ⟨rfl, rfl⟩))
      | (go_at_call 32; (with_reducible refine (fdown_any w E.f E.bb E.bw s HS.out.fl).mono ?_); rintro e w' ⟨rfl, rfl⟩; rw [HD.out]))
    all_goals
      go_ret
      refine ⟨ret_int ?_, rfl⟩
      rw [HF.out]
      simp only [Bool.false_eq_true, if_false, if_true]
      repeat' split
      all_goals first | rfl | omega

end Go.Proofs.Ytdnpmkejondpoaa

/- The journal: a record is written behind the last one, or all moves. -/
namespace Go.Proofs.Ytdnpmkejondpoaa
open Go.RowKit Go.Maps
set_option linter.unusedVariables false
set_option linter.unusedSimpArgs false

def Env.write (E : Env) (size : Nat) (j : JSt) (b : List UInt8) (m : Vals) : Int × JSt :=
  if size < needV m then (6, j) else if size < j.fin + (b.length + 1) then E.move size j m
  else if ((E.part j.now).lay j.s j.fin b).1 = 0 then (0, ⟨((E.part j.now).lay j.s j.fin b).2, j.now, j.epoch, j.fin + (b.length + 1), m⟩)
  else (((E.part j.now).lay j.s j.fin b).1, ⟨((E.part j.now).lay j.s j.fin b).2, j.now, j.epoch, j.fin, j.m⟩)

set_option maxRecDepth 100000 in
set_option maxHeartbeats 4000000 in
theorem write_any (w : World) (E : Env) (size mb : Nat) (mv : Value) (j : JSt) (m : Vals) (a : Option Addr) (n c : Nat) (b : List UInt8) (hS : SysR w E j.s) (hJ : JRow w E size j.now j.epoch j.fin mv) (hE : E.apart) (hV : JV w E.JS mb m) (hnow : j.now ≤ 1) (hep : j.epoch < 4294967296) (hsm : size ≤ 262144) (hfin : j.fin ≤ 262144)
    (hn : b.length = n) (hn1 : n ≤ 1000) (hR : RdB w a b) (hO : OffB E.JS a) :
    Calls Try.prog 40 #[.pointer (some ⟨E.jb, 0, none⟩), .slice a n c, .map (some mb)] w (MovePost E size mv mb (E.write size j b m) w) := by
  obtain ⟨s, now, epoch, fin, om⟩ := j
  simp only at hS hJ hnow hep hfin
  have hjl := Row.lt hJ
  have hlJ := hS.ltJ hjl
  have hneed := needV_le hV.small hV.short
  have HS := Lib.hid hS; have HJ := Lib.hid hJ; have HE := Lib.hid hE; have HV := Lib.hid hV; have HLJ := Lib.hid hlJ; have HN := Lib.hid hn; have HR := Lib.hid hR; have HO := Lib.hid hO
  obtain ⟨nd, hnd⟩ : ∃ nd, needV m = nd := ⟨_, rfl⟩
  rw [hnd] at hneed
  have HND := Lib.hid hnd
  have zj := Row.z hJ
  obtain ⟨c0, c1, c2, c3, c4, c5, c6⟩ := Row.c7 hJ
  clear hS hJ hE hV hlJ hnd hn hR hO
  go_enter Try.func40, Try.ntmps40
  go_upto_region 2 with fail
  go_cut [12] from 13 (fun v w' => v = .bool (decide (size < nd)) ∧ Only noB w w')
  case first =>
    go_region_with (go_at_call 50; refine (need_any w.drew E.JS mb m (HLJ.out) (HV.out.keep0 ((Only.refl _ _).drew))).mono ?_; rintro e w1 ⟨rfl, u1⟩; rw [HND.out]; have d2 := (Row.c7 (HJ.out.keep0 (((Only.refl noB w).drew).then u1))).2.2.1; have U1 := Lib.hid u1; clear u1)
    all_goals (go_wp2_with fail; go_meet; exact ⟨rfl, ((Only.refl noB w).drew).then U1.out⟩)
  case rest =>
    obtain ⟨rfl, hO1⟩ := hcut
    have hJ1 : JRow wc E size now epoch fin mv := HJ.out.keep0 hO1
    have HS1 := Lib.hid (HS.out.keep0 hO1)
    have HV1 := Lib.hid (HV.out.keep0 hO1)
    have HJ1 := Lib.hid hJ1; have HO1 := Lib.hid hO1
    clear hJ1 hO1 c0 c1 c2 c3 c4 c5 c6 zj
    by_cases hbig : size < nd
    · have e : E.write size ⟨s, now, epoch, fin, om⟩ b m = (6, ⟨s, now, epoch, fin, om⟩) := by unfold Env.write; rw [HND.out, if_pos hbig]
      have HM := Lib.hid e; clear e
      go_wp2
      go_ret
      rw [HM.out]
      exact ⟨ret_int rfl, HS1.out, HJ1.out, Only.ofNo HO1.out⟩
    · have hbgb : decide (size < nd) = false := by simpa using hbig
      have BG := Lib.hid hbig; clear hbig
      go_wp2_with fail
      refine (room_any wc E size now epoch fin mv HJ1.out hsm hfin).mono ?_
      rintro e w2 ⟨rfl, u1⟩
      have hJ2 : JRow w2 E size now epoch fin mv := HJ1.out.keep0 u1
      have HS2 := Lib.hid (HS1.out.keep0 u1)
      have HV2 := Lib.hid (HV1.out.keep0 u1)
      have HO2 := Lib.hid (HO1.out.then u1)
      have HJ2 := Lib.hid hJ2
      have hjl2 := Row.lt hJ2
      have zj2 := Row.z hJ2
      obtain ⟨c0, c1, c2, c3, c4, c5, c6⟩ := Row.c7 hJ2
      clear u1 hJ2
      by_cases hmv : size < fin + (n + 1)
      · have hlt : (size : Int) - fin < n + 1 := by omega
        have e : E.write size ⟨s, now, epoch, fin, om⟩ b m = E.move size ⟨s, now, epoch, fin, om⟩ m := by unfold Env.write; rw [HND.out, if_neg BG.out, HN.out, if_pos hmv]
        have HM := Lib.hid e; clear e hmv
        go_wp2_with fail
        refine (move_any w2 E size mb mv ⟨s, now, epoch, fin, om⟩ m (1 - now) HS2.out HJ2.out HE.out HV2.out (by simp only; omega) hep hsm).mono ?_
        rintro e w3 ⟨rfl, u1, u2, u3⟩
        have U1 := Lib.hid u1; have U2 := Lib.hid u2; have U3 := Lib.hid u3
        clear u1 u2 u3
        go_wp2
        go_ret
        rw [HM.out]
        exact ⟨ret_int rfl, U1.out, U2.out, HO2.out.noThen U3.out⟩
      · have hlt : ¬ (size : Int) - fin < n + 1 := by omega
        have HMV := Lib.hid hmv; clear hmv
        have cto : w2.cell? ⟨E.jb, now, none⟩ = some (.pointer (some ⟨E.pblk now, 0, none⟩)) := by
          have : now = 0 ∨ now = 1 := by omega
          rcases this with rfl | rfl
          · exact c0
          · exact c1
        obtain ⟨⟨E1, s1⟩, hr1⟩ : ∃ x, (E.part now).lay s fin b = x := ⟨_, rfl⟩
        have hw1 : s1.wear.length = s.wear.length := by have := ((E.part now).lay_same s fin b).2.1; rw [hr1] at this; exact congrArg List.length this
        have R1 := Lib.hid hr1; have W1 := Lib.hid hw1
        clear hr1 hw1
        go_upto_region 6 with fail
        go_cut [8] from 21 (fun v w' => v = .int .i64 E1 ∧ SysR w' E s1 ∧ Only E.FS w w' ∧ JRow w' E size now epoch fin mv)
        case first =>
          clear c2 c4 c6 c0 c1
          go_region_with (go_at_call 58; refine (lay_any w2.drew (E.pblk now) E.f E.bb E.bw (E.part now) s fin a n c b ((HS2.out.keep0 ((Only.refl _ _).drew)).part now) (HS2.out.keep0 ((Only.refl _ _).drew)).fl (HS2.out.fits now) (HS2.out.npart now) HN.out ((HR.out.keep0 HO2.out).keep0 ((Only.refl _ _).drew)) (fun q hq hs => HO.out q hq (.inl hs)) (by omega) (by omega) hn1).mono ?_; rintro e w3 ⟨rfl, u1, u2⟩; rw [R1.out] at u1 ⊢; have U1 := Lib.hid u1; have U2 := Lib.hid u2; clear u1 u2)
          all_goals (go_wp2_with fail; go_meet; exact ⟨rfl, (HS2.out.keep0 ((Only.refl _ _).drew)).step U1.out U2.out W1.out, (HO2.out.noThen (((Only.refl noB w2).drew).noThen U2.out)), (HJ2.out.keep0 ((Only.refl _ _).drew)).keep U2.out HE.out.n0⟩)
        case rest =>
          obtain ⟨rfl, u1, u2, u3⟩ := hcut
          have HS3 := Lib.hid u1; have HO3 := Lib.hid u2; have HJ3 := Lib.hid u3
          obtain ⟨k0, k1, k2, k3, k4, k5, k6⟩ := Row.c7 u3
          have zj3 := Row.z u3
          have hjl3 := Row.lt u3
          clear u1 u2 u3 c0 c1 c2 c3 c4 c5 c6 cto zj2
          by_cases hz : E1 = 0
          · subst hz
            have e : E.write size ⟨s, now, epoch, fin, om⟩ b m = (0, ⟨s1, now, epoch, fin + (n + 1), m⟩) := by unfold Env.write; simp only []; rw [HND.out, if_neg BG.out, HN.out, if_neg HMV.out, R1.out, if_pos rfl]
            have HM := Lib.hid e; clear e
            go_wp2
            go_ret
            rw [HM.out]
            have hO : Only (fun x => x = E.jb) wc _ := ((Only.refl (fun x => x = E.jb) wc).set E.jb 5 (.int .i64 ((fin : Int) + ((n : Int) + 1))) rfl).set E.jb 6 (.map (some mb)) rfl
            refine ⟨ret_int rfl, HS3.out.keepJ HE.out hO, ?_, (HO3.out.mono fun k _ h => .inl h).then (hO.mono fun k _ h => .inr h)⟩
            have h := (Row.set HJ3.out 5 (.int .i64 ((fin : Int) + ((n : Int) + 1)))).set 6 (.map (some mb))
            rw [if_pos rfl]
            have e : ((fin : Int) + ((n : Int) + 1)) = ((fin + (n + 1) : Nat) : Int) := by omega
            rw [e] at h
            simpa [JRow] using h
          · have hbz : (E1 != 0) = true := by simpa using hz
            have e : E.write size ⟨s, now, epoch, fin, om⟩ b m = (E1, ⟨s1, now, epoch, fin, om⟩) := by unfold Env.write; simp only []; rw [HND.out, if_neg BG.out, HN.out, if_neg HMV.out, R1.out, if_neg hz]
            have HM := Lib.hid e; have Z1 := Lib.hid hz; clear e hz
            go_wp2
            go_ret
            rw [HM.out]
            exact ⟨ret_int rfl, HS3.out, by rw [if_neg Z1.out]; exact HJ3.out, HO3.out.mono fun k _ h => .inl h⟩

end Go.Proofs.Ytdnpmkejondpoaa
