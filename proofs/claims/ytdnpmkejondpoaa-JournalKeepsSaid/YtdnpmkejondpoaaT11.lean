/- Parts of a proof, joined: Flash4, Flash5, Flash6. -/
import Derived.Test.YtdnpmkejondpoaaT8

/- The flash: bytes are programmed. -/
namespace Go.Proofs.Ytdnpmkejondpoaa
open Go.RowKit
set_option linter.unusedVariables false
set_option linter.unusedSimpArgs false

theorem run_cons (s : FSt) (i : Nat) (l : List UInt8) (k : Nat) (hk : k < l.length) :
    s.run i (l.drop k) = if (s.turn i (l.getD k 0)).1 = true then (s.turn i (l.getD k 0)).2.run (i + 1) (l.drop (k + 1)) else (false, (s.turn i (l.getD k 0)).2) := by
  rw [List.drop_eq_getElem_cons hk]
  simp only [FSt.run]
  rw [show l.getD k 0 = l[k] from by simp [hk]]

def ProgPost (f bb bw : Nat) (s : FSt) (i : Int) (l : List UInt8) (w : World) (e : Ending) (w' : World) : Prop :=
  e = .returned (.int .i64 (s.program i l).1) ∧ FlashR w' f bb bw (s.program i l).2 ∧ Only (FlashS f bb bw) w w'

set_option maxHeartbeats 1000000 in
theorem program_go (w : World) (f bb bw : Nat) (s : FSt) (i : Int) (a : Option Addr) (n c : Nat) (l : List UInt8) (hF : FlashR w f bb bw s) (hn : l.length = n) (hR : RdB w a l) (hO : OffB (FlashS f bb bw) a)
    (hd : s.down = false) (h0 : 0 ≤ i) (hi : i + n ≤ s.b.length) (hc : clearsB s.b i.toNat l = true) :
    Calls Try.prog 69 #[.pointer (some ⟨f, 0, none⟩), .int .i64 i, .slice a n c] w (ProgPost f bb bw s i l w) := by
  obtain ⟨c0, c1, c2, c3, c4, c5⟩ := hF.row.c6
  have hsm := hF.ok.small
  rw [hd] at c5
  have hwi : s.within i (n : Int) = true := by unfold FSt.within; simp; omega
  have hp : s.program i l = ((if (s.run i.toNat l).1 = true then 0 else 30), (s.run i.toNat l).2) := by
    unfold FSt.program; rw [if_neg (by simp [hd]), if_neg (by rw [hn]; simp [hwi]), if_neg (by simp [hc])]
  have HF := Lib.hid hF; have HP := Lib.hid hp; have HN := Lib.hid hn; have HR := Lib.hid hR; have HO := Lib.hid hO
  have HD := Lib.hid hd; have HW := Lib.hid hwi; have HC := Lib.hid hc
  clear hF hp hn hR hO hd hwi hc
  go_enter Try.func69, Try.ntmps69
  go_wp2_with (first
    | (go_at_call 81; refine (fwithin_any _ f bb bw s _ _ HF.out).mono ?_; rintro e w' ⟨rfl, rfl⟩; rw [HW.out])
    | (go_at_call 82; refine (clears_any _ f bb bw s _ _ _ _ l HF.out HN.out h0 hi HR.out).mono ?_; rintro e w' ⟨rfl, rfl⟩; rw [HC.out]))
  go_loopw [29] (fun t wr => ∃ (k : Nat) (sk : FSt), k ≤ n ∧ t = .int .i64 k ∧ FlashR wr f bb bw sk ∧ Only (FlashS f bb bw) w wr ∧ sk.b.length = s.b.length ∧ s.run i.toNat l = sk.run (i.toNat + k) (l.drop k)) (fun t _ => n - (intOf t).toNat)
  case atStart => exact ⟨0, s, Nat.zero_le _, rfl, HF.out, Only.refl _ _, rfl, by simp⟩
  case round =>
    obtain ⟨k, sk, hk, rfl, hFk, hOk, hlen, hrel⟩ := hrel
    have HFk := Lib.hid hFk; have HOk := Lib.hid hOk; have HL := Lib.hid hrel; have HN2 := Lib.hid hlen; clear hFk hOk hrel hlen
    by_cases hlt : k < n
    · have hcell : ∃ g o, a = some ⟨g, o, none⟩ ∧ wr.cell? ⟨g, o + k, none⟩ = some (.int .u8 ((l.getD k 0).toNat : Int)) := by
        obtain ⟨g, o, e, h⟩ := (HR.out.keep HOk.out HO.out).at_ (by have := HN.out; omega)
        exact ⟨g, o, e, h k (by rw [HN.out]; exact hlt)⟩
      obtain ⟨g, o, rfl, hcell⟩ := hcell
      have hrun := run_cons sk (i.toNat + k) l k (by rw [HN.out]; exact hlt)
      have HS := Lib.hid hrun; clear hrun
      have r1 := u8_range (l.getD k 0)
      have hik : (i + (k : Int)).toNat = i.toNat + k := by omega
      have HI := Lib.hid hik; clear hik
      have hturn : (sk.turn (i.toNat + k) (l.getD k 0)).1 = true ∨ (sk.turn (i.toNat + k) (l.getD k 0)).1 = false := by cases (sk.turn (i.toNat + k) (l.getD k 0)).1 <;> simp
      rcases hturn with ht | ht
      · have HT := Lib.hid ht; clear ht
        go_wp2_with (go_at_call 79; refine (turn_int _ f bb bw sk _ _ (l.getD k 0) HFk.out (by omega) (by have := HN2.out; omega) (by simp)).mono ?_; rintro e w' ⟨rfl, hF', hO'⟩; rw [HI.out] at hF' ⊢; rw [HT.out]; have HF2 := Lib.hid hF'; have HO2 := Lib.hid hO'; clear hF' hO')
        go_roundw
        case rel =>
          refine ⟨k + 1, _, by omega, by go_num, HF2.out, HOk.out.then HO2.out, ?_, ?_⟩
          · rw [(FSt.turn_same sk _ _).2.2]; exact HN2.out
          · rw [HL.out, HS.out, if_pos HT.out, Nat.add_assoc]
        case measure => simp [intOf]; omega
      · have HT := Lib.hid ht; clear ht
        go_wp2_with (go_at_call 79; refine (turn_int _ f bb bw sk _ _ (l.getD k 0) HFk.out (by omega) (by have := HN2.out; omega) (by simp)).mono ?_; rintro e w' ⟨rfl, hF', hO'⟩; rw [HI.out] at hF' ⊢; rw [HT.out]; have HF2 := Lib.hid hF'; have HO2 := Lib.hid hO'; clear hF' hO')
        go_ret
        have e2 : s.run i.toNat l = (false, (sk.turn (i.toNat + k) (l.getD k 0)).2) := by rw [HL.out, HS.out, if_neg (by rw [HT.out]; exact Bool.false_ne_true)]
        refine ⟨ret_int ?_, ?_, HOk.out.then HO2.out⟩
        · rw [HP.out, e2]; rfl
        · rw [HP.out, e2]; exact HF2.out
    · go_wp2
      go_ret
      have e2 : s.run i.toNat l = (true, sk) := by rw [HL.out, List.drop_of_length_le (by have := HN.out; omega)]; rfl
      refine ⟨ret_int ?_, ?_, HOk.out⟩
      · rw [HP.out, e2]; rfl
      · rw [HP.out, e2]; exact HFk.out

set_option maxHeartbeats 400000 in
theorem program_any (w : World) (f bb bw : Nat) (s : FSt) (i : Int) (a : Option Addr) (n c : Nat) (l : List UInt8) (hF : FlashR w f bb bw s) (hn : l.length = n) (hR : RdB w a l) (hO : OffB (FlashS f bb bw) a) :
    Calls Try.prog 69 #[.pointer (some ⟨f, 0, none⟩), .int .i64 i, .slice a n c] w (ProgPost f bb bw s i l w) := by
  by_cases hd : s.down = true
  · have hp : s.program i l = (30, s) := by unfold FSt.program; rw [if_pos hd]
    obtain ⟨c0, c1, c2, c3, c4, c5⟩ := hF.row.c6
    rw [hd] at c5
    have HF := Lib.hid hF; have HP := Lib.hid hp
    clear hF hp hn hR hO hd
    go_enter Try.func69, Try.ntmps69
    go_wp2_with fail
    go_ret
    exact ⟨ret_int (by rw [HP.out]), by rw [HP.out]; exact HF.out, Only.refl _ _⟩
  · have hd' : s.down = false := by simpa using hd
    by_cases hw : s.within i n = true
    · by_cases hc : clearsB s.b i.toNat l = true
      · unfold FSt.within at hw; simp at hw
        exact program_go w f bb bw s i a n c l hF hn hR hO hd' (by omega) (by omega) hc
      · have hc' : clearsB s.b i.toNat l = false := by simpa using hc
        have hp : s.program i l = (31, s) := by unfold FSt.program; rw [if_neg hd, if_neg (by rw [hn]; simp [hw]), if_pos hc']
        obtain ⟨c0, c1, c2, c3, c4, c5⟩ := hF.row.c6
        rw [hd'] at c5
        have HW := Lib.hid hw
        unfold FSt.within at hw; simp at hw
        have h0 : 0 ≤ i := by omega
        have hi : i + n ≤ s.b.length := by omega
        have HF := Lib.hid hF; have HP := Lib.hid hp; have HC := Lib.hid hc'; have HN := Lib.hid hn; have HR := Lib.hid hR
        clear hF hp hn hR hO hd hd' hc hc' hw
        go_enter Try.func69, Try.ntmps69
        go_wp2_with (first
          | (go_at_call 81; refine (fwithin_any _ f bb bw s _ _ HF.out).mono ?_; rintro e w' ⟨rfl, rfl⟩; rw [HW.out])
          | (go_at_call 82; refine (clears_any _ f bb bw s _ _ _ _ l HF.out HN.out h0 hi HR.out).mono ?_; rintro e w' ⟨rfl, rfl⟩; rw [HC.out]))
        go_ret
        exact ⟨ret_int (by rw [HP.out]), by rw [HP.out]; exact HF.out, Only.refl _ _⟩
    · have hw' : s.within i n = false := by simpa using hw
      have hp : s.program i l = (1, s) := by unfold FSt.program; rw [if_neg hd, if_pos (by rw [hn]; exact hw')]
      obtain ⟨c0, c1, c2, c3, c4, c5⟩ := hF.row.c6
      rw [hd'] at c5
      have HF := Lib.hid hF; have HP := Lib.hid hp; have HW := Lib.hid hw'
      clear hF hp hn hR hO hd hd' hw hw'
      go_enter Try.func69, Try.ntmps69
      go_wp2_with (go_at_call 81; refine (fwithin_any _ f bb bw s _ _ HF.out).mono ?_; rintro e w' ⟨rfl, rfl⟩; rw [HW.out])
      go_ret
      exact ⟨ret_int (by rw [HP.out]), by rw [HP.out]; exact HF.out, Only.refl _ _⟩

end Go.Proofs.Ytdnpmkejondpoaa

/- The flash: a sector is erased; bytes are read. -/
namespace Go.Proofs.Ytdnpmkejondpoaa
open Go.RowKit
set_option linter.unusedVariables false
set_option linter.unusedSimpArgs false

def ErasePost (f bb bw : Nat) (s : FSt) (k : Int) (w : World) (e : Ending) (w' : World) : Prop :=
  e = .returned (.int .i64 (s.erase k).1) ∧ FlashR w' f bb bw (s.erase k).2 ∧ Only (FlashS f bb bw) w w'

theorem erase_lo {n z k : Nat} (hk : k < n) : k * z + z ≤ n * z := by
  have : (k + 1) * z ≤ n * z := Nat.mul_le_mul_right _ (by omega)
  rw [Nat.add_mul] at this; omega

set_option maxHeartbeats 1000000 in
theorem erase_go (w : World) (f bb bw : Nat) (s : FSt) (k : Nat) (hF : FlashR w f bb bw s) (hd : s.down = false) (hk : k < s.wear.length) :
    Calls Try.prog 67 #[.pointer (some ⟨f, 0, none⟩), .int .i64 (k : Int)] w (ErasePost f bb bw s k w) := by
  obtain ⟨z, hz⟩ : ∃ z : Nat, s.sector = z := Int.eq_ofNat_of_zero_le (by have := hF.ok.s0; omega)
  obtain ⟨x, hx⟩ : ∃ x, x = s.wear.getD k 0 := ⟨_, rfl⟩
  obtain ⟨c0, c1, c2, c3, c4, c5⟩ := hF.row.c6
  have zw := hF.wear.z
  have cw := hF.wear.num k hk
  rw [← hx] at cw
  rw [hz] at c1
  rw [hd] at c5
  have hx0 : 0 ≤ x ∧ x ≤ 1073741824 := hF.ok.w x (by rw [hx]; simp [List.getD_eq_getElem?_getD, hk])
  have hsm := hF.ok.small
  have s0 := hF.ok.s0; have s1 := hF.ok.s1; have n1 := hF.ok.n1
  have hlen := hF.ok.len
  rw [hz] at s0 s1 hlen
  have hlo : k * z + z ≤ s.wear.length * z := erase_lo hk
  have hlen' : s.wear.length * z = s.b.length := by have : ((s.wear.length * z : Nat) : Int) = s.b.length := by rw [hlen]; simp
                                                    omega
  rw [hlen'] at hlo
  have hkz : ((k : Int) * s.sector).toNat = k * z := by rw [hz]; norm_cast
  have he : s.erase k = ((if ((s.wore k).run (k * z) (List.replicate z 255)).1 = true then 0 else 30), ((s.wore k).run (k * z) (List.replicate z 255)).2) := by
    unfold FSt.erase; rw [if_neg (by simp [hd]), if_neg (by omega), hkz]; simp [hz]
  have HF := Lib.hid hF; have HE := Lib.hid he; have HX := Lib.hid hx; have HZ := Lib.hid hz
  have n2 := hF.n2; have n2' := hF.n2.symm; have n3 := hF.n3; have n3' := hF.n3.symm
  clear hF he hx hz hd hlen hlen' hkz
  have wore : ∀ (y : Int) (w' : World), min (x + 1) 1073741824 = y → w' = (w.drew).setCell ⟨bw, k, none⟩ (.int .i64 y) → FlashR w' f bb bw (s.wore k) ∧ Only (FlashS f bb bw) w w' := by
    intro y w' hy e
    subst e
    have hF := HF.out
    refine ⟨⟨?_, (RowB.drew hF.bytes).other _ _ n3, ?_, hF.n1, hF.n2, hF.n3, FSt.wore_ok hF.ok k⟩, (Only.refl _ _).drew.set bw k _ (FlashS.bw ..)⟩
    · have := (Row.drew hF.row).other ⟨bw, k, none⟩ (.int .i64 y) n2
      simpa [FSt.wore] using this
    · have := (Row.drew hF.wear).set k (.int .i64 y)
      rw [ivs_set] at this
      unfold FSt.wore; rw [← HX.out, hy]; exact this
  have hm : (x + 1 ≤ 1073741824 ∧ Hid (min (x + 1) 1073741824 = x + 1)) ∨ (1073741824 < x + 1 ∧ Hid (min (x + 1) 1073741824 = 1073741824)) := by unfold Hid; omega
  have g1 : decide ((k : Int) < 0) = false := by simp
  have g2 : decide (s.wear.length ≤ k) = false := by simp; omega
  go_enter Try.func67, Try.ntmps67
  rcases hm with ⟨hm, HM⟩ | ⟨hm, HM⟩
  all_goals
    go_wp2
    go_region
    first
      | (guard_hyp hm : x + 1 ≤ 1073741824
         obtain ⟨hFw, hOw⟩ := wore (x + 1) _ HM.out rfl
         rw [World.setCell_drew] at hFw hOw
         generalize (w.setCell ⟨bw, k, none⟩ (.int .i64 (x + 1))).drew = W1 at *)
      | (obtain ⟨hFw, hOw⟩ := wore 1073741824 _ HM.out rfl
         rw [World.setCell_drew] at hFw hOw
         generalize (w.setCell ⟨bw, k, none⟩ (.int .i64 1073741824)).drew = W1 at *)
    clear wore c0 c1 c2 c3 c4 c5 cw zw hx0 s0 s1
    obtain ⟨c0, c1, c2, c3, c4, c5⟩ := hFw.row.c6
    have ez : (s.wore k).sector = z := HZ.out
    rw [ez] at c1
    have eb : (s.wore k).b.length = s.b.length := rfl
    have HEZ := Lib.hid ez; have HEB := Lib.hid eb; have HFw := Lib.hid hFw; have HOw := Lib.hid hOw
    have hlr : (List.replicate z (255 : UInt8)).length = z := by simp
    have HLR := Lib.hid hlr
    clear hFw hOw ez eb hlr
    go_wp2
    go_loopw [42] (fun t wr => ∃ (j : Nat) (sk : FSt), j ≤ z ∧ t = .int .i64 j ∧ FlashR wr f bb bw sk ∧ Only (FlashS f bb bw) W1 wr ∧ sk.b.length = s.b.length ∧ sk.sector = z ∧ (s.wore k).run (k * z) (List.replicate z 255) = sk.run (k * z + j) ((List.replicate z 255).drop j)) (fun t _ => z - (intOf t).toNat)
    case atStart => exact ⟨0, s.wore k, Nat.zero_le _, rfl, HFw.out, Only.refl _ _, rfl, HEZ.out, by simp⟩
    case round =>
      obtain ⟨j, sk, hj, rfl, hFk, hOk, hlen, hsec, hrel⟩ := hrel
      obtain ⟨d0, d1, d2, d3, d4, d5⟩ := hFk.row.c6
      rw [hsec] at d1
      have HFk := Lib.hid hFk; have HOk := Lib.hid hOk; have HL := Lib.hid hrel; have HN2 := Lib.hid hlen; have HSE := Lib.hid hsec; clear hFk hOk hrel hlen hsec c0 c1 c2 c3 c4 c5
      by_cases hlt : j < z
      · have hrun := run_cons sk (k * z + j) (List.replicate z 255) j (by rw [HLR.out]; exact hlt)
        have e255 : (List.replicate z (255 : UInt8)).getD j 0 = 255 := by simp [hlt]
        rw [e255] at hrun
        have HS := Lib.hid hrun; clear hrun e255
        have hik : (((k : Int) * (z : Int)) + (j : Int)).toNat = k * z + j := by omega
        have hkz' : (k : Int) * (z : Int) = ((k * z : Nat) : Int) := by simp
        have HI := Lib.hid hik; clear hik
        have bnd : (0 : Int) ≤ (k : Int) * (z : Int) ∧ (k : Int) * (z : Int) ≤ 262144 := by rw [hkz']; omega
        have bnd2 : (k : Int) * (z : Int) + j < s.b.length := by rw [hkz']; omega
        obtain ⟨bnd0, bnd1⟩ := bnd
        clear hkz'
        have hturn : (sk.turn (k * z + j) 255).1 = true ∨ (sk.turn (k * z + j) 255).1 = false := by cases (sk.turn (k * z + j) 255).1 <;> simp
        rcases hturn with ht | ht
        · have HT := Lib.hid ht; clear ht
          go_wp2_with (go_at_call 79; refine (turn_int _ f bb bw sk _ _ 255 HFk.out (by omega) (by have := HN2.out; omega) (by decide)).mono ?_; rintro e w' ⟨rfl, hF', hO'⟩; rw [HI.out] at hF' ⊢; rw [HT.out]; have HF2 := Lib.hid hF'; have HO2 := Lib.hid hO'; clear hF' hO')
          go_roundw
          case rel =>
            refine ⟨j + 1, _, by omega, by go_num, HF2.out, HOk.out.then HO2.out, ?_, ?_, ?_⟩
            · rw [(FSt.turn_same sk _ _).2.2]; exact HN2.out
            · rw [(FSt.turn_same sk _ _).1]; exact HSE.out
            · rw [HL.out, HS.out, if_pos HT.out, Nat.add_assoc]
          case measure => simp [intOf]; omega
        · have HT := Lib.hid ht; clear ht
          go_wp2_with (go_at_call 79; refine (turn_int _ f bb bw sk _ _ 255 HFk.out (by omega) (by have := HN2.out; omega) (by decide)).mono ?_; rintro e w' ⟨rfl, hF', hO'⟩; rw [HI.out] at hF' ⊢; rw [HT.out]; have HF2 := Lib.hid hF'; have HO2 := Lib.hid hO'; clear hF' hO')
          go_ret
          have e2 : (s.wore k).run (k * z) (List.replicate z 255) = (false, (sk.turn (k * z + j) 255).2) := by rw [HL.out, HS.out, if_neg (by rw [HT.out]; exact Bool.false_ne_true)]
          refine ⟨ret_int ?_, ?_, HOw.out.then (HOk.out.then HO2.out)⟩
          · rw [HE.out, e2]; rfl
          · rw [HE.out, e2]; exact HF2.out
      · go_wp2
        go_ret
        have e2 : (s.wore k).run (k * z) (List.replicate z 255) = (true, sk) := by rw [HL.out, List.drop_of_length_le (by have := HLR.out; omega)]; rfl
        refine ⟨ret_int ?_, ?_, HOw.out.then HOk.out⟩
        · rw [HE.out, e2]; rfl
        · rw [HE.out, e2]; exact HFk.out

set_option maxHeartbeats 400000 in
theorem erase_any (w : World) (f bb bw : Nat) (s : FSt) (k : Int) (hF : FlashR w f bb bw s) :
    Calls Try.prog 67 #[.pointer (some ⟨f, 0, none⟩), .int .i64 k] w (ErasePost f bb bw s k w) := by
  by_cases hd : s.down = true
  · have he : s.erase k = (30, s) := by unfold FSt.erase; rw [if_pos hd]
    obtain ⟨c0, c1, c2, c3, c4, c5⟩ := hF.row.c6
    rw [hd] at c5
    have HF := Lib.hid hF; have HE := Lib.hid he
    clear hF he hd
    go_enter Try.func67, Try.ntmps67
    go_wp2
    go_ret
    exact ⟨ret_int (by rw [HE.out]), by rw [HE.out]; exact HF.out, Only.refl _ _⟩
  · have hd' : s.down = false := by simpa using hd
    by_cases hk : k < 0 ∨ (s.wear.length : Int) ≤ k
    · have he : s.erase k = (1, s) := by unfold FSt.erase; rw [if_neg hd, if_pos hk]
      obtain ⟨c0, c1, c2, c3, c4, c5⟩ := hF.row.c6
      rw [hd'] at c5
      have HF := Lib.hid hF; have HE := Lib.hid he
      clear hF he hd hd'
      by_cases hk0 : k < 0
      · go_enter Try.func67, Try.ntmps67
        go_wp2
        go_ret
        exact ⟨ret_int (by rw [HE.out]), by rw [HE.out]; exact HF.out, Only.refl _ _⟩
      · have hk1 : (s.wear.length : Int) ≤ k := by omega
        clear hk
        go_enter Try.func67, Try.ntmps67
        go_wp2
        go_ret
        exact ⟨ret_int (by rw [HE.out]), by rw [HE.out]; exact HF.out, Only.refl _ _⟩
    · obtain ⟨n, rfl⟩ := Int.eq_ofNat_of_zero_le (show 0 ≤ k by omega)
      exact erase_go w f bb bw s n hF hd' (by omega)

end Go.Proofs.Ytdnpmkejondpoaa

/- The flash: bytes are read. -/
namespace Go.Proofs.Ytdnpmkejondpoaa
open Go.RowKit
set_option linter.unusedVariables false
set_option linter.unusedSimpArgs false

def FSt.readE (s : FSt) (i n : Int) : Int := if s.down = true then 30 else if s.within i n = false then 1 else 0
def FSt.part (s : FSt) (i n : Int) : List UInt8 := (s.b.drop i.toNat).take n.toNat

/-- bytes that are read, or an error -/
def ReadPost (E : Int) (l : List UInt8) (w : World) (e : Ending) (w' : World) : Prop :=
  ∃ v, e = .returned (.tuple #[v, .int .i64 E]) ∧ Only noB w w' ∧ (E = 0 → OwnB w' w.heap.size v l ∧ v ≠ .slice none 0 0) ∧ (E ≠ 0 → v = .slice none 0 0)

set_option maxHeartbeats 400000 in
theorem fread_go (w : World) (f bb bw : Nat) (s : FSt) (i n : Nat) (hF : FlashR w f bb bw s) (hd : s.down = false) (hi : i + n ≤ s.b.length) :
    Calls Try.prog 78 #[.pointer (some ⟨f, 0, none⟩), .int .i64 (i : Int), .int .i64 (n : Int)] w (ReadPost 0 ((s.b.drop i).take n) w) := by
  obtain ⟨c0, c1, c2, c3, c4, c5⟩ := hF.row.c6
  have hsm := hF.ok.small
  rw [hd] at c5
  have hwi : s.within (i : Int) (n : Int) = true := by unfold FSt.within; simp; omega
  have hb : RdB w (some ⟨bb, 0 + i, none⟩) ((s.b.drop i).take n) := hF.bytes.rdB.part i n hi
  rw [Nat.zero_add] at hb
  have hl : ((s.b.drop i).take n).length = n := by simp; omega
  have HF := Lib.hid hF; have HW := Lib.hid hwi; have HB := Lib.hid hb; have HL := Lib.hid hl
  clear hF hd hwi hb hl
  by_cases hi0 : i < s.b.length
  · have hne : ¬ s.b.length = i := by omega
    go_enter Try.func78, Try.ntmps78
    go_wp2_with (first
      | (go_at_call 81; refine (fwithin_any _ f bb bw s _ _ HF.out).mono ?_; rintro e w' ⟨rfl, rfl⟩; rw [HW.out])
      | (go_at_call 36; refine (clone_any _ _ _ _ ((s.b.drop i).take n) HL.out HB.out (by simp) (by rw [HL.out]; omega)).mono ?_; rintro e w' ⟨v, rfl, h1, h2, h3⟩))
    go_ret2
    exact ⟨v, rfl, h2, fun _ => ⟨h1, fun h => by simp at h3; exact h3 h⟩, fun h => absurd rfl h⟩
  · obtain rfl : n = 0 := by omega
    have he : s.b.length = i := by omega
    rw [he] at c0
    have hw0 : s.within (i : Int) 0 = true := HW.out
    have HW := Lib.hid hw0
    rw [he] at hsm
    clear hi hi0 he hw0
    go_enter Try.func78, Try.ntmps78
    go_wp2_with (first
      | (go_at_call 81; refine (fwithin_any _ f bb bw s _ _ HF.out).mono ?_; rintro e w' ⟨rfl, rfl⟩; rw [HW.out])
      | (go_at_call 36; refine (clone_any _ _ _ _ [] rfl (RdB.nil _ _) (by simp) (by simp)).mono ?_; rintro e w' ⟨v, rfl, h1, h2, h3⟩))
    go_ret2
    exact ⟨v, rfl, h2, fun _ => ⟨by simpa using h1, fun h => by simp at h3; exact h3 h⟩, fun h => absurd rfl h⟩

set_option maxHeartbeats 400000 in
theorem fread_any (w : World) (f bb bw : Nat) (s : FSt) (i n : Int) (hF : FlashR w f bb bw s) :
    Calls Try.prog 78 #[.pointer (some ⟨f, 0, none⟩), .int .i64 i, .int .i64 n] w (ReadPost (s.readE i n) (s.part i n) w) := by
  by_cases hd : s.down = true
  · have he : s.readE i n = 30 := by unfold FSt.readE; rw [if_pos hd]
    obtain ⟨c0, c1, c2, c3, c4, c5⟩ := hF.row.c6
    rw [hd] at c5
    rw [he]
    clear hF hd he
    go_enter Try.func78, Try.ntmps78
    go_wp2
    go_ret2
    exact ⟨_, rfl, Only.refl _ _, fun h => absurd h (by decide), fun _ => rfl⟩
  · by_cases hw : s.within i n = true
    · have he : s.readE i n = 0 := by unfold FSt.readE; rw [if_neg hd, if_neg (by simp [hw])]
      unfold FSt.within at hw; simp at hw
      obtain ⟨i, rfl⟩ := Int.eq_ofNat_of_zero_le hw.1
      obtain ⟨n, rfl⟩ := Int.eq_ofNat_of_zero_le hw.2.1
      rw [he]
      exact fread_go w f bb bw s i n hF (by simpa using hd) (by omega)
    · have hw' : s.within i n = false := by simpa using hw
      have he : s.readE i n = 1 := by unfold FSt.readE; rw [if_neg hd, if_pos hw']
      obtain ⟨c0, c1, c2, c3, c4, c5⟩ := hF.row.c6
      have hd' : s.down = false := by simpa using hd
      rw [hd'] at c5
      rw [he]
      have HF := Lib.hid hF; have HW := Lib.hid hw'
      clear hF hd he hw hw' hd'
      go_enter Try.func78, Try.ntmps78
      go_wp2_with (go_at_call 81; refine (fwithin_any _ f bb bw s _ _ HF.out).mono ?_; rintro e w' ⟨rfl, rfl⟩; rw [HW.out])
      go_ret2
      exact ⟨_, rfl, Only.refl _ _, fun h => absurd h (by decide), fun _ => rfl⟩

end Go.Proofs.Ytdnpmkejondpoaa
