/- Parts of a proof, joined: Flash2, Flash3. -/
import Derived.Test.YtdnpmkejondpoaaT2
import Derived.Test.YtdnpmkejondpoaaT7

/- The flash's small calls, more of them. -/
namespace Go.Proofs.Ytdnpmkejondpoaa
open Go.RowKit
set_option linter.unusedVariables false
set_option linter.unusedSimpArgs false

theorem turn_int (w : World) (f bb bw : Nat) (s : FSt) (i c : Int) (x : UInt8) (hF : FlashR w f bb bw s) (h0 : 0 ≤ i) (hi : i < s.b.length) (hc : (x.toNat : Int) = c) :
    Calls Try.prog 79 #[.pointer (some ⟨f, 0, none⟩), .int .i64 i, .int .u8 c] w (TurnPost f bb bw s i.toNat x w) := by
  obtain ⟨k, rfl⟩ := Int.eq_ofNat_of_zero_le h0
  subst hc
  exact turn_any w f bb bw s k x hF (by omega)

/-- it only reads -/
def QuietPost (v : Value) (w : World) (e : Ending) (w' : World) : Prop := e = .returned v ∧ ∃ n, w' = w.drewN n

theorem fsize_any (w : World) (f bb bw : Nat) (s : FSt) (hF : FlashR w f bb bw s) :
    Calls Try.prog 47 #[.pointer (some ⟨f, 0, none⟩)] w fun e w' => e = .returned (.int .i64 (s.b.length : Int)) ∧ w = w' := by
  obtain ⟨c0, c1, c2, c3, c4, c5⟩ := hF.row.c6
  clear hF
  go_enter Try.func47, Try.ntmps47
  go_wp2
  go_ret
  exact ⟨rfl, rfl⟩
theorem fsector_any (w : World) (f bb bw : Nat) (s : FSt) (hF : FlashR w f bb bw s) :
    Calls Try.prog 42 #[.pointer (some ⟨f, 0, none⟩)] w fun e w' => e = .returned (.int .i64 s.sector) ∧ w = w' := by
  obtain ⟨c0, c1, c2, c3, c4, c5⟩ := hF.row.c6
  clear hF
  go_enter Try.func42, Try.ntmps42
  go_wp2
  go_ret
  exact ⟨rfl, rfl⟩
theorem fdown_any (w : World) (f bb bw : Nat) (s : FSt) (hF : FlashR w f bb bw s) :
    Calls Try.prog 32 #[.pointer (some ⟨f, 0, none⟩)] w fun e w' => e = .returned (.bool s.down) ∧ w = w' := by
  obtain ⟨c0, c1, c2, c3, c4, c5⟩ := hF.row.c6
  clear hF
  go_enter Try.func32, Try.ntmps32
  go_wp2
  go_ret
  exact ⟨rfl, rfl⟩
theorem fturned_any (w : World) (f bb bw : Nat) (s : FSt) (hF : FlashR w f bb bw s) :
    Calls Try.prog 19 #[.pointer (some ⟨f, 0, none⟩)] w fun e w' => e = .returned (.int .i64 s.turned) ∧ w = w' := by
  obtain ⟨c0, c1, c2, c3, c4, c5⟩ := hF.row.c6
  clear hF
  go_enter Try.func19, Try.ntmps19
  go_wp2
  go_ret
  exact ⟨rfl, rfl⟩

def FlashPost (f bb bw : Nat) (s' : FSt) (v : Value) (w : World) (e : Ending) (w' : World) : Prop :=
  e = .returned v ∧ FlashR w' f bb bw s' ∧ Only (FlashS f bb bw) w w'

theorem fcut_any (w : World) (f bb bw : Nat) (s : FSt) (n : Int) (hF : FlashR w f bb bw s) (hn : n ≤ 9223372036854775807) :
    Calls Try.prog 21 #[.pointer (some ⟨f, 0, none⟩), .int .i64 n] w (FlashPost f bb bw (s.cut n) (.tuple #[]) w) := by
  obtain ⟨c0, c1, c2, c3, c4, c5⟩ := hF.row.c6
  have z := hF.row.z
  have H := Lib.hid hF; clear hF
  have fin : ∀ m, max n (-1) = m → FlashPost f bb bw (s.cut n) (.tuple #[]) w (.returned (.tuple #[])) (w.setCell ⟨f, 4, none⟩ (.int .i64 m)) := by
    intro m hm
    have hF := H.out
    refine ⟨rfl, ⟨?_, hF.bytes.other _ _ (fun e => hF.n1 e.symm), hF.wear.other _ _ (fun e => hF.n2 e.symm), hF.n1, hF.n2, hF.n3, FSt.cut_ok hF.ok n hn⟩, (Only.refl _ _).set f 4 _ (FlashS.f ..)⟩
    have := hF.row.set 4 (.int .i64 m); unfold FSt.cut; rw [hm]; simpa using this
  go_enter Try.func21, Try.ntmps21
  go_wp2
  all_goals go_end0
  all_goals exact fin _ (by omega)

theorem frestore_any (w : World) (f bb bw : Nat) (s : FSt) (hF : FlashR w f bb bw s) :
    Calls Try.prog 26 #[.pointer (some ⟨f, 0, none⟩)] w (FlashPost f bb bw s.restore (.tuple #[]) w) := by
  obtain ⟨c0, c1, c2, c3, c4, c5⟩ := hF.row.c6
  have z := hF.row.z
  have H := Lib.hid hF; clear hF
  go_enter Try.func26, Try.ntmps26
  go_wp2
  go_end0
  have hF := H.out
  refine ⟨rfl, ⟨?_, (hF.bytes.other _ _ (fun e => hF.n1 e.symm)).other _ _ (fun e => hF.n1 e.symm), (hF.wear.other _ _ (fun e => hF.n2 e.symm)).other _ _ (fun e => hF.n2 e.symm), hF.n1, hF.n2, hF.n3, FSt.restore_ok hF.ok⟩, ((Only.refl _ _).set f 4 _ (FlashS.f ..)).set f 5 _ (FlashS.f ..)⟩
  have := (hF.row.set 4 (.int .i64 (-1))).set 5 (.bool false); unfold FSt.restore; simpa using this

set_option maxHeartbeats 400000 in
theorem fwithin_any (w : World) (f bb bw : Nat) (s : FSt) (i n : Int) (hF : FlashR w f bb bw s) :
    Calls Try.prog 81 #[.pointer (some ⟨f, 0, none⟩), .int .i64 i, .int .i64 n] w fun e w' => e = .returned (.bool (s.within i n)) ∧ w = w' := by
  obtain ⟨c0, c1, c2, c3, c4, c5⟩ := hF.row.c6
  have hsm := hF.ok.small
  clear hF
  have fin : ∀ b : Bool, (b = true ↔ (0 ≤ i ∧ 0 ≤ n ∧ i ≤ s.b.length ∧ n ≤ s.b.length - i)) → Ending.returned (.bool b) = .returned (.bool (s.within i n)) := by
    intro b hb
    have : b = s.within i n := by unfold FSt.within; rw [Bool.eq_iff_iff, hb]; simp
    rw [this]
  by_cases h1 : 0 ≤ i
  · by_cases h2 : 0 ≤ n
    · by_cases h3 : i ≤ s.b.length
      · by_cases h4 : n ≤ s.b.length - i
        · go_enter Try.func81, Try.ntmps81
          go_wp2
          go_ret
          exact ⟨fin _ (by simp; omega), rfl⟩
        · go_enter Try.func81, Try.ntmps81
          go_wp2
          go_ret
          exact ⟨fin _ (by simp; omega), rfl⟩
      · go_enter Try.func81, Try.ntmps81
        go_wp2
        go_ret
        exact ⟨fin _ (by simp; omega), rfl⟩
    · go_enter Try.func81, Try.ntmps81
      go_wp2
      go_ret
      exact ⟨fin _ (by simp; omega), rfl⟩
  · go_enter Try.func81, Try.ntmps81
    go_wp2
    go_ret
    exact ⟨fin _ (by simp; omega), rfl⟩

set_option maxHeartbeats 400000 in
theorem fimage_any (w : World) (f bb bw : Nat) (s : FSt) (hF : FlashR w f bb bw s) :
    Calls Try.prog 28 #[.pointer (some ⟨f, 0, none⟩)] w (ClonePost (some ⟨bb, 0, none⟩) s.b w) := by
  obtain ⟨c0, c1, c2, c3, c4, c5⟩ := hF.row.c6
  have hsm := hF.ok.small
  have hR := hF.bytes.rdB
  have H := Lib.hid hR; clear hF hR
  go_enter Try.func28, Try.ntmps28
  go_wp2_with (go_at_call 36; refine (clone_any _ _ _ _ s.b rfl H.out (by simp) (by omega)).mono ?_; rintro e w' ⟨v, rfl, h1, h2, h3⟩)
  go_ret
  exact ⟨v, rfl, h1, h2, h3⟩

end Go.Proofs.Ytdnpmkejondpoaa

/- The flash: would a bit have to be set? -/
namespace Go.Proofs.Ytdnpmkejondpoaa
open Go.RowKit
set_option linter.unusedVariables false
set_option linter.unusedSimpArgs false

theorem ret_bool {a b : Bool} (h : a = b) : Ending.returned (.bool a) = .returned (.bool b) := by rw [h]
theorem ret_int {k : IntKind} {a b : Int} (h : a = b) : Ending.returned (.int k a) = .returned (.int k b) := by rw [h]
theorem andNot_u8 (x y : UInt8) : bits BinOp.andNot IntKind.u8 (x.toNat : Int) (y.toNat : Int) = ((x &&& ~~~y).toNat : Int) := by
  have := x.toNat_lt; have := y.toNat_lt
  rw [u8_andNot_nat _ _ (by omega) (by omega)]
  simp [UInt8.toNat_and, UInt8.toNat_not, UInt8.size]
theorem bne_zero_u8 (x : UInt8) : ((x.toNat : Int) != 0) = !(x == 0) := by
  rw [Bool.eq_iff_iff]
  simp [← UInt8.toNat_inj]
theorem clearsB_step (b : List UInt8) (i : Nat) (l : List UInt8) (k : Nat) (hk : k < l.length) :
    clearsB b i (l.drop k) = ((l.getD k 0 &&& ~~~ (b.getD i 0) == 0) && clearsB b (i + 1) (l.drop (k + 1))) := by
  rw [List.drop_eq_getElem_cons hk]
  simp [clearsB, hk]

set_option maxHeartbeats 400000 in
theorem clears_nat (w : World) (f bb bw : Nat) (s : FSt) (i n c g o : Nat) (l : List UInt8) (hF : FlashR w f bb bw s) (hn : l.length = n) (hi : i + n ≤ s.b.length)
    (hR : ∀ j, j < l.length → w.cell? ⟨g, o + j, none⟩ = some (.int .u8 ((l.getD j 0).toNat : Int))) :
    Calls Try.prog 82 #[.pointer (some ⟨f, 0, none⟩), .int .i64 (i : Int), .slice (some ⟨g, o, none⟩) n c] w fun e w' => e = .returned (.bool (clearsB s.b i l)) ∧ w = w' := by
  obtain ⟨c0, c1, c2, c3, c4, c5⟩ := hF.row.c6
  have hsm := hF.ok.small
  have cb := fun k h => hF.bytes.byte k h
  have HR := Lib.hid hR; have HB := Lib.hid cb; have HN := Lib.hid hn
  clear hF hR cb hn
  go_enter Try.func82, Try.ntmps82
  go_wp2
  go_loop [11] (fun t => ∃ k : Nat, k ≤ n ∧ t = .int .i64 k ∧ clearsB s.b i l = clearsB s.b (i + k) (l.drop k)) (fun t => n - (intOf t).toNat)
  case atStart => exact ⟨0, Nat.zero_le _, rfl, by simp⟩
  case round =>
    obtain ⟨k, hk, rfl, hrel⟩ := hrel
    have HL := Lib.hid hrel; clear hrel
    by_cases hlt : k < n
    · have c1 := HR.out k (by rw [HN.out]; exact hlt)
      have c2 := HB.out (i + k) (by omega)
      have r1 := u8_range (l.getD k 0)
      have r2 := u8_range (s.b.getD (i + k) 0)
      have hs := clearsB_step s.b (i + k) l k (by rw [HN.out]; exact hlt)
      have HS := Lib.hid hs; clear hs
      go_wp2
      · go_ret
        have hw : (bits BinOp.andNot IntKind.u8 ((l.getD k 0).toNat : Int) ((s.b.getD (i + k) 0).toNat : Int) != 0) = true := by assumption
        refine ⟨ret_bool ?_, rfl⟩
        rw [andNot_u8, bne_zero_u8] at hw
        rw [HL.out, HS.out]
        simp only [Bool.not_eq_true'] at hw
        rw [hw, Bool.false_and]
      · have hw : (bits BinOp.andNot IntKind.u8 ((l.getD k 0).toNat : Int) ((s.b.getD (i + k) 0).toNat : Int) != 0) = false := by assumption
        go_round
        case rel =>
          refine ⟨k + 1, by omega, by go_num, ?_⟩
          rw [HL.out, HS.out]
          rw [andNot_u8, bne_zero_u8] at hw
          simp only [Bool.not_eq_false'] at hw
          rw [hw, Bool.true_and, Nat.add_assoc]
        case measure => simp [intOf]; omega
    · go_wp2
      go_ret
      have hk' : l.drop k = [] := List.drop_of_length_le (by rw [HN.out]; omega)
      exact ⟨ret_bool (by rw [HL.out, hk']; rfl), rfl⟩

/-- for whatever slice that reads as these bytes -/
theorem clears_any (w : World) (f bb bw : Nat) (s : FSt) (i : Int) (a : Option Addr) (n c : Nat) (l : List UInt8) (hF : FlashR w f bb bw s) (hn : l.length = n) (h0 : 0 ≤ i) (hi : i + n ≤ s.b.length) (hR : RdB w a l) :
    Calls Try.prog 82 #[.pointer (some ⟨f, 0, none⟩), .int .i64 i, .slice a n c] w fun e w' => e = .returned (.bool (clearsB s.b i.toNat l)) ∧ w = w' := by
  obtain ⟨k, rfl⟩ := Int.eq_ofNat_of_zero_le h0
  by_cases hl : l = []
  · subst hl
    simp only [List.length_nil] at hn
    subst hn
    clear hF hi hR h0
    go_enter Try.func82, Try.ntmps82
    go_wp2
    refine wp_loop_rounds 1 ?_
    rw [rounds_succ]
    go_wp2
    go_ret
    exact ⟨rfl, rfl⟩
  · obtain ⟨g, o, rfl, hc⟩ := hR.at_ (List.length_pos_iff.2 hl)
    exact clears_nat w f bb bw s k n c g o l hF hn (by omega) hc

end Go.Proofs.Ytdnpmkejondpoaa
