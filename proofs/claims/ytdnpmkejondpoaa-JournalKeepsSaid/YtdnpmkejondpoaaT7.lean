/- Parts of a proof, joined: Flash1. -/
import Derived.Test.YtdnpmkejondpoaaProg
import Derived.Test.YtdnpmkejondpoaaT6

/- The flash's small calls: what each does to the flash in memory. -/
namespace Go.Proofs.Ytdnpmkejondpoaa
open Go.RowKit
set_option linter.unusedVariables false
set_option linter.unusedSimpArgs false

def TurnPost (f bb bw : Nat) (s : FSt) (i : Nat) (x : UInt8) (w : World) (e : Ending) (w' : World) : Prop :=
  e = .returned (.bool (s.turn i x).1) ∧ FlashR w' f bb bw (s.turn i x).2 ∧ Only (FlashS f bb bw) w w'

set_option maxHeartbeats 400000 in
theorem turn_cut (w : World) (f bb bw : Nat) (s : FSt) (i : Nat) (x : UInt8) (hF : FlashR w f bb bw s) (hl : s.left = 0) :
    Calls Try.prog 79 #[.pointer (some ⟨f, 0, none⟩), .int .i64 (i : Int), .int .u8 (x.toNat : Int)] w (TurnPost f bb bw s i x w) := by
  obtain ⟨c0, c1, c2, c3, c4, c5⟩ := hF.row.c6
  have z := hF.row.z
  rw [hl] at c4
  have H := Lib.hid hF; have HL := Lib.hid hl; clear hF hl
  go_enter Try.func79, Try.ntmps79
  go_wp2
  go_ret
  have hF := H.out; have hl := HL.out
  have e1 : s.turn i x = (false, { s with down := true }) := by unfold FSt.turn; rw [if_pos hl]
  unfold TurnPost
  rw [e1]
  refine ⟨rfl, ⟨?_, hF.bytes.other _ _ (fun e => hF.n1 e.symm), hF.wear.other _ _ (fun e => hF.n2 e.symm), hF.n1, hF.n2, hF.n3, ?_⟩, (Only.refl _ _).set f 5 _ (FlashS.f ..)⟩
  · have := hF.row.set 5 (.bool true); rw [hl] at this ⊢; exact this
  · have := FSt.turn_ok hF.ok i x; rw [e1] at this; exact this

set_option maxHeartbeats 800000 in
theorem turn_go (w : World) (f bb bw : Nat) (s : FSt) (i : Nat) (x : UInt8) (hF : FlashR w f bb bw s) (hi : i < s.b.length) (hl : s.left ≠ 0) :
    Calls Try.prog 79 #[.pointer (some ⟨f, 0, none⟩), .int .i64 (i : Int), .int .u8 (x.toNat : Int)] w (TurnPost f bb bw s i x w) := by
  have hsm := hF.ok.small
  have e1 : s.turn i x = (true, { s with b := s.b.set i x, turned := min (s.turned + 1) 1073741824, left := if 0 < s.left then s.left - 1 else s.left }) := by unfold FSt.turn; rw [if_neg hl]
  obtain ⟨c0, c1, c2, c3, c4, c5⟩ := hF.row.c6
  have z := hF.row.z
  have zb := hF.bytes.z
  have n1 := hF.n1; have n1' := hF.n1.symm
  have cb := hF.bytes.byte i hi
  have l0 := hF.ok.l0; have l1 := hF.ok.l1; have t0 := hF.ok.t0; have t1 := hF.ok.t1
  have hl' : (s.left == 0) = false := by simpa using hl
  have H := Lib.hid hF; have HL := Lib.hid e1; clear hF hl e1
  have fin : ∀ (t l : Int) (w' : World), min (s.turned + 1) 1073741824 = t → (if 0 < s.left then s.left - 1 else s.left) = l →
      (∀ w1 : World, (w1 = w ∨ w1 = w.setCell ⟨f, 4, none⟩ (.int .i64 l)) → (s.left = l ∨ w1 = w.setCell ⟨f, 4, none⟩ (.int .i64 l)) → w' = (w1.setCell ⟨bb, i, none⟩ (.int .u8 (x.toNat : Int))).setCell ⟨f, 3, none⟩ (.int .i64 t) → TurnPost f bb bw s i x w (.returned (.bool true)) w') := by
    intro t l w' ht hl w1 h1 h2 h3
    have hF := H.out
    unfold TurnPost
    rw [HL.out, ht, hl]
    have hrow : Row w1 f #[.slice (some ⟨bb, 0, none⟩) s.b.length s.b.length, .int .i64 s.sector, .slice (some ⟨bw, 0, none⟩) s.wear.length s.wear.length, .int .i64 s.turned, .int .i64 l, .bool s.down] := by
      rcases h2 with h2 | h2
      · rcases h1 with rfl | rfl
        · rw [← h2]; exact hF.row
        · exact hF.row.set 4 _
      · subst h2; exact hF.row.set 4 _
    have hby : RowB w1 bb s.b := by rcases h1 with rfl | rfl; exact hF.bytes; exact hF.bytes.other _ _ n1'
    have hwe : Row w1 bw (ivs s.wear) := by rcases h1 with rfl | rfl; exact hF.wear; exact hF.wear.other _ _ (fun e => hF.n2 e.symm)
    have hon : Only (FlashS f bb bw) w w1 := by rcases h1 with rfl | rfl; exact Only.refl _ _; exact (Only.refl _ _).set _ _ _ (FlashS.f ..)
    subst h3
    refine ⟨rfl, ⟨?_, ?_, ?_, hF.n1, hF.n2, hF.n3, ?_⟩, (hon.set bb i _ (FlashS.bb ..)).set f 3 _ (FlashS.f ..)⟩
    · have := (hrow.other ⟨bb, i, none⟩ (.int .u8 (x.toNat : Int)) hF.n1).set 3 (.int .i64 t)
      simpa using this
    · have := (hby.set i x hi).other ⟨f, 3, none⟩ (.int .i64 t) (fun e => hF.n1 e.symm)
      exact this
    · exact (hwe.other _ _ (fun e => hF.n3 e.symm)).other _ _ (fun e => hF.n2 e.symm)
    · have := FSt.turn_ok hF.ok i x; rw [HL.out, ht, hl] at this; exact this
  go_enter Try.func79, Try.ntmps79
  go_wp2
  all_goals go_ret
  · exact fin _ _ _ (by omega) (by rw [if_pos (by assumption)]) _ (.inr rfl) (.inr rfl) rfl
  · exact fin _ _ _ (by omega) (by rw [if_pos (by assumption)]) _ (.inr rfl) (.inr rfl) rfl
  · exact fin _ _ _ (by omega) (by rw [if_neg (by omega)]) _ (.inl rfl) (.inl rfl) rfl
  · exact fin _ _ _ (by omega) (by rw [if_neg (by omega)]) _ (.inl rfl) (.inl rfl) rfl

theorem turn_any (w : World) (f bb bw : Nat) (s : FSt) (i : Nat) (x : UInt8) (hF : FlashR w f bb bw s) (hi : i < s.b.length) :
    Calls Try.prog 79 #[.pointer (some ⟨f, 0, none⟩), .int .i64 (i : Int), .int .u8 (x.toNat : Int)] w (TurnPost f bb bw s i x w) := by
  by_cases hl : s.left = 0
  · exact turn_cut w f bb bw s i x hF hl
  · exact turn_go w f bb bw s i x hF hi hl

end Go.Proofs.Ytdnpmkejondpoaa
