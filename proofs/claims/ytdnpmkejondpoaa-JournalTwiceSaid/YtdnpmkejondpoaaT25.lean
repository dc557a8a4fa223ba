/- Parts of a proof, joined: TwiceP. -/
import Derived.Test.YtdnpmkejondpoaaT23

/- What is opened twice is the same as once: the plain law. -/
namespace Go.Proofs.Ytdnpmkejondpoaa
open Go.RowKit Go.Maps
set_option linter.unusedVariables false
set_option linter.unusedSimpArgs false

theorem heads_no {E : Env} {n : Nat} {s : FSt} (h2 : Two E n s) (hf : (headsF (E.bytes s 0 n) (E.bytes s 1 n) 0 0).found = false) : ((E.part 1).bs s).getD 0 0 ≠ 0 := by
  rw [h2.bytes, h2.bytes] at hf
  unfold headsF at hf
  intro c
  by_cases c0 : ((E.part 0).bs s).getD 0 0 = 0
  · rw [headsStep_yes (b := (E.part 0).bs s) c0 (.inl rfl)] at hf
    unfold headsStep at hf
    split at hf <;> cases hf
  · rw [headsStep_no (b := (E.part 0).bs s) (fun k => c0 k.1), headsStep_yes (b := (E.part 1).bs s) c (.inl rfl)] at hf
    cases hf

/-- a new flash, opened -/
theorem open_none {E : Env} {n : Nat} {s : FSt} (h2 : Two E n s) (hd : s.down = false) (hl : s.left < 0) (hf : (headsF (E.bytes s 0 n) (E.bytes s 1 n) 0 0).found = false) :
    ∃ s', E.open' n s = (0, ⟨s', 0, 1, 8, []⟩) ∧ s'.down = false ∧ s'.left < 0 ∧ Holds E n s' 0 1 [] 8 ∧ Clean E s' 0 8 := by
  have h32 := h2.n32
  unfold Env.open'
  rw [if_neg (by rw [hd]; decide), if_neg (by omega), if_pos hf]
  rcases move_state h2 (now := 1) (epoch := 0) (fin := 0) (om := []) (m := []) (by omega) hd VOk.nil (by show 8 ≤ n; omega) (by omega) (.inl (heads_no h2 hf)) with ⟨_, s', k1, k2, k3, k4, k5⟩ | ⟨k, _⟩
  · exact ⟨s', k1, k2, k3 hl, k4, k5⟩
  · omega

theorem open_twice {E : Env} {n : Nat} {s : FSt} (h2 : Two E n s) (hd : s.down = false) (hl : s.left < 0) : E.open' n (E.open' n s).2.s = E.open' n s := by
  have h32 := h2.n32
  by_cases hf : (headsF (E.bytes s 0 n) (E.bytes s 1 n) 0 0).found = false
  · obtain ⟨s', e, k2, k3, k4, k5⟩ := open_none h2 hd hl hf
    rw [e]
    exact k4.open_clean k5 k2
  · obtain ⟨now, epoch, hh, h1, hm, he⟩ := heads_state h2 (by simpa using hf)
    have hu : E.open' n s = match replayB ((E.part now).bs s) with
        | none => (40, ⟨s, 0, 0, 0, []⟩)
        | some (m, i) => if tornB ((E.part now).bs s) i = true then E.move n ⟨s, now, epoch, i, m⟩ m else (0, ⟨s, now, epoch, i, m⟩) := by
      unfold Env.open'
      rw [if_neg (by rw [hd]; decide), if_neg (by omega), hh, if_neg (by simp)]
      simp only []
      rw [h2.bytes]
      cases replayB ((E.part now).bs s) <;> rfl
    have hstay : (E.open' n s).2.s = s → E.open' n (E.open' n s).2.s = E.open' n s := fun h => by rw [h]
    cases hr : replayB ((E.part now).bs s) with
    | none => rw [hr] at hu; apply hstay; rw [hu]
    | some q =>
      obtain ⟨m, i⟩ := q
      rw [hr] at hu
      simp only [] at hu
      by_cases ht : tornB ((E.part now).bs s) i = true
      · rw [if_pos ht] at hu
        obtain ⟨v1, v2, v3⟩ := replayB_ok hr
        by_cases c1 : n < needV m
        · apply hstay; rw [hu]; unfold Env.move; rw [if_pos c1]
        · by_cases c2 : epoch = 4294967295
          · apply hstay; rw [hu]; unfold Env.move; rw [if_neg c1, if_pos c2]
          · have hlt := get32_lt (((E.part now).bs s).drop 1)
            rw [he] at hlt
            rcases move_state h2 (now := now) (epoch := epoch) (fin := i) (om := m) (m := m) h1 hd v1 (by omega) (by omega) (.inr he) with ⟨_, s', k1, k2, k3, k4, k5⟩ | ⟨k, _⟩
            · rw [hu, k1]; exact k4.open_clean k5 k2
            · omega
      · rw [if_neg ht] at hu; apply hstay; rw [hu]

theorem move_sector (E : Env) (n : Nat) (j : JSt) (m : Vals) : (E.move n j m).2.s.sector = j.s.sector := by
  have h := ((E.part (1 - j.now)).refill_same j.s j.epoch m).1
  unfold Env.move
  split; rfl
  split; rfl
  split; exact h; exact h
theorem open_sector (E : Env) (n : Nat) (s : FSt) : (E.open' n s).2.s.sector = s.sector := by
  unfold Env.open'
  split; rfl
  split; rfl
  split; exact move_sector _ _ _ _
  split; rfl
  split; exact move_sector _ _ _ _
  rfl

end Go.Proofs.Ytdnpmkejondpoaa
