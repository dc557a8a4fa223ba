/- Parts of a proof, joined: TwiceP, MovesP, KeepsP. -/
import Derived.Test.YtdnpmkejondpoaaT23

/- What is opened twice is the same as once: the plain law. -/
namespace Go.Proofs.Ytdnpmkejondpoaa
open Go.RowKit Go.Maps
set_option linter.unusedVariables false
set_option linter.unusedSimpArgs false

theorem heads_no {E : Env} {n : Nat} {s : FSt} (h2 : Two E n s) (hf : (headsF (E.bytes s 0 n) (E.bytes s 1 n) 0 0).found = false) : ((E.part 1).bs s).getD 0 0 ≠ 0 := by
  rw [h2.bytes, h2.bytes] at hf
  unfold headsF at hf
  intro c
  by_cases c0 : ((E.part 0).bs s).getD 0 0 = 0
  · rw [headsStep_yes (b := (E.part 0).bs s) c0 (.inl rfl)] at hf
    unfold headsStep at hf
    split at hf <;> cases hf
  · rw [headsStep_no (b := (E.part 0).bs s) (fun k => c0 k.1), headsStep_yes (b := (E.part 1).bs s) c (.inl rfl)] at hf
    cases hf

/-- a new flash, opened -/
theorem open_none {E : Env} {n : Nat} {s : FSt} (h2 : Two E n s) (hd : s.down = false) (hl : s.left < 0) (hf : (headsF (E.bytes s 0 n) (E.bytes s 1 n) 0 0).found = false) :
    ∃ s', E.open' n s = (0, ⟨s', 0, 1, 8, []⟩) ∧ s'.down = false ∧ s'.left < 0 ∧ Holds E n s' 0 1 [] 8 ∧ Clean E s' 0 8 := by
  have h32 := h2.n32
  unfold Env.open'
  rw [if_neg (by rw [hd]; decide), if_neg (by omega), if_pos hf]
  rcases move_state h2 (now := 1) (epoch := 0) (fin := 0) (om := []) (m := []) (by omega) hd VOk.nil (by show 8 ≤ n; omega) (by omega) (.inl (heads_no h2 hf)) with ⟨_, s', k1, k2, k3, k4, k5⟩ | ⟨k, _⟩
  · exact ⟨s', k1, k2, k3 hl, k4, k5⟩
  · omega

theorem open_twice {E : Env} {n : Nat} {s : FSt} (h2 : Two E n s) (hd : s.down = false) (hl : s.left < 0) : E.open' n (E.open' n s).2.s = E.open' n s := by
  have h32 := h2.n32
  by_cases hf : (headsF (E.bytes s 0 n) (E.bytes s 1 n) 0 0).found = false
  · obtain ⟨s', e, k2, k3, k4, k5⟩ := open_none h2 hd hl hf
    rw [e]
    exact k4.open_clean k5 k2
  · obtain ⟨now, epoch, hh, h1, hm, he⟩ := heads_state h2 (by simpa using hf)
    have hu : E.open' n s = match replayB ((E.part now).bs s) with
        | none => (40, ⟨s, 0, 0, 0, []⟩)
        | some (m, i) => if tornB ((E.part now).bs s) i = true then E.move n ⟨s, now, epoch, i, m⟩ m else (0, ⟨s, now, epoch, i, m⟩) := by
      unfold Env.open'
      rw [if_neg (by rw [hd]; decide), if_neg (by omega), hh, if_neg (by simp)]
      simp only []
      rw [h2.bytes]
      cases replayB ((E.part now).bs s) <;> rfl
    have hstay : (E.open' n s).2.s = s → E.open' n (E.open' n s).2.s = E.open' n s := fun h => by rw [h]
    cases hr : replayB ((E.part now).bs s) with
    | none => rw [hr] at hu; apply hstay; rw [hu]
    | some q =>
      obtain ⟨m, i⟩ := q
      rw [hr] at hu
      simp only [] at hu
      by_cases ht : tornB ((E.part now).bs s) i = true
      · rw [if_pos ht] at hu
        obtain ⟨v1, v2, v3⟩ := replayB_ok hr
        by_cases c1 : n < needV m
        · apply hstay; rw [hu]; unfold Env.move; rw [if_pos c1]
        · by_cases c2 : epoch = 4294967295
          · apply hstay; rw [hu]; unfold Env.move; rw [if_neg c1, if_pos c2]
          · have hlt := get32_lt (((E.part now).bs s).drop 1)
            rw [he] at hlt
            rcases move_state h2 (now := now) (epoch := epoch) (fin := i) (om := m) (m := m) h1 hd v1 (by omega) (by omega) (.inr he) with ⟨_, s', k1, k2, k3, k4, k5⟩ | ⟨k, _⟩
            · rw [hu, k1]; exact k4.open_clean k5 k2
            · omega
      · rw [if_neg ht] at hu; apply hstay; rw [hu]

theorem move_sector (E : Env) (n : Nat) (j : JSt) (m : Vals) : (E.move n j m).2.s.sector = j.s.sector := by
  have h := ((E.part (1 - j.now)).refill_same j.s j.epoch m).1
  unfold Env.move
  split; rfl
  split; rfl
  split; exact h; exact h
theorem open_sector (E : Env) (n : Nat) (s : FSt) : (E.open' n s).2.s.sector = s.sector := by
  unfold Env.open'
  split; rfl
  split; rfl
  split; exact move_sector _ _ _ _
  split; rfl
  split; exact move_sector _ _ _ _
  rfl

end Go.Proofs.Ytdnpmkejondpoaa

/- The epoch rises just when a record does not fit behind the others: the plain law of one Put. -/
namespace Go.Proofs.Ytdnpmkejondpoaa
open Go.RowKit Go.Maps
set_option linter.unusedVariables false
set_option linter.unusedSimpArgs false

/-- a Put with power -/
inductive PutWent (n : Nat) (j : JSt) (k : Int) (l : List UInt8) : Int × JSt → Prop
  | no {c : Int} (h : c ≠ 0) (hc : (c = 6 ∧ n < needV (kput j.m k l)) ∨ (c = 1 ∧ (k < 0 ∨ 32 ≤ k)) ∨ (c = 2 ∧ 250 < l.length)) : PutWent n j k l (c, j)
  | same (h : kget j.m k = some l) : PutWent n j k l (0, j)
  | fits {j' : JSt} (h : kget j.m k ≠ some l) (hm : j'.m = kput j.m k l) (hn : needV (kput j.m k l) ≤ n) (hr : j.fin + (7 + l.length) ≤ n) (hf : j'.fin = j.fin + (7 + l.length)) (he : j'.epoch = j.epoch) (hl : l.length ≤ 250) : PutWent n j k l (0, j')
  | moved {j' : JSt} (h : kget j.m k ≠ some l) (hm : j'.m = kput j.m k l) (hn : needV (kput j.m k l) ≤ n) (hr : n < j.fin + (7 + l.length)) (hf : j'.fin = needV (kput j.m k l)) (he : j'.epoch = j.epoch + 1) (hl : l.length ≤ 250) : PutWent n j k l (0, j')

theorem put_went {E : Env} {n : Nat} {j : JSt} (h : JGood E n j) (hlt : j.s.left < 0) (k : Int) (l : List UInt8) (he : j.epoch < 4294967295) :
    PutWent n j k l (E.put n j k l) ∧ JGood E n (E.put n j k l).2 ∧ (E.put n j k l).2.s.left < 0 ∧ (E.put n j k l).2.epoch ≤ j.epoch + 1 := by
  rcases put_state h k l he with ⟨c, e⟩ | ⟨c1, c2, c3, e⟩ | ⟨c1, c2, c3, c4, e⟩ | ⟨c1, c2, c3, c4, q⟩
  · rw [e]; exact ⟨.no (by decide) (.inr (.inl ⟨rfl, c⟩)), h, hlt, Nat.le_succ _⟩
  · rw [e]; exact ⟨.no (by decide) (.inr (.inr ⟨rfl, c3⟩)), h, hlt, Nat.le_succ _⟩
  · rw [e]; exact ⟨.same c4, h, hlt, Nat.le_succ _⟩
  · rcases q with ⟨c5, e⟩ | ⟨c5, j', e, g, hm, hl, q⟩ | ⟨_, c5, _⟩
    · rw [e]; exact ⟨.no (by decide) (.inl ⟨rfl, c5⟩), h, hlt, Nat.le_succ _⟩
    · rw [e]
      rcases q with ⟨q1, q2, q3⟩ | ⟨q1, q2, q3⟩
      · exact ⟨.fits c4 hm c5 q1 q2 q3 c3, g, hl hlt, by show j'.epoch ≤ j.epoch + 1; omega⟩
      · exact ⟨.moved c4 hm c5 q1 q2 q3 c3, g, hl hlt, by show j'.epoch ≤ j.epoch + 1; omega⟩
    · omega

/-- a new flash is opened -/
theorem open_fresh {n : Nat} {z : Int} (h2 : Two EA n (FSt.fresh (clampN 4) (clampZ z))) :
    ∃ j, EA.open' n (FSt.fresh (clampN 4) (clampZ z)) = (0, j) ∧ JGood EA n j ∧ j.s.left < 0 ∧ j.epoch = 1 ∧ j.m = [] ∧ j.fin = 8 := by
  have hf : (headsF (EA.bytes (FSt.fresh (clampN 4) (clampZ z)) 0 n) (EA.bytes (FSt.fresh (clampN 4) (clampZ z)) 1 n) 0 0).found = false := by
    have hz : ∀ i, ((EA.part i).bs (FSt.fresh (clampN 4) (clampZ z))).getD 0 0 = 255 := fun i => by
      have hl := h2.blen i
      have h32 := h2.n32
      have hmem : ((EA.part i).bs (FSt.fresh (clampN 4) (clampZ z)))[0]'(by omega) ∈ List.replicate (clampN 4 * clampZ z).toNat (255 : UInt8) := by
        have h1 := List.getElem_mem (l := (EA.part i).bs (FSt.fresh (clampN 4) (clampZ z))) (n := 0) (by omega)
        unfold PSt.bs at h1
        exact List.mem_of_mem_drop (List.mem_of_mem_take h1)
      rw [List.getD_eq_getElem?_getD, List.getElem?_eq_getElem (by omega)]
      exact (List.mem_replicate.1 hmem).2
    rw [h2.bytes, h2.bytes]
    unfold headsF
    rw [headsStep_no (b := (EA.part 0).bs _) (fun k => by rw [hz 0] at k; exact absurd k.1 (by decide)), headsStep_no (b := (EA.part 1).bs _) (fun k => by rw [hz 1] at k; exact absurd k.1 (by decide))]
  obtain ⟨s', e, k1, k2, k3, k4⟩ := open_none h2 rfl (by show (-1 : Int) < 0; omega) hf
  exact ⟨_, e, ⟨k3, k4, k1⟩, k2, rfl, rfl, rfl⟩

end Go.Proofs.Ytdnpmkejondpoaa

/- Behind a loss of power the journal has what was put: the plain law of one step. -/
namespace Go.Proofs.Ytdnpmkejondpoaa
open Go.RowKit Go.Maps
set_option linter.unusedVariables false
set_option linter.unusedSimpArgs false

/-- what a step did: nothing; all; the power went -/
inductive Went (N : Nat) (j : JSt) (m' : Vals) : Int × JSt → Prop
  | no {c : Int} (h0 : c ≠ 0) (h1 : c ≠ 30) : Went N j m' (c, j)
  | ok {j' : JSt} (g : JGood EA N j') (hm : j'.m = m') (he : j'.epoch ≤ j.epoch + 1) : Went N j m' (0, j')
  | cut {j' : JSt} (h : Holds EA N j'.s j.now j.epoch j.m j.fin) : Went N j m' (30, j')

theorem kput_same {m : Vals} (hr : rising m) {k : Int} {l : List UInt8} (h : kget m k = some l) : kput m k l = m := by
  have hm := kget_some h
  clear h
  induction m with
  | nil => simp at hm
  | cons p r ih =>
    obtain ⟨h1, h2⟩ := List.pairwise_cons.1 hr
    unfold kput
    rcases List.mem_cons.1 hm with rfl | hm
    · rw [if_neg (by show ¬ k < k; omega), if_pos rfl]
    · have := h1 _ hm
      simp only at this
      rw [if_neg (by omega), if_neg (by omega), ih h2 hm]
theorem put_k {N : Nat} {j : JSt} (h : JGood EA N j) (he : j.epoch < 4294967295) (k : Int) (l : List UInt8) : Went N j (kput j.m k l) (EA.put N j k l) := by
  rcases put_state h k l he with ⟨_, e⟩ | ⟨_, _, _, e⟩ | ⟨_, _, _, c4, e⟩ | ⟨_, _, _, _, q⟩
  · rw [e]; exact .no (by decide) (by decide)
  · rw [e]; exact .no (by decide) (by decide)
  · rw [e]; exact .ok h (kput_same h.holds.fin_le.1.up c4).symm (by omega)
  · rcases q with ⟨_, e⟩ | ⟨_, j', e, g, hm, _, q⟩ | ⟨_, _, j', e, _, g⟩
    · rw [e]; exact .no (by decide) (by decide)
    · rw [e]; exact .ok g hm (by omega)
    · rw [e]; exact .cut g
theorem drop_k {N : Nat} {j : JSt} (h : JGood EA N j) (he : j.epoch < 4294967295) (k : Int) : Went N j (kdel j.m k) (EA.drop N j k) := by
  rcases drop_state h k he with ⟨_, e⟩ | ⟨_, _, _, e⟩ | ⟨_, _, q⟩
  · rw [e]; exact .no (by decide) (by decide)
  · rw [e]; exact .no (by decide) (by decide)
  · rcases q with ⟨_, e⟩ | ⟨_, j', e, g, hm, _, q⟩ | ⟨_, _, j', e, _, g⟩
    · rw [e]; exact .no (by decide) (by decide)
    · rw [e]; exact .ok g hm q
    · rw [e]; exact .cut g

/-- the same bytes hold the same -/
theorem Holds.bits {E : Env} {n : Nat} {s s' : FSt} {now epoch : Nat} {m : Vals} {fin : Nat} (h : Holds E n s now epoch m fin) (ok : s'.ok) (h1 : s'.b = s.b) (h2 : s'.sector = s.sector) (h3 : s'.wear = s.wear) : Holds E n s' now epoch m fin := by
  have hb : ∀ i, (E.part i).bs s' = (E.part i).bs s := fun i => by
    unfold PSt.bs PSt.base PSt.size; rw [h1, h2]
  exact ⟨h.two.of ok h2 (by rw [h3]), h.one, by rw [hb]; exact h.mark, by rw [hb]; exact h.ep, by rw [hb]; exact h.other, by rw [hb]; exact h.recs⟩
theorem Clean.bits {E : Env} {s s' : FSt} {now fin : Nat} (h : Clean E s now fin) (h1 : s'.b = s.b) (h2 : s'.sector = s.sector) : Clean E s' now fin := by
  have hb : ∀ i, (E.part i).bs s' = (E.part i).bs s := fun i => by
    unfold PSt.bs PSt.base PSt.size; rw [h1, h2]
  unfold Clean; rw [hb]; exact h
theorem JGood.cut {N : Nat} {j : JSt} (h : JGood EA N j) (c : Int) (hc : c ≤ 9223372036854775807) : JGood EA N { j with s := j.s.cut c } :=
  ⟨h.holds.bits (FSt.cut_ok h.holds.two.ok c hc) rfl rfl rfl, h.clean.bits rfl rfl, h.up⟩
theorem Holds.restore {N : Nat} {s : FSt} {now epoch : Nat} {m : Vals} {fin : Nat} (h : Holds EA N s now epoch m fin) : Holds EA N s.restore now epoch m fin := h.bits (FSt.restore_ok h.two.ok) rfl rfl rfl
theorem Holds.cut {N : Nat} {s : FSt} {now epoch : Nat} {m : Vals} {fin : Nat} (h : Holds EA N s now epoch m fin) (c : Int) (hc : c ≤ 9223372036854775807) : Holds EA N (s.cut c) now epoch m fin := h.bits (FSt.cut_ok h.two.ok c hc) rfl rfl rfl

end Go.Proofs.Ytdnpmkejondpoaa
