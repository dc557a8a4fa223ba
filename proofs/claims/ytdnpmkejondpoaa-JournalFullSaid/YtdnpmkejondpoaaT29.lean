/- Parts of a proof, joined: TwiceP, MovesP, FullP. -/
import Derived.Test.YtdnpmkejondpoaaT23

/- What is opened twice is the same as once: the plain law. -/
namespace Go.Proofs.Ytdnpmkejondpoaa
open Go.RowKit Go.Maps
set_option linter.unusedVariables false
set_option linter.unusedSimpArgs false

theorem heads_no {E : Env} {n : Nat} {s : FSt} (h2 : Two E n s) (hf : (headsF (E.bytes s 0 n) (E.bytes s 1 n) 0 0).found = false) : ((E.part 1).bs s).getD 0 0 ≠ 0 := by
  rw [h2.bytes, h2.bytes] at hf
  unfold headsF at hf
  intro c
  by_cases c0 : ((E.part 0).bs s).getD 0 0 = 0
  · rw [headsStep_yes (b := (E.part 0).bs s) c0 (.inl rfl)] at hf
    unfold headsStep at hf
    split at hf <;> cases hf
  · rw [headsStep_no (b := (E.part 0).bs s) (fun k => c0 k.1), headsStep_yes (b := (E.part 1).bs s) c (.inl rfl)] at hf
    cases hf

/-- a new flash, opened -/
theorem open_none {E : Env} {n : Nat} {s : FSt} (h2 : Two E n s) (hd : s.down = false) (hl : s.left < 0) (hf : (headsF (E.bytes s 0 n) (E.bytes s 1 n) 0 0).found = false) :
    ∃ s', E.open' n s = (0, ⟨s', 0, 1, 8, []⟩) ∧ s'.down = false ∧ s'.left < 0 ∧ Holds E n s' 0 1 [] 8 ∧ Clean E s' 0 8 := by
  have h32 := h2.n32
  unfold Env.open'
  rw [if_neg (by rw [hd]; decide), if_neg (by omega), if_pos hf]
  rcases move_state h2 (now := 1) (epoch := 0) (fin := 0) (om := []) (m := []) (by omega) hd VOk.nil (by show 8 ≤ n; omega) (by omega) (.inl (heads_no h2 hf)) with ⟨_, s', k1, k2, k3, k4, k5⟩ | ⟨k, _⟩
  · exact ⟨s', k1, k2, k3 hl, k4, k5⟩
  · omega

theorem open_twice {E : Env} {n : Nat} {s : FSt} (h2 : Two E n s) (hd : s.down = false) (hl : s.left < 0) : E.open' n (E.open' n s).2.s = E.open' n s := by
  have h32 := h2.n32
  by_cases hf : (headsF (E.bytes s 0 n) (E.bytes s 1 n) 0 0).found = false
  · obtain ⟨s', e, k2, k3, k4, k5⟩ := open_none h2 hd hl hf
    rw [e]
    exact k4.open_clean k5 k2
  · obtain ⟨now, epoch, hh, h1, hm, he⟩ := heads_state h2 (by simpa using hf)
    have hu : E.open' n s = match replayB ((E.part now).bs s) with
        | none => (40, ⟨s, 0, 0, 0, []⟩)
        | some (m, i) => if tornB ((E.part now).bs s) i = true then E.move n ⟨s, now, epoch, i, m⟩ m else (0, ⟨s, now, epoch, i, m⟩) := by
      unfold Env.open'
      rw [if_neg (by rw [hd]; decide), if_neg (by omega), hh, if_neg (by simp)]
      simp only []
      rw [h2.bytes]
      cases replayB ((E.part now).bs s) <;> rfl
    have hstay : (E.open' n s).2.s = s → E.open' n (E.open' n s).2.s = E.open' n s := fun h => by rw [h]
    cases hr : replayB ((E.part now).bs s) with
    | none => rw [hr] at hu; apply hstay; rw [hu]
    | some q =>
      obtain ⟨m, i⟩ := q
      rw [hr] at hu
      simp only [] at hu
      by_cases ht : tornB ((E.part now).bs s) i = true
      · rw [if_pos ht] at hu
        obtain ⟨v1, v2, v3⟩ := replayB_ok hr
        by_cases c1 : n < needV m
        · apply hstay; rw [hu]; unfold Env.move; rw [if_pos c1]
        · by_cases c2 : epoch = 4294967295
          · apply hstay; rw [hu]; unfold Env.move; rw [if_neg c1, if_pos c2]
          · have hlt := get32_lt (((E.part now).bs s).drop 1)
            rw [he] at hlt
            rcases move_state h2 (now := now) (epoch := epoch) (fin := i) (om := m) (m := m) h1 hd v1 (by omega) (by omega) (.inr he) with ⟨_, s', k1, k2, k3, k4, k5⟩ | ⟨k, _⟩
            · rw [hu, k1]; exact k4.open_clean k5 k2
            · omega
      · rw [if_neg ht] at hu; apply hstay; rw [hu]

theorem move_sector (E : Env) (n : Nat) (j : JSt) (m : Vals) : (E.move n j m).2.s.sector = j.s.sector := by
  have h := ((E.part (1 - j.now)).refill_same j.s j.epoch m).1
  unfold Env.move
  split; rfl
  split; rfl
  split; exact h; exact h
theorem open_sector (E : Env) (n : Nat) (s : FSt) : (E.open' n s).2.s.sector = s.sector := by
  unfold Env.open'
  split; rfl
  split; rfl
  split; exact move_sector _ _ _ _
  split; rfl
  split; exact move_sector _ _ _ _
  rfl

end Go.Proofs.Ytdnpmkejondpoaa

/- The epoch rises just when a record does not fit behind the others: the plain law of one Put. -/
namespace Go.Proofs.Ytdnpmkejondpoaa
open Go.RowKit Go.Maps
set_option linter.unusedVariables false
set_option linter.unusedSimpArgs false

/-- a Put with power -/
inductive PutWent (n : Nat) (j : JSt) (k : Int) (l : List UInt8) : Int × JSt → Prop
  | no {c : Int} (h : c ≠ 0) (hc : (c = 6 ∧ n < needV (kput j.m k l)) ∨ (c = 1 ∧ (k < 0 ∨ 32 ≤ k)) ∨ (c = 2 ∧ 250 < l.length)) : PutWent n j k l (c, j)
  | same (h : kget j.m k = some l) : PutWent n j k l (0, j)
  | fits {j' : JSt} (h : kget j.m k ≠ some l) (hm : j'.m = kput j.m k l) (hn : needV (kput j.m k l) ≤ n) (hr : j.fin + (7 + l.length) ≤ n) (hf : j'.fin = j.fin + (7 + l.length)) (he : j'.epoch = j.epoch) (hl : l.length ≤ 250) : PutWent n j k l (0, j')
  | moved {j' : JSt} (h : kget j.m k ≠ some l) (hm : j'.m = kput j.m k l) (hn : needV (kput j.m k l) ≤ n) (hr : n < j.fin + (7 + l.length)) (hf : j'.fin = needV (kput j.m k l)) (he : j'.epoch = j.epoch + 1) (hl : l.length ≤ 250) : PutWent n j k l (0, j')

theorem put_went {E : Env} {n : Nat} {j : JSt} (h : JGood E n j) (hlt : j.s.left < 0) (k : Int) (l : List UInt8) (he : j.epoch < 4294967295) :
    PutWent n j k l (E.put n j k l) ∧ JGood E n (E.put n j k l).2 ∧ (E.put n j k l).2.s.left < 0 ∧ (E.put n j k l).2.epoch ≤ j.epoch + 1 := by
  rcases put_state h k l he with ⟨c, e⟩ | ⟨c1, c2, c3, e⟩ | ⟨c1, c2, c3, c4, e⟩ | ⟨c1, c2, c3, c4, q⟩
  · rw [e]; exact ⟨.no (by decide) (.inr (.inl ⟨rfl, c⟩)), h, hlt, Nat.le_succ _⟩
  · rw [e]; exact ⟨.no (by decide) (.inr (.inr ⟨rfl, c3⟩)), h, hlt, Nat.le_succ _⟩
  · rw [e]; exact ⟨.same c4, h, hlt, Nat.le_succ _⟩
  · rcases q with ⟨c5, e⟩ | ⟨c5, j', e, g, hm, hl, q⟩ | ⟨_, c5, _⟩
    · rw [e]; exact ⟨.no (by decide) (.inl ⟨rfl, c5⟩), h, hlt, Nat.le_succ _⟩
    · rw [e]
      rcases q with ⟨q1, q2, q3⟩ | ⟨q1, q2, q3⟩
      · exact ⟨.fits c4 hm c5 q1 q2 q3 c3, g, hl hlt, by show j'.epoch ≤ j.epoch + 1; omega⟩
      · exact ⟨.moved c4 hm c5 q1 q2 q3 c3, g, hl hlt, by show j'.epoch ≤ j.epoch + 1; omega⟩
    · omega

/-- a new flash is opened -/
theorem open_fresh {n : Nat} {z : Int} (h2 : Two EA n (FSt.fresh (clampN 4) (clampZ z))) :
    ∃ j, EA.open' n (FSt.fresh (clampN 4) (clampZ z)) = (0, j) ∧ JGood EA n j ∧ j.s.left < 0 ∧ j.epoch = 1 ∧ j.m = [] ∧ j.fin = 8 := by
  have hf : (headsF (EA.bytes (FSt.fresh (clampN 4) (clampZ z)) 0 n) (EA.bytes (FSt.fresh (clampN 4) (clampZ z)) 1 n) 0 0).found = false := by
    have hz : ∀ i, ((EA.part i).bs (FSt.fresh (clampN 4) (clampZ z))).getD 0 0 = 255 := fun i => by
      have hl := h2.blen i
      have h32 := h2.n32
      have hmem : ((EA.part i).bs (FSt.fresh (clampN 4) (clampZ z)))[0]'(by omega) ∈ List.replicate (clampN 4 * clampZ z).toNat (255 : UInt8) := by
        have h1 := List.getElem_mem (l := (EA.part i).bs (FSt.fresh (clampN 4) (clampZ z))) (n := 0) (by omega)
        unfold PSt.bs at h1
        exact List.mem_of_mem_drop (List.mem_of_mem_take h1)
      rw [List.getD_eq_getElem?_getD, List.getElem?_eq_getElem (by omega)]
      exact (List.mem_replicate.1 hmem).2
    rw [h2.bytes, h2.bytes]
    unfold headsF
    rw [headsStep_no (b := (EA.part 0).bs _) (fun k => by rw [hz 0] at k; exact absurd k.1 (by decide)), headsStep_no (b := (EA.part 1).bs _) (fun k => by rw [hz 1] at k; exact absurd k.1 (by decide))]
  obtain ⟨s', e, k1, k2, k3, k4⟩ := open_none h2 rfl (by show (-1 : Int) < 0; omega) hf
  exact ⟨_, e, ⟨k3, k4, k1⟩, k2, rfl, rfl, rfl⟩

end Go.Proofs.Ytdnpmkejondpoaa

/- What has no room is refused: the plain law. -/
namespace Go.Proofs.Ytdnpmkejondpoaa
open Go.RowKit Go.Maps
set_option linter.unusedVariables false
set_option linter.unusedSimpArgs false

/-- a journal over a new flash, of keys below k -/
structure FullAt (n : Nat) (j : JSt) (k : Nat) (l : List (List UInt8)) : Prop where
  good : JGood EA n j
  left : j.s.left < 0
  ep : j.epoch ≤ 1
  fin : j.fin = needV j.m
  keys : ∀ p ∈ j.m, p.1 < k
  vals : ∀ p ∈ j.m, l[p.1.toNat]? = some p.2
  le : j.fin ≤ n

theorem FullAt.none {n : Nat} {j : JSt} {k : Nat} {l : List (List UInt8)} (h : FullAt n j k l) {x : Int} (hx : (k : Int) ≤ x) : kget j.m x = none := by
  cases hg : kget j.m x with
  | none => rfl
  | some v => have := h.keys _ (kget_some hg); simp only at this; omega
theorem FullAt.up {n : Nat} {j : JSt} {k k' : Nat} {l : List (List UInt8)} (h : FullAt n j k l) (hk : k ≤ k') : FullAt n j k' l :=
  ⟨h.good, h.left, h.ep, h.fin, fun p hp => by have := h.keys p hp; omega, h.vals, h.le⟩
/-- one Put of a new key -/
theorem FullAt.put {n : Nat} {j : JSt} {k : Nat} {l : List (List UInt8)} (h : FullAt n j k l) {x : Nat} (hx : k ≤ x) (hx2 : x < 32) {v : List UInt8} (hv : v.length ≤ 250) :
    (n < j.fin + (7 + v.length) ∧ EA.put n j (x : Int) v = (6, j)) ∨
    (j.fin + (7 + v.length) ≤ n ∧ ∃ j', EA.put n j (x : Int) v = (0, j') ∧ j'.fin = j.fin + (7 + v.length) ∧ (l[x]? = some v → FullAt n j' (x + 1) l) ∧ JGood EA n j') := by
  have hno := h.none (x := (x : Int)) (by omega)
  have hnd := needV_new hno v
  rw [← h.fin] at hnd
  obtain ⟨pw, pg, pl, pe⟩ := put_went h.good h.left (x : Int) v (by have := h.ep; omega)
  obtain ⟨r, hr⟩ : ∃ r, EA.put n j (x : Int) v = r := ⟨_, rfl⟩
  rw [hr] at pw pg pl pe ⊢
  cases pw with
  | no hc hcc =>
    rcases hcc with ⟨rfl, hcc⟩ | ⟨rfl, hcc⟩ | ⟨rfl, hcc⟩
    · exact .inl ⟨by omega, rfl⟩
    · omega
    · omega
  | same hk => rw [hno] at hk; cases hk
  | fits hk hm hn hr2 hf he hl =>
    rename_i j'
    refine .inr ⟨hr2, j', rfl, hf, fun hlx => ⟨pg, pl, by rw [he]; exact h.ep, by rw [hf, hm, hnd], fun p hp => ?_, fun p hp => ?_, by omega⟩, pg⟩
    · rw [hm] at hp
      rcases kput_mem hp with rfl | hp
      · show (x : Int) < ((x + 1 : Nat) : Int); omega
      · have := h.keys p hp; omega
    · rw [hm] at hp
      rcases kput_mem hp with rfl | hp
      · show l[((x : Int)).toNat]? = some v; rw [Int.toNat_natCast]; exact hlx
      · exact h.vals p hp
  | moved hk hm hn hr2 hf he hl => omega

/-- a value that is there is put again: nothing -/
theorem put_again {n : Nat} {j : JSt} (h : JGood EA n j) {k : Int} {v : List UInt8} (hm : (k, v) ∈ j.m) : EA.put n j k v = (0, j) := by
  have hv := h.holds.fin_le.1
  have hk := hv.keys _ hm
  have hl := hv.small _ hm
  have hg := kget_mem hv.up hm
  have hf : faultJ j.s k v.length = 0 := by
    unfold faultJ
    simp only at hk hl
    rw [h.up, if_neg (by decide), if_neg (by omega), if_neg (by omega)]
  unfold Env.put
  rw [hf, if_neg (by decide), if_pos hg]

end Go.Proofs.Ytdnpmkejondpoaa
