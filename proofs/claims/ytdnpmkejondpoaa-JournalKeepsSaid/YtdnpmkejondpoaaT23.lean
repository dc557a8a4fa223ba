/- Parts of a proof, joined: Live, Live2, Img, Reads, Cuts, Holds, Lays. -/
import Derived.Test.YtdnpmkejondpoaaT20

/- A flash with power: what is written, as plain data. -/
namespace Go.Proofs.Ytdnpmkejondpoaa
open Go.RowKit Go.Maps
set_option linter.unusedVariables false
set_option linter.unusedSimpArgs false

structure FSt.live (s : FSt) : Prop where
  left : s.left < 0
  down : s.down = false

def over (b : List UInt8) (i : Nat) (l : List UInt8) : List UInt8 := b.take i ++ l ++ b.drop (i + l.length)
theorem over_nil (b : List UInt8) (i : Nat) : over b i [] = b := by unfold over; simp
theorem over_cons (b : List UInt8) (i : Nat) (x : UInt8) (l : List UInt8) (h : i < b.length) : over (b.set i x) (i + 1) l = over b i (x :: l) := by
  unfold over
  rw [List.take_set, List.take_succ_eq_append_getElem h, List.drop_set_of_lt (by omega)]
  have : (b.take i ++ [b[i]]).set i x = b.take i ++ [x] := by
    rw [List.set_append_right _ _ (by simp; omega), List.length_take, Nat.min_eq_left (by omega), Nat.sub_self]; rfl
  rw [this, List.length_cons]
  simp only [List.append_assoc, List.cons_append, List.nil_append]
  congr 4; omega
theorem over_len (b : List UInt8) (i : Nat) (l : List UInt8) (h : i + l.length ≤ b.length) : (over b i l).length = b.length := by unfold over; simp; omega

theorem run_live (l : List UInt8) : ∀ (s : FSt) (i : Nat), s.live → i + l.length ≤ s.b.length → (s.run i l).1 = true ∧ (s.run i l).2.live ∧ (s.run i l).2.b = over s.b i l := by
  induction l with
  | nil => intro s i h _; exact ⟨rfl, h, (over_nil _ _).symm⟩
  | cons x r ih =>
    intro s i h hl
    have hne : ¬ s.left = 0 := by have := h.left; omega
    have ht : s.turn i x = (true, { s with b := s.b.set i x, turned := min (s.turned + 1) 1073741824, left := if 0 < s.left then s.left - 1 else s.left }) := by unfold FSt.turn; rw [if_neg hne]
    unfold FSt.run
    rw [ht, if_pos rfl]
    have hv : ({ s with b := s.b.set i x, turned := min (s.turned + 1) 1073741824, left := if 0 < s.left then s.left - 1 else s.left } : FSt).live := ⟨by show (if 0 < s.left then s.left - 1 else s.left) < 0; have := h.left; rw [if_neg (by omega)]; exact this, h.down⟩
    obtain ⟨h1, h2, h3⟩ := ih _ (i + 1) hv (by simp at hl ⊢; omega)
    refine ⟨h1, h2, h3.trans ?_⟩
    exact over_cons _ _ _ _ (by simp at hl; omega)

theorem clears_255 (b : List UInt8) (l : List UInt8) : ∀ i, (∀ k, k < l.length → b.getD (i + k) 0 = 255) → clearsB b i l = true := by
  induction l with
  | nil => intro i _; rfl
  | cons x r ih =>
    intro i h
    unfold clearsB
    have h0 := h 0 (by simp)
    rw [Nat.add_zero] at h0
    rw [h0, ih (i + 1) (fun k hk => by rw [Nat.add_assoc, Nat.add_comm 1 k]; exact h (k + 1) (by simpa using hk))]
    have : ~~~(255 : UInt8) = 0 := by decide
    rw [this]; simp
theorem within_ok {s : FSt} {i n : Nat} (h : i + n ≤ s.b.length) : s.within i n = true := by unfold FSt.within; simp; omega
theorem program_live {s : FSt} (h : s.live) {i : Nat} {l : List UInt8} (hl : i + l.length ≤ s.b.length) (hc : clearsB s.b i l = true) :
    (s.program i l).1 = 0 ∧ (s.program i l).2.live ∧ (s.program i l).2.b = over s.b i l := by
  unfold FSt.program
  rw [if_neg (by rw [h.down]; decide), if_neg (by rw [within_ok hl]; decide), Int.toNat_natCast, if_neg (by rw [hc]; decide)]
  obtain ⟨h1, h2, h3⟩ := run_live l s i h hl
  exact ⟨by show (if _ then _ else _) = _; rw [if_pos h1], h2, h3⟩

theorem erase_live {s : FSt} (h : s.live) (ok : s.ok) {k : Nat} (hk : k < s.wear.length) :
    (s.erase k).1 = 0 ∧ (s.erase k).2.live ∧ (s.erase k).2.b = over s.b (k * s.sector.toNat) (List.replicate s.sector.toNat 255) := by
  have hs0 := ok.s0
  have hlen := ok.len
  have he : ((k : Int) * s.sector).toNat = k * s.sector.toNat := by
    have : (k : Int) * s.sector = ((k * s.sector.toNat : Nat) : Int) := by rw [Int.natCast_mul, Int.toNat_of_nonneg (by omega)]
    rw [this]; rfl
  have hl2 : s.b.length = s.wear.length * s.sector.toNat := by
    have : (s.b.length : Int) = ((s.wear.length * s.sector.toNat : Nat) : Int) := by rw [hlen, Int.natCast_mul, Int.toNat_of_nonneg (by omega)]
    omega
  have hroom : k * s.sector.toNat + s.sector.toNat ≤ s.b.length := by
    have : (k + 1) * s.sector.toNat ≤ s.wear.length * s.sector.toNat := Nat.mul_le_mul_right _ hk
    rw [Nat.add_mul, Nat.one_mul] at this
    omega
  unfold FSt.erase
  rw [if_neg (by rw [h.down]; decide), if_neg (by omega), he, Int.toNat_natCast]
  have hv : (s.wore k).live := ⟨h.left, h.down⟩
  obtain ⟨h1, h2, h3⟩ := run_live (List.replicate s.sector.toNat 255) (s.wore k) (k * s.sector.toNat) hv (by rw [List.length_replicate]; exact hroom)
  exact ⟨by show (if _ then _ else _) = _; rw [if_pos h1], h2, h3⟩

theorem over_over (b : List UInt8) (i : Nat) (l l' : List UInt8) (h : i + l.length ≤ b.length) : over (over b i l) (i + l.length) l' = over b i (l ++ l') := by
  unfold over
  have e1 : (b.take i ++ l).length = i + l.length := by simp; omega
  rw [show List.take (i + l.length) (b.take i ++ l ++ b.drop (i + l.length)) = b.take i ++ l by rw [← e1, List.take_left']; rfl]
  rw [show List.drop (i + l.length + l'.length) (b.take i ++ l ++ b.drop (i + l.length)) = b.drop (i + (l ++ l').length) by
    rw [← e1, ← List.drop_drop, List.drop_left', List.drop_drop, e1, List.length_append]
    · congr 1; omega
    · rfl]
  simp only [List.append_assoc]
theorem eraseN_live (n : Nat) : ∀ {s : FSt} (h : s.live) (ok : s.ok) {k : Nat} (hk : k + n ≤ s.wear.length),
    (s.eraseN k n).1 = 0 ∧ (s.eraseN k n).2.live ∧ (s.eraseN k n).2.b = over s.b (k * s.sector.toNat) (List.replicate (n * s.sector.toNat) 255) := by
  induction n with
  | zero => intro s h ok k hk; exact ⟨rfl, h, by simp [over_nil, FSt.eraseN]⟩
  | succ n ih =>
    intro s h ok k hk
    obtain ⟨h1, h2, h3⟩ := erase_live h ok (k := k) (by omega)
    obtain ⟨e1, e2, e3⟩ := FSt.erase_same s k
    obtain ⟨q1, q2, q3⟩ := ih h2 (FSt.erase_ok ok k) (k := k + 1) (by rw [e2]; omega)
    unfold FSt.eraseN
    rw [if_pos h1]
    refine ⟨q1, q2, ?_⟩
    rw [q3, h3, e1]
    have hs0 := ok.s0
    have hl2 : s.b.length = s.wear.length * s.sector.toNat := by
      have : (s.b.length : Int) = ((s.wear.length * s.sector.toNat : Nat) : Int) := by rw [ok.len, Int.natCast_mul, Int.toNat_of_nonneg (by omega)]
      omega
    have hroom : (k + 1) * s.sector.toNat ≤ s.b.length := by rw [hl2]; exact Nat.mul_le_mul_right _ (by omega)
    have e4 : (k + 1) * s.sector.toNat = k * s.sector.toNat + (List.replicate s.sector.toNat (255 : UInt8)).length := by rw [List.length_replicate, Nat.add_mul, Nat.one_mul]
    rw [e4, over_over _ _ _ _ (by rw [← e4]; exact hroom), List.replicate_append_replicate]
    congr 2
    rw [Nat.add_mul, Nat.one_mul]; omega

/-- a part's bytes -/
def PSt.bs (p : PSt) (s : FSt) : List UInt8 := (s.b.drop (p.base s)).take (p.size s)
theorem part_over {b : List UInt8} {o n i : Nat} {l : List UInt8} (hr : o + n ≤ b.length) (hi : i + l.length ≤ n) : ((over b (o + i) l).drop o).take n = over ((b.drop o).take n) i l := by
  apply List.ext_getElem?
  intro k
  unfold over
  by_cases hk : k < n
  · rw [List.getElem?_take, if_pos hk, List.getElem?_drop]
    by_cases h1 : k < i
    · rw [List.append_assoc, List.append_assoc, List.getElem?_append_left (by simp; omega), List.getElem?_append_left (by simp; omega), List.getElem?_take, if_pos (by omega), List.getElem?_take, if_pos h1, List.getElem?_take, if_pos hk, List.getElem?_drop]
    · by_cases h2 : k < i + l.length
      · rw [List.append_assoc, List.append_assoc, List.getElem?_append_right (by simp; omega), List.getElem?_append_left (by simp; omega), List.getElem?_append_right (by simp; omega), List.getElem?_append_left (by simp; omega)]
        congr 1; simp; omega
      · rw [List.getElem?_append_right (by simp; omega), List.getElem?_append_right (by simp; omega), List.getElem?_drop, List.getElem?_drop, List.getElem?_take, if_pos (by simp; omega), List.getElem?_drop]
        congr 1; simp; omega
  · rw [List.getElem?_eq_none (by simp; omega), List.getElem?_eq_none (by simp; omega)]
theorem part_aside {b : List UInt8} {o n j : Nat} {l : List UInt8} (hj : j + l.length ≤ b.length) (h : j + l.length ≤ o ∨ o + n ≤ j) : ((over b j l).drop o).take n = (b.drop o).take n := by
  apply List.ext_getElem?
  intro k
  unfold over
  rw [List.getElem?_take, List.getElem?_take]
  by_cases hk : k < n
  · rw [if_pos hk, if_pos hk, List.getElem?_drop, List.getElem?_drop]
    rcases h with h | h
    · rw [List.getElem?_append_right (by simp; omega), List.getElem?_drop]
      congr 1; simp; omega
    · rw [List.append_assoc, List.getElem?_append_left (by simp; omega), List.getElem?_take, if_pos (by omega)]
  · rw [if_neg hk, if_neg hk]

theorem PSt.bs_get {p : PSt} {s : FSt} {i : Nat} (hi : i < p.size s) : (p.bs s).getD i 0 = s.b.getD (p.base s + i) 0 := by
  unfold PSt.bs; simp [List.getD, hi]
theorem write_live {p : PSt} {s : FSt} (h : s.live) (ok : s.ok) (hf : p.fits s) {i : Nat} {l : List UInt8} (hi : i + l.length ≤ p.size s) (hc : ∀ k, k < l.length → (p.bs s).getD (i + k) 0 = 255) :
    (p.write s i l).1 = 0 ∧ (p.write s i l).2.live ∧ (p.write s i l).2.b = over s.b (p.base s + i) l ∧ p.bs (p.write s i l).2 = over (p.bs s) i l := by
  have hr := hf.room ok
  have hfl : p.fault s i l.length = 0 := by unfold PSt.fault inSize; rw [if_neg (by rw [h.down]; decide), if_neg (by simp; omega)]
  have hcl : clearsB s.b (p.base s + i) l = true := clears_255 _ _ _ (fun k hk => by have := hc k hk; rw [PSt.bs_get (by omega)] at this; rw [Nat.add_assoc]; exact this)
  have e : (p.base s : Int) + (i : Int) = ((p.base s + i : Nat) : Int) := by omega
  obtain ⟨h1, h2, h3⟩ := program_live h (i := p.base s + i) (l := l) (by omega) hcl
  have hw : p.write s i l = s.program ((p.base s + i : Nat) : Int) l := by unfold PSt.write; rw [if_pos hfl, e]
  rw [hw]
  refine ⟨h1, h2, h3, ?_⟩
  have hsec := (FSt.program_same s ((p.base s + i : Nat) : Int) l).1
  have hb : p.base (s.program ((p.base s + i : Nat) : Int) l).2 = p.base s := by show p.first * _ = p.first * _; rw [hsec]
  have hz : p.size (s.program ((p.base s + i : Nat) : Int) l).2 = p.size s := by show p.count * _ = p.count * _; rw [hsec]
  show ((s.program ((p.base s + i : Nat) : Int) l).2.b.drop (p.base _)).take (p.size _) = _
  rw [hb, hz, h3]
  exact part_over hr.1 hi

theorem over_get {b : List UInt8} {i : Nat} {l : List UInt8} (hl : i + l.length ≤ b.length) {k : Nat} (hk : i + l.length ≤ k) : (over b i l).getD k 0 = b.getD k 0 := by
  unfold over
  simp only [List.getD]
  rw [List.getElem?_append_right (by simp; omega), List.getElem?_drop]
  congr 2; simp; omega
theorem PSt.bs_len {p : PSt} {s : FSt} (ok : s.ok) (hf : p.fits s) : (p.bs s).length = p.size s := by
  have hr := hf.room ok
  unfold PSt.bs; simp; omega
theorem write_size (p : PSt) (s : FSt) (i : Int) (l : List UInt8) : p.size (p.write s i l).2 = p.size s ∧ p.base (p.write s i l).2 = p.base s := by
  have h := (p.write_same s i l).1
  constructor
  · show p.count * _ = p.count * _; rw [h]
  · show p.first * _ = p.first * _; rw [h]
theorem lay_live {p : PSt} {s : FSt} (h : s.live) (ok : s.ok) (hf : p.fits s) {i : Nat} {l : List UInt8} (hi : i + (l.length + 1) ≤ p.size s) (hc : ∀ k, k < l.length + 1 → (p.bs s).getD (i + k) 0 = 255) :
    (p.lay s i l).1 = 0 ∧ (p.lay s i l).2.live ∧ (p.lay s i l).2.b = over s.b (p.base s + i) (l ++ [0]) ∧ p.bs (p.lay s i l).2 = over (p.bs s) i (l ++ [0]) := by
  have hr := hf.room ok
  have hbl := PSt.bs_len ok hf
  obtain ⟨h1, h2, h3, h4⟩ := write_live h ok hf (i := i) (l := l) (by omega) (fun k hk => hc k (by omega))
  obtain ⟨z1, z2⟩ := write_size p s i l
  have hf2 : p.fits (p.write s i l).2 := hf.of (congrArg List.length (p.write_same s i l).2.1)
  have e : (i : Int) + (l.length : Int) = ((i + l.length : Nat) : Int) := by omega
  obtain ⟨q1, q2, q3, q4⟩ := write_live h2 (PSt.write_ok p ok i l) hf2 (i := i + l.length) (l := [0]) (by rw [z1]; simpa [Nat.add_assoc] using hi) (fun k hk => by
    have hk0 : k = 0 := by simpa using hk
    subst hk0
    rw [h4, Nat.add_zero, over_get (by rw [hbl]; omega) (Nat.le_refl _)]
    exact hc l.length (by omega))
  unfold PSt.lay
  rw [if_pos h1, e]
  refine ⟨q1, q2, ?_, ?_⟩
  · rw [q3, h3, z2, ← Nat.add_assoc, over_over _ _ _ _ (by omega)]
  · rw [q4, h4, over_over _ _ _ _ (by omega)]

def recB (q : Int × List UInt8) : List UInt8 := bodyB q.1.toNat q.2 false ++ [0]
def recsB (m : Vals) : List UInt8 := m.flatMap recB
theorem recB_len (q : Int × List UInt8) : (recB q).length = 7 + q.2.length := by unfold recB; rw [List.length_append, bodyB_len]; simp; omega
theorem lay_ss (p : PSt) (s : FSt) (i : Int) (l : List UInt8) : p.size (p.lay s i l).2 = p.size s ∧ p.base (p.lay s i l).2 = p.base s := by
  have h := (p.lay_same s i l).1
  constructor
  · show p.count * _ = p.count * _; rw [h]
  · show p.first * _ = p.first * _; rw [h]
theorem fill_live (p : PSt) (m : Vals) : ∀ {s : FSt} (h : s.live) (ok : s.ok) (hf : p.fits s) {i : Nat} (hi : i + (recsB m).length ≤ p.size s) (hc : ∀ k, k < (recsB m).length → (p.bs s).getD (i + k) 0 = 255),
    (p.fill s i m).2.1 = 0 ∧ (p.fill s i m).2.2.live ∧ (p.fill s i m).2.2.b = over s.b (p.base s + i) (recsB m) ∧ p.bs (p.fill s i m).2.2 = over (p.bs s) i (recsB m) := by
  induction m with
  | nil => intro s h ok hf i hi hc; exact ⟨rfl, h, (over_nil _ _).symm, (over_nil _ _).symm⟩
  | cons q r ih =>
    intro s h ok hf i hi hc
    have e : recsB (q :: r) = recB q ++ recsB r := by unfold recsB; rw [List.flatMap_cons]
    have hq := recB_len q
    rw [e, List.length_append] at hi hc
    have hr := hf.room ok
    have hbl := PSt.bs_len ok hf
    have hql : (bodyB q.1.toNat q.2 false).length + 1 = (recB q).length := by rw [hq, bodyB_len]; omega
    obtain ⟨h1, h2, h3, h4⟩ := lay_live h ok hf (i := i) (l := bodyB q.1.toNat q.2 false) (by omega) (fun k hk => hc k (by omega))
    obtain ⟨z1, z2⟩ := lay_ss p s i (bodyB q.1.toNat q.2 false)
    have h4' : p.bs (p.lay s i (bodyB q.1.toNat q.2 false)).2 = over (p.bs s) i (recB q) := h4
    have h3' : (p.lay s i (bodyB q.1.toNat q.2 false)).2.b = over s.b (p.base s + i) (recB q) := h3
    obtain ⟨q1, q2, q3, q4⟩ := ih h2 (PSt.lay_ok p ok i _) (hf.of (congrArg List.length (p.lay_same s i (bodyB q.1.toNat q.2 false)).2.1)) (i := i + (7 + q.2.length)) (by rw [z1]; omega) (fun k hk => by
      rw [h4', over_get (by rw [hbl]; omega) (by omega), Nat.add_assoc]
      exact hc (7 + q.2.length + k) (by omega))
    unfold PSt.fill
    rw [if_pos h1]
    refine ⟨q1, q2, ?_, ?_⟩
    · rw [q3, h3', z2, e, ← hq, ← Nat.add_assoc, over_over _ _ _ _ (by omega)]
    · rw [q4, h4', e, ← hq, over_over _ _ _ _ (by omega)]

end Go.Proofs.Ytdnpmkejondpoaa

/- A group that is cleared, filled, marked, with power. -/
namespace Go.Proofs.Ytdnpmkejondpoaa
open Go.RowKit Go.Maps
set_option linter.unusedVariables false
set_option linter.unusedSimpArgs false

theorem recsB_len (m : Vals) : 8 + (recsB m).length = needV m := by
  unfold needV recsB
  congr 1
  induction m with
  | nil => rfl
  | cons q r ih => rw [List.flatMap_cons, List.length_append, ih, recB_len, List.map_cons, List.sum_cons]; rfl
theorem clear_live {p : PSt} {s : FSt} (h : s.live) (ok : s.ok) (hf : p.fits s) :
    (p.clear s).1 = 0 ∧ (p.clear s).2.live ∧ (p.clear s).2.b = over s.b (p.base s) (List.replicate (p.size s) 255) ∧ p.bs (p.clear s).2 = List.replicate (p.size s) 255 := by
  obtain ⟨h1, h2, h3⟩ := eraseN_live p.count h ok (k := p.first) hf.le
  have hr := hf.room ok
  have hs := (p.clear_same s).1
  refine ⟨h1, h2, h3, ?_⟩
  have hb : p.base (p.clear s).2 = p.base s := by show p.first * _ = p.first * _; rw [hs]
  have hz : p.size (p.clear s).2 = p.size s := by show p.count * _ = p.count * _; rw [hs]
  show ((p.clear s).2.b.drop (p.base _)).take (p.size _) = _
  rw [hb, hz]
  have h3' : (p.clear s).2.b = over s.b (p.base s + 0) (List.replicate (p.size s) 255) := h3
  rw [h3', part_over hr.1 (by simp)]
  unfold over
  simp

end Go.Proofs.Ytdnpmkejondpoaa

/- A group that is cleared, filled and marked: its bytes; they read as what was laid. No program in sight. -/
namespace Go.Proofs.Ytdnpmkejondpoaa
open Go.RowKit Go.Maps
set_option linter.unusedVariables false
set_option linter.unusedSimpArgs false

theorem over_get? {b : List UInt8} {i : Nat} {l : List UInt8} (h : i + l.length ≤ b.length) (k : Nat) :
    (over b i l)[k]? = if k < i then b[k]? else if k < i + l.length then l[k - i]? else b[k]? := by
  unfold over
  by_cases h1 : k < i
  · rw [if_pos h1, List.append_assoc, List.getElem?_append_left (by simp; omega), List.getElem?_take, if_pos h1]
  · rw [if_neg h1]
    by_cases h2 : k < i + l.length
    · rw [if_pos h2, List.getElem?_append_left (by simp; omega), List.getElem?_append_right (by simp; omega)]
      congr 1; simp; omega
    · rw [if_neg h2, List.getElem?_append_right (by simp; omega), List.getElem?_drop]
      congr 1; simp; omega
theorem over_in {b L l : List UInt8} {o i : Nat} (h1 : i + l.length ≤ L.length) (h2 : o + L.length ≤ b.length) : over (over b o L) (o + i) l = over b o (over L i l) := by
  have e1 := over_len b o L h2
  have e2 := over_len L i l h1
  apply List.ext_getElem?; intro k
  rw [over_get? (by rw [e1]; omega), over_get? h2, over_get? (by rw [e2]; exact h2), over_get? h1, e2]
  by_cases c1 : k < o
  · rw [if_pos (by omega), if_pos c1, if_pos c1]
  · by_cases c2 : k < o + i
    · rw [if_pos c2, if_neg c1, if_neg c1, if_pos (by omega), if_pos (by omega), if_pos (by omega)]
    · by_cases c3 : k < o + i + l.length
      · rw [if_neg c2, if_pos c3, if_neg c1, if_pos (by omega), if_neg (by omega), if_pos (by omega)]
        congr 1; omega
      · by_cases c4 : k < o + L.length
        · rw [if_neg c2, if_neg c3, if_neg c1, if_pos c4, if_neg c1, if_pos c4, if_neg (by omega), if_neg (by omega)]
        · rw [if_neg c2, if_neg c3, if_neg c1, if_neg c4, if_neg c1, if_neg c4]
theorem over_same {b L M : List UInt8} {o : Nat} (h1 : L.length = M.length) (h2 : o + L.length ≤ b.length) : over (over b o L) o M = over b o M := by
  have h := over_in (b := b) (L := L) (l := M) (o := o) (i := 0) (by omega) h2
  rw [Nat.add_zero] at h
  rw [h]
  congr 1
  unfold over
  rw [List.drop_eq_nil_of_le (by omega)]; simp
theorem over_self {b : List UInt8} {o n : Nat} (h : o + n ≤ b.length) : over b o ((b.drop o).take n) = b := by
  apply List.ext_getElem?; intro k
  have e : ((b.drop o).take n).length = n := by simp; omega
  rw [over_get? (by rw [e]; exact h), e]
  split
  · rfl
  split
  · rw [List.getElem?_take, if_pos (by omega), List.getElem?_drop]; congr 1; omega
  · rfl

/-- a group's bytes: marked, its epoch, its records; behind them nothing -/
def img (n epoch : Nat) (m : Vals) : List UInt8 := 0 :: (put32 epoch ++ ([255, 255, 255] ++ (recsB m ++ List.replicate (n - needV m) 255)))
theorem img_len {n epoch : Nat} {m : Vals} (h : needV m ≤ n) : (img n epoch m).length = n := by
  have := recsB_len m
  unfold img
  simp [put32_len]; omega
theorem img_of {n epoch : Nat} {m : Vals} (h : needV m ≤ n) : over (over (over (List.replicate n 255) 8 (recsB m)) 1 (put32 epoch)) 0 [0] = img n epoch m := by
  have hr := recsB_len m
  have e1 : over (List.replicate n 255) 8 (recsB m) = [255, 255, 255, 255, 255, 255, 255, 255] ++ (recsB m ++ List.replicate (n - needV m) 255) := by
    unfold over
    rw [List.take_replicate, List.drop_replicate, Nat.min_eq_left (by omega), List.append_assoc, hr]; rfl
  rw [e1]
  unfold img put32 over
  simp

end Go.Proofs.Ytdnpmkejondpoaa

/- What was laid is read: the records of a group. No program in sight. -/
namespace Go.Proofs.Ytdnpmkejondpoaa
open Go.RowKit Go.Maps
set_option linter.unusedVariables false
set_option linter.unusedSimpArgs false

/-- values that a journal can have -/
structure VOk (m : Vals) : Prop where
  up : rising m
  keys : ∀ p ∈ m, 0 ≤ p.1 ∧ p.1 < 32
  small : ∀ p ∈ m, p.2.length ≤ 250
theorem VOk.nil : VOk [] := ⟨List.Pairwise.nil, by simp, by simp⟩
theorem VOk.put {m : Vals} (h : VOk m) {k : Int} (hk : 0 ≤ k ∧ k < 32) {l : List UInt8} (hl : l.length ≤ 250) : VOk (kput m k l) :=
  ⟨h.up.put k l, fun p hp => by rcases kput_mem hp with rfl | hp; exact hk; exact h.keys p hp, fun p hp => by rcases kput_mem hp with rfl | hp; exact hl; exact h.small p hp⟩
theorem VOk.del {m : Vals} (h : VOk m) (k : Int) : VOk (kdel m k) :=
  ⟨h.up.del k, fun p hp => h.keys p (List.mem_filter.1 hp).1, fun p hp => h.small p (List.mem_filter.1 hp).1⟩
theorem JV.vok {w : World} {S : Nat → Prop} {b : Nat} {m : Vals} (h : JV w S b m) : VOk m := ⟨h.up, h.keys, h.small⟩

theorem needV_cons (q : Int × List UInt8) (m : Vals) : needV (q :: m) = 7 + q.2.length + needV m := by
  unfold needV recLen; rw [List.map_cons, List.sum_cons]; omega
theorem needV_put (m : Vals) (k : Int) (l : List UInt8) : needV (kput m k l) ≤ needV m + (7 + l.length) := by
  induction m with
  | nil => unfold kput; rw [needV_cons]; show 7 + l.length + _ ≤ _; omega
  | cons p r ih =>
    unfold kput
    split
    · rw [needV_cons]; show 7 + l.length + _ ≤ _; omega
    · split
      · rw [needV_cons, needV_cons]; show 7 + l.length + _ ≤ _; omega
      · rw [needV_cons, needV_cons]; omega
theorem needV_new {m : Vals} {k : Int} (h : kget m k = none) (l : List UInt8) : needV (kput m k l) = needV m + (7 + l.length) := by
  have hn := kget_none h
  clear h
  induction m with
  | nil => unfold kput; rw [needV_cons]; show 7 + l.length + _ = _; omega
  | cons p r ih =>
    have h1 := hn p List.mem_cons_self
    unfold kput
    split
    · rw [needV_cons]; show 7 + l.length + _ = _; omega
    · rw [if_neg (fun e => h1 e.symm), needV_cons, needV_cons, ih (fun q hq => hn q (List.mem_cons_of_mem _ hq))]; omega
theorem needV_del (m : Vals) (k : Int) : needV (kdel m k) ≤ needV m := by
  induction m with
  | nil => exact Nat.le_refl _
  | cons p r ih =>
    unfold kdel at *
    by_cases h : p.1 = k
    · rw [List.filter_cons_of_neg (by simp [h]), needV_cons]; omega
    · rw [List.filter_cons_of_pos (by simp [h]), needV_cons, needV_cons]; omega
theorem needV_8 (m : Vals) : 8 ≤ needV m := by unfold needV; omega

theorem getD_app (pre x : List UInt8) (j : Nat) : (pre ++ x).getD (pre.length + j) 0 = x.getD j 0 := by
  rw [List.getD_eq_getElem?_getD, List.getD_eq_getElem?_getD, List.getElem?_append_right (by omega)]; congr 2; omega
theorem drop_app (pre x : List UInt8) (j : Nat) : (pre ++ x).drop (pre.length + j) = x.drop j := by
  rw [← List.drop_drop, List.drop_left']; rfl
theorem nextR_app (pre x : List UInt8) : nextR (pre ++ x) pre.length = (nextR x 0).map fun r => { r with fin := pre.length + r.fin } := by
  have g0 := getD_app pre x 0
  have g1 := getD_app pre x 1
  have d2 := drop_app pre x 2
  rw [Nat.add_zero] at g0
  unfold nextR
  rw [g0, g1, d2]
  have g6 := getD_app pre x (6 + recN (x.getD 1 0))
  rw [← Nat.add_assoc] at g6
  rw [g6, List.length_append]
  simp only [Nat.zero_add]
  by_cases c1 : x.length < 2
  · rw [if_pos (by omega), if_pos c1]; rfl
  rw [if_neg (by omega), if_neg c1]
  by_cases c2 : 32 ≤ (x.getD 0 0).toNat
  · rw [if_pos c2, if_pos c2]; rfl
  rw [if_neg c2, if_neg c2]
  by_cases c3 : 250 < recN (x.getD 1 0)
  · rw [if_pos c3, if_pos c3]; rfl
  rw [if_neg c3, if_neg c3]
  by_cases c4 : x.length < 7 + recN (x.getD 1 0)
  · rw [if_pos (by omega), if_pos c4]; rfl
  rw [if_neg (by omega), if_neg c4]
  by_cases c5 : x.getD (6 + recN (x.getD 1 0)) 0 ≠ 0
  · rw [if_pos c5, if_pos c5]; rfl
  rw [if_neg c5, if_neg c5, Nat.add_assoc]; rfl
theorem rightR_app (pre x : List UInt8) (f : Nat) : rightR (pre ++ x) pre.length (pre.length + f) = rightR x 0 f := by
  unfold rightR
  have d0 := drop_app pre x 0
  rw [Nat.add_zero] at d0
  rw [d0, List.drop_zero]
  congr 2; omega

theorem byteN_nat (n i : Nat) : (byteN n i).toNat = n / 256 ^ i % 256 := by
  unfold byteN; rw [UInt8.toNat_ofNat']; omega
theorem get32_put32 {n : Nat} (h : n < 4294967296) (x : List UInt8) : get32 (put32 n ++ x) = n := by
  unfold get32 put32
  simp only [getN, List.cons_append, List.nil_append, List.getD_cons_zero, List.getD_cons_succ, byteN_nat]
  omega
theorem sumOk_seal (l : List UInt8) : sumOk (sealB l) = true := by
  unfold sumOk sealB
  have e : (l ++ put32 (crcSum l)).length - 4 = l.length := by rw [List.length_append, put32_len]; omega
  have h := get32_put32 (crcSum_lt l) []
  rw [List.append_nil] at h
  rw [e, List.drop_left', List.take_left', h]
  · simp [put32_len]
  · rfl
  · rfl

/-- a record's bytes, a key's value or none -/
def recD (k : Nat) (l : List UInt8) (drop : Bool) : List UInt8 := bodyB k l drop ++ [0]
theorem recD_len (k : Nat) (l : List UInt8) (drop : Bool) : (recD k l drop).length = 7 + l.length := by unfold recD; rw [List.length_append, bodyB_len]; simp; omega
theorem recD_form (k : Nat) (l : List UInt8) (drop : Bool) : recD k l drop = UInt8.ofNat k :: (if drop = true then 254 else UInt8.ofNat l.length) :: (l ++ (put32 (crcSum (headB k l drop ++ l)) ++ [0])) := by
  unfold recD bodyB sealB headB; simp
theorem nextR_rec {k : Nat} {l : List UInt8} {drop : Bool} (hk : k < 32) (hl : l.length ≤ 250) (hd : drop = true → l = []) (x : List UInt8) :
    nextR (recD k l drop ++ x) 0 = some ⟨k, l, drop, 7 + l.length⟩ := by
  have hlen : (recD k l drop ++ x).length = 7 + l.length + x.length := by rw [List.length_append, recD_len]
  have hK : (UInt8.ofNat k).toNat = k := by rw [UInt8.toNat_ofNat']; omega
  have hL : (UInt8.ofNat l.length).toNat = l.length := by rw [UInt8.toNat_ofNat']; omega
  have g0 : (recD k l drop ++ x).getD 0 0 = UInt8.ofNat k := by rw [recD_form]; rfl
  have g1 : (recD k l drop ++ x).getD (0 + 1) 0 = (if drop = true then 254 else UInt8.ofNat l.length) := by rw [recD_form]; rfl
  have hne : UInt8.ofNat l.length ≠ 254 := by intro e; rw [e] at hL; have : (254 : UInt8).toNat = 254 := rfl; omega
  have hN : recN (if drop = true then 254 else UInt8.ofNat l.length) = l.length := by
    cases drop with
    | true => rw [hd rfl]; rfl
    | false => simp only [Bool.false_eq_true, if_false]; unfold recN; rw [if_neg hne, hL]
  have g6 : (recD k l drop ++ x).getD (0 + 6 + l.length) 0 = 0 := by
    unfold recD
    have := getD_app (bodyB k l drop) ([0] ++ x) 0
    rw [bodyB_len] at this
    rw [List.append_assoc, show 0 + 6 + l.length = l.length + 6 + 0 by omega, this]; rfl
  have hv : ((recD k l drop ++ x).drop (0 + 2)).take l.length = l := by
    rw [recD_form]
    simp only [List.cons_append, List.append_assoc, Nat.zero_add, List.drop_succ_cons, List.drop_zero]
    rw [List.take_left']; rfl
  have hdd : decide ((if drop = true then (254 : UInt8) else UInt8.ofNat l.length) = 254) = drop := by
    cases drop with
    | true => rfl
    | false => simp [hne]
  unfold nextR
  rw [g0, g1, hN, g6, hv, hdd, hlen, hK, if_neg (by omega), if_neg (by omega), if_neg (by omega), if_neg (by omega), if_neg (by simp), Nat.zero_add]
theorem rightR_rec (k : Nat) (l : List UInt8) (drop : Bool) (x : List UInt8) : rightR (recD k l drop ++ x) 0 (7 + l.length) = true := by
  unfold rightR recD
  rw [List.drop_zero, List.append_assoc, List.take_left']
  · exact sumOk_seal _
  · rw [bodyB_len]; omega
theorem nextR_255 (n : Nat) : nextR (List.replicate n 255) 0 = none := by
  unfold nextR
  rw [List.length_replicate]
  split
  · rfl
  · rename_i h
    have : (List.replicate n (255 : UInt8)).getD 0 0 = 255 := by
      rw [List.getD_eq_getElem?_getD, List.getElem?_replicate, if_pos (by omega)]; rfl
    rw [this]; rfl

/-- one record ahead -/
theorem replayF_rec {pre : List UInt8} {k : Nat} {l : List UInt8} {drop : Bool} (hk : k < 32) (hl : l.length ≤ 250) (hd : drop = true → l = []) (x : List UInt8) (n : Nat) (m : Vals) :
    replayF (pre ++ (recD k l drop ++ x)) (n + 1) pre.length m = replayF (pre ++ (recD k l drop ++ x)) n (pre.length + (7 + l.length)) ((⟨k, l, drop, 7 + l.length⟩ : Rec).apply m) := by
  have h := nextR_app pre (recD k l drop ++ x)
  rw [nextR_rec hk hl hd] at h
  conv => lhs; unfold replayF
  rw [h]
  simp only [Option.map_some]
  rw [rightR_app, rightR_rec, if_neg (by decide)]
  rfl
theorem kput_last {m : Vals} {q : Int × List UInt8} (h : ∀ p ∈ m, p.1 < q.1) : kput m q.1 q.2 = m ++ [q] := by
  induction m with
  | nil => rfl
  | cons p r ih =>
    have := h p List.mem_cons_self
    unfold kput
    rw [if_neg (by omega), if_neg (by omega), ih (fun x hx => h x (List.mem_cons_of_mem _ hx))]; rfl
/-- records one behind the other -/
theorem replayF_recs (r : Vals) : ∀ (pre x : List UInt8) (m : Vals) (n : Nat), VOk (m ++ r) → nextR x 0 = none → r.length < n →
    replayF (pre ++ (recsB r ++ x)) n pre.length m = some (m ++ r, pre.length + (recsB r).length) := by
  induction r with
  | nil =>
    intro pre x m n hv hx hn
    obtain ⟨n, rfl⟩ : ∃ k, n = k + 1 := ⟨n - 1, by simp at hn; omega⟩
    have h := nextR_app pre x
    rw [hx] at h
    show replayF (pre ++ x) _ _ _ = _
    unfold replayF
    rw [h]
    simp [recsB]
  | cons q r ih =>
    intro pre x m n hv hx hn
    obtain ⟨n, rfl⟩ : ∃ k, n = k + 1 := ⟨n - 1, by simp at hn; omega⟩
    have hq := hv.keys q (by simp)
    have hs := hv.small q (by simp)
    have hup : ∀ p ∈ m, p.1 < q.1 := by
      have := (List.pairwise_append.1 hv.up).2.2
      exact fun p hp => this p hp q List.mem_cons_self
    have e0 : recB q = recD q.1.toNat q.2 false := rfl
    have e1 : recsB (q :: r) ++ x = recD q.1.toNat q.2 false ++ (recsB r ++ x) := by unfold recsB; rw [List.flatMap_cons, e0, List.append_assoc]
    have e2 : pre ++ (recD q.1.toNat q.2 false ++ (recsB r ++ x)) = (pre ++ recD q.1.toNat q.2 false) ++ (recsB r ++ x) := by rw [List.append_assoc]
    have e3 : (pre ++ recD q.1.toNat q.2 false).length = pre.length + (7 + q.2.length) := by rw [List.length_append, recD_len]
    have e4 : (⟨q.1.toNat, q.2, false, 7 + q.2.length⟩ : Rec).apply m = m ++ [q] := by
      unfold Rec.apply
      rw [if_neg Bool.false_ne_true]
      show kput m ((q.1.toNat : Nat) : Int) q.2 = _
      rw [Int.toNat_of_nonneg hq.1]
      exact kput_last hup
    rw [e1, replayF_rec (by omega) hs (by simp), e4, e2, ← e3, ih _ x (m ++ [q]) n (by rw [List.append_assoc]; exact hv) hx (by simp at hn; omega)]
    simp only [List.append_assoc, List.singleton_append, Option.some.injEq, Prod.mk.injEq, true_and]
    have e5 : recsB (q :: r) = recD q.1.toNat q.2 false ++ recsB r := by unfold recsB; rw [List.flatMap_cons, e0]
    rw [e5, List.length_append, List.length_append, Nat.add_assoc]

theorem recs_many (r : Vals) : r.length ≤ (recsB r).length := by
  induction r with
  | nil => exact Nat.le_refl _
  | cons q r ih =>
    have e5 : recsB (q :: r) = recB q ++ recsB r := by unfold recsB; rw [List.flatMap_cons]
    rw [e5, List.length_append, recB_len, List.length_cons]; omega
theorem replayB_form {pre x : List UInt8} {r : Vals} (h8 : pre.length = 8) (hv : VOk r) (hx : nextR x 0 = none) : replayB (pre ++ (recsB r ++ x)) = some (r, needV r) := by
  have h := replayF_recs r pre x [] ((pre ++ (recsB r ++ x)).length + 1) hv hx (by have := recs_many r; rw [List.length_append, List.length_append]; omega)
  rw [h8] at h
  unfold replayB
  rw [h, List.nil_append, recsB_len]
theorem replayB_img {n epoch : Nat} {m : Vals} (hv : VOk m) : replayB (img n epoch m) = some (m, needV m) := by
  have e : img n epoch m = ([0] ++ put32 epoch ++ [255, 255, 255]) ++ (recsB m ++ List.replicate (n - needV m) 255) := by unfold img; simp
  rw [e]
  exact replayB_form rfl hv (nextR_255 _)
theorem tornB_255 (pre : List UInt8) (n : Nat) : tornB (pre ++ List.replicate n 255) pre.length = false := by
  unfold tornB
  rw [List.drop_left']
  · simp
  · rfl
theorem tornB_img {n epoch : Nat} {m : Vals} : tornB (img n epoch m) (needV m) = false := by
  have e : img n epoch m = ([0] ++ put32 epoch ++ [255, 255, 255] ++ recsB m) ++ List.replicate (n - needV m) 255 := by unfold img; simp
  have e2 : needV m = ([0] ++ put32 epoch ++ [255, 255, 255] ++ recsB m).length := by
    rw [← recsB_len, List.length_append]; rfl
  rw [e]
  conv => lhs; rw [e2]
  exact tornB_255 _ _
theorem img_head {n epoch : Nat} (m : Vals) (h : epoch < 4294967296) : (img n epoch m).getD 0 0 = 0 ∧ get32 ((img n epoch m).drop 1) = epoch := by
  refine ⟨rfl, ?_⟩
  unfold img
  rw [List.drop_succ_cons, List.drop_zero, get32_put32 h]

/-- what is read can be had, and takes no more bytes than it took -/
theorem replayF_ok {b : List UInt8} : ∀ (n i : Nat) (m : Vals) (r : Vals) (j : Nat), VOk m → replayF b n i m = some (r, j) → VOk r ∧ needV r + i ≤ needV m + j ∧ i ≤ j := by
  intro n
  induction n with
  | zero => intro i m r j hv h; simp only [replayF, Option.some.injEq, Prod.mk.injEq] at h; obtain ⟨rfl, rfl⟩ := h; exact ⟨hv, Nat.le_refl _, Nat.le_refl _⟩
  | succ n ih =>
    intro i m r j hv h
    unfold replayF at h
    cases hn : nextR b i with
    | none => rw [hn] at h; simp only [Option.some.injEq, Prod.mk.injEq] at h; obtain ⟨rfl, rfl⟩ := h; exact ⟨hv, Nat.le_refl _, Nat.le_refl _⟩
    | some q =>
      rw [hn] at h
      simp only at h
      split at h
      · cases h
      · obtain ⟨s1, s2, s3, s4⟩ := nextR_spec hn
        have ha : VOk (q.apply m) ∧ needV (q.apply m) ≤ needV m + (7 + q.val.length) := by
          unfold Rec.apply
          split
          · exact ⟨hv.del _, by have := needV_del m q.key; omega⟩
          · exact ⟨hv.put (by omega) s2, needV_put m q.key q.val⟩
        obtain ⟨t1, t2, t3⟩ := ih _ _ _ _ ha.1 h
        exact ⟨t1, by omega, by omega⟩
theorem replayB_ok {b : List UInt8} {m : Vals} {j : Nat} (h : replayB b = some (m, j)) : VOk m ∧ needV m ≤ j ∧ 8 ≤ j := by
  obtain ⟨h1, h2, h3⟩ := replayF_ok _ _ _ _ _ VOk.nil h
  refine ⟨h1, ?_, h3⟩
  have : needV [] = 8 := rfl
  omega

theorem replayF_end {b : List UInt8} : ∀ {n i : Nat} {m r : Vals} {j : Nat}, i ≤ b.length → replayF b n i m = some (r, j) → j ≤ b.length := by
  intro n
  induction n with
  | zero => intro i m r j hi h; simp only [replayF, Option.some.injEq, Prod.mk.injEq] at h; omega
  | succ n ih =>
    intro i m r j hi h
    unfold replayF at h
    cases hn : nextR b i with
    | none => rw [hn] at h; simp only [Option.some.injEq, Prod.mk.injEq] at h; omega
    | some q =>
      rw [hn] at h
      simp only at h
      split at h
      · cases h
      · exact ih (nextR_spec hn).2.2.2 h

end Go.Proofs.Ytdnpmkejondpoaa

/- The power may go: what a step has laid then. No program in sight. -/
namespace Go.Proofs.Ytdnpmkejondpoaa
open Go.RowKit Go.Maps
set_option linter.unusedVariables false
set_option linter.unusedSimpArgs false

/-- bytes one behind the other: all of them, or those ahead of a cut -/
def Laid (s : FSt) (c : Int) (s' : FSt) (o : Nat) (l : List UInt8) : Prop :=
  (c = 0 ∧ s'.down = false ∧ (s.left < 0 → s'.left < 0) ∧ s'.b = over s.b o l) ∨
  (c = 30 ∧ s'.down = true ∧ 0 ≤ s.left ∧ ∃ k, k < l.length ∧ s'.b = over s.b o (l.take k))

theorem run_cut (l : List UInt8) : ∀ (s : FSt) (i : Nat), s.down = false → i + l.length ≤ s.b.length →
    ((s.run i l).1 = true ∧ (s.run i l).2.down = false ∧ (s.left < 0 → (s.run i l).2.left < 0) ∧ (s.run i l).2.b = over s.b i l) ∨
    ((s.run i l).1 = false ∧ (s.run i l).2.down = true ∧ 0 ≤ s.left ∧ ∃ k, k < l.length ∧ (s.run i l).2.b = over s.b i (l.take k)) := by
  induction l with
  | nil => intro s i h _; exact .inl ⟨rfl, h, fun h => h, (over_nil _ _).symm⟩
  | cons x r ih =>
    intro s i h hl
    simp only [List.length_cons] at hl
    by_cases hz : s.left = 0
    · have ht : s.turn i x = (false, { s with down := true }) := by unfold FSt.turn; rw [if_pos hz]
      unfold FSt.run
      rw [ht, if_neg Bool.false_ne_true]
      exact .inr ⟨rfl, rfl, by omega, 0, by simp, by rw [List.take_zero, over_nil]⟩
    · have ht : s.turn i x = (true, { s with b := s.b.set i x, turned := min (s.turned + 1) 1073741824, left := if 0 < s.left then s.left - 1 else s.left }) := by unfold FSt.turn; rw [if_neg hz]
      unfold FSt.run
      rw [ht, if_pos rfl]
      rcases ih { s with b := s.b.set i x, turned := min (s.turned + 1) 1073741824, left := if 0 < s.left then s.left - 1 else s.left } (i + 1) h (by simp; omega) with ⟨h1, h2, h3, h4⟩ | ⟨h1, h2, h3, k, hk, h4⟩
      · refine .inl ⟨h1, h2, fun hs => h3 (by show (if 0 < s.left then s.left - 1 else s.left) < 0; rw [if_neg (by omega)]; exact hs), h4.trans ?_⟩
        exact over_cons _ _ _ _ (by omega)
      · refine .inr ⟨h1, h2, ?_, k + 1, by simpa using hk, h4.trans ?_⟩
        · have h3' : 0 ≤ (if 0 < s.left then s.left - 1 else s.left) := h3
          split at h3' <;> omega
        · rw [List.take_succ_cons]; exact over_cons _ _ _ _ (by omega)

theorem program_cut {s : FSt} (h : s.down = false) {i : Nat} {l : List UInt8} (hl : i + l.length ≤ s.b.length) (hc : clearsB s.b i l = true) : Laid s (s.program i l).1 (s.program i l).2 i l := by
  unfold FSt.program
  rw [if_neg (by rw [h]; decide), if_neg (by rw [within_ok hl]; decide), Int.toNat_natCast, if_neg (by rw [hc]; decide)]
  rcases run_cut l s i h hl with ⟨h1, h2, h3, h4⟩ | ⟨h1, h2, h3, h4⟩
  · exact .inl ⟨by show (if _ then _ else _) = _; rw [if_pos h1], h2, h3, h4⟩
  · exact .inr ⟨by show (if _ then _ else _) = _; rw [if_neg (by rw [h1]; decide)], h2, h3, h4⟩

theorem sector_room {s : FSt} (ok : s.ok) : s.b.length = s.wear.length * s.sector.toNat := by
  have hs0 := ok.s0
  have : (s.b.length : Int) = ((s.wear.length * s.sector.toNat : Nat) : Int) := by rw [ok.len, Int.natCast_mul, Int.toNat_of_nonneg (by omega)]
  omega
theorem erase_cut {s : FSt} (h : s.down = false) (ok : s.ok) {k : Nat} (hk : k < s.wear.length) :
    Laid s (s.erase k).1 (s.erase k).2 (k * s.sector.toNat) (List.replicate s.sector.toNat 255) := by
  have hs0 := ok.s0
  have he : ((k : Int) * s.sector).toNat = k * s.sector.toNat := by
    have : (k : Int) * s.sector = ((k * s.sector.toNat : Nat) : Int) := by rw [Int.natCast_mul, Int.toNat_of_nonneg (by omega)]
    rw [this]; rfl
  have hl2 := sector_room ok
  have hroom : k * s.sector.toNat + s.sector.toNat ≤ s.b.length := by
    have : (k + 1) * s.sector.toNat ≤ s.wear.length * s.sector.toNat := Nat.mul_le_mul_right _ hk
    rw [Nat.add_mul, Nat.one_mul] at this
    omega
  unfold FSt.erase
  rw [if_neg (by rw [h]; decide), if_neg (by omega), he, Int.toNat_natCast]
  have hv : (s.wore k).down = false := h
  rcases run_cut (List.replicate s.sector.toNat 255) (s.wore k) (k * s.sector.toNat) hv (by rw [List.length_replicate]; exact hroom) with ⟨h1, h2, h3, h4⟩ | ⟨h1, h2, h3, h4⟩
  · exact .inl ⟨by show (if _ then _ else _) = _; rw [if_pos h1], h2, h3, h4⟩
  · exact .inr ⟨by show (if _ then _ else _) = _; rw [if_neg (by rw [h1]; decide)], h2, h3, h4⟩
/-- two steps, one behind the other -/
theorem Laid.then {s s1 s2 : FSt} {c : Int} {o : Nat} {l l' : List UInt8} (h : s1.down = false ∧ (s.left < 0 → s1.left < 0) ∧ s1.b = over s.b o l) (hr : o + l.length ≤ s.b.length) (k : Laid s1 c s2 (o + l.length) l') : Laid s c s2 o (l ++ l') := by
  obtain ⟨h1, h2, h3⟩ := h
  rcases k with ⟨k1, k2, k3, k4⟩ | ⟨k1, k2, k3, j, hj, k4⟩
  · exact .inl ⟨k1, k2, fun h => k3 (h2 h), by rw [k4, h3, over_over _ _ _ _ hr]⟩
  · refine .inr ⟨k1, k2, by have := fun h => h2 h; omega, l.length + j, by rw [List.length_append]; omega, ?_⟩
    rw [k4, h3, over_over _ _ _ _ hr]
    congr 1
    rw [List.take_length_add_append]
theorem Laid.more {s s1 : FSt} {c : Int} {o : Nat} {l : List UInt8} (h : Laid s c s1 o l) (l' : List UInt8) (hc : c ≠ 0) : Laid s c s1 o (l ++ l') := by
  rcases h with ⟨h1, _⟩ | ⟨h1, h2, h3, k, hk, h4⟩
  · exact absurd h1 hc
  · exact .inr ⟨h1, h2, h3, k, by rw [List.length_append]; omega, by rw [h4, List.take_append_of_le_length (by omega)]⟩

theorem eraseN_cut (n : Nat) : ∀ {s : FSt} (h : s.down = false) (ok : s.ok) {k : Nat} (hk : k + n ≤ s.wear.length),
    Laid s (s.eraseN k n).1 (s.eraseN k n).2 (k * s.sector.toNat) (List.replicate (n * s.sector.toNat) 255) := by
  induction n with
  | zero => intro s h ok k hk; exact .inl ⟨rfl, h, fun h => h, by simp [over_nil, FSt.eraseN]⟩
  | succ n ih =>
    intro s h ok k hk
    have h1 := erase_cut h ok (k := k) (by omega)
    obtain ⟨e1, e2, e3⟩ := FSt.erase_same s k
    have hl2 := sector_room ok
    have hroom : (k + 1) * s.sector.toNat ≤ s.b.length := by rw [hl2]; exact Nat.mul_le_mul_right _ (by omega)
    have e4 : (k + 1) * s.sector.toNat = k * s.sector.toNat + (List.replicate s.sector.toNat (255 : UInt8)).length := by rw [List.length_replicate, Nat.add_mul, Nat.one_mul]
    have e5 : List.replicate ((n + 1) * s.sector.toNat) (255 : UInt8) = List.replicate s.sector.toNat 255 ++ List.replicate (n * s.sector.toNat) 255 := by
      rw [List.replicate_append_replicate]; congr 1; rw [Nat.add_mul, Nat.one_mul]; omega
    unfold FSt.eraseN
    by_cases hc : (s.erase k).1 = 0
    · rw [if_pos hc, e5]
      rcases h1 with ⟨_, h2, h3, h4⟩ | ⟨h2, _⟩
      · have q := ih h2 (FSt.erase_ok ok k) (k := k + 1) (by rw [e2]; omega)
        rw [e1, e4] at q
        exact Laid.then ⟨h2, h3, h4⟩ (by rw [← e4]; exact hroom) q
      · rw [hc] at h2; cases h2
    · rw [if_neg hc, e5]
      exact h1.more _ hc

/-- a part's bytes behind a step: some of it laid -/
theorem base_over {b : List UInt8} {o n i : Nat} {l : List UInt8} (hr : o + n ≤ b.length) (hi : i + l.length ≤ n) : over b (o + i) l = over b o (over ((b.drop o).take n) i l) := by
  conv => lhs; rw [← over_self hr]
  exact over_in (by simp; omega) (by simp; omega)
/-- what a step did to a part: all of it, or the power went -/
def Did (p : PSt) (s : FSt) (c : Int) (s' : FSt) (full : List UInt8) (part : List UInt8 → Prop) : Prop :=
  (c = 0 ∧ s'.down = false ∧ (s.left < 0 → s'.left < 0) ∧ s'.b = over s.b (p.base s) full) ∨
  (c = 30 ∧ s'.down = true ∧ 0 ≤ s.left ∧ ∃ L, L.length = p.size s ∧ part L ∧ s'.b = over s.b (p.base s) L)
theorem Laid.did {p : PSt} {s s' : FSt} {c : Int} {i : Nat} {l : List UInt8} (h : Laid s c s' (p.base s + i) l) (hr : p.base s + p.size s ≤ s.b.length) (hi : i + l.length ≤ p.size s) :
    Did p s c s' (over (p.bs s) i l) (fun L => ∃ k, k < l.length ∧ L = over (p.bs s) i (l.take k)) := by
  have hb : (p.bs s).length = p.size s := by unfold PSt.bs; simp; omega
  rcases h with ⟨h1, h2, h3, h4⟩ | ⟨h1, h2, h3, k, hk, h4⟩
  · exact .inl ⟨h1, h2, h3, by rw [h4, base_over hr hi]; rfl⟩
  · have hk2 : i + (l.take k).length ≤ p.size s := by rw [List.length_take]; omega
    exact .inr ⟨h1, h2, h3, _, by rw [over_len _ _ _ (by rw [hb]; exact hk2), hb], ⟨k, hk, rfl⟩, by rw [h4, base_over hr hk2]; rfl⟩

theorem write_laid {p : PSt} {s : FSt} (h : s.down = false) (ok : s.ok) (hf : p.fits s) {i : Nat} {l : List UInt8} (hi : i + l.length ≤ p.size s) (hc : ∀ k, k < l.length → (p.bs s).getD (i + k) 0 = 255) :
    Laid s (p.write s i l).1 (p.write s i l).2 (p.base s + i) l := by
  have hr := hf.room ok
  have hfl : p.fault s i l.length = 0 := by unfold PSt.fault inSize; rw [if_neg (by rw [h]; decide), if_neg (by simp; omega)]
  have hcl : clearsB s.b (p.base s + i) l = true := clears_255 _ _ _ (fun k hk => by have := hc k hk; rw [PSt.bs_get (by omega)] at this; rw [Nat.add_assoc]; exact this)
  have e : (p.base s : Int) + (i : Int) = ((p.base s + i : Nat) : Int) := by omega
  have hw : p.write s i l = s.program ((p.base s + i : Nat) : Int) l := by unfold PSt.write; rw [if_pos hfl, e]
  rw [hw]
  exact program_cut h (by omega) hcl
/-- a part's bytes behind bytes laid -/
theorem bs_over {p : PSt} {s s' : FSt} {i : Nat} {l : List UInt8} (hs : s'.sector = s.sector) (hr : p.base s + p.size s ≤ s.b.length) (hi : i + l.length ≤ p.size s) (hb : s'.b = over s.b (p.base s + i) l) : p.bs s' = over (p.bs s) i l := by
  have h1 : p.base s' = p.base s := by show p.first * _ = p.first * _; rw [hs]
  have h2 : p.size s' = p.size s := by show p.count * _ = p.count * _; rw [hs]
  unfold PSt.bs
  rw [h1, h2, hb]
  exact part_over hr hi
theorem lay_laid {p : PSt} {s : FSt} (h : s.down = false) (ok : s.ok) (hf : p.fits s) {i : Nat} {l : List UInt8} (hi : i + (l.length + 1) ≤ p.size s) (hc : ∀ k, k < l.length + 1 → (p.bs s).getD (i + k) 0 = 255) :
    Laid s (p.lay s i l).1 (p.lay s i l).2 (p.base s + i) (l ++ [0]) := by
  have hr := hf.room ok
  have hbl := PSt.bs_len ok hf
  have h1 := write_laid h ok hf (i := i) (l := l) (by omega) (fun k hk => hc k (by omega))
  obtain ⟨z1, z2⟩ := write_size p s i l
  have hws := p.write_same s i l
  have e : (i : Int) + (l.length : Int) = ((i + l.length : Nat) : Int) := by omega
  unfold PSt.lay
  by_cases h0 : (p.write s i l).1 = 0
  · rw [if_pos h0, e]
    rcases h1 with ⟨_, k2, k3, k4⟩ | ⟨k1, _⟩
    · have hf2 : p.fits (p.write s i l).2 := hf.of (congrArg List.length hws.2.1)
      have hb4 := bs_over hws.1 hr.1 (i := i) (l := l) (by omega) k4
      have q := write_laid k2 (PSt.write_ok p ok i l) hf2 (i := i + l.length) (l := [0]) (by rw [z1]; simpa [Nat.add_assoc] using hi) (fun k hk => by
        have hk0 : k = 0 := by simpa using hk
        subst hk0
        rw [hb4, Nat.add_zero, over_get (by rw [hbl]; omega) (Nat.le_refl _)]
        exact hc l.length (by omega))
      rw [z2, ← Nat.add_assoc] at q
      exact Laid.then ⟨k2, k3, k4⟩ (by omega) q
    · rw [h0] at k1; cases k1
  · rw [if_neg h0]
    exact h1.more _ h0
theorem fill_laid (p : PSt) (m : Vals) : ∀ {s : FSt} (h : s.down = false) (ok : s.ok) (hf : p.fits s) {i : Nat} (hi : i + (recsB m).length ≤ p.size s) (hc : ∀ k, k < (recsB m).length → (p.bs s).getD (i + k) 0 = 255),
    Laid s (p.fill s i m).2.1 (p.fill s i m).2.2 (p.base s + i) (recsB m) := by
  induction m with
  | nil => intro s h ok hf i hi hc; exact .inl ⟨rfl, h, fun h => h, (over_nil _ _).symm⟩
  | cons q r ih =>
    intro s h ok hf i hi hc
    have e : recsB (q :: r) = recB q ++ recsB r := by unfold recsB; rw [List.flatMap_cons]
    have hq := recB_len q
    rw [e, List.length_append] at hi hc
    have hr := hf.room ok
    have hbl := PSt.bs_len ok hf
    have hql : (bodyB q.1.toNat q.2 false).length + 1 = (recB q).length := by rw [hq, bodyB_len]; omega
    have h1 := lay_laid h ok hf (i := i) (l := bodyB q.1.toNat q.2 false) (by omega) (fun k hk => hc k (by omega))
    obtain ⟨z1, z2⟩ := lay_ss p s i (bodyB q.1.toNat q.2 false)
    have hls := p.lay_same s i (bodyB q.1.toNat q.2 false)
    have h1' : Laid s (p.lay s i (bodyB q.1.toNat q.2 false)).1 (p.lay s i (bodyB q.1.toNat q.2 false)).2 (p.base s + i) (recB q) := h1
    unfold PSt.fill
    rw [e]
    by_cases h0 : (p.lay s i (bodyB q.1.toNat q.2 false)).1 = 0
    · rw [if_pos h0]
      rcases h1' with ⟨_, k2, k3, k4⟩ | ⟨k1, _⟩
      · have hb4 := bs_over hls.1 hr.1 (i := i) (l := recB q) (by omega) k4
        have w := ih k2 (PSt.lay_ok p ok i _) (hf.of (congrArg List.length hls.2.1)) (i := i + (7 + q.2.length)) (by rw [z1]; omega) (fun k hk => by
          rw [hb4, over_get (by rw [hbl]; omega) (by omega), Nat.add_assoc]
          exact hc (7 + q.2.length + k) (by omega))
        rw [z2, ← hq, ← Nat.add_assoc] at w
        have w2 := Laid.then ⟨k2, k3, k4⟩ (by omega) w
        rw [hq] at w2
        exact w2
      · rw [h0] at k1; cases k1
    · rw [if_neg h0]
      exact h1'.more _ h0

/-- the other group is cleared, filled, marked; the power may go -/
theorem refill_cut {p : PSt} {s : FSt} (h : s.down = false) (ok : s.ok) (hf : p.fits s) {epoch : Nat} {m : Vals} (hm : needV m ≤ p.size s) :
    Did p s (p.refill s epoch m).1 (p.refill s epoch m).2.2 (img (p.size s) (epoch + 1) m) (fun L => L = p.bs s ∨ L.getD 0 0 = 255) := by
  have hr := hf.room ok
  have hbl := PSt.bs_len ok hf
  have hrl := recsB_len m
  have l1 : (List.replicate (p.size s) (255 : UInt8)).length = p.size s := by simp
  have a := eraseN_cut p.count h ok (k := p.first) hf.le
  have a' : Laid s (p.clear s).1 (p.clear s).2 (p.base s + 0) (List.replicate (p.size s) 255) := a
  have aS := p.clear_same s
  have az : p.size (p.clear s).2 = p.size s := by show p.count * _ = p.count * _; rw [aS.1]
  have ab : p.base (p.clear s).2 = p.base s := by show p.first * _ = p.first * _; rw [aS.1]
  have aok : (p.clear s).2.ok := FSt.eraseN_ok _ ok _
  have af : p.fits (p.clear s).2 := hf.of aS.2.1
  unfold PSt.refill
  by_cases a0 : (p.clear s).1 = 0
  case neg =>
    rw [if_pos a0]
    rcases a'.did hr.1 (by rw [l1]; omega) with ⟨k1, _⟩ | ⟨k1, k2, k3, L, hL, ⟨j, hj, e⟩, k4⟩
    · exact absurd k1 a0
    · refine .inr ⟨k1, k2, k3, L, hL, ?_, k4⟩
      rw [List.take_replicate] at e
      rw [l1] at hj
      rw [Nat.min_eq_left (by omega)] at e
      cases j with
      | zero => left; rw [e]; exact over_nil _ _
      | succ j =>
        right; rw [e]
        rw [List.getD_eq_getElem?_getD, over_get? (by rw [hbl, List.length_replicate]; omega), if_neg (by omega), if_pos (by rw [List.length_replicate]; omega)]
        rfl
  rw [if_neg (by simpa using a0)]
  obtain ⟨a2, a3, a4⟩ : (p.clear s).2.down = false ∧ (s.left < 0 → (p.clear s).2.left < 0) ∧ (p.clear s).2.b = over s.b (p.base s + 0) (List.replicate (p.size s) 255) := by
    rcases a' with ⟨_, k⟩ | ⟨k, _⟩
    · exact k
    · rw [a0] at k; cases k
  have abs : p.bs (p.clear s).2 = List.replicate (p.size s) 255 := by
    rw [bs_over aS.1 hr.1 (by rw [l1]; omega) a4]
    unfold over; rw [l1, List.drop_eq_nil_of_le (by rw [hbl]; omega)]; simp
  have e1 : over (List.replicate (p.size s) 255) 8 (recsB m) = [255, 255, 255, 255, 255, 255, 255, 255] ++ (recsB m ++ List.replicate (p.size s - needV m) 255) := by
    unfold over
    rw [List.take_replicate, List.drop_replicate, Nat.min_eq_left (by omega), List.append_assoc, hrl]; rfl
  have b := fill_laid p m a2 aok af (i := 8) (by rw [az]; omega) (fun k hk => by
    rw [abs, List.getD_eq_getElem?_getD, List.getElem?_replicate, if_pos (by omega)]; rfl)
  have hra : p.base (p.clear s).2 + p.size (p.clear s).2 ≤ (p.clear s).2.b.length := by rw [ab, az, aS.2.2]; exact hr.1
  have b' := b.did hra (by rw [az]; omega)
  rw [abs] at b'
  have bs := p.fill_same m (p.clear s).2 8
  have bz : p.size (p.fill (p.clear s).2 8 m).2.2 = p.size s := by rw [← az]; show p.count * _ = p.count * _; rw [bs.1]
  have bb : p.base (p.fill (p.clear s).2 8 m).2.2 = p.base s := by rw [← ab]; show p.first * _ = p.first * _; rw [bs.1]
  have bok : (p.fill (p.clear s).2 8 m).2.2.ok := PSt.fill_ok p m aok 8
  have bf : p.fits (p.fill (p.clear s).2 8 m).2.2 := af.of (congrArg List.length bs.2.1)
  have ba : ∀ L : List UInt8, L.length = p.size s → over (p.clear s).2.b (p.base s) L = over s.b (p.base s) L := fun L hL => by
    rw [a4, Nat.add_zero]; exact over_same (by rw [l1, hL]) (by rw [l1]; exact hr.1)
  by_cases b0 : (p.fill (p.clear s).2 8 m).2.1 = 0
  case neg =>
    rw [if_pos b0]
    rcases b' with ⟨k1, _⟩ | ⟨k1, k2, k3, L, hL, ⟨j, hj, e⟩, k4⟩
    · exact absurd k1 b0
    · rw [az] at hL
      refine .inr ⟨k1, k2, by have := fun h => a3 h; omega, L, hL, .inr ?_, by rw [← ba L hL, ← ab]; exact k4⟩
      rw [e, List.getD_eq_getElem?_getD, over_get? (by rw [l1, List.length_take]; omega), if_pos (by omega), List.getElem?_replicate, if_pos (by omega)]; rfl
  rw [if_neg (by simpa using b0)]
  obtain ⟨b2, b3, b4⟩ : (p.fill (p.clear s).2 8 m).2.2.down = false ∧ ((p.clear s).2.left < 0 → (p.fill (p.clear s).2 8 m).2.2.left < 0) ∧ (p.fill (p.clear s).2 8 m).2.2.b = over (p.clear s).2.b (p.base (p.clear s).2 + 8) (recsB m) := by
    rcases b with ⟨_, k⟩ | ⟨k, _⟩
    · exact k
    · rw [b0] at k; cases k
  have bbs : p.bs (p.fill (p.clear s).2 8 m).2.2 = over (List.replicate (p.size s) 255) 8 (recsB m) := by
    rw [bs_over bs.1 hra (by rw [az]; omega) b4, abs]
  have l2 : (over (List.replicate (p.size s) (255 : UInt8)) 8 (recsB m)).length = p.size s := by rw [over_len _ _ _ (by rw [l1]; omega), l1]
  have bB : (p.fill (p.clear s).2 8 m).2.2.b = over s.b (p.base s) (over (List.replicate (p.size s) 255) 8 (recsB m)) := by
    rw [b4, ab, a4, Nat.add_zero, over_in (by rw [l1]; omega) (by rw [l1]; exact hr.1)]
  have c := write_laid b2 bok bf (i := 1) (l := put32 (epoch + 1)) (by rw [bz, put32_len]; omega) (fun k hk => by
    rw [put32_len] at hk
    rw [bbs, e1]
    match k, hk with
    | 0, _ => rfl
    | 1, _ => rfl
    | 2, _ => rfl
    | 3, _ => rfl)
  have hrb : p.base (p.fill (p.clear s).2 8 m).2.2 + p.size (p.fill (p.clear s).2 8 m).2.2 ≤ (p.fill (p.clear s).2 8 m).2.2.b.length := by rw [bb, bz, bs.2.2, aS.2.2]; exact hr.1
  have c' := c.did hrb (by rw [bz, put32_len]; omega)
  rw [bbs] at c'
  have c1 : ((1 : Nat) : Int) = 1 := rfl
  rw [c1] at c c'
  have cs := p.write_same (p.fill (p.clear s).2 8 m).2.2 1 (put32 (epoch + 1))
  have cok := PSt.write_ok p bok 1 (put32 (epoch + 1))
  have cf := bf.of (congrArg List.length cs.2.1)
  have cz : p.size (p.write (p.fill (p.clear s).2 8 m).2.2 1 (put32 (epoch + 1))).2 = p.size s := by rw [← bz]; show p.count * _ = p.count * _; rw [cs.1]
  have cb : p.base (p.write (p.fill (p.clear s).2 8 m).2.2 1 (put32 (epoch + 1))).2 = p.base s := by rw [← bb]; show p.first * _ = p.first * _; rw [cs.1]
  have bB2 : ∀ L : List UInt8, L.length = p.size s → over (p.fill (p.clear s).2 8 m).2.2.b (p.base s) L = over s.b (p.base s) L := fun L hL => by
    rw [bB]; exact over_same (by rw [l2, hL]) (by rw [l2]; exact hr.1)
  by_cases c0 : (p.write (p.fill (p.clear s).2 8 m).2.2 1 (put32 (epoch + 1))).1 = 0
  case neg =>
    rw [if_pos c0]
    rcases c' with ⟨k1, _⟩ | ⟨k1, k2, k3, L, hL, ⟨j, hj, e⟩, k4⟩
    · exact absurd k1 c0
    · rw [bz] at hL
      refine .inr ⟨k1, k2, by have := fun h => a3 h; have := fun h => b3 h; omega, L, hL, .inr ?_, by rw [← bB2 L hL, ← bb]; exact k4⟩
      rw [e, e1, List.getD_eq_getElem?_getD, over_get? (by rw [← e1, l2, List.length_take, put32_len]; omega), if_pos (by omega)]; rfl
  rw [if_neg (by simpa using c0)]
  obtain ⟨c2, c3, c4⟩ : (p.write (p.fill (p.clear s).2 8 m).2.2 1 (put32 (epoch + 1))).2.down = false ∧ ((p.fill (p.clear s).2 8 m).2.2.left < 0 → (p.write (p.fill (p.clear s).2 8 m).2.2 1 (put32 (epoch + 1))).2.left < 0) ∧ (p.write (p.fill (p.clear s).2 8 m).2.2 1 (put32 (epoch + 1))).2.b = over (p.fill (p.clear s).2 8 m).2.2.b (p.base (p.fill (p.clear s).2 8 m).2.2 + 1) (put32 (epoch + 1)) := by
    rcases c with ⟨_, k⟩ | ⟨k, _⟩
    · exact k
    · rw [c0] at k; cases k
  have cbs : p.bs (p.write (p.fill (p.clear s).2 8 m).2.2 1 (put32 (epoch + 1))).2 = over (over (List.replicate (p.size s) 255) 8 (recsB m)) 1 (put32 (epoch + 1)) := by
    rw [bs_over cs.1 hrb (by rw [bz, put32_len]; omega) c4, bbs]
  have l3 : (over (over (List.replicate (p.size s) (255 : UInt8)) 8 (recsB m)) 1 (put32 (epoch + 1))).length = p.size s := by rw [over_len _ _ _ (by rw [l2, put32_len]; omega), l2]
  have cB : (p.write (p.fill (p.clear s).2 8 m).2.2 1 (put32 (epoch + 1))).2.b = over s.b (p.base s) (over (over (List.replicate (p.size s) 255) 8 (recsB m)) 1 (put32 (epoch + 1))) := by
    rw [c4, bb, bB, over_in (by rw [l2, put32_len]; omega) (by rw [l2]; exact hr.1)]
  have d := write_laid c2 cok cf (i := 0) (l := [0]) (by rw [cz]; simp; omega) (fun k hk => by
    have hk0 : k = 0 := by simpa using hk
    subst hk0
    rw [cbs, e1]; rfl)
  have d0 : ((0 : Nat) : Int) = 0 := rfl
  rw [d0, cb] at d
  rcases d with ⟨k1, k2, k3, k4⟩ | ⟨k1, k2, k3, j, hj, k4⟩
  · refine .inl ⟨k1, k2, fun h => k3 (c3 (b3 (a3 h))), ?_⟩
    show (p.write _ 0 [0]).2.b = _
    rw [k4, cB, over_in (by rw [l3]; simp; omega) (by rw [l3]; exact hr.1), img_of hm]
  · have hj0 : j = 0 := by simpa using hj
    subst hj0
    rw [List.take_zero, over_nil, cB] at k4
    refine .inr ⟨k1, k2, by have := fun h => a3 h; have := fun h => b3 h; have := fun h => c3 h; omega, _, l3, .inr ?_, k4⟩
    rw [e1]; rfl

end Go.Proofs.Ytdnpmkejondpoaa

/- Two groups of a flash: which counts, what it has; it is kept through every step, wherever the power goes. No program in sight. -/
namespace Go.Proofs.Ytdnpmkejondpoaa
open Go.RowKit Go.Maps
set_option linter.unusedVariables false
set_option linter.unusedSimpArgs false

/-- the two groups lie side by side, of n bytes each -/
structure Two (E : Env) (n : Nat) (s : FSt) : Prop where
  ok : s.ok
  p0 : E.p0 = ⟨0, 2⟩
  p1 : E.p1 = ⟨2, 2⟩
  w : s.wear.length = 4
  n : 2 * s.sector.toNat = n
theorem Two.of {E : Env} {n : Nat} {s s' : FSt} (h : Two E n s) (ok : s'.ok) (h1 : s'.sector = s.sector) (h2 : s'.wear.length = s.wear.length) : Two E n s' :=
  ⟨ok, h.p0, h.p1, h2.trans h.w, by rw [h1]; exact h.n⟩
theorem Two.size {E : Env} {n : Nat} {s : FSt} (h : Two E n s) (i : Nat) : (E.part i).size s = n := by
  unfold Env.part
  split
  · rw [h.p0]; exact h.n
  · rw [h.p1]; exact h.n
theorem Two.base {E : Env} {n : Nat} {s : FSt} (h : Two E n s) (i : Nat) : (E.part i).base s = if i = 0 then 0 else n := by
  unfold Env.part
  split
  · rw [h.p0]; show 0 * _ = _; omega
  · rw [h.p1]; exact h.n
theorem Two.len {E : Env} {n : Nat} {s : FSt} (h : Two E n s) : s.b.length = n + n := by
  have h1 := sector_room h.ok; have h2 := h.n
  rw [h.w] at h1; omega
theorem Two.fits {E : Env} {n : Nat} {s : FSt} (h : Two E n s) (i : Nat) : (E.part i).fits s := by
  unfold Env.part
  split
  · rw [h.p0]; exact ⟨by show 1 ≤ 2; omega, by rw [h.w]; show 0 + 2 ≤ 4; omega⟩
  · rw [h.p1]; exact ⟨by show 1 ≤ 2; omega, by rw [h.w]; show 2 + 2 ≤ 4; omega⟩
theorem Two.n32 {E : Env} {n : Nat} {s : FSt} (h : Two E n s) : 32 ≤ n ∧ n ≤ 8192 := by
  have := h.ok.s0; have := h.ok.s1; have := h.n; omega
theorem Two.bytes {E : Env} {n : Nat} {s : FSt} (h : Two E n s) (i : Nat) : E.bytes s i n = (E.part i).bs s := by
  unfold Env.bytes PSt.bs; rw [h.size]
theorem Two.blen {E : Env} {n : Nat} {s : FSt} (h : Two E n s) (i : Nat) : ((E.part i).bs s).length = n := by
  rw [PSt.bs_len h.ok (h.fits i), h.size]
/-- a group is turned: it alone -/
theorem Two.turn {E : Env} {n : Nat} {s s' : FSt} (h : Two E n s) (h' : Two E n s') {i : Nat} (hi : i ≤ 1) {L : List UInt8} (hL : L.length = n) (hb : s'.b = over s.b ((E.part i).base s) L) :
    (E.part i).bs s' = L ∧ (E.part (1 - i)).bs s' = (E.part (1 - i)).bs s := by
  have hl := h.len
  have b1 := h.base i
  have hr : (E.part i).base s + n ≤ s.b.length := by rw [b1, hl]; split <;> omega
  constructor
  · unfold PSt.bs
    rw [h'.size, hb, h'.base, ← b1]
    have := part_over (b := s.b) (o := (E.part i).base s) (n := n) (i := 0) (l := L) hr (by omega)
    rw [Nat.add_zero] at this
    rw [this]
    have e : ((s.b.drop ((E.part i).base s)).take n).drop (0 + L.length) = [] := List.drop_eq_nil_of_le (by simp; omega)
    unfold over
    rw [e]; simp
  · unfold PSt.bs
    rw [h'.size, h.size, hb, h'.base, b1, h.base]
    have hh : i = 0 ∨ i = 1 := by omega
    rcases hh with rfl | rfl
    · exact part_aside (by simp; omega) (.inl (by simp; omega))
    · exact part_aside (by simp; omega) (.inr (by simp))

/-- group now counts, by its epoch; it has m, its records end at fin -/
structure Holds (E : Env) (n : Nat) (s : FSt) (now epoch : Nat) (m : Vals) (fin : Nat) : Prop where
  two : Two E n s
  one : now ≤ 1
  mark : ((E.part now).bs s).getD 0 0 = 0
  ep : get32 (((E.part now).bs s).drop 1) = epoch
  other : ((E.part (1 - now)).bs s).getD 0 0 ≠ 0 ∨ get32 (((E.part (1 - now)).bs s).drop 1) < epoch
  recs : replayB ((E.part now).bs s) = some (m, fin)
/-- nothing stands behind the records -/
def Clean (E : Env) (s : FSt) (now fin : Nat) : Prop := tornB ((E.part now).bs s) fin = false

theorem headsStep_yes {b : List UInt8} {i : Nat} {h : Heads} (c : b.getD 0 0 = 0) (d : h.found = false ∨ h.epoch < get32 (b.drop 1)) : headsStep b i h = ⟨true, i, get32 (b.drop 1)⟩ := if_pos ⟨c, d⟩
theorem headsStep_no {b : List UInt8} {i : Nat} {h : Heads} (c : ¬ (b.getD 0 0 = 0 ∧ (h.found = false ∨ h.epoch < get32 (b.drop 1)))) : headsStep b i h = h := if_neg c
theorem Holds.heads {E : Env} {n : Nat} {s : FSt} {now epoch : Nat} {m : Vals} {fin : Nat} (h : Holds E n s now epoch m fin) : headsF (E.bytes s 0 n) (E.bytes s 1 n) 0 0 = ⟨true, now, epoch⟩ := by
  have hm := h.mark; have he := h.ep; have ho := h.other
  rw [h.two.bytes, h.two.bytes]
  have hh : now = 0 ∨ now = 1 := by have := h.one; omega
  unfold headsF
  rcases hh with rfl | rfl
  · have ho' : ((E.part 1).bs s).getD 0 0 ≠ 0 ∨ get32 (((E.part 1).bs s).drop 1) < epoch := ho
    rw [headsStep_yes (b := (E.part 0).bs s) hm (.inl rfl), he]
    refine headsStep_no ?_
    rintro ⟨k1, k2⟩
    rcases k2 with k2 | k2
    · cases k2
    · rcases ho' with ho | ho
      · exact ho k1
      · simp only at ho k2
        omega
  · have ho' : ((E.part 0).bs s).getD 0 0 ≠ 0 ∨ get32 (((E.part 0).bs s).drop 1) < epoch := ho
    by_cases c : ((E.part 0).bs s).getD 0 0 = 0
    · rw [headsStep_yes (b := (E.part 0).bs s) c (.inl rfl)]
      rcases ho' with ho' | ho'
      · exact absurd c ho'
      · rw [headsStep_yes (b := (E.part 1).bs s) hm (.inr (by rw [he]; exact ho')), he]
    · rw [headsStep_no (b := (E.part 0).bs s) (fun k => c k.1), headsStep_yes (b := (E.part 1).bs s) hm (.inl rfl), he]

/-- the answer of heads, as a state -/
theorem heads_state {E : Env} {n : Nat} {s : FSt} (h2 : Two E n s) (hf : (headsF (E.bytes s 0 n) (E.bytes s 1 n) 0 0).found = true) :
    ∃ now epoch, headsF (E.bytes s 0 n) (E.bytes s 1 n) 0 0 = ⟨true, now, epoch⟩ ∧ now ≤ 1 ∧ ((E.part now).bs s).getD 0 0 = 0 ∧ get32 (((E.part now).bs s).drop 1) = epoch := by
  rw [h2.bytes, h2.bytes] at *
  unfold headsF at *
  by_cases c0 : ((E.part 0).bs s).getD 0 0 = 0
  · rw [headsStep_yes (b := (E.part 0).bs s) c0 (.inl rfl)] at *
    by_cases c1 : ((E.part 1).bs s).getD 0 0 = 0 ∧ (true = false ∨ get32 (((E.part 0).bs s).drop 1) < get32 (((E.part 1).bs s).drop 1))
    · rw [headsStep_yes (b := (E.part 1).bs s) c1.1 c1.2]; exact ⟨1, _, rfl, by omega, c1.1, rfl⟩
    · rw [headsStep_no (b := (E.part 1).bs s) c1]; exact ⟨0, _, rfl, by omega, c0, rfl⟩
  · rw [headsStep_no (b := (E.part 0).bs s) (fun k => c0 k.1)] at *
    by_cases c1 : ((E.part 1).bs s).getD 0 0 = 0
    · rw [headsStep_yes (b := (E.part 1).bs s) c1 (.inl rfl)]; exact ⟨1, _, rfl, by omega, c1, rfl⟩
    · rw [headsStep_no (b := (E.part 1).bs s) (fun k => c1 k.1)] at hf; cases hf

theorem refill_ok (p : PSt) {s : FSt} (h : s.ok) (epoch : Nat) (m : Vals) : (p.refill s epoch m).2.2.ok := by
  have h1 : (p.clear s).2.ok := FSt.eraseN_ok _ h _
  have h2 : (p.fill (p.clear s).2 8 m).2.2.ok := PSt.fill_ok p m h1 8
  have h3 := PSt.write_ok p h2 1 (put32 (epoch + 1))
  unfold PSt.refill
  split; exact h1
  split; exact h2
  split; exact h3
  exact PSt.write_ok p h3 0 [0]

/-- what a move leaves -/
theorem move_state {E : Env} {n : Nat} {s : FSt} (h2 : Two E n s) {now epoch fin : Nat} {om m : Vals} (hn : now ≤ 1) (hd : s.down = false) (hv : VOk m) (hm : needV m ≤ n) (he : epoch < 4294967295)
    (hcap : ((E.part now).bs s).getD 0 0 ≠ 0 ∨ get32 (((E.part now).bs s).drop 1) = epoch) :
    ((E.move n ⟨s, now, epoch, fin, om⟩ m).1 = 0 ∧ ∃ s', E.move n ⟨s, now, epoch, fin, om⟩ m = (0, ⟨s', 1 - now, epoch + 1, needV m, m⟩) ∧ s'.down = false ∧ (s.left < 0 → s'.left < 0) ∧ Holds E n s' (1 - now) (epoch + 1) m (needV m) ∧ Clean E s' (1 - now) (needV m)) ∨
    (0 ≤ s.left ∧ ∃ s', E.move n ⟨s, now, epoch, fin, om⟩ m = (30, ⟨s', now, epoch, fin, om⟩) ∧ s'.down = true ∧ Two E n s' ∧ (E.part now).bs s' = (E.part now).bs s ∧
      ((E.part (1 - now)).bs s' = (E.part (1 - now)).bs s ∨ ((E.part (1 - now)).bs s').getD 0 0 = 255)) := by
  have hsz := h2.size (1 - now)
  have hr := refill_cut (p := E.part (1 - now)) hd h2.ok (h2.fits _) (epoch := epoch) (m := m) (by rw [hsz]; exact hm)
  have hs := (E.part (1 - now)).refill_same s epoch m
  have h2' : Two E n ((E.part (1 - now)).refill s epoch m).2.2 := h2.of (refill_ok _ h2.ok _ _) hs.1 hs.2.1
  have hnn : 1 - (1 - now) = now := by omega
  rw [hsz] at hr
  unfold Env.move
  rw [if_neg (by omega), if_neg (by show ¬ epoch = _; omega)]
  rcases hr with ⟨k1, k2, k3, k4⟩ | ⟨k1, k2, k3, L, hL, hp, k4⟩
  · left
    have hlen := img_len (n := n) (epoch := epoch + 1) hm
    obtain ⟨t1, t2⟩ := h2.turn h2' (i := 1 - now) (by omega) hlen k4
    rw [hnn] at t2
    have hend : ((E.part (1 - now)).refill s epoch m).2.1 = needV m := refill_end _ _ _ _ k1
    rw [if_pos k1, hend]
    refine ⟨rfl, _, rfl, k2, k3, ⟨h2', by omega, ?_, ?_, ?_, ?_⟩, ?_⟩
    · rw [t1]; exact (img_head m (by omega)).1
    · rw [t1]; exact (img_head m (by omega)).2
    · rw [hnn, t2]; rcases hcap with h | h; exact .inl h; exact .inr (by omega)
    · rw [t1]; exact replayB_img hv
    · unfold Clean; rw [t1]; exact tornB_img
  · right
    rw [hsz] at hL
    obtain ⟨t1, t2⟩ := h2.turn h2' (i := 1 - now) (by omega) hL k4
    rw [hnn] at t2
    rw [if_neg (by rw [k1]; decide)]
    refine ⟨k3, _, by rw [k1], k2, h2', t2, ?_⟩
    rw [t1]
    exact hp

/-- a cut in the other group leaves what counts -/
theorem Holds.still {E : Env} {n : Nat} {s s' : FSt} {now epoch : Nat} {m : Vals} {fin : Nat} (h : Holds E n s now epoch m fin) (h2 : Two E n s') (h3 : (E.part now).bs s' = (E.part now).bs s)
    (h4 : (E.part (1 - now)).bs s' = (E.part (1 - now)).bs s ∨ ((E.part (1 - now)).bs s').getD 0 0 = 255) : Holds E n s' now epoch m fin := by
  refine ⟨h2, h.one, by rw [h3]; exact h.mark, by rw [h3]; exact h.ep, ?_, by rw [h3]; exact h.recs⟩
  rcases h4 with h4 | h4
  · rw [h4]; exact h.other
  · left; rw [h4]; decide

/-- it is moved -/
theorem Holds.move {E : Env} {n : Nat} {s : FSt} {now epoch : Nat} {om m : Vals} {fin : Nat} (h : Holds E n s now epoch om fin) (hd : s.down = false) (hv : VOk m) (hm : needV m ≤ n) (he : epoch < 4294967295) :
    (∃ s', E.move n ⟨s, now, epoch, fin, om⟩ m = (0, ⟨s', 1 - now, epoch + 1, needV m, m⟩) ∧ s'.down = false ∧ (s.left < 0 → s'.left < 0) ∧ Holds E n s' (1 - now) (epoch + 1) m (needV m) ∧ Clean E s' (1 - now) (needV m)) ∨
    (0 ≤ s.left ∧ ∃ s', E.move n ⟨s, now, epoch, fin, om⟩ m = (30, ⟨s', now, epoch, fin, om⟩) ∧ s'.down = true ∧ Holds E n s' now epoch om fin ∧ (E.part now).bs s' = (E.part now).bs s) := by
  rcases move_state h.two (now := now) (epoch := epoch) (fin := fin) (om := om) h.one hd hv hm he (.inr h.ep) with ⟨_, h1⟩ | ⟨h1, s', h2, h3, h4, h5, h6⟩
  · exact .inl h1
  · exact .inr ⟨h1, s', h2, h3, h.still h4 h5 h6, h5⟩

theorem Holds.fin_le {E : Env} {n : Nat} {s : FSt} {now epoch : Nat} {m : Vals} {fin : Nat} (h : Holds E n s now epoch m fin) : VOk m ∧ needV m ≤ fin ∧ fin ≤ n := by
  obtain ⟨h1, h2, h3⟩ := replayB_ok h.recs
  refine ⟨h1, h2, ?_⟩
  have hl := h.two.blen now
  have h32 := h.two.n32
  have := h.recs
  unfold replayB at this
  have := replayF_end (by rw [hl]; omega) this
  rw [hl] at this; exact this

/-- it is opened -/
theorem Holds.open {E : Env} {n : Nat} {s : FSt} {now epoch : Nat} {m : Vals} {fin : Nat} (h : Holds E n s now epoch m fin) (hd : s.down = false) (he : epoch < 4294967295) :
    (∃ s' now' epoch' fin', E.open' n s = (0, ⟨s', now', epoch', fin', m⟩) ∧ s'.down = false ∧ (s.left < 0 → s'.left < 0) ∧ Holds E n s' now' epoch' m fin' ∧ Clean E s' now' fin' ∧ epoch' ≤ epoch + 1) ∨
    (0 ≤ s.left ∧ ∃ s', (E.open' n s).1 = 30 ∧ (E.open' n s).2.s = s' ∧ s'.down = true ∧ Holds E n s' now epoch m fin) := by
  have h32 := h.two.n32
  obtain ⟨q1, q2, q3⟩ := h.fin_le
  unfold Env.open'
  rw [if_neg (by rw [hd]; decide), if_neg (by omega), h.heads, if_neg (by simp)]
  simp only []
  rw [h.two.bytes, h.recs]
  simp only []
  by_cases ht : tornB ((E.part now).bs s) fin = true
  · rw [if_pos ht]
    rcases h.move hd q1 (by omega) he with ⟨s', h1, h2, h3, h4, h5⟩ | ⟨h1, s', h2, h3, h4, _⟩
    · exact .inl ⟨s', 1 - now, epoch + 1, needV m, h1, h2, h3, h4, h5, by omega⟩
    · exact .inr ⟨h1, s', by rw [h2], by rw [h2], h3, h4⟩
  · rw [if_neg ht]
    exact .inl ⟨s, now, epoch, fin, rfl, hd, fun h => h, h, by simpa [Clean] using ht, by omega⟩
theorem Holds.open_clean {E : Env} {n : Nat} {s : FSt} {now epoch : Nat} {m : Vals} {fin : Nat} (h : Holds E n s now epoch m fin) (hc : Clean E s now fin) (hd : s.down = false) : E.open' n s = (0, ⟨s, now, epoch, fin, m⟩) := by
  have h32 := h.two.n32
  unfold Env.open'
  rw [if_neg (by rw [hd]; decide), if_neg (by omega), h.heads, if_neg (by simp)]
  simp only []
  rw [h.two.bytes, h.recs]
  simp only []
  rw [if_neg (by rw [hc]; decide)]

end Go.Proofs.Ytdnpmkejondpoaa

/- A record behind the others: laid whole it is read; laid in part it is none. Put and Drop. No program in sight. -/
namespace Go.Proofs.Ytdnpmkejondpoaa
open Go.RowKit Go.Maps
set_option linter.unusedVariables false
set_option linter.unusedSimpArgs false

theorem getD_agree {b b' : List UInt8} {f k : Nat} (ht : b'.take f = b.take f) (hk : k < f) : b'.getD k 0 = b.getD k 0 := by
  have := congrArg (fun l => l[k]?) ht
  simp only [List.getElem?_take, if_pos hk] at this
  rw [List.getD_eq_getElem?_getD, List.getD_eq_getElem?_getD, this]
theorem part_agree {b b' : List UInt8} {f i n : Nat} (ht : b'.take f = b.take f) (hk : i + n ≤ f) : (b'.drop i).take n = (b.drop i).take n := by
  apply List.ext_getElem?; intro k
  rw [List.getElem?_take, List.getElem?_take]
  split
  · rw [List.getElem?_drop, List.getElem?_drop]
    have := congrArg (fun l => l[i + k]?) ht
    simpa only [List.getElem?_take, if_pos (show i + k < f by omega)] using this
  · rfl
theorem nextR_agree {b b' : List UInt8} {i f : Nat} {r : Rec} (h : nextR b i = some r) (hf : r.fin ≤ f) (hl : b'.length = b.length) (ht : b'.take f = b.take f) : nextR b' i = some r ∧ rightR b' i r.fin = rightR b i r.fin := by
  have hs := nextR_spec h
  constructor
  · unfold nextR at h ⊢
    rw [getD_agree ht (show i < f by omega), getD_agree ht (show i + 1 < f by omega), hl]
    split at h
    · cases h
    rename_i c1
    split at h
    · cases h
    rename_i c2
    split at h
    · cases h
    rename_i c3
    split at h
    · cases h
    rename_i c4
    split at h
    · cases h
    rename_i c5
    have hfin : i + 7 + recN (b.getD (i + 1) 0) ≤ f := by cases h; exact hf
    rw [if_neg c1, if_neg c2, if_neg c3, if_neg c4, getD_agree ht (show i + 6 + recN (b.getD (i + 1) 0) < f by omega), if_neg c5, part_agree ht (by omega)]
    exact h
  · unfold rightR
    rw [part_agree ht (by omega)]
theorem replayF_mono {b : List UInt8} : ∀ {n i : Nat} {m r : Vals} {j : Nat}, replayF b n i m = some (r, j) → i ≤ j := by
  intro n
  induction n with
  | zero => intro i m r j h; simp only [replayF, Option.some.injEq, Prod.mk.injEq] at h; omega
  | succ n ih =>
    intro i m r j h
    unfold replayF at h
    cases hn : nextR b i with
    | none => rw [hn] at h; simp only [Option.some.injEq, Prod.mk.injEq] at h; omega
    | some q =>
      rw [hn] at h
      simp only at h
      split at h
      · cases h
      · have := ih h; have := nextR_spec hn; omega
theorem replayF_agree {b b' : List UInt8} {f : Nat} (hl : b'.length = b.length) (ht : b'.take f = b.take f) : ∀ (n i : Nat) (m0 m : Vals), replayF b n i m0 = some (m, f) → b.length < i + n → ∀ n', b.length < f + n' → replayF b' n i m0 = replayF b' n' f m := by
  intro n
  induction n with
  | zero =>
    intro i m0 m h hi n' hn'
    simp only [replayF, Option.some.injEq, Prod.mk.injEq] at h
    obtain ⟨rfl, rfl⟩ := h
    exact replayF_big _ _ _ (by rw [hl]; exact hi) _ (by rw [hl]; exact hn')
  | succ n ih =>
    intro i m0 m h hi n' hn'
    unfold replayF at h
    cases hn : nextR b i with
    | none =>
      rw [hn] at h
      simp only [Option.some.injEq, Prod.mk.injEq] at h
      obtain ⟨rfl, rfl⟩ := h
      exact replayF_big _ _ _ (by rw [hl]; exact hi) _ (by rw [hl]; exact hn')
    | some q =>
      rw [hn] at h
      simp only at h
      split at h
      · cases h
      · rename_i hr
        have hs := nextR_spec hn
        have hm := replayF_mono h
        obtain ⟨e1, e2⟩ := nextR_agree hn hm hl ht
        conv => lhs; unfold replayF
        rw [e1]
        simp only
        rw [e2, if_neg hr]
        exact ih _ _ _ h (by omega) _ hn'

/-- what stands behind the records of a clean group -/
theorem clean_form {b : List UInt8} {f : Nat} (h : tornB b f = false) : b = b.take f ++ List.replicate (b.length - f) 255 := by
  conv => lhs; rw [← List.take_append_drop f b]
  congr 1
  unfold tornB at h
  rw [List.any_eq_false] at h
  rw [List.eq_replicate_iff]
  exact ⟨by simp, fun c hc => by simpa using h c hc⟩
theorem clean_get {b : List UInt8} {f : Nat} (h : tornB b f = false) {k : Nat} (hk : f + k < b.length) : b.getD (f + k) 0 = 255 := by
  unfold tornB at h
  rw [List.any_eq_false] at h
  have : b[f + k]'hk ∈ b.drop f := by
    rw [List.mem_iff_getElem?]
    exact ⟨k, by rw [List.getElem?_drop, List.getElem?_eq_getElem hk]⟩
  have := h _ this
  rw [List.getD_eq_getElem?_getD, List.getElem?_eq_getElem hk]
  simpa using this
theorem over_clean {b : List UInt8} {f : Nat} (h : tornB b f = false) {l : List UInt8} (hl : f + l.length ≤ b.length) : over b f l = b.take f ++ (l ++ List.replicate (b.length - f - l.length) 255) := by
  have e : b.drop (f + l.length) = List.replicate (b.length - f - l.length) 255 := by
    rw [← List.drop_drop]
    conv => lhs; rw [clean_form h]
    rw [List.drop_left', List.drop_replicate]
    simp; omega
  unfold over
  rw [e, List.append_assoc]
theorem take_over (b : List UInt8) (f : Nat) (l : List UInt8) (h : f ≤ b.length) : (over b f l).take f = b.take f := by
  unfold over
  rw [List.append_assoc, List.take_left']
  simp; omega

theorem laid_full {b : List UInt8} {m : Vals} {f : Nat} (h : replayB b = some (m, f)) (ht : tornB b f = false) {k : Nat} {l : List UInt8} {drop : Bool} (hk : k < 32) (hl : l.length ≤ 250) (hd : drop = true → l = []) (hr : f + (7 + l.length) ≤ b.length) :
    replayB (over b f (recD k l drop)) = some ((⟨k, l, drop, 7 + l.length⟩ : Rec).apply m, f + (7 + l.length)) ∧ tornB (over b f (recD k l drop)) (f + (7 + l.length)) = false := by
  have hlen : (recD k l drop).length = 7 + l.length := recD_len k l drop
  have ho := over_clean ht (l := recD k l drop) (by omega)
  have hol := over_len b f (recD k l drop) (by omega)
  have hpl : (b.take f).length = f := by rw [List.length_take]; omega
  constructor
  · have ha := replayF_agree hol (take_over b f (recD k l drop) (by omega)) _ _ _ _ h (by omega) (b.length + 1 + 1) (by omega)
    have hrec := replayF_rec (pre := b.take f) hk hl hd (List.replicate (b.length - f - (recD k l drop).length) 255) (b.length + 1) m
    unfold replayB
    rw [hol, ha]
    rw [hpl] at hrec
    rw [ho, hrec]
    unfold replayF
    have hnn := nextR_app (b.take f ++ recD k l drop) (List.replicate (b.length - f - (recD k l drop).length) 255)
    rw [nextR_255, List.append_assoc, List.length_append, hpl, hlen] at hnn
    rw [hlen, hnn]
    rfl
  · rw [ho, ← List.append_assoc]
    have e : f + (7 + l.length) = (b.take f ++ recD k l drop).length := by rw [List.length_append, hpl, hlen]
    rw [e]
    exact tornB_255 _ _
theorem nextR_part {k : Nat} {l : List UInt8} {drop : Bool} (hk : k < 32) (hl : l.length ≤ 250) (hd : drop = true → l = []) {j r : Nat} (hj : j < 7 + l.length) (hr : 7 + l.length ≤ j + r) :
    nextR ((recD k l drop).take j ++ List.replicate r 255) 0 = none := by
  have hlen : (recD k l drop).length = 7 + l.length := recD_len k l drop
  have hK : (UInt8.ofNat k).toNat = k := by rw [UInt8.toNat_ofNat']; omega
  have hL : (UInt8.ofNat l.length).toNat = l.length := by rw [UInt8.toNat_ofNat']; omega
  have hne : UInt8.ofNat l.length ≠ 254 := by intro e; rw [e] at hL; have : (254 : UInt8).toNat = 254 := rfl; omega
  have hN : recN (if drop = true then 254 else UInt8.ofNat l.length) = l.length := by
    cases drop with
    | true => rw [hd rfl]; rfl
    | false => simp only [Bool.false_eq_true, if_false]; unfold recN; rw [if_neg hne, hL]
  have htl : ((recD k l drop).take j).length = j := by rw [List.length_take]; omega
  have hlo : ∀ i, i < j → ((recD k l drop).take j ++ List.replicate r 255).getD i 0 = (recD k l drop).getD i 0 := fun i hi => by
    rw [List.getD_eq_getElem?_getD, List.getD_eq_getElem?_getD, List.getElem?_append_left (by omega), List.getElem?_take, if_pos hi]
  have hhi : ∀ i, j ≤ i → i < j + r → ((recD k l drop).take j ++ List.replicate r 255).getD i 0 = 255 := fun i h1 h2 => by
    rw [List.getD_eq_getElem?_getD, List.getElem?_append_right (by omega), htl, List.getElem?_replicate, if_pos (by omega)]; rfl
  have hx : ((recD k l drop).take j ++ List.replicate r 255).length = j + r := by rw [List.length_append, htl, List.length_replicate]
  unfold nextR
  rw [hx, if_neg (by omega)]
  by_cases j0 : j = 0
  · rw [hhi 0 (by omega) (by omega), if_pos (by decide)]
  · rw [hlo 0 (by omega)]
    have g0 : (recD k l drop).getD 0 0 = UInt8.ofNat k := by rw [recD_form]; rfl
    rw [g0, hK, if_neg (by omega)]
    by_cases j1 : j = 1
    · rw [hhi (0 + 1) (by omega) (by omega), if_pos (by decide)]
    · have g1 : (recD k l drop).getD (0 + 1) 0 = (if drop = true then 254 else UInt8.ofNat l.length) := by rw [recD_form]; rfl
      rw [hlo (0 + 1) (by omega), g1, hN, if_neg (by omega), if_neg (by omega), hhi (0 + 6 + l.length) (by omega) (by omega), if_pos (by decide)]
theorem laid_part {b : List UInt8} {m : Vals} {f : Nat} (h : replayB b = some (m, f)) (ht : tornB b f = false) {k : Nat} {l : List UInt8} {drop : Bool} (hk : k < 32) (hl : l.length ≤ 250) (hd : drop = true → l = []) (hr : f + (7 + l.length) ≤ b.length) {j : Nat} (hj : j < 7 + l.length) :
    replayB (over b f ((recD k l drop).take j)) = some (m, f) := by
  have hlen : (recD k l drop).length = 7 + l.length := recD_len k l drop
  have htl : ((recD k l drop).take j).length = j := by rw [List.length_take]; omega
  have ho := over_clean ht (l := (recD k l drop).take j) (by omega)
  have hol := over_len b f ((recD k l drop).take j) (by omega)
  have hpl : (b.take f).length = f := by rw [List.length_take]; omega
  have ha := replayF_agree hol (take_over b f ((recD k l drop).take j) (by omega)) _ _ _ _ h (by omega) (b.length + 1) (by omega)
  unfold replayB
  rw [hol, ha, ho]
  have hnn := nextR_app (b.take f) ((recD k l drop).take j ++ List.replicate (b.length - f - ((recD k l drop).take j).length) 255)
  rw [htl, nextR_part hk hl hd hj (by omega), hpl] at hnn
  unfold replayF
  rw [htl, hnn]
  rfl

theorem get32_agree {b b' : List UInt8} (ht : b'.take 8 = b.take 8) : get32 (b'.drop 1) = get32 (b.drop 1) := by
  have h : ∀ k, k < 4 → (b'.drop 1).getD k 0 = (b.drop 1).getD k 0 := fun k hk => by
    have := getD_agree ht (k := k + 1) (by omega)
    simpa [List.getD_eq_getElem?_getD, List.getElem?_drop] using this
  unfold get32
  simp only [getN]
  rw [h 0 (by omega), h 1 (by omega), h 2 (by omega), h 3 (by omega)]
theorem take_less {b b' : List UInt8} {f g : Nat} (ht : b'.take f = b.take f) (h : g ≤ f) : b'.take g = b.take g := by
  have := congrArg (List.take g) ht
  rwa [List.take_take, List.take_take, Nat.min_eq_left h] at this

/-- a record is laid behind the others -/
theorem Holds.lay {E : Env} {n : Nat} {s : FSt} {now epoch : Nat} {m : Vals} {fin : Nat} (h : Holds E n s now epoch m fin) (hc : Clean E s now fin) (hd : s.down = false)
    {k : Nat} {l : List UInt8} {drop : Bool} (hk : k < 32) (hl : l.length ≤ 250) (hdr : drop = true → l = []) (hr : fin + (7 + l.length) ≤ n) :
    (∃ s', (E.part now).lay s fin (bodyB k l drop) = (0, s') ∧ s'.down = false ∧ (s.left < 0 → s'.left < 0) ∧ Holds E n s' now epoch ((⟨k, l, drop, 7 + l.length⟩ : Rec).apply m) (fin + (7 + l.length)) ∧ Clean E s' now (fin + (7 + l.length))) ∨
    (0 ≤ s.left ∧ ∃ s', (E.part now).lay s fin (bodyB k l drop) = (30, s') ∧ s'.down = true ∧ Holds E n s' now epoch m fin) := by
  have hb := h.two.blen now
  have hsz := h.two.size now
  have hbo := h.two.base now
  have hlen := h.two.len
  have hfl := h.fin_le
  have h8 := needV_8 m
  have hbl : (bodyB k l drop).length = 6 + l.length := by rw [bodyB_len]; omega
  have hL := lay_laid (p := E.part now) hd h.two.ok (h.two.fits now) (i := fin) (l := bodyB k l drop) (by rw [hsz, hbl]; omega) (fun j hj => clean_get hc (by rw [hb]; omega))
  have hs := (E.part now).lay_same s fin (bodyB k l drop)
  have h2' : Two E n ((E.part now).lay s fin (bodyB k l drop)).2 := h.two.of (PSt.lay_ok _ h.two.ok _ _) hs.1 (congrArg List.length hs.2.1)
  have hroom : (E.part now).base s + (E.part now).size s ≤ s.b.length := by rw [hsz, hbo, hlen]; split <;> omega
  have hD := hL.did hroom (by rw [hsz, List.length_append, hbl]; simp; omega)
  have e0 : bodyB k l drop ++ [0] = recD k l drop := rfl
  rw [e0] at hD
  have hrl : (recD k l drop).length = 7 + l.length := recD_len k l drop
  rcases hD with ⟨k1, k2, k3, k4⟩ | ⟨k1, k2, k3, L, hLl, ⟨j, hj, e⟩, k4⟩
  · left
    obtain ⟨t1, t2⟩ := h.two.turn h2' h.one (by rw [over_len _ _ _ (by rw [hb, hrl]; omega), hb]) k4
    obtain ⟨u1, u2⟩ := laid_full h.recs hc hk hl hdr (by rw [hb]; exact hr)
    have htk := take_over ((E.part now).bs s) fin (recD k l drop) (by rw [hb]; omega)
    refine ⟨_, Prod.ext k1 rfl, k2, k3, ⟨h2', h.one, ?_, ?_, ?_, by rw [t1]; exact u1⟩, by unfold Clean; rw [t1]; exact u2⟩
    · rw [t1, getD_agree (take_less htk (show 8 ≤ fin by omega)) (by omega)]; exact h.mark
    · rw [t1, get32_agree (take_less htk (show 8 ≤ fin by omega))]; exact h.ep
    · rw [t2]; exact h.other
  · right
    rw [hsz] at hLl
    obtain ⟨t1, t2⟩ := h.two.turn h2' h.one hLl k4
    rw [e] at t1
    rw [hrl] at hj
    have htk := take_over ((E.part now).bs s) fin ((recD k l drop).take j) (by rw [hb]; omega)
    refine ⟨k3, _, Prod.ext k1 rfl, k2, ⟨h2', h.one, ?_, ?_, ?_, ?_⟩⟩
    · rw [t1, getD_agree (take_less htk (show 8 ≤ fin by omega)) (by omega)]; exact h.mark
    · rw [t1, get32_agree (take_less htk (show 8 ≤ fin by omega))]; exact h.ep
    · rw [t2]; exact h.other
    · rw [t1]; exact laid_part h.recs hc hk hl hdr (by rw [hb]; exact hr) hj

/-- a journal that is as its flash -/
structure JGood (E : Env) (n : Nat) (j : JSt) : Prop where
  holds : Holds E n j.s j.now j.epoch j.m j.fin
  clean : Clean E j.s j.now j.fin
  up : j.s.down = false

/-- a record is written, or all moves -/
theorem write_state {E : Env} {n : Nat} {j : JSt} (h : JGood E n j) {k : Nat} {l : List UInt8} {drop : Bool} (hk : k < 32) (hl : l.length ≤ 250) (hdr : drop = true → l = []) {m : Vals}
    (hm : m = (⟨k, l, drop, 7 + l.length⟩ : Rec).apply j.m) (he : j.epoch < 4294967295) :
    (n < needV m ∧ E.write n j (bodyB k l drop) m = (6, j)) ∨
    (needV m ≤ n ∧ ∃ j', E.write n j (bodyB k l drop) m = (0, j') ∧ JGood E n j' ∧ j'.m = m ∧ (j.s.left < 0 → j'.s.left < 0) ∧
      ((j.fin + (7 + l.length) ≤ n ∧ j'.fin = j.fin + (7 + l.length) ∧ j'.epoch = j.epoch) ∨ (n < j.fin + (7 + l.length) ∧ j'.fin = needV m ∧ j'.epoch = j.epoch + 1))) ∨
    (needV m ≤ n ∧ 0 ≤ j.s.left ∧ ∃ j', E.write n j (bodyB k l drop) m = (30, j') ∧ j'.s.down = true ∧ Holds E n j'.s j.now j.epoch j.m j.fin) := by
  have hbl : (bodyB k l drop).length + 1 = 7 + l.length := by rw [bodyB_len]; omega
  have hvo : VOk m := by
    have := h.holds.fin_le.1
    rw [hm]; unfold Rec.apply
    split
    · exact this.del _
    · exact this.put (by show 0 ≤ (k : Int) ∧ (k : Int) < 32; omega) hl
  by_cases c1 : n < needV m
  · left; exact ⟨c1, by unfold Env.write; rw [if_pos c1]⟩
  · right
    by_cases c2 : n < j.fin + (7 + l.length)
    · have e : E.write n j (bodyB k l drop) m = E.move n ⟨j.s, j.now, j.epoch, j.fin, j.m⟩ m := by unfold Env.write; rw [if_neg c1, hbl, if_pos c2]
      rw [e]
      rcases h.holds.move h.up hvo (by omega) he with ⟨s', h1, h2, h3, h4, h5⟩ | ⟨h1, s', h2, h3, h4, _⟩
      · exact .inl ⟨by omega, _, h1, ⟨h4, h5, h2⟩, rfl, h3, .inr ⟨c2, rfl, rfl⟩⟩
      · exact .inr ⟨by omega, h1, _, h2, h3, h4⟩
    · rcases h.holds.lay h.clean h.up hk hl hdr (by omega) with ⟨s', h1, h2, h3, h4, h5⟩ | ⟨h1, s', h2, h3, h4⟩
      · have e : E.write n j (bodyB k l drop) m = (0, ⟨s', j.now, j.epoch, j.fin + (7 + l.length), m⟩) := by unfold Env.write; rw [if_neg c1, hbl, if_neg c2, h1, if_pos rfl]
        exact .inl ⟨by omega, _, e, ⟨by rw [hm]; exact h4, h5, h2⟩, rfl, h3, .inl ⟨by omega, rfl, rfl⟩⟩
      · have e : E.write n j (bodyB k l drop) m = (30, ⟨s', j.now, j.epoch, j.fin, j.m⟩) := by unfold Env.write; rw [if_neg c1, hbl, if_neg c2, h2, if_neg (by simp)]
        exact .inr ⟨by omega, h1, _, e, h3, h4⟩

/-- Put: what it answers and what it leaves -/
theorem put_state {E : Env} {n : Nat} {j : JSt} (h : JGood E n j) (k : Int) (l : List UInt8) (he : j.epoch < 4294967295) :
    ((k < 0 ∨ 32 ≤ k) ∧ E.put n j k l = (1, j)) ∨ (0 ≤ k ∧ k < 32 ∧ 250 < l.length ∧ E.put n j k l = (2, j)) ∨
    (0 ≤ k ∧ k < 32 ∧ l.length ≤ 250 ∧ kget j.m k = some l ∧ E.put n j k l = (0, j)) ∨
    (0 ≤ k ∧ k < 32 ∧ l.length ≤ 250 ∧ kget j.m k ≠ some l ∧
      ((n < needV (kput j.m k l) ∧ E.put n j k l = (6, j)) ∨
      (needV (kput j.m k l) ≤ n ∧ ∃ j', E.put n j k l = (0, j') ∧ JGood E n j' ∧ j'.m = kput j.m k l ∧ (j.s.left < 0 → j'.s.left < 0) ∧
        ((j.fin + (7 + l.length) ≤ n ∧ j'.fin = j.fin + (7 + l.length) ∧ j'.epoch = j.epoch) ∨ (n < j.fin + (7 + l.length) ∧ j'.fin = needV (kput j.m k l) ∧ j'.epoch = j.epoch + 1))) ∨
      (needV (kput j.m k l) ≤ n ∧ 0 ≤ j.s.left ∧ ∃ j', E.put n j k l = (30, j') ∧ j'.s.down = true ∧ Holds E n j'.s j.now j.epoch j.m j.fin))) := by
  have hf : faultJ j.s k l.length = if k < 0 ∨ 32 ≤ k then 1 else if 250 < l.length then 2 else 0 := by unfold faultJ; rw [h.up]; rfl
  by_cases c1 : k < 0 ∨ 32 ≤ k
  · left; refine ⟨c1, ?_⟩
    unfold Env.put; rw [hf, if_pos c1, if_pos (by decide)]
  · right
    by_cases c2 : 250 < l.length
    · left; refine ⟨by omega, by omega, c2, ?_⟩
      unfold Env.put; rw [hf, if_neg c1, if_pos c2, if_pos (by decide)]
    · right
      by_cases c3 : kget j.m k = some l
      · left; refine ⟨by omega, by omega, by omega, c3, ?_⟩
        unfold Env.put; rw [hf, if_neg c1, if_neg c2, if_neg (by decide), if_pos c3]
      · right
        refine ⟨by omega, by omega, by omega, c3, ?_⟩
        have e : E.put n j k l = E.write n j (bodyB k.toNat l false) (kput j.m k l) := by
          unfold Env.put; rw [hf, if_neg c1, if_neg c2, if_neg (by decide), if_neg c3]
        have hap : kput j.m k l = (⟨k.toNat, l, false, 7 + l.length⟩ : Rec).apply j.m := by
          unfold Rec.apply; rw [if_neg Bool.false_ne_true]; show _ = kput j.m ((k.toNat : Nat) : Int) l; rw [Int.toNat_of_nonneg (by omega)]
        rw [e]
        exact write_state h (by omega) (by omega) (by simp) hap he
/-- Drop: what it answers and what it leaves -/
theorem drop_state {E : Env} {n : Nat} {j : JSt} (h : JGood E n j) (k : Int) (he : j.epoch < 4294967295) :
    ((k < 0 ∨ 32 ≤ k) ∧ E.drop n j k = (1, j)) ∨ (0 ≤ k ∧ k < 32 ∧ kget j.m k = none ∧ E.drop n j k = (4, j)) ∨
    (0 ≤ k ∧ k < 32 ∧
      ((n < needV (kdel j.m k) ∧ E.drop n j k = (6, j)) ∨
      (needV (kdel j.m k) ≤ n ∧ ∃ j', E.drop n j k = (0, j') ∧ JGood E n j' ∧ j'.m = kdel j.m k ∧ (j.s.left < 0 → j'.s.left < 0) ∧ j'.epoch ≤ j.epoch + 1) ∨
      (needV (kdel j.m k) ≤ n ∧ 0 ≤ j.s.left ∧ ∃ j', E.drop n j k = (30, j') ∧ j'.s.down = true ∧ Holds E n j'.s j.now j.epoch j.m j.fin))) := by
  have hf : faultJ j.s k 0 = if k < 0 ∨ 32 ≤ k then 1 else if 250 < 0 then 2 else 0 := by unfold faultJ; rw [h.up]; rfl
  by_cases c1 : k < 0 ∨ 32 ≤ k
  · left; refine ⟨c1, ?_⟩
    unfold Env.drop; rw [hf, if_pos c1, if_pos (by decide)]
  · right
    by_cases c3 : kget j.m k = none
    · left; refine ⟨by omega, by omega, c3, ?_⟩
      unfold Env.drop; rw [hf, if_neg c1, if_neg (by decide), if_pos c3]
    · right
      refine ⟨by omega, by omega, ?_⟩
      have e : E.drop n j k = E.write n j (bodyB k.toNat [] true) (kdel j.m k) := by
        unfold Env.drop; rw [hf, if_neg c1, if_neg (by decide), if_neg c3]
      have hap : kdel j.m k = (⟨k.toNat, [], true, 7 + 0⟩ : Rec).apply j.m := by
        unfold Rec.apply; rw [if_pos rfl]; show _ = kdel j.m ((k.toNat : Nat) : Int); rw [Int.toNat_of_nonneg (by omega)]
      rw [e]
      rcases write_state h (k := k.toNat) (l := []) (drop := true) (by omega) (by simp) (fun _ => rfl) hap he with h1 | ⟨h1, j', h2, h3, h4, h5, h6⟩ | h1
      · exact .inl h1
      · exact .inr (.inl ⟨h1, j', h2, h3, h4, h5, by omega⟩)
      · exact .inr (.inr h1)

end Go.Proofs.Ytdnpmkejondpoaa
