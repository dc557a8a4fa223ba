/- Parts of a proof, joined: PFlash. -/
import Derived.Test.YtdnpmkejondpoaaT1

/- The flash as plain data: its bytes, its wear, the power. No Go function stands here. -/
namespace Go.Proofs.Ytdnpmkejondpoaa
set_option linter.unusedVariables false
set_option linter.unusedSimpArgs false

structure FSt where
  b : List UInt8
  sector : Int
  wear : List Int
  turned : Int
  left : Int
  down : Bool

def mwear : Int := 1073741824

structure FSt.ok (s : FSt) : Prop where
  s0 : 16 ≤ s.sector
  s1 : s.sector ≤ 4096
  n0 : 1 ≤ s.wear.length
  n1 : s.wear.length ≤ 64
  len : (s.b.length : Int) = s.wear.length * s.sector
  t0 : 0 ≤ s.turned
  t1 : s.turned ≤ 1073741824
  l0 : -1 ≤ s.left
  l1 : s.left ≤ 9223372036854775807
  w : ∀ x ∈ s.wear, 0 ≤ x ∧ x ≤ 1073741824

theorem FSt.ok.small {s : FSt} (h : s.ok) : s.b.length ≤ 262144 := by
  have h1 := h.n1; have h2 := h.s1; have h3 := h.s0; have h4 := h.len
  have : (s.wear.length : Int) * s.sector ≤ 64 * 4096 := Int.mul_le_mul (by omega) h2 (by omega) (by omega)
  omega
theorem FSt.ok.pos {s : FSt} (h : s.ok) : 16 ≤ s.b.length := by
  have h1 := h.n0; have h3 := h.s0; have h4 := h.len
  have : 1 * 16 ≤ (s.wear.length : Int) * s.sector := Int.mul_le_mul (by omega) h3 (by omega) (by omega)
  omega

/-- one byte turned; false: the power has gone -/
def FSt.turn (s : FSt) (i : Nat) (x : UInt8) : Bool × FSt :=
  if s.left = 0 then (false, { s with down := true })
  else (true, { s with b := s.b.set i x, turned := min (s.turned + 1) 1073741824, left := if 0 < s.left then s.left - 1 else s.left })

def FSt.run (s : FSt) (i : Nat) : List UInt8 → Bool × FSt
  | [] => (true, s)
  | x :: r => if (s.turn i x).1 = true then FSt.run (s.turn i x).2 (i + 1) r else (false, (s.turn i x).2)

def FSt.within (s : FSt) (i n : Int) : Bool := decide (0 ≤ i ∧ 0 ≤ n ∧ i ≤ s.b.length ∧ n ≤ s.b.length - i)

/-- no bit would have to be set -/
def clearsB (b : List UInt8) : Nat → List UInt8 → Bool
  | _, [] => true
  | i, x :: r => (x &&& ~~~ (b.getD i 0) == 0) && clearsB b (i + 1) r

def FSt.program (s : FSt) (i : Int) (l : List UInt8) : Int × FSt :=
  if s.down = true then (30, s) else if s.within i l.length = false then (1, s) else if clearsB s.b i.toNat l = false then (31, s)
  else ((if (s.run i.toNat l).1 = true then 0 else 30), (s.run i.toNat l).2)

def FSt.wore (s : FSt) (k : Nat) : FSt := { s with wear := s.wear.set k (min (s.wear.getD k 0 + 1) 1073741824) }

def FSt.erase (s : FSt) (k : Int) : Int × FSt :=
  if s.down = true then (30, s) else if k < 0 ∨ (s.wear.length : Int) ≤ k then (1, s)
  else ((if ((s.wore k.toNat).run (k * s.sector).toNat (List.replicate s.sector.toNat 255)).1 = true then 0 else 30), ((s.wore k.toNat).run (k * s.sector).toNat (List.replicate s.sector.toNat 255)).2)

theorem FSt.turn_ok {s : FSt} (h : s.ok) (i : Nat) (x : UInt8) : (s.turn i x).2.ok := by
  unfold FSt.turn
  have h1 := h.l0; have h2 := h.l1; have h3 := h.t0
  split
  · exact ⟨h.s0, h.s1, h.n0, h.n1, h.len, h.t0, h.t1, h.l0, h.l1, h.w⟩
  · refine ⟨h.s0, h.s1, h.n0, h.n1, by simpa using h.len, ?_, ?_, ?_, ?_, h.w⟩
    · show 0 ≤ min (s.turned + 1) 1073741824; omega
    · show min (s.turned + 1) 1073741824 ≤ 1073741824; omega
    · show -1 ≤ (if 0 < s.left then s.left - 1 else s.left); split <;> omega
    · show (if 0 < s.left then s.left - 1 else s.left) ≤ 9223372036854775807; split <;> omega
theorem FSt.turn_same (s : FSt) (i : Nat) (x : UInt8) : (s.turn i x).2.sector = s.sector ∧ (s.turn i x).2.wear = s.wear ∧ (s.turn i x).2.b.length = s.b.length := by
  unfold FSt.turn; split <;> simp
theorem FSt.run_ok (l : List UInt8) : ∀ {s : FSt} (h : s.ok) (i : Nat), (s.run i l).2.ok := by
  induction l with
  | nil => intro s h i; exact h
  | cons x r ih => intro s h i; unfold FSt.run; split
                   · exact ih (FSt.turn_ok h i x) _
                   · exact FSt.turn_ok h i x
theorem FSt.run_same (l : List UInt8) : ∀ (s : FSt) (i : Nat), (s.run i l).2.sector = s.sector ∧ (s.run i l).2.wear = s.wear ∧ (s.run i l).2.b.length = s.b.length := by
  induction l with
  | nil => intro s i; exact ⟨rfl, rfl, rfl⟩
  | cons x r ih =>
    intro s i; unfold FSt.run
    have h := s.turn_same i x
    split
    · have h' := ih (s.turn i x).2 (i + 1); exact ⟨h'.1.trans h.1, h'.2.1.trans h.2.1, h'.2.2.trans h.2.2⟩
    · exact h
theorem FSt.wore_ok {s : FSt} (h : s.ok) (k : Nat) : (s.wore k).ok := by
  refine ⟨h.s0, h.s1, by simpa [FSt.wore] using h.n0, by simpa [FSt.wore] using h.n1, by simpa [FSt.wore] using h.len, h.t0, h.t1, h.l0, h.l1, ?_⟩
  intro x hx
  rcases List.mem_or_eq_of_mem_set hx with hx | rfl
  · exact h.w x hx
  · by_cases hk : k < s.wear.length
    · have := h.w (s.wear.getD k 0) (by simp [List.getD_eq_getElem?_getD, hk])
      omega
    · simp [FSt.wore, List.set_eq_of_length_le (show s.wear.length ≤ k by omega)] at hx
      exact h.w _ hx
theorem FSt.program_ok {s : FSt} (h : s.ok) (i : Int) (l : List UInt8) : (s.program i l).2.ok := by
  unfold FSt.program
  split; exact h
  split; exact h
  split; exact h
  exact FSt.run_ok l h _
theorem FSt.program_same (s : FSt) (i : Int) (l : List UInt8) : (s.program i l).2.sector = s.sector ∧ (s.program i l).2.wear = s.wear ∧ (s.program i l).2.b.length = s.b.length := by
  unfold FSt.program
  split; exact ⟨rfl, rfl, rfl⟩
  split; exact ⟨rfl, rfl, rfl⟩
  split; exact ⟨rfl, rfl, rfl⟩
  exact FSt.run_same l s _
theorem FSt.erase_ok {s : FSt} (h : s.ok) (k : Int) : (s.erase k).2.ok := by
  unfold FSt.erase
  split; exact h
  split; exact h
  exact FSt.run_ok _ (FSt.wore_ok h _) _
theorem FSt.erase_same (s : FSt) (k : Int) : (s.erase k).2.sector = s.sector ∧ (s.erase k).2.wear.length = s.wear.length ∧ (s.erase k).2.b.length = s.b.length := by
  unfold FSt.erase
  split; exact ⟨rfl, rfl, rfl⟩
  split; exact ⟨rfl, rfl, rfl⟩
  have h := FSt.run_same (List.replicate s.sector.toNat 255) (s.wore k.toNat) (k * s.sector).toNat
  exact ⟨h.1, by rw [h.2.1]; simp [FSt.wore], h.2.2⟩

/-- a new flash -/
def FSt.fresh (n z : Int) : FSt := { b := List.replicate (n * z).toNat 255, sector := z, wear := List.replicate n.toNat 0, turned := 0, left := -1, down := false }
def clampN (n : Int) : Int := min (max n 1) 64
def clampZ (z : Int) : Int := min (max z 16) 4096
theorem FSt.fresh_ok (n z : Int) : (FSt.fresh (clampN n) (clampZ z)).ok := by
  have hn : 1 ≤ clampN n ∧ clampN n ≤ 64 := by unfold clampN; omega
  have hz : 16 ≤ clampZ z ∧ clampZ z ≤ 4096 := by unfold clampZ; omega
  have hp : 0 ≤ clampN n * clampZ z := Int.mul_nonneg (by omega) (by omega)
  refine ⟨hz.1, hz.2, ?_, ?_, ?_, by simp [FSt.fresh], by simp [FSt.fresh], by simp [FSt.fresh], by simp [FSt.fresh], ?_⟩
  · simp [FSt.fresh]; omega
  · simp [FSt.fresh]; omega
  · simp only [FSt.fresh, List.length_replicate, Int.toNat_of_nonneg hp, Int.toNat_of_nonneg (show 0 ≤ clampN n by omega)]
  · intro x hx; simp [FSt.fresh] at hx; omega
/-- bytes laid into it -/
def FSt.load (s : FSt) (l : List UInt8) : FSt := { s with b := l.take s.b.length ++ s.b.drop l.length, left := -1, down := false }
theorem FSt.load_ok {s : FSt} (h : s.ok) (l : List UInt8) : (s.load l).ok := by
  refine ⟨h.s0, h.s1, h.n0, h.n1, ?_, h.t0, h.t1, by simp [FSt.load], by simp [FSt.load], h.w⟩
  have := h.len
  simp [FSt.load]; omega
def FSt.cut (s : FSt) (n : Int) : FSt := { s with left := max n (-1) }
def FSt.restore (s : FSt) : FSt := { s with left := -1, down := false }
theorem FSt.cut_ok {s : FSt} (h : s.ok) (n : Int) (hn : n ≤ 9223372036854775807) : (s.cut n).ok := by
  refine ⟨h.s0, h.s1, h.n0, h.n1, h.len, h.t0, h.t1, ?_, ?_, h.w⟩ <;> simp [FSt.cut] <;> omega
theorem FSt.restore_ok {s : FSt} (h : s.ok) : s.restore.ok := ⟨h.s0, h.s1, h.n0, h.n1, h.len, h.t0, h.t1, by simp [FSt.restore], by simp [FSt.restore], h.w⟩

/-- The flash in memory: its own row f, its bytes bb, its wear bw. -/
structure FlashR (w : World) (f bb bw : Nat) (s : FSt) : Prop where
  row : Row w f #[.slice (some ⟨bb, 0, none⟩) s.b.length s.b.length, .int .i64 s.sector, .slice (some ⟨bw, 0, none⟩) s.wear.length s.wear.length, .int .i64 s.turned, .int .i64 s.left, .bool s.down]
  bytes : RowB w bb s.b
  wear : Row w bw (ivs s.wear)
  n1 : f ≠ bb
  n2 : f ≠ bw
  n3 : bb ≠ bw
  ok : s.ok

def FlashS (f bb bw : Nat) : Nat → Prop := fun k => k = f ∨ k = bb ∨ k = bw
theorem FlashS.f (f bb bw : Nat) : FlashS f bb bw f := .inl rfl
theorem FlashS.bb (f bb bw : Nat) : FlashS f bb bw bb := .inr (.inl rfl)
theorem FlashS.bw (f bb bw : Nat) : FlashS f bb bw bw := .inr (.inr rfl)
theorem FlashS.lt {w : World} {f bb bw : Nat} {s : FSt} (h : FlashR w f bb bw s) (k : Nat) (hk : FlashS f bb bw k) : k < w.heap.size := by
  rcases hk with rfl | rfl | rfl
  · exact h.row.lt
  · exact h.bytes.lt
  · exact h.wear.lt
theorem FlashR.keep {w w' : World} {f bb bw : Nat} {s : FSt} (h : FlashR w f bb bw s) {S : Nat → Prop} (ho : Only S w w') (hS : ∀ k, FlashS f bb bw k → ¬ S k) : FlashR w' f bb bw s :=
  ⟨h.row.keep ho (hS _ (FlashS.f ..)), h.bytes.keep ho (hS _ (FlashS.bb ..)), h.wear.keep ho (hS _ (FlashS.bw ..)), h.n1, h.n2, h.n3, h.ok⟩
theorem FlashR.keep0 {w w' : World} {f bb bw : Nat} {s : FSt} (h : FlashR w f bb bw s) (ho : Only noB w w') : FlashR w' f bb bw s := h.keep ho (fun _ _ => noB_not _)

end Go.Proofs.Ytdnpmkejondpoaa
