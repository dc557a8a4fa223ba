/- Parts of a proof, joined: Args3. -/
import Derived.Test.YtdnpmkejondpoaaT26
import Derived.Test.YtdnpmkejondpoaaT27

/- Arguments that came in: rows of bytes. -/
namespace Go.Proofs.Ytdnpmkejondpoaa
open Go.ChangeShapes Go.WideShapes Go.ChangeAt Go.RowKit
set_option linter.unusedVariables false
set_option linter.unusedSimpArgs false

section
variable {H : Type} {enc : TypeId × Value → H} {w : World} {base : Nat} {spare : Nat → Bool} {held : Bool}
set_option maxRecDepth 100000 in
/-- rows opened -/
theorem open_rows {fuel : Nat} {a : Option Addr} {len cap : Nat} {x : DataW H × List MemPlace} (h : DataW.trod enc Try.prog w base spare held fuel 47 [.slice a len cap] = some x) :
    ∃ l : List (List UInt8), l.length = len ∧ RdRows w a l ∧ len ≤ cap ∧ cap ≤ maxLen := by
  rcases Go.Deep.open_slice1 Try.underlying47 (by kernel_rfl) h with ⟨hcs, _⟩ | ⟨ad, l, c, m, n, V, D, Pl, hcs, _, hl, hm, hmm, _, hx⟩
  · simp at hcs
    obtain ⟨rfl, rfl, rfl⟩ := hcs
    exact ⟨[], rfl, .inl rfl, Nat.le_refl _, by simp [maxLen]⟩
  · simp at hcs
    obtain ⟨rfl, rfl, rfl⟩ := hcs
    have hlm : len ≤ m := by rw [hmm]; split <;> omega
    have each : ∀ i, i < len → ∃ q : List UInt8 × Option Addr × Nat, w.cell? (ad.add i) = some (.slice q.2.1 q.1.length q.2.2) ∧ RdB w q.2.1 q.1 ∧ (q.2.1 = none → q.2.2 = 0) ∧ q.1.length ≤ 9223372036854775807 := by
      intro i hi
      obtain ⟨h1, h2⟩ := hx i (by omega)
      obtain ⟨a2, l2, c2, v, hv, hvl, hr, hn, hlc, hcm⟩ := open_u8c h2
      simp only [List.cons.injEq, and_true] at hv
      rw [hv] at h1
      subst hvl
      exact ⟨(v, a2, c2), h1, hr, hn, by unfold maxLen at hcm; show v.length ≤ _; omega⟩
    by_cases h0 : len = 0
    · subst h0; exact ⟨[], rfl, .inl rfl, hl, hm⟩
    · have hsp : ad.spot = none := by
        obtain ⟨q, q0, _⟩ := each 0 (by omega)
        have := World.cell?_spot q0
        simpa [Addr.add] using this
      obtain ⟨g, o, sp⟩ := ad
      simp only at hsp
      subst hsp
      have ead : ∀ k, (⟨g, o, none⟩ : Addr).add k = ⟨g, o + k, none⟩ := fun k => by unfold Addr.add; split <;> simp_all
      obtain ⟨q, hq⟩ := Go.Deep.choose_lt each
      refine ⟨(List.range len).map fun i => (q i).1, by simp, .inr ⟨g, o, rfl, ?_, fun i hi => ?_⟩, hl, hm⟩
      · have := (hq 0 (by omega)).1
        rw [ead] at this
        exact World.block_lt_of_cell? w _ this
      · have hi' : i < len := by simpa using hi
        obtain ⟨h1, h4⟩ := hq i hi'
        rw [ead] at h1
        simp only [List.getElem_map, List.getElem_range]
        exact ⟨(q i).2.1, (q i).2.2, h1, h4⟩
end

end Go.Proofs.Ytdnpmkejondpoaa
