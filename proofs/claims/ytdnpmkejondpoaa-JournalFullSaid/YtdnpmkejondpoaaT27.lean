/- Parts of a proof, joined: ByRows. -/
import Derived.Laws.OwnMore
import Derived.Test.YtdnpmkejondpoaaT21

/- A row of rows of bytes that came in; a row of the call's own, written into. -/
namespace Go.Proofs.Ytdnpmkejondpoaa
open Go.RowKit Go.Maps
set_option linter.unusedVariables false
set_option linter.unusedSimpArgs false

/-- a row of rows of bytes -/
def RdRows (w : World) (a : Option Addr) (l : List (List UInt8)) : Prop :=
  l = [] ∨ ∃ g o, a = some ⟨g, o, none⟩ ∧ g < w.heap.size ∧ ∀ i, (hi : i < l.length) → ∃ a2 c2, w.cell? ⟨g, o + i, none⟩ = some (.slice a2 l[i].length c2) ∧ RdB w a2 l[i] ∧ (a2 = none → c2 = 0) ∧ l[i].length ≤ 9223372036854775807
theorem RdRows.keep0 {w w' : World} {a : Option Addr} {l : List (List UInt8)} (h : RdRows w a l) (ho : Only noB w w') : RdRows w' a l := by
  rcases h with h | ⟨g, o, e, hg, h⟩
  · exact .inl h
  · refine .inr ⟨g, o, e, Nat.lt_of_lt_of_le hg ho.size, fun i hi => ?_⟩
    obtain ⟨a2, c2, h1, h2, h3⟩ := h i hi
    exact ⟨a2, c2, (ho.cell (a := ⟨g, o + i, none⟩) hg (noB_not _)).trans h1, h2.keep0 ho, h3⟩
theorem RdRows.at_ {w : World} {a : Option Addr} {l : List (List UInt8)} (h : RdRows w a l) {i : Nat} (hi : i < l.length) :
    ∃ g o a2 c2, a = some ⟨g, o, none⟩ ∧ g < w.heap.size ∧ w.cell? ⟨g, o + i, none⟩ = some (.slice a2 l[i].length c2) ∧ RdB w a2 l[i] ∧ (a2 = none → c2 = 0) ∧ l[i].length ≤ 9223372036854775807 := by
  rcases h with h | ⟨g, o, e, hg, h⟩
  · subst h; simp at hi
  · obtain ⟨a2, c2, r⟩ := h i hi
    exact ⟨g, o, a2, c2, e, hg, r⟩

/-- a byte of a row of the call's own is set -/
theorem OwnB.set {w : World} {base g n c : Nat} {l : List UInt8} (h : OwnB w base (.slice (some ⟨g, 0, none⟩) n c) l) (hn : l.length = n) (i : Nat) (x : UInt8) :
    OwnB (w.setCell ⟨g, i, none⟩ (bv x)) base (.slice (some ⟨g, 0, none⟩) n c) (l.set i x) ∧ Only (fun k => k = g) w (w.setCell ⟨g, i, none⟩ (bv x)) ∧ base ≤ g := by
  subst hn
  have hs := (World.ownsRow.stored h i (bv x)).1
  refine ⟨?_, (Only.refl (fun k => k = g) w).set g i (bv x) rfl, ?_⟩
  · unfold OwnB
    rw [List.length_set, List.map_set]
    exact hs
  · rcases h.2 with ⟨h1, _⟩ | ⟨g', cap, cur, e, hg, _⟩
    · cases h1
    · cases e; exact hg

end Go.Proofs.Ytdnpmkejondpoaa
