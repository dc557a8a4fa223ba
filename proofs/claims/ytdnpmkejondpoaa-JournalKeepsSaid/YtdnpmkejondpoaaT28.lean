/- Parts of a proof, joined: JW2. -/
import Derived.Test.YtdnpmkejondpoaaT21

/- The journal's calls: its flash is turned by hand. -/
namespace Go.Proofs.Ytdnpmkejondpoaa
open Go.RowKit Go.Maps
set_option linter.unusedVariables false
set_option linter.unusedSimpArgs false

/-- its flash is turned by hand -/
theorem JW.flash {w w' : World} {E : Env} {jb size : Nat} {j : JSt} (h : JW w E jb size j) {s' : FSt} (hF : FlashR w' E.f E.bb E.bw s') (ho : Only E.FS w w') (hw : s'.wear.length = j.s.wear.length) : JW w' E jb size { j with s := s' } := by
  obtain ⟨mb, h1, h2⟩ := h.jr.row
  exact ⟨⟨h.jr.sys.step hF ho hw, ⟨mb, Row.keep h1 ho h.jr.ap.n0, h2.keep (ho.mono fun x _ hx => .inl hx)⟩, h.jr.ap, h.jr.ok, h.jr.sz⟩, h.p0, h.p1⟩

end Go.Proofs.Ytdnpmkejondpoaa
