/- Parts of a proof, joined: Args. -/
import Derived.Test.YtdnpmkejondpoaaRows
import Derived.WalkKit
import Derived.ProofKit
import Derived.OpenShut
import Derived.ShutString
import Derived.ChangeOld
import Derived.Below
import Derived.SizedLaws
import Derived.Test.YtdnpmkejondpoaaT21

/- Arguments that came in, as bytes. -/
namespace Go.Proofs.Ytdnpmkejondpoaa
open Go.ChangeShapes Go.WideShapes Go.ChangeAt Go.RowKit
set_option linter.unusedVariables false
set_option linter.unusedSimpArgs false

theorem ownK : ownKnob Try.prog.godebug = none := by kernel_rfl
theorem laidOut : laidOutB Try.prog = true := by kernel_rfl

/-- a byte as it came in -/
def toB (z : Int) : UInt8 := UInt8.ofNat z.toNat
theorem toB_int {z : Int} (h : (Lit.int .u8 z).wf = true) : ((toB z).toNat : Int) = z := by
  have hx : 0 ≤ z ∧ z ≤ 255 := by simpa [Lit.wf, IntKind.min, IntKind.max, IntKind.signed, IntKind.bits] using h
  unfold toB; rw [UInt8.toNat_ofNat']; omega
theorem rdB_of {w : World} {x : Addr} {len : Nat} {zs : List Int} (hl : len ≤ zs.length) (hc : ∀ i, i < zs.length → w.cell? (x.add i) = some (.int .u8 (zs.getD i 0))) (hw : ∀ n ∈ zs, (Lit.int .u8 n).wf = true) :
    RdB w (some x) ((zs.take len).map toB) := by
  by_cases h0 : len = 0
  · subst h0; exact .inl rfl
  · have c0 := hc 0 (by omega)
    have hsp := World.cell?_spot c0
    obtain ⟨g, o, sp⟩ := x
    have hsp2 : sp = none := by simpa [Addr.add] using hsp
    subst hsp2
    refine .inr ⟨g, o, rfl, fun i hi => ?_⟩
    have hi' : i < len := by simp at hi; omega
    have hiz : i < zs.length := by omega
    have e : (⟨g, o, none⟩ : Addr).add i = ⟨g, o + i, none⟩ := by unfold Addr.add; split <;> simp_all
    have := hc i hiz
    rw [e] at this
    rw [this]
    have e2 : (((zs.take len).map toB).getD i 0) = toB zs[i] := by
      rw [List.getD_eq_getElem?_getD, List.getElem?_map, List.getElem?_take, if_pos hi', List.getElem?_eq_getElem hiz]; rfl
    rw [e2, toB_int (hw _ (List.getElem_mem hiz))]
    simp [List.getD_eq_getElem?_getD, List.getElem?_eq_getElem hiz]

section
variable {H : Type} {enc : TypeId × Value → H} {w : World} {base : Nat} {spare : Nat → Bool} {held : Bool}
/-- bytes opened -/
theorem open_u8s {fuel : Nat} {a : Option Addr} {len cap : Nat} {x : DataW H × List MemPlace} (h : DataW.trod enc Try.prog w base spare held fuel 33 [.slice a len cap] = some x) :
    ∃ l : List UInt8, l.length = len ∧ RdB w a l ∧ (a = none → cap = 0) ∧ len ≤ cap ∧ cap ≤ maxLen := by
  rcases open_ints Try.underlying33 Try.underlying5 (by kernel_rfl) h with ⟨hcs, _⟩ | ⟨x, l, c, zs, hcs, _, hl, hm, hz, _, hcell, hwz⟩
  · simp at hcs
    obtain ⟨rfl, rfl, rfl⟩ := hcs
    exact ⟨[], rfl, .inl rfl, fun _ => rfl, Nat.le_refl _, by simp [maxLen]⟩
  · simp at hcs
    obtain ⟨rfl, rfl, rfl⟩ := hcs
    have hzl : len ≤ zs.length := by rw [hz]; split <;> omega
    exact ⟨(zs.take len).map toB, by simp; omega, rdB_of hzl hcell hwz, (fun h => by cases h), hl, hm⟩
end

end Go.Proofs.Ytdnpmkejondpoaa
