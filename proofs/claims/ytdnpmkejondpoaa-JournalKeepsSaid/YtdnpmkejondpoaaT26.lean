/- Parts of a proof, joined: Args2. -/
import Derived.Deep.Slices
import Derived.Test.YtdnpmkejondpoaaT24
import Derived.Test.YtdnpmkejondpoaaT25

/- Arguments that came in: steps; rows of bytes. -/
namespace Go.Proofs.Ytdnpmkejondpoaa
open Go.ChangeShapes Go.WideShapes Go.ChangeAt Go.RowKit
set_option linter.unusedVariables false
set_option linter.unusedSimpArgs false

theorem inI_of {k : Int} (h : (Lit.int .i64 k).wf = true) : inI k := by
  have : -9223372036854775808 ≤ k ∧ k ≤ 9223372036854775807 := by simpa [Lit.wf, IntKind.min, IntKind.max, IntKind.signed, IntKind.bits] using h
  exact this
theorem structOp : ∃ f0 f1 f2 : Field, Try.prog.underlying 35 = some (.struct #[f0, f1, f2]) ∧ f0.type = 3 ∧ f1.type = 3 ∧ f2.type = 33 ∧ f0.offset = 0 ∧ f1.offset = 1 ∧ f2.offset = 2 :=
  ⟨_, _, _, Try.underlying35, rfl, rfl, rfl, rfl, rfl, rfl⟩

instance : Inhabited OpD := ⟨⟨0, 0, []⟩⟩
section
variable {H : Type} {enc : TypeId × Value → H} {w : World} {base : Nat} {spare : Nat → Bool} {held : Bool}
theorem open_u8c {fuel : Nat} {cs : List Value} {x : DataW H × List MemPlace} (h : DataW.trod enc Try.prog w base spare held fuel 33 cs = some x) :
    ∃ (a : Option Addr) (len cap : Nat) (l : List UInt8), cs = [.slice a len cap] ∧ l.length = len ∧ RdB w a l ∧ (a = none → cap = 0) ∧ len ≤ cap ∧ cap ≤ maxLen := by
  have hs : ∃ a len cap, cs = [.slice a len cap] := by
    rcases open_ints Try.underlying33 Try.underlying5 (by kernel_rfl) h with ⟨hcs, _⟩ | ⟨x, l, c, zs, hcs, _⟩
    · exact ⟨_, _, _, hcs⟩
    · exact ⟨_, _, _, hcs⟩
  obtain ⟨a, len, cap, rfl⟩ := hs
  obtain ⟨l, r⟩ := open_u8s h
  exact ⟨a, len, cap, l, rfl, r⟩

set_option maxRecDepth 100000 in
/-- steps opened -/
theorem open_ops {fuel : Nat} {a : Option Addr} {len cap : Nat} {x : DataW H × List MemPlace} (h : DataW.trod enc Try.prog w base spare held fuel 22 [.slice a len cap] = some x) :
    ∃ l : List OpD, l.length = len ∧ RdOps w a l ∧ len ≤ cap ∧ cap ≤ maxLen := by
  rcases Go.Deep.open_slice Try.underlying22 h with ⟨hcs, _⟩ | ⟨ad, l, c, m, n, D, Pl, hcs, _, hl, hm, hmm, _, hx⟩
  · simp at hcs
    obtain ⟨rfl, rfl, rfl⟩ := hcs
    exact ⟨[], rfl, .inl rfl, Nat.le_refl _, by simp [maxLen]⟩
  · simp at hcs
    obtain ⟨rfl, rfl, rfl⟩ := hcs
    have hlm : len ≤ m := by rw [hmm]; split <;> omega
    have ce : Try.prog.cellsOf 35 = 3 := by kernel_rfl
    have c3 : Try.prog.cellsOf 3 = 1 := by kernel_rfl
    have c8 : Try.prog.cellsOf 33 = 1 := by kernel_rfl
    obtain ⟨f0, f1, f2, he, t0, t1, t2, o0, o1, o2⟩ := structOp
    have each : ∀ i, i < len → ∃ q : OpD × Option Addr × Nat, w.cell? (ad.add (i * 3)) = some (.int .i64 q.1.kind) ∧ w.cell? (ad.add (i * 3 + 1)) = some (.int .i64 q.1.key) ∧ w.cell? (ad.add (i * 3 + 2)) = some (.slice q.2.1 q.1.val.length q.2.2) ∧
        RdB w q.2.1 q.1.val ∧ (q.2.1 = none → q.2.2 = 0) ∧ inI q.1.kind ∧ inI q.1.key ∧ q.1.val.length ≤ 9223372036854775807 := by
      intro i hi
      obtain ⟨cs', h1, h2⟩ := hx i (by omega)
      rw [ce] at h1
      obtain ⟨_, hlen, hcell⟩ := World.cells?_some h1
      obtain ⟨xs, k, _, _, _, hxl, hf⟩ := DataW.trod_struct he h2
      match xs, hxl, cs', hlen with
      | [y0, y1, y2], _, [v0, v1, v2], _ =>
        have g0 := hf 0 f0 rfl
        have g1 := hf 1 f1 rfl
        have g2 := hf 2 f2 rfl
        simp [o0, o1, o2, t0, t1, t2, c3, c8] at g0 g1 g2
        have e0 := hcell 0 (by omega)
        have e1 := hcell 1 (by omega)
        have e2 := hcell 2 (by omega)
        rw [Go.Deep.add_add] at e0 e1 e2
        obtain ⟨k0, hk0, _, w0⟩ := DataW.trod_int Try.underlying3 g0
        obtain ⟨k1, hk1, _, w1⟩ := DataW.trod_int Try.underlying3 g1
        obtain ⟨a2, l2, c2, v, hv, hvl, hr, hn, hlc, hcm⟩ := open_u8c g2
        simp only [List.cons.injEq, and_true] at hk0 hk1 hv
        subst hk0; subst hk1; subst hv; subst hvl
        exact ⟨(⟨k0, k1, v⟩, a2, c2), by simpa using e0, by simpa using e1, by simpa using e2, hr, hn, inI_of w0, inI_of w1, by unfold maxLen at hcm; show v.length ≤ _; omega⟩
    by_cases h0 : len = 0
    · subst h0; exact ⟨[], rfl, .inl rfl, hl, hm⟩
    · have hsp : ad.spot = none := by
        obtain ⟨q, q0, _⟩ := each 0 (by omega)
        have := World.cell?_spot q0
        simpa [Addr.add] using this
      obtain ⟨g, o, sp⟩ := ad
      simp only at hsp
      subst hsp
      have ead : ∀ k, (⟨g, o, none⟩ : Addr).add k = ⟨g, o + k, none⟩ := fun k => by unfold Addr.add; split <;> simp_all
      obtain ⟨q, hq⟩ := Go.Deep.choose_lt each
      refine ⟨(List.range len).map fun i => (q i).1, by simp, .inr ⟨g, o, rfl, ?_, fun i hi => ?_⟩, hl, hm⟩
      · have := (hq 0 (by omega)).1
        rw [ead] at this
        exact World.block_lt_of_cell? w _ this
      · have hi' : i < len := by simpa using hi
        obtain ⟨h1, h2, h3, h4⟩ := hq i hi'
        rw [ead] at h1 h2 h3
        simp only [List.getElem_map, List.getElem_range]
        refine ⟨(q i).2.1, (q i).2.2, h1, ?_, ?_, h4⟩
        · rw [← Nat.add_assoc] at h2; exact h2
        · rw [← Nat.add_assoc] at h3; exact h3
end

end Go.Proofs.Ytdnpmkejondpoaa
