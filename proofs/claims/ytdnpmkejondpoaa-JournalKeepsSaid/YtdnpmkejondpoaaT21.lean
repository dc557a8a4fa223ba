/- Parts of a proof, joined: AliveP, JW. -/
import Derived.Laws.IdiomStrings
import Derived.Lib.SlBytesConst
import Derived.Test.YtdnpmkejondpoaaT20

/- The document's example: what the walk wants of it. -/
namespace Go.Proofs.Ytdnpmkejondpoaa
open Go.RowKit Go.Maps
set_option linter.unusedVariables false
set_option linter.unusedSimpArgs false

theorem put40A : EA.put 64 r2A.2 40 [] = (1, r2A.2) := by
  have h : faultJ r2A.2.s 40 0 = 1 := by decide +kernel
  have h2 : faultJ r2A.2.s 40 ([] : List UInt8).length = 1 := h
  unfold Env.put; rw [h2, if_pos (by decide)]
theorem drop5A : EA.drop 64 r2A.2 5 = (4, r2A.2) := by
  have h : faultJ r2A.2.s 5 0 = 0 := by decide +kernel
  have h2 : kget r2A.2.m 5 = none := by decide +kernel
  unfold Env.drop; rw [h, if_neg (by decide), if_pos h2]
theorem img64A : r2A.2.s.b.length = 128 := by decide +kernel
theorem get3A : kget r2A.2.m 3 = some [97, 98] ∧ kget r3A.2.m 3 = some [97, 98] := by decide +kernel

/-- a string of these bytes -/
theorem OwnB.str {w : World} {base : Nat} {v : Value} {l : List UInt8} (h : OwnB w base v l) : (convert 33 9 v).run Try.prog w = .ok (.string ⟨l.toArray⟩) w := by
  obtain ⟨a, c, rfl, hr, _⟩ := h.form
  rcases hr with rfl | ⟨g, o, rfl, hc⟩
  · rw [run_convert_bytes_string w _ _ 5 a _ c Try.underlying33 Try.underlying5 Try.underlying9]
    cases a with
    | none => simp [Conv.bytesToString]; rfl
    | some a =>
      have := run_bytesToString (P := Try.prog) w a 0 c [] (by simp [loadCells, loadCellsFrom, Sem.run_pure])
      exact this
  · refine run_convert_bytes_back w _ _ 5 _ c l Try.underlying33 Try.underlying5 Try.underlying9 fun j hj => ?_
    have e : (⟨g, o, none⟩ : Addr).add j = ⟨g, o + j, none⟩ := by unfold Addr.add; simp
    rw [e, hc j hj]
    simp [List.getD_eq_getElem?_getD, hj]

theorem alive7 : r2A.2.s.b.getD 0 0 = 0 ∧ r2A.2.s.b.getD 1 0 = 1 ∧ r2A.2.s.b.getD 8 0 = 3 ∧ r2A.2.s.b.getD 9 0 = 2 ∧ r2A.2.s.b.getD 10 0 = 97 ∧ r2A.2.s.b.getD 16 0 = 0 := by decide +kernel
theorem FSt.same {s t : FSt} (h1 : s.b = t.b) (h2 : s.sector = t.sector) (h3 : s.wear = t.wear) (h4 : s.turned = t.turned) (h5 : s.left = t.left) (h6 : s.down = t.down) : s = t := by
  cases s; cases t; simp only at *; subst h1; subst h2; subst h3; subst h4; subst h5; subst h6; rfl
theorem alive8 : r3A.2.s = r2A.2.s := FSt.same (by decide +kernel) (by decide +kernel) (by decide +kernel) (by decide +kernel) (by decide +kernel) (by decide +kernel)
theorem OwnB.row {w : World} {base : Nat} {v : Value} {l : List UInt8} (h : OwnB w base v l) (h0 : l ≠ []) :
    ∃ g c, v = .slice (some ⟨g, 0, none⟩) l.length c ∧ base ≤ g ∧ l.length ≤ c ∧ ∀ i, i < l.length → w.cell? ⟨g, i, none⟩ = some (.int .u8 ((l.getD i 0).toNat : Int)) := by
  rcases h.2 with ⟨rfl, h1⟩ | ⟨g, cap, cur, rfl, hg, hh, h1, h2, h3, h4⟩
  · exact absurd (List.eq_nil_of_length_eq_zero h1) h0
  · refine ⟨g, cap, rfl, hg, h1, fun i hi => ?_⟩
    have : cur[i]? = some (bv (l.getD i 0)) := by
      have h5 : (cur.toList.take (l.length * 1))[i]? = (l.map bv)[i]? := by rw [h4]
      rw [List.getElem?_take, if_pos (by omega)] at h5
      rw [← Array.getElem?_toList, h5]; simp [hi]
    simp [World.cell?, hh, this, bv]
theorem OwnI.keep {w w' : World} {base : Nat} {v : Value} {l : List Int} (h : OwnI w base v l) {S : Nat → Prop} (ho : Only S w w') (hS : ∀ k, S k → k < base) : OwnI w' base v l := by
  refine ⟨h.1, ?_⟩
  rcases h.2 with h0 | ⟨g, cap, cur, rfl, hg, hh, r⟩
  · exact .inl h0
  · exact .inr ⟨g, cap, cur, rfl, hg, ho.heap hh (fun hs => by have := hS _ hs; omega), r⟩
theorem OwnI.keep0 {w w' : World} {base : Nat} {v : Value} {l : List Int} (h : OwnI w base v l) (ho : Only noB w w') : OwnI w' base v l := h.keep ho (fun _ h => h.elim)

end Go.Proofs.Ytdnpmkejondpoaa

/- The journal's calls, at its place in memory. -/
namespace Go.Proofs.Ytdnpmkejondpoaa
open Go.RowKit Go.Maps
set_option linter.unusedVariables false
set_option linter.unusedSimpArgs false

/-- a journal at block jb, over two groups of two sectors each -/
structure JW (w : World) (E : Env) (jb size : Nat) (j : JSt) : Prop where
  jr : JR w (E.at jb) size j
  p0 : E.p0 = ⟨0, 2⟩
  p1 : E.p1 = ⟨2, 2⟩
theorem JW.keep0 {w w' : World} {E : Env} {jb size : Nat} {j : JSt} (h : JW w E jb size j) (ho : Only noB w w') : JW w' E jb size j := ⟨h.jr.keep0 ho, h.p0, h.p1⟩
theorem JW.sys {w : World} {E : Env} {jb size : Nat} {j : JSt} (h : JW w E jb size j) : SysR w E j.s := h.jr.sys.of_at
def JWS (E : Env) (jb : Nat) : Nat → Prop := (E.at jb).JS
theorem JWS.fs {E : Env} {jb k : Nat} (h : E.FS k) : JWS E jb k := .inl h
theorem JW.lt {w : World} {E : Env} {jb size : Nat} {j : JSt} (h : JW w E jb size j) : ∀ k, JWS E jb k → k < w.heap.size := by
  obtain ⟨mb, h1, h2⟩ := h.jr.row
  exact h.jr.sys.ltJ (Row.lt h1)

theorem jepoch {w : World} {E : Env} {jb size : Nat} {j : JSt} (h : JW w E jb size j) :
    Calls Try.prog 12 #[.pointer (some ⟨jb, 0, none⟩)] w fun e w' => e = .returned (.int .u32 (j.epoch : Int)) ∧ w = w' := by
  obtain ⟨mb, h1, h2⟩ := h.jr.row
  exact epoch_any w (E.at jb) size j.now j.epoch j.fin _ h1
theorem jroom {w : World} {E : Env} {jb size : Nat} {j : JSt} (h : JW w E jb size j) :
    Calls Try.prog 11 #[.pointer (some ⟨jb, 0, none⟩)] w fun e w' => e = .returned (.int .i64 ((size : Int) - j.fin)) ∧ Only noB w w' := by
  obtain ⟨mb, h1, h2⟩ := h.jr.row
  exact room_any w (E.at jb) size j.now j.epoch j.fin _ h1 h.jr.sz (by have := h.jr.ok.2.2; have := h.jr.sz; omega)
def JGetPost (m : Vals) (k : Int) (w : World) (e : Ending) (w' : World) : Prop :=
  ∃ v, e = .returned (.tuple #[v, .bool (kget m k).isSome]) ∧ OwnB w' w.heap.size v ((kget m k).getD []) ∧ Only noB w w'
theorem jget {w : World} {E : Env} {jb size : Nat} {j : JSt} (h : JW w E jb size j) (k : Int) (hk : inI k) :
    Calls Try.prog 13 #[.pointer (some ⟨jb, 0, none⟩), .int .i64 k] w (JGetPost j.m k w) := by
  obtain ⟨mb, h1, h2⟩ := h.jr.row
  refine (get_any w (E.at jb) size j.now j.epoch j.fin mb _ j.m k h1 h2 hk).mono ?_
  rintro e w' ⟨q1, q2⟩
  cases hg : kget j.m k with
  | none => rw [hg] at q2; exact ⟨_, by rw [hg]; exact q2, by rw [hg]; exact OwnB.nil _ _, q1⟩
  | some l => rw [hg] at q2; obtain ⟨v, e1, e2⟩ := q2; exact ⟨v, by rw [hg]; exact e1, by rw [hg]; exact e2, q1⟩
def JKeysPost (m : Vals) (w : World) (e : Ending) (w' : World) : Prop := ∃ v, e = .returned v ∧ OwnI w' w.heap.size v (m.map (·.1)) ∧ Only noB w w'
theorem jkeys {w : World} {E : Env} {jb size : Nat} {j : JSt} (h : JW w E jb size j) :
    Calls Try.prog 20 #[.pointer (some ⟨jb, 0, none⟩)] w (JKeysPost j.m w) := by
  obtain ⟨mb, h1, h2⟩ := h.jr.row
  exact keys_any w (E.at jb) size j.now j.epoch j.fin mb _ j.m h1 h2
def JWPost (E : Env) (jb size : Nat) (r : Int × JSt) (w : World) (e : Ending) (w' : World) : Prop :=
  e = .returned (.int .i64 r.1) ∧ JW w' E jb size r.2 ∧ Only (JWS E jb) w w'
theorem jput {w : World} {E : Env} {jb size : Nat} {j : JSt} (h : JW w E jb size j) (k : Int) (a : Option Addr) (n c : Nat) (l : List UInt8) (hk : inI k) (hn : l.length = n) (hnil : a = none → c = 0) (hR : RdB w a l) :
    Calls Try.prog 14 #[.pointer (some ⟨jb, 0, none⟩), .int .i64 k, .slice a n c] w (JWPost E jb size (EA.put size j k l) w) := by
  have := put_any w (E.at jb) size j k a n c l h.jr hk hn hnil hR
  rw [put_same (E.at jb) h.p0 h.p1] at this
  refine this.mono ?_
  rintro e w' ⟨q1, q2, q3⟩
  exact ⟨q1, ⟨q2, h.p0, h.p1⟩, q3⟩
theorem jdrop {w : World} {E : Env} {jb size : Nat} {j : JSt} (h : JW w E jb size j) (k : Int) (hk : inI k) :
    Calls Try.prog 23 #[.pointer (some ⟨jb, 0, none⟩), .int .i64 k] w (JWPost E jb size (EA.drop size j k) w) := by
  have := drop_any w (E.at jb) size j k h.jr hk
  rw [drop_same (E.at jb) h.p0 h.p1] at this
  refine this.mono ?_
  rintro e w' ⟨q1, q2, q3⟩
  exact ⟨q1, ⟨q2, h.p0, h.p1⟩, q3⟩
def JPairsPost (E : Env) (jb : Nat) (m : Vals) (w : World) (e : Ending) (w' : World) : Prop := ∃ v, e = .returned v ∧ OwnP w' w.heap.size (JWS E jb) v m ∧ Only noB w w'
theorem jpairs {w : World} {E : Env} {jb size : Nat} {j : JSt} (h : JW w E jb size j) :
    Calls Try.prog 18 #[.pointer (some ⟨jb, 0, none⟩)] w (JPairsPost E jb j.m w) := pairs_any w (E.at jb) size j h.jr
def JOpenPost (E : Env) (size : Nat) (r : Int × JSt) (w : World) (e : Ending) (w' : World) : Prop :=
  Only E.FS w w' ∧ SysR w' E r.2.s ∧ (r.1 ≠ 0 → e = .returned (.tuple #[.pointer none, .int .i64 r.1])) ∧
  (r.1 = 0 → ∃ jb, w.heap.size ≤ jb ∧ e = .returned (.tuple #[.pointer (some ⟨jb, 0, none⟩), .int .i64 0]) ∧ JW w' E jb size r.2)
theorem jopen (w : World) (E : Env) (s : FSt) (size : Nat) (hS : SysR w E s) (hsz : 2 * s.sector.toNat = size) (h0 : E.p0 = ⟨0, 2⟩) (h1 : E.p1 = ⟨2, 2⟩) :
    Calls Try.prog 10 #[.pointer (some ⟨E.pa, 0, none⟩), .pointer (some ⟨E.pb, 0, none⟩)] w (JOpenPost E size (EA.open' size s) w) := by
  have := open_any w E s size hS (by rw [h0]; exact hsz) (by rw [h1]; exact hsz)
  rw [open_same E h0 h1] at this
  refine this.mono ?_
  rintro e w' ⟨q1, q2, q3, q4⟩
  refine ⟨q1, q2, q3, fun h => ?_⟩
  obtain ⟨jb, a1, a2, a3⟩ := q4 h
  exact ⟨jb, a1, a2, a3, h0, h1⟩

/-- another journal was opened over the groups, and nothing was turned -/
theorem JW.reopen {w w' : World} {E : Env} {jb size : Nat} {j : JSt} (h : JW w E jb size j) (ho : Only E.FS w w') (hs : SysR w' E j.s) : JW w' E jb size j := by
  obtain ⟨mb, h1, h2⟩ := h.jr.row
  exact ⟨⟨hs.at jb, ⟨mb, Row.keep h1 ho h.jr.ap.n0, h2.keep (ho.mono fun x _ hx => .inl hx)⟩, h.jr.ap, h.jr.ok, h.jr.sz⟩, h.p0, h.p1⟩

end Go.Proofs.Ytdnpmkejondpoaa
