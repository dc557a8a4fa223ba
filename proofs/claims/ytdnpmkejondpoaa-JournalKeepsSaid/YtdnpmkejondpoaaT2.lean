/- Parts of a proof, joined: Clone. -/
import Derived.Laws.AppendOwnNone
import Derived.Test.YtdnpmkejondpoaaProg
import Derived.Test.YtdnpmkejondpoaaT1

/- Slices of bytes that a call makes: what is owned; slices.Clone. -/
namespace Go.Proofs.Ytdnpmkejondpoaa
open Go.RowKit
set_option linter.unusedVariables false
set_option linter.unusedSimpArgs false

theorem infoU8 : (Try.prog.info? 5).map (fun i => (i.zero, i.size, i.bytes)) = some (some (.int .u8 0), 1, 1) := by kernel_rfl

/-- v, of l.length bytes, owns these in a block from base on (or is nil, l empty). -/
def OwnB (w : World) (base : Nat) (v : Value) (l : List UInt8) : Prop := w.ownsRow base 5 1 v l.length (l.map bv)

/-- an address from base on -/
def NewA (base : Nat) (a : Option Addr) : Prop := ∀ p, a = some p → base ≤ p.block
theorem NewA.off {base : Nat} {a : Option Addr} (h : NewA base a) (S : Nat → Prop) (hS : ∀ k, S k → k < base) : OffB S a := fun p hp hs => by
  have := h p hp; have := hS _ hs; omega
theorem NewA.mono {base B : Nat} {a : Option Addr} (h : NewA base a) (hB : B ≤ base) : NewA B a := fun p hp => Nat.le_trans hB (h p hp)

theorem OwnB.form {w : World} {base : Nat} {v : Value} {l : List UInt8} (h : OwnB w base v l) :
    ∃ a c, v = .slice a l.length c ∧ RdB w a l ∧ NewA base a ∧ l.length ≤ c ∧ (a = none → c = 0) := by
  rcases h.2 with ⟨rfl, h0⟩ | ⟨g, cap, cur, rfl, hg, hh, h1, h2, h3, h4⟩
  · have : l = [] := List.eq_nil_of_length_eq_zero h0
    subst this
    exact ⟨none, 0, rfl, .inl rfl, (fun p hp => by cases hp), by simp, fun _ => rfl⟩
  · refine ⟨_, cap, rfl, .inr ⟨g, 0, rfl, fun i hi => ?_⟩, (fun p hp => by cases hp; exact hg), h1, (fun h => by cases h)⟩
    have : cur[i]? = some (bv (l.getD i 0)) := by
      have h5 : (cur.toList.take (l.length * 1))[i]? = (l.map bv)[i]? := by rw [h4]
      rw [List.getElem?_take, if_pos (by omega)] at h5
      rw [← Array.getElem?_toList, h5]; simp [hi]
    simp [World.cell?, hh, this, bv]
theorem OwnB.keep {w w' : World} {base : Nat} {v : Value} {l : List UInt8} (h : OwnB w base v l) {S : Nat → Prop} (ho : Only S w w') (hS : ∀ k, S k → k < base) : OwnB w' base v l := by
  refine ⟨h.1, ?_⟩
  rcases h.2 with h0 | ⟨g, cap, cur, rfl, hg, hh, r⟩
  · exact .inl h0
  · exact .inr ⟨g, cap, cur, rfl, hg, ho.heap hh (fun hs => by have := hS g hs; omega), r⟩
theorem OwnB.keep0 {w w' : World} {base : Nat} {v : Value} {l : List UInt8} (h : OwnB w base v l) (ho : Only noB w w') : OwnB w' base v l := h.keep ho (fun _ h => h.elim)
theorem OwnB.mono {w : World} {base B : Nat} {v : Value} {l : List UInt8} (h : OwnB w base v l) (hB : B ≤ base) : OwnB w B v l := by
  refine ⟨h.1, ?_⟩
  rcases h.2 with h0 | ⟨g, cap, cur, rfl, hg, r⟩
  · exact .inl h0
  · exact .inr ⟨g, cap, cur, rfl, by omega, r⟩
theorem OwnB.nil (w : World) (base : Nat) : OwnB w base (.slice none 0 0) [] := ⟨by simp, .inl ⟨rfl, rfl⟩⟩
/-- what a law on append leaves -/
theorem Only.grown {S : Nat → Prop} {a w w' : World} {row : Option Nat} (h : Only S a w) (hg : w.grownBy w' row) (hr : ∀ k, row = some k → k < a.heap.size → S k) : Only S a w' :=
  h.trans (S' := fun k => row = some k) ⟨hg.os, hg.tape, hg.output, hg.size, fun k hk hS => hg.block k hk (fun e => hS e.symm)⟩ (fun x hx e => hr x e hx)

theorem bvs_one (l : List UInt8) : ∀ u ∈ l.map bv, u.oneCell' = true := by
  intro u hu; simp at hu; obtain ⟨x, _, rfl⟩ := hu; rfl
theorem RdB.news {w : World} {g : Addr} {l : List UInt8} (h : RdB w (some g) l) : ∀ j u, (l.map bv)[j]? = some u → w.cell? (g.add j) = some u := by
  intro j u hu
  have hj : j < l.length := by have := (List.getElem?_eq_some_iff.1 hu).1; simpa using this
  obtain ⟨g', o, e, hc⟩ := h.at_ (by omega)
  cases e
  have := hc j hj
  simp [hj] at hu
  have e2 : (⟨g', o, none⟩ : Addr).add j = ⟨g', o + j, none⟩ := by unfold Addr.add; split <;> simp_all
  rw [e2, this, ← hu]; simp [bv, hj]

/-- append to a slice that is nil or the call's own: whatever bytes, from wherever -/
theorem app_own {w : World} {ops : Array Oper} {rest : List Oper} {o : Oper} {a : Act} {Q : Exit → Act → World → Prop} (s x : Operand) (hgd : o.guard = none)
    (ho : o.op = .call { callee := .builtin .append, args := #[s, x], argTypes := #[33, 33] })
    (base : Nat) (v : Value) (l : List UInt8) (hs : a.eval s = v) (hown : OwnB w base v l) (ad : Option Addr) (m c : Nat) (l' : List UInt8) (hx : a.eval x = .slice ad m c) (hm : l'.length = m)
    (hrd : RdB w ad l') (hnil : ad = none → m = 0 ∧ c = 0) (hb : base ≤ w.heap.size) (hlen : l.length + l'.length ≤ 140737488355328)
    (h : ∀ v' w', OwnB w' base v' (l ++ l') → Only (fun k => base ≤ k) w w' → (v' = .slice none 0 0 ↔ v = .slice none 0 0 ∧ l' = []) → wpList Try.prog ops Q rest (a.put o.dst v') w') : wpList Try.prog ops Q (o :: rest) a w := by
  obtain ⟨i0, hi, hz0, hz1, hz2⟩ := info_parts infoU8
  cases ad with
  | none =>
    obtain ⟨h0, hc0⟩ := hnil rfl
    have : l' = [] := List.eq_nil_of_length_eq_zero (by omega)
    subst this; subst h0; subst hc0
    exact wpList_append_own_none (w := w) hgd s x 33 ho base 5 i0 1 Try.underlying33 hi v l.length (l.map bv) hs hown hx (h v w (by simpa using hown) (Only.refl _ _) (by simp))
  | some g =>
    refine wpList_append_own w hgd s x 33 ho base 5 i0 (.int .u8 0) 1 1 Try.underlying33 hi hz0 hz1 hz2 rfl (by decide) v l.length (l.map bv) hs hown g m c (l'.map bv) hx (by simp [hm]) hrd.news (bvs_one _) ?_ (by omega) hb ?_
    · simp only [maxLen]; omega
    · intro v' w' h1 h2 h3
      refine h v' w' ?_ ?_ ?_
      · unfold OwnB; simp only [List.length_append, List.map_append, hm]; exact h1
      · refine (Only.refl _ _).grown h2 (fun k hk _ => ?_)
        rcases hown.2 with ⟨rfl, _⟩ | ⟨g', cap, cur, rfl, hg, _⟩
        · cases hk
        · simp [Value.ownBlock] at hk; subst hk; exact hg
      · rw [h3]; constructor
        · rintro ⟨a, b⟩; exact ⟨a, List.eq_nil_of_length_eq_zero (by omega)⟩
        · rintro ⟨a, b⟩; subst b; exact ⟨a, by simpa using hm.symm⟩

def ClonePost (a : Option Addr) (l : List UInt8) (w : World) (e : Ending) (w' : World) : Prop :=
  ∃ v, e = .returned v ∧ OwnB w' w.heap.size v l ∧ Only noB w w' ∧ (v = .slice none 0 0 ↔ a = none)

set_option maxHeartbeats 400000 in
theorem clone_any (w : World) (a : Option Addr) (n c : Nat) (l : List UInt8) (hn : l.length = n) (hr : RdB w a l) (hnil : a = none → n = 0 ∧ c = 0) (hm : l.length ≤ 140737488355328) :
    Calls Try.prog 36 #[.slice a n c] w (ClonePost a l w) := by
  have q : ∀ (W : World) (a' : Option Addr) (m k : Nat), (binOp .eql 33 (.slice a' m k) (.slice none 0 0)).run Try.prog W = .ok (.bool a'.isNone) W := fun W a' m k => Lib.run_eql_slice_nil W _ _ a' m k 0 0 Try.underlying33
  cases a with
  | none =>
    obtain ⟨rfl, rfl⟩ := hnil rfl
    have : l = [] := List.eq_nil_of_length_eq_zero hn
    subst this
    clear hn hr hnil hm
    go_enter Try.func36, Try.ntmps36
    go_wp2
    go_ret
    exact ⟨_, rfl, OwnB.nil _ _, Only.refl _ _, by simp⟩
  | some g =>
    have HN := Lib.hid hn; have HR := Lib.hid hr; clear hn hr hnil
    go_enter Try.func36, Try.ntmps36
    go_wp2_with (at_builtin; refine app_own _ _ rfl rfl w.heap.size _ [] rfl ?own _ _ _ l rfl HN.out ?rd ?nl ?bs ?ln ?_)
    case own =>
      exact World.ownsRow_lit (base := w.heap.size) (e := 5) (size := 1) w #[] 0 (Nat.le_refl _) (by simp [maxLen]) (by simp)
    case rd => exact HR.out.keep0 ((Only.refl _ _).alloc _)
    case nl => intro h; cases h
    case bs => simp
    case ln => simpa using hm
    · intro v' w' h1 h2 h3
      go_wp2
      go_ret
      refine ⟨v', rfl, by simpa using h1, ?_, ?_⟩
      · exact ((Only.refl noB w).alloc _).trans h2 (fun x hx h => by omega)
      · exact ⟨fun h => (h3 h).elim, fun h => by cases h⟩

end Go.Proofs.Ytdnpmkejondpoaa
