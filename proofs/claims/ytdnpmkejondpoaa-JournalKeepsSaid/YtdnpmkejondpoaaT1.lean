/- Parts of a proof, joined: Base. -/
import Derived.WalkKit
import Derived.WalkSpells
import Derived.Deep.QuietTactic
import Derived.BigQuiet
import Derived.StillTailTactics
import Derived.Lib.Hide

/- Plain lemmas about worlds: whole rows of cells, and what a call may have turned. No Go function stands here. -/
namespace Go.Proofs.Ytdnpmkejondpoaa
open Go.RowKit
set_option linter.unusedVariables false
set_option linter.unusedSimpArgs false

/-- Block b is a row of these cells, none of them frozen. -/
def Row (w : World) (b : Nat) (cs : Array Value) : Prop := ∃ T, w.heap[b]? = some (.cells cs T (0, 0))

/-- Of what was there only blocks in S may have turned. -/
structure Only (S : Nat → Prop) (w w' : World) : Prop where
  os : w'.os = w.os
  tape : w'.tape = w.tape
  output : w'.output = w.output
  size : w.heap.size ≤ w'.heap.size
  block : ∀ k, k < w.heap.size → ¬ S k → w'.heap[k]? = w.heap[k]?

def noB : Nat → Prop := fun _ => False
theorem noB_not (k : Nat) : ¬ noB k := fun h => h

theorem Only.refl (S : Nat → Prop) (w : World) : Only S w w := ⟨rfl, rfl, rfl, Nat.le_refl _, fun _ _ _ => rfl⟩
theorem Only.trans {S S' : Nat → Prop} {a b c : World} (h : Only S a b) (k : Only S' b c) (hs : ∀ x, x < a.heap.size → S' x → S x) : Only S a c :=
  ⟨k.os.trans h.os, k.tape.trans h.tape, k.output.trans h.output, Nat.le_trans h.size k.size,
   fun i hi hS => (k.block i (Nat.lt_of_lt_of_le hi h.size) (fun hS' => hS (hs i hi hS'))).trans (h.block i hi hS)⟩
theorem Only.mono {S S' : Nat → Prop} {a b : World} (h : Only S a b) (hs : ∀ x, x < a.heap.size → S x → S' x) : Only S' a b :=
  ⟨h.os, h.tape, h.output, h.size, fun i hi hS => h.block i hi (fun hS' => hS (hs i hi hS'))⟩
/-- two steps under one set -/
theorem Only.then {S : Nat → Prop} {a b c : World} (h : Only S a b) (k : Only S b c) : Only S a c := h.trans k (fun _ _ h => h)
/-- a step that turns nothing old -/
theorem Only.thenNo {S : Nat → Prop} {a b c : World} (h : Only S a b) (k : Only noB b c) : Only S a c := h.trans k (fun _ _ h => h.elim)
theorem Only.noThen {S : Nat → Prop} {a b c : World} (h : Only noB a b) (k : Only S b c) : Only S a c := (h.mono (fun _ _ h => h.elim)).trans k (fun _ _ h => h)
theorem Only.ofNo {S : Nat → Prop} {a b : World} (h : Only noB a b) : Only S a b := h.mono (fun _ _ h => h.elim)
theorem Only.alloc {S : Nat → Prop} {a w : World} (h : Only S a w) (o : Obj) : Only S a (w.alloc o) :=
  h.thenNo ⟨rfl, rfl, rfl, by simp, fun k hk _ => Below.heap_alloc _ _ _ hk⟩
theorem Only.drew {S : Nat → Prop} {a w : World} (h : Only S a w) : Only S a w.drew := ⟨h.os, h.tape, h.output, h.size, h.block⟩
theorem Only.drewN {S : Nat → Prop} {a w : World} (h : Only S a w) (n : Nat) : Only S a (w.drewN n) := ⟨h.os, h.tape, h.output, h.size, h.block⟩
theorem Only.setCell {S : Nat → Prop} {a w : World} (h : Only S a w) (p : Addr) (hp : p.block < a.heap.size → S p.block) (u : Value) : Only S a (w.setCell p u) :=
  h.trans (S' := fun k => k = p.block) ⟨rfl, rfl, rfl, by simp, fun k hk hS => Below.heap_setCell _ _ _ _ hS⟩ (fun x hx e => by subst e; exact hp hx)
theorem Only.set {S : Nat → Prop} {a w : World} (h : Only S a w) (b i : Nat) (v : Value) (hp : S b) : Only S a (w.setCell ⟨b, i, none⟩ v) := h.setCell ⟨b, i, none⟩ (fun _ => hp) v
/-- a store into a block that was not there -/
theorem Only.setNew {S : Nat → Prop} {a w : World} (h : Only S a w) (b i : Nat) (v : Value) (hp : a.heap.size ≤ b) : Only S a (w.setCell ⟨b, i, none⟩ v) := h.setCell ⟨b, i, none⟩ (fun hb => absurd hb (by show ¬ b < _; omega)) v
theorem Only.of_below {S : Nat → Prop} {w w' : World} (h : Below w.heap.size w w') : Only S w w' := ⟨h.os, h.tape, h.output, h.size, fun k hk _ => h.block k hk⟩
theorem Only.below {S : Nat → Prop} {w w' : World} (h : Only S w w') (B : Nat) (hB : B ≤ w.heap.size) (hs : ∀ x, S x → B ≤ x) : Below B w w' :=
  ⟨h.os, h.tape, h.output, h.size, fun k hk => h.block k (by omega) (fun hS => by have := hs k hS; omega)⟩
theorem Only.toBelow {w w' : World} (h : Only noB w w') : Below w.heap.size w w' := h.below _ (Nat.le_refl _) (fun _ h => h.elim)

/-- a block that is there stays as it is -/
theorem Only.heap {S : Nat → Prop} {w w' : World} (h : Only S w w') {b : Nat} {o : Obj} (hb : w.heap[b]? = some o) (hS : ¬ S b) : w'.heap[b]? = some o := by
  rw [h.block b (lt_of_block hb) hS]; exact hb
theorem Only.cell {S : Nat → Prop} {w w' : World} (h : Only S w w') {a : Addr} (hb : a.block < w.heap.size) (hS : ¬ S a.block) : w'.cell? a = w.cell? a :=
  World.cell?_of_block (w := w) (h.block a.block hb hS)
theorem Only.frozen {S : Nat → Prop} {w w' : World} (h : Only S w w') {a : Addr} (hb : a.block < w.heap.size) (hS : ¬ S a.block) : w'.frozen? a = w.frozen? a :=
  World.frozen?_of_block (w := w) (h.block a.block hb hS)

theorem Row.keep {S : Nat → Prop} {w w' : World} {b : Nat} {cs : Array Value} (h : Row w b cs) (ho : Only S w w') (hS : ¬ S b) : Row w' b cs := by
  obtain ⟨T, h⟩ := h; exact ⟨T, ho.heap h hS⟩
theorem Row.keep0 {w w' : World} {b : Nat} {cs : Array Value} (h : Row w b cs) (ho : Only noB w w') : Row w' b cs := h.keep ho (noB_not _)
theorem Row.lt {w : World} {b : Nat} {cs : Array Value} (h : Row w b cs) : b < w.heap.size := by obtain ⟨T, h⟩ := h; exact lt_of_block h
theorem Row.c {w : World} {b : Nat} {cs : Array Value} (h : Row w b cs) (i : Nat) (v : Value) (hi : cs[i]? = some v) : w.cell? ⟨b, i, none⟩ = some v := by
  obtain ⟨T, h⟩ := h; simp [World.cell?, h, hi]
theorem Row.z {w : World} {b : Nat} {cs : Array Value} (h : Row w b cs) (i : Nat) : w.frozen? ⟨b, i, none⟩ = false := by
  obtain ⟨T, h⟩ := h; simp [World.frozen?, h]
theorem Row.set {w : World} {b : Nat} {cs : Array Value} (h : Row w b cs) (i : Nat) (v : Value) : Row (w.setCell ⟨b, i, none⟩ v) b (cs.setIfInBounds i v) := by
  obtain ⟨T, h⟩ := h; exact ⟨T, by rw [heap_setCell_same _ _ _ _ _ _ h]⟩
theorem Row.other {w : World} {b : Nat} {cs : Array Value} (h : Row w b cs) (a : Addr) (v : Value) (hne : b ≠ a.block) : Row (w.setCell a v) b cs := by
  obtain ⟨T, h⟩ := h; exact ⟨T, by rw [heap_setCell_other _ _ _ _ hne]; exact h⟩
theorem Row.alloc {w : World} {b : Nat} {cs : Array Value} (h : Row w b cs) (o : Obj) : Row (w.alloc o) b cs := h.keep0 ((Only.refl _ _).alloc o)
theorem Row.drew {w : World} {b : Nat} {cs : Array Value} (h : Row w b cs) : Row w.drew b cs := h
theorem Row.new (w : World) (cs : Array Value) (T : TypeId) : Row (w.alloc (.cells cs T)) w.heap.size cs := ⟨T, heap_alloc_new _ _⟩
theorem Row.inj {w : World} {b : Nat} {cs ds : Array Value} (h : Row w b cs) (k : Row w b ds) : cs = ds := by
  obtain ⟨T, h⟩ := h; obtain ⟨U, k⟩ := k; rw [h] at k; simp at k; exact k.1
/-- the cells of a row, all at once -/
theorem Row.c1 {w : World} {b : Nat} {v0 : Value} (h : Row w b #[v0]) : w.cell? ⟨b, 0, none⟩ = some v0 := h.c 0 v0 rfl
theorem Row.c3 {w : World} {b : Nat} {v0 v1 v2 : Value} (h : Row w b #[v0, v1, v2]) :
    w.cell? ⟨b, 0, none⟩ = some v0 ∧ w.cell? ⟨b, 1, none⟩ = some v1 ∧ w.cell? ⟨b, 2, none⟩ = some v2 := ⟨h.c 0 _ rfl, h.c 1 _ rfl, h.c 2 _ rfl⟩
theorem Row.c6 {w : World} {b : Nat} {v0 v1 v2 v3 v4 v5 : Value} (h : Row w b #[v0, v1, v2, v3, v4, v5]) :
    w.cell? ⟨b, 0, none⟩ = some v0 ∧ w.cell? ⟨b, 1, none⟩ = some v1 ∧ w.cell? ⟨b, 2, none⟩ = some v2 ∧ w.cell? ⟨b, 3, none⟩ = some v3 ∧ w.cell? ⟨b, 4, none⟩ = some v4 ∧ w.cell? ⟨b, 5, none⟩ = some v5 :=
  ⟨h.c 0 _ rfl, h.c 1 _ rfl, h.c 2 _ rfl, h.c 3 _ rfl, h.c 4 _ rfl, h.c 5 _ rfl⟩

/-! ### Bytes -/
/-- a byte as a value -/
def bv (x : UInt8) : Value := .int .u8 (x.toNat : Int)
def bvs (l : List UInt8) : Array Value := (l.map bv).toArray
theorem bvs_size (l : List UInt8) : (bvs l).size = l.length := by simp [bvs]
theorem bvs_get (l : List UInt8) (i : Nat) (h : i < l.length) : (bvs l)[i]? = some (bv (l.getD i 0)) := by
  simp [bvs, h, List.getElem?_eq_getElem h]
theorem bvs_set (l : List UInt8) (i : Nat) (x : UInt8) : (bvs l).setIfInBounds i (bv x) = bvs (l.set i x) := by
  simp [bvs, List.map_set]
theorem u8_range (x : UInt8) : (0 : Int) ≤ (x.toNat : Int) ∧ (x.toNat : Int) ≤ 255 := by have := x.toNat_lt; omega
theorem Row.byte {w : World} {b : Nat} {l : List UInt8} (h : Row w b (bvs l)) (i : Nat) (hi : i < l.length) : w.cell? ⟨b, i, none⟩ = some (.int .u8 ((l.getD i 0).toNat : Int)) :=
  h.c i _ (bvs_get l i hi)

/-- The slice at address a, of l.length elements, reads as bytes l. -/
def RdB (w : World) (a : Option Addr) (l : List UInt8) : Prop :=
  l = [] ∨ ∃ g o, a = some ⟨g, o, none⟩ ∧ ∀ i, i < l.length → w.cell? ⟨g, o + i, none⟩ = some (.int .u8 ((l.getD i 0).toNat : Int))
/-- the address lies in no block of S -/
def OffB (S : Nat → Prop) (a : Option Addr) : Prop := ∀ p, a = some p → ¬ S p.block
theorem OffB.no (a : Option Addr) : OffB noB a := fun _ _ => noB_not _
theorem RdB.keep {S : Nat → Prop} {w w' : World} {a : Option Addr} {l : List UInt8} (h : RdB w a l) (ho : Only S w w') (hS : OffB S a) : RdB w' a l := by
  rcases h with h | ⟨g, o, rfl, h⟩
  · exact .inl h
  · by_cases h0 : l = []
    · exact .inl h0
    · refine .inr ⟨g, o, rfl, fun i hi => ?_⟩
      have h1 := h 0 (List.length_pos_iff.2 h0)
      have hb : g < w.heap.size := World.block_lt_of_cell? w _ h1
      rw [ho.cell (a := ⟨g, o + i, none⟩) hb (hS ⟨g, o, none⟩ rfl)]
      exact h i hi
theorem RdB.keep0 {w w' : World} {a : Option Addr} {l : List UInt8} (h : RdB w a l) (ho : Only noB w w') : RdB w' a l := h.keep ho (OffB.no a)
theorem RdB.nil (w : World) (a : Option Addr) : RdB w a [] := .inl rfl
theorem Row.rdB {w : World} {b : Nat} {l : List UInt8} (h : Row w b (bvs l)) : RdB w (some ⟨b, 0, none⟩) l :=
  .inr ⟨b, 0, rfl, fun i hi => by rw [Nat.zero_add]; exact h.byte i hi⟩
theorem RdB.at_ {w : World} {a : Option Addr} {l : List UInt8} (h : RdB w a l) (h0 : 0 < l.length) :
    ∃ g o, a = some ⟨g, o, none⟩ ∧ ∀ i, i < l.length → w.cell? ⟨g, o + i, none⟩ = some (.int .u8 ((l.getD i 0).toNat : Int)) := by
  rcases h with rfl | h
  · simp at h0
  · exact h
/-- a part of it -/
theorem RdB.part {w : World} {g o : Nat} {l : List UInt8} (h : RdB w (some ⟨g, o, none⟩) l) (i n : Nat) (hn : i + n ≤ l.length) : RdB w (some ⟨g, o + i, none⟩) ((l.drop i).take n) := by
  by_cases h0 : n = 0
  · subst h0; exact .inl (by simp)
  · obtain ⟨g', o', e, hc⟩ := h.at_ (by omega)
    simp only [Option.some.injEq, Addr.mk.injEq, and_true] at e
    obtain ⟨rfl, rfl⟩ := e
    refine .inr ⟨g, o + i, rfl, fun j hj => ?_⟩
    simp at hj
    have := hc (i + j) (by omega)
    rw [Nat.add_assoc, this]
    simp [List.getD_eq_getElem?_getD, List.getElem?_take, List.getElem?_drop, show j < n from by omega]

/-- A row that begins with these bytes. -/
def RowB (w : World) (b : Nat) (l : List UInt8) : Prop := ∃ ex : List Value, Row w b (l.map bv ++ ex).toArray
theorem RowB.keep {S : Nat → Prop} {w w' : World} {b : Nat} {l : List UInt8} (h : RowB w b l) (ho : Only S w w') (hS : ¬ S b) : RowB w' b l := by
  obtain ⟨ex, h⟩ := h; exact ⟨ex, h.keep ho hS⟩
theorem RowB.keep0 {w w' : World} {b : Nat} {l : List UInt8} (h : RowB w b l) (ho : Only noB w w') : RowB w' b l := h.keep ho (noB_not _)
theorem RowB.lt {w : World} {b : Nat} {l : List UInt8} (h : RowB w b l) : b < w.heap.size := by obtain ⟨ex, h⟩ := h; exact h.lt
theorem RowB.z {w : World} {b : Nat} {l : List UInt8} (h : RowB w b l) (i : Nat) : w.frozen? ⟨b, i, none⟩ = false := by obtain ⟨ex, h⟩ := h; exact h.z i
theorem RowB.byte {w : World} {b : Nat} {l : List UInt8} (h : RowB w b l) (i : Nat) (hi : i < l.length) : w.cell? ⟨b, i, none⟩ = some (.int .u8 ((l.getD i 0).toNat : Int)) := by
  obtain ⟨ex, h⟩ := h
  refine h.c i _ ?_
  simp [List.getElem?_append, hi, bv]
theorem RowB.other {w : World} {b : Nat} {l : List UInt8} (h : RowB w b l) (a : Addr) (v : Value) (hne : b ≠ a.block) : RowB (w.setCell a v) b l := by
  obtain ⟨ex, h⟩ := h; exact ⟨ex, h.other a v hne⟩
theorem RowB.set {w : World} {b : Nat} {l : List UInt8} (h : RowB w b l) (i : Nat) (x : UInt8) (hi : i < l.length) : RowB (w.setCell ⟨b, i, none⟩ (bv x)) b (l.set i x) := by
  obtain ⟨ex, h⟩ := h
  refine ⟨ex, ?_⟩
  have := h.set i (bv x)
  have e : (l.map bv ++ ex).toArray.setIfInBounds i (bv x) = ((l.set i x).map bv ++ ex).toArray := by
    simp [List.set_append, hi, List.map_set]
  rw [e] at this; exact this
theorem RowB.drew {w : World} {b : Nat} {l : List UInt8} (h : RowB w b l) : RowB w.drew b l := h
theorem RowB.rdB {w : World} {b : Nat} {l : List UInt8} (h : RowB w b l) : RdB w (some ⟨b, 0, none⟩) l :=
  .inr ⟨b, 0, rfl, fun i hi => by rw [Nat.zero_add]; exact h.byte i hi⟩

/-! ### Whole numbers -/
def ivs (l : List Int) : Array Value := (l.map fun n => Value.int .i64 n).toArray
theorem ivs_get (l : List Int) (i : Nat) (h : i < l.length) : (ivs l)[i]? = some (.int .i64 (l.getD i 0)) := by
  simp [ivs, h, List.getElem?_eq_getElem h]
theorem ivs_set (l : List Int) (i : Nat) (x : Int) : (ivs l).setIfInBounds i (.int .i64 x) = ivs (l.set i x) := by
  simp [ivs, List.map_set]
theorem Row.num {w : World} {b : Nat} {l : List Int} (h : Row w b (ivs l)) (i : Nat) (hi : i < l.length) : w.cell? ⟨b, i, none⟩ = some (.int .i64 (l.getD i 0)) :=
  h.c i _ (ivs_get l i hi)

end Go.Proofs.Ytdnpmkejondpoaa
