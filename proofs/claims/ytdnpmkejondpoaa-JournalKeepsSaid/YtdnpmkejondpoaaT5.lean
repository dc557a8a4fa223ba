/- Parts of a proof, joined: Keys, Vals. -/
import Derived.OwnWalkIn
import Derived.LoopNIn
import Derived.Test.YtdnpmkejondpoaaT3
import Derived.Test.YtdnpmkejondpoaaT4

/- maps.Clone; slices.Sorted(maps.Keys(m)). -/
namespace Go.Proofs.Ytdnpmkejondpoaa
open Go.RowKit Go.Maps Go.Sort Go.Shelf
set_option linter.unusedVariables false
set_option linter.unusedSimpArgs false

theorem sortsA (m : Nat) : AnyZI.SortsIn Try.prog Try.sortedA_ren Fence.wide m :=
  ⟨fun blk off cap ss W hH hblk hsz => callsIn_wide.2 (AnyM.slices_Sort_int Try.sortA blk off cap ss W hH hblk hsz),
   fun p cap W => callsIn_wide.2 (AnyM.slices_Sort_int_none Try.sortA p cap W)⟩

theorem keysF (mb : Nat) (w : World) : Calls Try.prog 44 #[.map (some mb)] w fun e w' =>
    e = .returned (.func (.func 62) #[] #[.pointer (some ⟨w.heap.size, 0, none⟩)]) ∧ w' = w.alloc (.cells #[.map (some mb)] 64) :=
  (callsIn_wide (n := 5)).1 (AnyZI.keys_in Try.keysA Fence.wide 5 trivial rfl (some mb) w)

/-- whole numbers of the call's own -/
def OwnI (w : World) (base : Nat) (v : Value) (l : List Int) : Prop := w.ownsRow base 3 1 v l.length (l.map encZ)

set_option maxHeartbeats 1000000 in
theorem sortedK (b nn : Nat) (D0 : DataW Value) (w : World) (hown : w.ownsMap Try.prog 3 Rh b nn D0) (hmax : Maps.size D0 ≤ 32) :
    Calls Try.prog 43 #[.func (.func 62) #[] #[.pointer (some ⟨w.heap.size, 0, none⟩)]] (w.alloc (.cells #[.map (some b)] 64)) fun e w' =>
      ∃ (v : Value) (ss : List Int), e = .returned v ∧ ss.Perm (intKeys D0) ∧ OwnI w' (w.heap.size + 1) v (ss.mergeSort fun x y => decide (x ≤ y)) ∧ Only noB (w.alloc (.cells #[.map (some b)] 64)) w' := by
  refine (callsIn_wide (n := 5)).1 ?_
  have hbl := hown.lt
  have hseq : SeqGives Fence.wide 2 Try.prog 62 #[.pointer (some ⟨w.heap.size, 0, none⟩)] encZ (fun ss => ss.Perm (intKeys D0)) (Maps.size D0) (w.alloc (.cells #[.map (some b)] 64)) :=
    AnyZI.keys_gives (ρ := Try.keysA_ren) { Try.keysA with } Fence.wide _ trivial rfl (by omega) w.heap.size b nn D0 _ (by simp) (by simp) (by
      obtain ⟨es, clock, hb, Ft, hs, hD⟩ := hown
      exact ⟨es, clock, (Below.heap_alloc _ _ b hbl).trans hb, Ft, hs, hD⟩)
  have cS := AnyZI.sorted_in Try.sortedA Fence.wide 5 trivial trivial trivial trivial rfl (by omega) (sortsA _) (enters_of Try.func61 (by kernel_rfl) rfl) 62 #[.pointer (some ⟨w.heap.size, 0, none⟩)] trivial (enters_of Try.func62 (by kernel_rfl) rfl) _ _ (by unfold maxLen; omega) (by omega) _ hseq
  refine cS.mono ?_
  rintro e w' ⟨v, ss, rfl, hS, hrow, hnil, hb⟩
  refine ⟨v, ss, rfl, hS, ?_, Only.of_below hb⟩
  have h2 : w'.ownsRow (w.alloc (.cells #[.map (some b)] 64)).heap.size 3 1 v ss.length ((ss.mergeSort fun x y => decide (x ≤ y)).map encZ) := hrow
  unfold OwnI
  simpa using h2

theorem intKeys_toD (m : List (Int × Value)) : intKeys (toD m) = m.map (·.1) := by
  unfold intKeys toD
  simp only [List.map_map]
  rfl
theorem sort_rising {m : List (Int × Value)} (h : rising m) {ss : List Int} (hp : ss.Perm (m.map (·.1))) : (ss.mergeSort fun x y => decide (x ≤ y)) = m.map (·.1) := by
  refine List.Perm.eq_of_pairwise (le := fun x y => x ≤ y) (fun a b _ _ h1 h2 => by omega) ?_ ?_ ((List.mergeSort_perm _ _).trans hp)
  · have := List.pairwise_mergeSort (le := fun x y : Int => decide (x ≤ y)) (fun a b c h1 h2 => by simp at *; omega) (fun a b => by simp; omega) ss
    exact this.imp (fun h => by simpa using h)
  · refine List.Pairwise.map _ (fun p q h => ?_) h
    show p.1 ≤ q.1; omega

/-- slices.Sorted(maps.Keys(m)), behind maps.Keys -/
theorem sorted_any (w : World) (b : Nat) (m : List (Int × Value)) (hm : MapV w b m) :
    Calls Try.prog 43 #[.func (.func 62) #[] #[.pointer (some ⟨w.heap.size, 0, none⟩)]] (w.alloc (.cells #[.map (some b)] 64)) fun e w' =>
      ∃ v, e = .returned v ∧ OwnI w' (w.heap.size + 1) v (m.map (·.1)) ∧ Only noB (w.alloc (.cells #[.map (some b)] 64)) w' := by
  refine (sortedK b m.length (toD m) w hm.own (by rw [toD_size]; exact hm.short)).mono ?_
  rintro e w' ⟨v, ss, rfl, hS, ho, hb⟩
  rw [intKeys_toD] at hS
  rw [sort_rising hm.up hS] at ho
  exact ⟨v, rfl, ho, hb⟩

theorem mclone_any (w : World) (b : Nat) (m : List (Int × Value)) (hm : MapV w b m) :
    Calls Try.prog 39 #[.map (some b)] w fun e w' => e = .returned (.map (some w.heap.size)) ∧ MapV w' w.heap.size m ∧ Only noB w w' ∧ w'.heap.size = w.heap.size + 1 := by
  obtain ⟨es, clock, hb, r⟩ := hm.own
  refine (AnyW.maps_Clone Try.cloneM b es clock w hb).mono ?_
  rintro e w' ⟨rfl, rfl⟩
  exact ⟨rfl, ⟨⟨es, clock, (MapKept.heap_alloc w _).1, r⟩, hm.up, hm.keys⟩, (Only.refl _ _).alloc _, by simp⟩

/-- the slice of the call's own reads as these numbers -/
theorem OwnI.form {w : World} {base : Nat} {v : Value} {l : List Int} (h : OwnI w base v l) :
    ∃ a c, v = .slice a l.length c ∧ (a = none → c = 0) ∧ (l = [] ∨ ∃ g, a = some ⟨g, 0, none⟩ ∧ base ≤ g ∧ ∃ ex, Row w g (l.map encZ ++ ex).toArray) := by
  rcases h.2 with ⟨rfl, h0⟩ | ⟨g, cap, cur, rfl, hg, hh, h1, h2, h3, h4⟩
  · have : l = [] := List.eq_nil_of_length_eq_zero h0
    subst this
    exact ⟨none, 0, rfl, fun _ => rfl, .inl rfl⟩
  · refine ⟨_, cap, rfl, (fun h => by cases h), .inr ⟨g, rfl, hg, cur.toList.drop l.length, 3, ?_⟩⟩
    rw [hh]
    rw [Nat.mul_one] at h4
    rw [← h4, List.take_append_drop]

end Go.Proofs.Ytdnpmkejondpoaa

/- A map from keys to bytes, in memory. -/
namespace Go.Proofs.Ytdnpmkejondpoaa
open Go.RowKit Go.Maps
set_option linter.unusedVariables false
set_option linter.unusedSimpArgs false

abbrev Vals := List (Int × List UInt8)

/-- a value that reads as bytes, in no block of S -/
def SlB (w : World) (S : Nat → Prop) (v : Value) (l : List UInt8) : Prop := ∃ a c, v = .slice a l.length c ∧ RdB w a l ∧ (a = none → c = 0) ∧ OffB S a
theorem SlB.keep {w w' : World} {S : Nat → Prop} {v : Value} {l : List UInt8} (h : SlB w S v l) (ho : Only S w w') : SlB w' S v l := by
  obtain ⟨a, c, e, hr, hn, hO⟩ := h
  exact ⟨a, c, e, hr.keep ho hO, hn, hO⟩
theorem OwnB.slB {w : World} {base : Nat} {v : Value} {l : List UInt8} (h : OwnB w base v l) (S : Nat → Prop) (hS : ∀ k, S k → k < base) : SlB w S v l := by
  obtain ⟨a, c, e, hr, hn, _, hc⟩ := h.form
  exact ⟨a, c, e, hr, hc, hn.off S hS⟩

inductive VRel (w : World) (S : Nat → Prop) : List (Int × Value) → Vals → Prop
  | nil : VRel w S [] []
  | cons {p : Int × Value} {q : Int × List UInt8} {vs : List (Int × Value)} {m : Vals} (h : p.1 = q.1 ∧ SlB w S p.2 q.2) (t : VRel w S vs m) : VRel w S (p :: vs) (q :: m)

/-- bytes lie in no map -/
theorem RdB.keepMap {w w' : World} {a : Option Addr} {l : List UInt8} (h : RdB w a l) {b : Nat} {vs : List (Int × Value)} (hm : MapV w b vs) (ho : Only (fun x => x = b) w w') : RdB w' a l := by
  rcases h with h | ⟨g, o, rfl, h⟩
  · exact .inl h
  · by_cases h0 : l = []
    · exact .inl h0
    · refine .inr ⟨g, o, rfl, fun i hi => ?_⟩
      have h1 := h 0 (List.length_pos_iff.2 h0)
      have hb : g < w.heap.size := World.block_lt_of_cell? w _ h1
      have hg : g ≠ b := by
        rintro rfl
        obtain ⟨es, clock, hb, _⟩ := hm.own
        simp [World.cell?, hb] at h1
      rw [ho.cell (a := ⟨g, o + i, none⟩) hb hg]
      exact h i hi
theorem SlB.keepMap {w w' : World} {S : Nat → Prop} {v : Value} {l : List UInt8} (h : SlB w S v l) {b : Nat} {vs : List (Int × Value)} (hm : MapV w b vs) (ho : Only (fun x => x = b) w w') : SlB w' S v l := by
  obtain ⟨a, c, e, hr, hn, hO⟩ := h
  exact ⟨a, c, e, hr.keepMap hm ho, hn, hO⟩
theorem VRel.keepMap {w w' : World} {S : Nat → Prop} {xs : List (Int × Value)} {m : Vals} (h : VRel w S xs m) {b : Nat} {vs : List (Int × Value)} (hm : MapV w b vs) (ho : Only (fun x => x = b) w w') : VRel w' S xs m := by
  induction h with
  | nil => exact .nil
  | cons h t ih => exact .cons ⟨h.1, h.2.keepMap hm ho⟩ ih

theorem VRel.keep {w w' : World} {S : Nat → Prop} {vs : List (Int × Value)} {m : Vals} (h : VRel w S vs m) (ho : Only S w w') : VRel w' S vs m := by
  induction h with
  | nil => exact .nil
  | cons h t ih => exact .cons ⟨h.1, h.2.keep ho⟩ ih
theorem VRel.keys {w : World} {S : Nat → Prop} {vs : List (Int × Value)} {m : Vals} (h : VRel w S vs m) : vs.map (·.1) = m.map (·.1) := by
  induction h with
  | nil => rfl
  | cons h t ih => simp [h.1, ih]
theorem VRel.len {w : World} {S : Nat → Prop} {vs : List (Int × Value)} {m : Vals} (h : VRel w S vs m) : vs.length = m.length := by
  have := congrArg List.length h.keys; simpa using this
theorem VRel.get {w : World} {S : Nat → Prop} {vs : List (Int × Value)} {m : Vals} (h : VRel w S vs m) (k : Int) :
    (kget vs k = none ∧ kget m k = none) ∨ ∃ v l, kget vs k = some v ∧ kget m k = some l ∧ SlB w S v l := by
  induction h with
  | nil => exact .inl ⟨rfl, rfl⟩
  | @cons p q vs m h t ih =>
    by_cases hk : p.1 = k
    · have hk2 : q.1 = k := h.1 ▸ hk
      exact .inr ⟨p.2, q.2, by simp [kget, hk], by simp [kget, hk2], h.2⟩
    · have hk2 : ¬ q.1 = k := h.1 ▸ hk
      have e1 : kget (p :: vs) k = kget vs k := by simp [kget, hk]
      have e2 : kget (q :: m) k = kget m k := by simp [kget, hk2]
      rw [e1, e2]; exact ih
theorem VRel.put {w : World} {S : Nat → Prop} {vs : List (Int × Value)} {m : Vals} (h : VRel w S vs m) (k : Int) {v : Value} {l : List UInt8} (hv : SlB w S v l) : VRel w S (kput vs k v) (kput m k l) := by
  induction h with
  | nil => exact .cons ⟨rfl, hv⟩ .nil
  | @cons p q vs m h t ih =>
    unfold kput
    rw [h.1]
    split
    · exact .cons ⟨rfl, hv⟩ (.cons h t)
    · split
      · exact .cons ⟨rfl, hv⟩ t
      · exact .cons h ih
theorem VRel.del {w : World} {S : Nat → Prop} {vs : List (Int × Value)} {m : Vals} (h : VRel w S vs m) (k : Int) : VRel w S (kdel vs k) (kdel m k) := by
  induction h with
  | nil => exact .nil
  | @cons p q vs m h t ih =>
    unfold kdel at *
    by_cases hk : q.1 = k
    · rw [List.filter_cons_of_neg (by simp [h.1, hk]), List.filter_cons_of_neg (by simp [hk])]; exact ih
    · rw [List.filter_cons_of_pos (by simp [h.1, hk]), List.filter_cons_of_pos (by simp [hk])]; exact .cons h ih

/-- Block b is a map of these bytes by these keys. -/
structure JV (w : World) (S : Nat → Prop) (b : Nat) (m : Vals) : Prop where
  ex : ∃ vs, MapV w b vs ∧ VRel w S vs m
  off : ¬ S b
  small : ∀ p ∈ m, p.2.length ≤ 250

theorem JV.keep {w w' : World} {S : Nat → Prop} {b : Nat} {m : Vals} (h : JV w S b m) (ho : Only S w w') : JV w' S b m := by
  obtain ⟨vs, hm, hv⟩ := h.ex
  exact ⟨⟨vs, hm.keep ho h.off, hv.keep ho⟩, h.off, h.small⟩
theorem JV.keep0 {w w' : World} {S : Nat → Prop} {b : Nat} {m : Vals} (h : JV w S b m) (ho : Only noB w w') : JV w' S b m := h.keep ho.ofNo
theorem rising.of_keys {α β : Type} {vs : List (Int × α)} {m : List (Int × β)} (e : vs.map (·.1) = m.map (·.1)) (h : rising vs) : rising m := by
  unfold rising at *
  have h1 : (vs.map (·.1)).Pairwise (· < ·) := List.pairwise_map.2 h
  rw [e] at h1
  exact List.pairwise_map.1 h1
theorem JV.up {w : World} {S : Nat → Prop} {b : Nat} {m : Vals} (h : JV w S b m) : rising m := by
  obtain ⟨vs, hm, hv⟩ := h.ex
  exact rising.of_keys hv.keys hm.up
theorem JV.keys {w : World} {S : Nat → Prop} {b : Nat} {m : Vals} (h : JV w S b m) : ∀ p ∈ m, 0 ≤ p.1 ∧ p.1 < 32 := by
  obtain ⟨vs, hm, hv⟩ := h.ex
  intro p hp
  have : p.1 ∈ vs.map (·.1) := by rw [hv.keys]; exact List.mem_map_of_mem hp
  obtain ⟨q, hq, e⟩ := List.mem_map.1 this
  rw [← e]; exact hm.keys q hq
theorem JV.short {w : World} {S : Nat → Prop} {b : Nat} {m : Vals} (h : JV w S b m) : m.length ≤ 32 := by
  obtain ⟨vs, hm, hv⟩ := h.ex
  rw [← hv.len]; exact hm.short
theorem JV.lt {w : World} {S : Nat → Prop} {b : Nat} {m : Vals} (h : JV w S b m) : b < w.heap.size := by
  obtain ⟨vs, hm, hv⟩ := h.ex
  exact hm.lt
theorem JV.new (w : World) (S : Nat → Prop) (hS : ¬ S w.heap.size) : JV (w.alloc (.map #[] 0)) S w.heap.size [] := ⟨⟨[], MapV.new w, .nil⟩, hS, by simp⟩

/-- the look-up with its 'there is one' -/
theorem JV.look_ok {w : World} {S : Nat → Prop} {b : Nat} {m : Vals} (h : JV w S b m) {k : Int} (hk : 0 ≤ k ∧ k < 32) :
    (kget m k = none ∧ (Instr.lookup 64 (.map (some b)) (.int .i64 k) true).run Try.prog w = .ok (.tuple #[.slice none 0 0, .bool false]) w) ∨
    ∃ l a c, kget m k = some l ∧ (Instr.lookup 64 (.map (some b)) (.int .i64 k) true).run Try.prog w = .ok (.tuple #[.slice a l.length c, .bool true]) w ∧ RdB w a l ∧ (a = none → c = 0) ∧ OffB S a ∧ l.length ≤ 250 := by
  obtain ⟨vs, hm, hv⟩ := h.ex
  have hrun := hm.look_ok hk
  rcases hv.get k with ⟨h1, h2⟩ | ⟨v, l, h1, h2, a, c, rfl, hr, hn, hO⟩
  · rw [h1] at hrun; exact .inl ⟨h2, hrun⟩
  · rw [h1] at hrun; exact .inr ⟨l, a, c, h2, hrun, hr, hn, hO, h.small _ (kget_some h2)⟩
theorem JV.look {w : World} {S : Nat → Prop} {b : Nat} {m : Vals} (h : JV w S b m) {k : Int} {l : List UInt8} (hm : (k, l) ∈ m) :
    ∃ a c, (Instr.lookup 64 (.map (some b)) (.int .i64 k) false).run Try.prog w = .ok (.slice a l.length c) w ∧ RdB w a l ∧ (a = none → c = 0) ∧ OffB S a ∧ l.length ≤ 250 := by
  have hk := h.keys _ hm
  have hg := kget_mem h.up hm
  have hsm := h.small _ hm
  obtain ⟨vs, hm, hv⟩ := h.ex
  have hrun := hm.look hk
  rcases hv.get k with ⟨h1, h2⟩ | ⟨v, l', h1, h2, a, c, rfl, hr, hn, hO⟩
  · rw [h2] at hg; cases hg
  · rw [h2] at hg; cases hg
    rw [h1] at hrun; exact ⟨a, c, hrun, hr, hn, hO, hsm⟩
theorem JV.store {w : World} {S : Nat → Prop} {b : Nat} {m : Vals} (h : JV w S b m) {k : Int} (hk : 0 ≤ k ∧ k < 32) {v : Value} {l : List UInt8} (hv : SlB w S v l) (hl : l.length ≤ 250) :
    ∃ w', (Instr.mapUpdate 64 (.map (some b)) (.int .i64 k) v).run Try.prog w = .ok () w' ∧ JV w' S b (kput m k l) ∧ Only (fun x => x = b) w w' := by
  obtain ⟨vs, hm, hr⟩ := h.ex
  obtain ⟨w', hrun, hm', ho⟩ := hm.store hk v
  refine ⟨w', hrun, ⟨⟨_, hm', ?_⟩, h.off, fun p hp => ?_⟩, ho⟩
  · exact (hr.put k hv).keepMap hm ho
  · rcases kput_mem hp with rfl | hp
    · exact hl
    · exact h.small p hp
theorem JV.drop {w : World} {S : Nat → Prop} {b : Nat} {m : Vals} (h : JV w S b m) {k : Int} (hk : 0 ≤ k ∧ k < 32) (ty : TypeId) :
    ∃ w', (Builtin.delete_ #[64, 3] ty #[.map (some b), .int .i64 k]).run Try.prog w = .ok (.tuple #[]) w' ∧ JV w' S b (kdel m k) ∧ Only (fun x => x = b) w w' := by
  obtain ⟨vs, hm, hr⟩ := h.ex
  obtain ⟨w', hrun, hm', ho⟩ := hm.drop hk ty
  exact ⟨w', hrun, ⟨⟨_, hm', (hr.del k).keepMap hm ho⟩, h.off, fun p hp => h.small p (List.mem_filter.1 hp).1⟩, ho⟩

def recLen (l : List UInt8) : Nat := 7 + l.length
/-- how many bytes a group with these values takes -/
def needV (m : Vals) : Nat := 8 + (m.map fun p => recLen p.2).sum
theorem needV_le {m : Vals} (h : ∀ p ∈ m, p.2.length ≤ 250) (hs : m.length ≤ 32) : needV m ≤ 8232 := by
  have : (m.map fun p => recLen p.2).sum ≤ m.length * 257 := by
    induction m with
    | nil => simp
    | cons p r ih =>
      have h1 := ih (fun q hq => h q (List.mem_cons_of_mem _ hq)) (by simp at hs; omega)
      have h2 := h p List.mem_cons_self
      have h3 : recLen p.2 = 7 + p.2.length := rfl
      rw [List.map_cons, List.sum_cons, List.length_cons, Nat.add_mul]
      omega
  unfold needV
  have := Nat.mul_le_mul_right 257 hs
  omega

end Go.Proofs.Ytdnpmkejondpoaa
