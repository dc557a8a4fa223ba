/- Parts of a proof, joined: Map. -/
import Derived.Maps.Own
import Derived.Maps.OwnOps
import Derived.Maps.OwnSet
import Derived.Maps.Views
import Derived.Maps.Ext
import Derived.Maps.RangeWalk
import Derived.Test.YtdnpmkejondpoaaT2

/- Maps from whole numbers to slices: how they read as rising lists. -/
namespace Go.Proofs.Ytdnpmkejondpoaa
open Go.RowKit Go.Maps
set_option linter.unusedVariables false
set_option linter.unusedSimpArgs false

section
variable {α : Type}
def kput : List (Int × α) → Int → α → List (Int × α)
  | [], k, v => [(k, v)]
  | p :: r, k, v => if k < p.1 then (k, v) :: p :: r else if k = p.1 then (k, v) :: r else p :: kput r k v
def kdel (m : List (Int × α)) (k : Int) : List (Int × α) := m.filter fun p => !decide (p.1 = k)
def kget (m : List (Int × α)) (k : Int) : Option α := (m.find? fun p => decide (p.1 = k)).map (·.2)
def rising (m : List (Int × α)) : Prop := m.Pairwise fun p q => p.1 < q.1

theorem kput_mem {m : List (Int × α)} {k : Int} {v : α} {x : Int × α} (h : x ∈ kput m k v) : x = (k, v) ∨ x ∈ m := by
  induction m with
  | nil => simpa [kput] using h
  | cons p r ih =>
    unfold kput at h
    split at h
    · simpa using h
    · split at h
      · rcases List.mem_cons.1 h with h | h
        · exact .inl h
        · exact .inr (List.mem_cons_of_mem _ h)
      · rcases List.mem_cons.1 h with h | h
        · exact .inr (by rw [h]; exact List.mem_cons_self)
        · rcases ih h with h | h
          · exact .inl h
          · exact .inr (List.mem_cons_of_mem _ h)
theorem rising.put {m : List (Int × α)} (h : rising m) (k : Int) (v : α) : rising (kput m k v) := by
  induction m with
  | nil => exact List.pairwise_singleton _ _
  | cons p r ih =>
    obtain ⟨h1, h2⟩ := List.pairwise_cons.1 h
    unfold kput
    split
    · rename_i hk
      refine List.pairwise_cons.2 ⟨fun q hq => ?_, h⟩
      rcases List.mem_cons.1 hq with rfl | hq
      · exact hk
      · have := h1 q hq; show k < q.1; omega
    · split
      · rename_i hk hk2
        refine List.pairwise_cons.2 ⟨fun q hq => ?_, h2⟩
        have := h1 q hq; show k < q.1; omega
      · rename_i hk hk2
        refine List.pairwise_cons.2 ⟨fun q hq => ?_, ih h2⟩
        rcases kput_mem hq with rfl | hq
        · show p.1 < k; omega
        · exact h1 q hq
theorem rising.del {m : List (Int × α)} (h : rising m) (k : Int) : rising (kdel m k) := List.Pairwise.filter _ h
theorem kput_del {m : List (Int × α)} (h : rising m) (k : Int) (v : α) : kput m k v = kput (kdel m k) k v := by
  induction m with
  | nil => rfl
  | cons p r ih =>
    obtain ⟨h1, h2⟩ := List.pairwise_cons.1 h
    by_cases hk : k = p.1
    · have hr : kdel (p :: r) k = r := by
        unfold kdel
        rw [List.filter_cons_of_neg (by simp [hk])]
        refine List.filter_eq_self.2 fun q hq => ?_
        have := h1 q hq
        simp; omega
      rw [hr]
      have e1 : kput (p :: r) k v = (k, v) :: r := by unfold kput; rw [if_neg (by omega), if_pos hk]
      rw [e1]
      cases r with
      | nil => rfl
      | cons q r' =>
        have := h1 q List.mem_cons_self
        unfold kput; rw [if_pos (by omega)]
    · have hr : kdel (p :: r) k = p :: kdel r k := by unfold kdel; rw [List.filter_cons_of_pos (by simp; omega)]
      rw [hr]
      by_cases hlt : k < p.1
      · have hd : kdel r k = r := by
          refine List.filter_eq_self.2 fun q hq => ?_
          have := h1 q hq
          simp; omega
        rw [hd]
      · unfold kput; rw [if_neg hlt, if_neg hk, if_neg hlt, if_neg hk, ih h2]
theorem kget_some {m : List (Int × α)} {k : Int} {v : α} (h : kget m k = some v) : (k, v) ∈ m := by
  unfold kget at h
  obtain ⟨p, hp, rfl⟩ := Option.map_eq_some_iff.1 h
  have h1 := List.mem_of_find?_eq_some hp
  have h2 := List.find?_some hp
  simp at h2
  rw [← h2]; exact h1
theorem kget_none {m : List (Int × α)} {k : Int} (h : kget m k = none) : ∀ p ∈ m, p.1 ≠ k := by
  unfold kget at h
  simp at h
  intro p hp e
  exact h p.1 p.2 hp e
theorem kget_mem {m : List (Int × α)} (hr : rising m) {k : Int} {v : α} (h : (k, v) ∈ m) : kget m k = some v := by
  induction m with
  | nil => simp at h
  | cons p r ih =>
    obtain ⟨h1, h2⟩ := List.pairwise_cons.1 hr
    unfold kget
    rcases List.mem_cons.1 h with rfl | h
    · simp
    · have := h1 _ h
      rw [List.find?_cons_of_neg (by simp; omega)]
      exact ih h2 h
end

/-- whatever value, held as it is -/
def Rh (v : Value) : Option (DataW Value × List MemPlace) := some (.held v, [])
def toD (m : List (Int × Value)) : DataW Value := .map (m.map fun p => (.int .i64 p.1, .held p.2))

theorem insert_toD (m : List (Int × Value)) (k : Int) (v : Value) (h : ∀ p ∈ m, p.1 ≠ k) :
    DataW.insert (Lit.int .i64 k, DataW.held v) (m.map fun p => (Lit.int .i64 p.1, DataW.held p.2)) = (kput m k v).map fun p => (Lit.int .i64 p.1, DataW.held p.2) := by
  induction m with
  | nil => rfl
  | cons p r ih =>
    have hp : p.1 ≠ k := h p List.mem_cons_self
    simp only [List.map_cons, DataW.insert, kput, Lit.before]
    by_cases hk : k < p.1
    · simp [hk]
    · have : ¬ k = p.1 := fun e => hp e.symm
      simp only [hk, decide_false, Bool.false_eq_true, if_false, this, List.map_cons]
      rw [ih (fun q hq => h q (List.mem_cons_of_mem _ hq))]
theorem filter_toD (m : List (Int × Value)) (k : Int) :
    ((m.map fun p => (Lit.int .i64 p.1, DataW.held p.2)).filter fun p => !p.1.sameKey (.int .i64 k)) = (kdel m k).map fun p => (Lit.int .i64 p.1, DataW.held p.2) := by
  unfold kdel
  rw [List.filter_map]
  congr 1
  refine List.filter_congr fun p _ => ?_
  simp [Lit.sameKey]
theorem toD_del (m : List (Int × Value)) (k : Int) : (toD m).del (.int .i64 k) = toD (kdel m k) := by
  unfold toD DataW.del
  simp only []
  rw [filter_toD]
theorem toD_put {m : List (Int × Value)} (h : rising m) (k : Int) (v : Value) : (toD m).put (.int .i64 k) (.held v) = toD (kput m k v) := by
  unfold toD DataW.put
  simp only []
  rw [filter_toD, insert_toD _ _ _ (fun p hp => by simp [kdel] at hp; exact hp.2), ← kput_del h]
theorem toD_has (m : List (Int × Value)) (k : Int) : Maps.has (toD m) (.int .i64 k) = (kget m k).isSome := by
  unfold toD kget
  rw [Maps.has_eq]
  simp only [Option.isSome_map]
  rw [List.any_map]
  induction m with
  | nil => rfl
  | cons p r ih =>
    simp only [List.any_cons, List.find?_cons]
    by_cases hk : p.1 = k
    · simp [Lit.sameKey, hk]
    · simp [Lit.sameKey, hk]; simpa [Lit.sameKey] using ih
theorem toD_at (m : List (Int × Value)) (k : Int) (z : DataW Value) : (toD m).atKey (.int .i64 k) z = match kget m k with | some v => .held v | none => z := by
  unfold toD kget DataW.atKey
  simp only []
  induction m with
  | nil => rfl
  | cons p r ih =>
    simp only [List.map_cons, List.find?_cons]
    by_cases hk : p.1 = k
    · simp [Lit.sameKey, hk]
    · simp only [Lit.sameKey, hk, decide_false, and_false, Bool.false_eq_true]
      simpa [Lit.sameKey] using ih
theorem toD_size (m : List (Int × Value)) : Maps.size (toD m) = m.length := by simp [toD, Maps.size]

/-- Block b is a map that holds just these, by rising keys. -/
structure MapV (w : World) (b : Nat) (m : List (Int × Value)) : Prop where
  own : w.ownsMap Try.prog 3 Rh b m.length (toD m)
  up : rising m
  keys : ∀ p ∈ m, 0 ≤ p.1 ∧ p.1 < 32

theorem ownsMap_exact {w : World} {k : TypeId} {b n : Nat} {D : DataW Value} (h : w.ownsMap Try.prog k Rh b n D) : w.ownsMap Try.prog k Rh b (Maps.size D) D := by
  obtain ⟨es, clock, hb, F, hs, rfl⟩ := h
  exact ⟨es, clock, hb, F, by simp [Maps.size, length_sorted], rfl⟩
theorem MapV.lt {w : World} {b : Nat} {m : List (Int × Value)} (h : MapV w b m) : b < w.heap.size := h.own.lt
theorem MapV.keep {w w' : World} {b : Nat} {m : List (Int × Value)} (h : MapV w b m) {S : Nat → Prop} (ho : Only S w w') (hS : ¬ S b) : MapV w' b m := by
  obtain ⟨es, clock, hb, r⟩ := h.own
  exact ⟨⟨es, clock, ho.heap hb hS, r⟩, h.up, h.keys⟩
theorem MapV.keep0 {w w' : World} {b : Nat} {m : List (Int × Value)} (h : MapV w b m) (ho : Only noB w w') : MapV w' b m := h.keep ho (noB_not _)
theorem MapV.short {w : World} {b : Nat} {m : List (Int × Value)} (h : MapV w b m) : m.length ≤ 32 := by
  have hn : (m.map (·.1.toNat)).Nodup := by
    refine List.Pairwise.map _ (fun p q hpq => ?_) (h.up.imp_of_mem fun {p q} hp hq hlt => (⟨hlt, h.keys p hp, h.keys q hq⟩ : p.1 < q.1 ∧ (0 ≤ p.1 ∧ p.1 < 32) ∧ (0 ≤ q.1 ∧ q.1 < 32)))
    omega
  have hs : (m.map (·.1.toNat)) ⊆ List.range 32 := by
    intro x hx
    obtain ⟨p, hp, rfl⟩ := List.mem_map.1 hx
    have := h.keys p hp
    exact List.mem_range.2 (by omega)
  have := hn.length_le_of_subset hs
  simpa using this
theorem MapV.new (w : World) : MapV (w.alloc (.map #[] 0)) w.heap.size [] := ⟨World.ownsMap_made _ _ _ _, List.Pairwise.nil, by simp⟩

theorem wf64 {k : Int} (h : 0 ≤ k ∧ k < 32) : (Lit.int .i64 k).wf = true := WalkArith.wf_i64 (by omega)
theorem zeroB (w : World) : (zeroValue 33).run Try.prog w = .ok (.slice none 0 0) w := by kernel_rfl
theorem keyI {k : Int} (h : 0 ≤ k ∧ k < 32) : keyOf Try.prog 3 (.int .i64 k) = some (.int .i64 k) := keyOf_int_mk Try.underlying3 (wf64 h)
theorem mapK : Keyed Try.prog 3 := int_keyed Try.underlying3

theorem MapV.look_ok {w : World} {b : Nat} {m : List (Int × Value)} (h : MapV w b m) {k : Int} (hk : 0 ≤ k ∧ k < 32) :
    (Instr.lookup 64 (.map (some b)) (.int .i64 k) true).run Try.prog w = .ok (.tuple #[(kget m k).getD (.slice none 0 0), .bool (kget m k).isSome]) w := by
  obtain ⟨v, ps, hrun, hv⟩ := h.own.look_ok mapK Try.underlying64 (zeroB w) (zd := .held (.slice none 0 0)) (zp := []) rfl (keyI hk)
  rw [toD_has] at hrun
  rw [toD_at] at hv
  cases hg : kget m k with
  | none => rw [hg] at hv hrun; simp [Rh] at hv; rw [hrun, hv.1]; rfl
  | some x => rw [hg] at hv hrun; simp [Rh] at hv; rw [hrun, hv.1]; rfl
theorem MapV.look {w : World} {b : Nat} {m : List (Int × Value)} (h : MapV w b m) {k : Int} (hk : 0 ≤ k ∧ k < 32) :
    (Instr.lookup 64 (.map (some b)) (.int .i64 k) false).run Try.prog w = .ok ((kget m k).getD (.slice none 0 0)) w := by
  obtain ⟨v, ps, hrun, hv⟩ := h.own.lookup mapK Try.underlying64 (zeroB w) (zd := .held (.slice none 0 0)) (zp := []) rfl (keyI hk)
  rw [toD_at] at hv
  cases hg : kget m k with
  | none => rw [hg] at hv; simp [Rh] at hv; rw [hrun, hv.1]; rfl
  | some x => rw [hg] at hv; simp [Rh] at hv; rw [hrun, hv.1]; rfl
theorem MapV.store {w : World} {b : Nat} {m : List (Int × Value)} (h : MapV w b m) {k : Int} (hk : 0 ≤ k ∧ k < 32) (v : Value) :
    ∃ w', (Instr.mapUpdate 64 (.map (some b)) (.int .i64 k) v).run Try.prog w = .ok () w' ∧ MapV w' b (kput m k v) ∧ Only (fun x => x = b) w w' := by
  have hs := h.short
  obtain ⟨w', hrun, how, hg⟩ := h.own.update mapK Try.underlying64 (by unfold maxLen; omega) (keyI hk) (val := v) (d := .held v) (ps := []) rfl
  rw [toD_put h.up] at how
  refine ⟨w', hrun, ⟨?_, h.up.put k v, fun p hp => ?_⟩, (Only.refl _ _).grown hg (fun x hx _ => by cases hx; rfl)⟩
  · have := ownsMap_exact how; rw [toD_size] at this; exact this
  · rcases kput_mem hp with rfl | hp
    · exact hk
    · exact h.keys p hp
theorem MapV.drop {w : World} {b : Nat} {m : List (Int × Value)} (h : MapV w b m) {k : Int} (hk : 0 ≤ k ∧ k < 32) (ty : TypeId) :
    ∃ w', (Builtin.delete_ #[64, 3] ty #[.map (some b), .int .i64 k]).run Try.prog w = .ok (.tuple #[]) w' ∧ MapV w' b (kdel m k) ∧ Only (fun x => x = b) w w' := by
  obtain ⟨w', hrun, how, hg⟩ := h.own.drop mapK Try.underlying64 (keyI hk) ty
  rw [toD_del] at how
  refine ⟨w', hrun, ⟨?_, h.up.del k, fun p hp => h.keys p (List.mem_filter.1 hp).1⟩, (Only.refl _ _).grown hg.grown (fun x hx _ => by cases hx; rfl)⟩
  have := ownsMap_exact how; rw [toD_size] at this; exact this

end Go.Proofs.Ytdnpmkejondpoaa
