/- Parts of a proof, joined: Need. -/
import Derived.Test.YtdnpmkejondpoaaT5
import Derived.Test.YtdnpmkejondpoaaT8

/- How many bytes values take: the map is gone through in whatever order. -/
namespace Go.Proofs.Ytdnpmkejondpoaa
open Go.RowKit Go.Maps
set_option linter.unusedVariables false
set_option linter.unusedSimpArgs false

theorem size_any (w : World) (a : Option Addr) (n c : Nat) (hn : n ≤ 1000000) :
    Calls Try.prog 66 #[.slice a n c] w fun e w' => e = .returned (.int .i64 ((n : Int) + 7)) ∧ w = w' := by
  go_enter Try.func66, Try.ntmps66
  go_wp2
  go_ret
  exact ⟨ret_int (by omega), rfl⟩

/-- what is left of the sum -/
def leftSum (left : Lit → Bool) (m : Vals) : Nat := ((m.filter fun p => left (.int .i64 p.1)).map fun p => recLen p.2).sum
theorem leftSum_none {left : Lit → Bool} (m : Vals) (h : ∀ k, left k = false) : leftSum left m = 0 := by
  unfold leftSum; rw [List.filter_eq_nil_iff.2 (fun p _ => by simp [h])]; rfl
theorem leftSum_all (m : Vals) {left : Lit → Bool} (h : ∀ p ∈ m, left (.int .i64 p.1) = true) : leftSum left m = (m.map fun p => recLen p.2).sum := by
  unfold leftSum; rw [List.filter_eq_self.2 h]
theorem leftSum_step {m : Vals} (hr : rising m) {left : Lit → Bool} {k : Int} {l : List UInt8} (hm : (k, l) ∈ m) (hl : left (.int .i64 k) = true) :
    leftSum left m = recLen l + leftSum (fun z => left z && !z.sameKey (.int .i64 k)) m := by
  induction m with
  | nil => simp at hm
  | cons p r ih =>
    obtain ⟨h1, h2⟩ := List.pairwise_cons.1 hr
    unfold leftSum at *
    rcases List.mem_cons.1 hm with rfl | hm
    · have e : (r.filter fun q => left (.int .i64 q.1) && !(Lit.int .i64 q.1).sameKey (.int .i64 k)) = r.filter fun q => left (.int .i64 q.1) := by
        refine List.filter_congr fun q hq => ?_
        have := h1 q hq
        have hne : ¬ q.1 = k := by simp at this; omega
        simp [Lit.sameKey, hne]
      rw [List.filter_cons_of_pos (by simpa using hl), List.filter_cons_of_neg (by simp [Lit.sameKey]), e]
      rfl
    · have hlt := h1 _ hm
      have hne : ¬ p.1 = k := by simp at hlt; omega
      have := ih h2 hm
      by_cases hp : left (.int .i64 p.1) = true
      · rw [List.filter_cons_of_pos (by simpa using hp), List.filter_cons_of_pos (by simp [hp, Lit.sameKey, hne]), List.map_cons, List.sum_cons, List.map_cons, List.sum_cons, this]
        omega
      · rw [List.filter_cons_of_neg (by simpa using hp), List.filter_cons_of_neg (by simp [hp]), this]

set_option maxHeartbeats 1000000 in
theorem need_any (w : World) (S : Nat → Prop) (b : Nat) (m : Vals) (hS : ∀ k, S k → k < w.heap.size) (hm : JV w S b m) :
    Calls Try.prog 50 #[.map (some b)] w fun e w' => e = .returned (.int .i64 (needV m : Int)) ∧ Only noB w w' := by
  obtain ⟨vs, hv, hr⟩ := hm.ex
  have hle := needV_le hm.small hm.short
  have hown := hv.own
  have hsum : 8 + (m.map fun p => recLen p.2).sum = needV m := rfl
  have hbl := hm.lt
  have HM := Lib.hid hm; have HV := Lib.hid hv; have HR := Lib.hid hr; have HS := Lib.hid hS; have HSUM := Lib.hid hsum
  clear hm hv hr hS hsum
  have hstart : 8 + leftSum (Maps.has (toD vs)) m = needV m := by
    rw [leftSum_all]
    · exact HSUM.out
    · intro p hp
      rw [toD_has]
      rcases HR.out.get p.1 with ⟨h1, h2⟩ | ⟨v, l, h1, h2, _⟩
      · exact absurd rfl (kget_none h2 p hp)
      · rw [h1]; rfl
  go_enter Try.func50, Try.ntmps50
  go_wp2_with (at_range; refine wpList_range_own _ rfl _ 64 rfl 3 33 mapK Try.underlying64 Rh b _ _ rfl hown ?_; intro w0 hrg0 hg0 hs0)
  go_frame
  have HO0 := Lib.hid hown
  clear hown
  go_loopw [3] (fun v wr => ∃ (n cnt : Nat) (left : Lit → Bool), v = .int .i64 n ∧ n + leftSum left m = needV m ∧ wr.ranges Try.prog 3 Rh b w.heap.size vs.length (toD vs) left cnt ∧ Only noB w wr)
    (fun _ wr => wr.rangeLeft b w.heap.size)
  case atStart => exact ⟨8, _, _, rfl, hstart, hrg0, (Only.refl noB w).grown hg0 (fun k hk _ => by cases hk)⟩
  case round =>
    obtain ⟨n, cnt, left, rfl, hn, hrg, hO⟩ := hrel
    have HN := Lib.hid hn; have HO := Lib.hid hO; clear hn hO
    go_wp2_with (at_next; refine wpList_next_ranges (α := Int) (β := Value) _ rfl _ rfl 3 mapK Rh (fun x => .int .i64 x) id (fun key kl h => by obtain ⟨x, h1, _⟩ := keyOf_int_inv Try.underlying3 h; exact ⟨x, h1⟩) (fun v y _ => ⟨v, rfl⟩) b w.heap.size _ _ _ _ rfl hrg ?_ ?_)
    · intro h0 hl0
      go_wp2
      go_ret
      refine ⟨ret_int ?_, HO.out⟩
      have := HN.out; rw [leftSum_none m hl0] at this; omega
    · intro x c kl y1 y2 w1 cnt1 hkey hlx hRy hat hrg1 hlt hg1 hs1 hen
      simp only [Rh, Option.some.injEq, Prod.mk.injEq] at hRy
      obtain ⟨rfl, rfl⟩ := hRy
      obtain ⟨x', ex, rfl, hwx⟩ := keyOf_int_inv Try.underlying3 hkey
      cases ex
      have hgv : kget vs x = some c := by
        have h1 := hat .nil
        rw [toD_at] at h1
        cases hg : kget vs x with
        | none => rw [hg] at h1; cases h1
        | some v => rw [hg] at h1; simp at h1; rw [h1]
      have hform : ∃ l a q, c = .slice a l.length q ∧ (x, l) ∈ m ∧ l.length ≤ 250 := by
        rcases HR.out.get x with ⟨h1, h2⟩ | ⟨v, l, h1, h2, a, q, e, _⟩
        · rw [h1] at hgv; cases hgv
        · rw [h1] at hgv; cases hgv
          exact ⟨l, a, q, e, kget_some h2, HM.out.small _ (kget_some h2)⟩
      obtain ⟨l, a, q, rfl, hml, hl⟩ := hform
      have hstep := leftSum_step HM.out.up hml hlx
      have HST := Lib.hid hstep
      have hnl : n + (7 + l.length) ≤ 8232 := by have := HN.out; have h2 : recLen l = 7 + l.length := rfl; omega
      have HRG := Lib.hid hrg1; have HEN := Lib.hid hen; have HG := Lib.hid hg1; have hcnt := hrg.left_eq; have HC := Lib.hid hcnt
      clear hstep hgv hkey hat hml hrg1 hg1 hs1 hrg hcnt hlx hwx
      go_wp2_with (go_at_call 66; refine (size_any _ _ _ _ (by omega)).mono ?_; rintro e w' ⟨rfl, rfl⟩)
      go_roundw
      case rel =>
        refine ⟨n + (7 + l.length), cnt1, _, by go_num, ?_, HRG.out, HO.out.grown HG.out (fun k hk h => by cases hk; omega)⟩
        have h1 := HN.out; have h2 := HST.out; have h3 : recLen l = 7 + l.length := rfl
        omega
      case measure => rw [HRG.out.left_eq, HC.out]; exact hlt

end Go.Proofs.Ytdnpmkejondpoaa
