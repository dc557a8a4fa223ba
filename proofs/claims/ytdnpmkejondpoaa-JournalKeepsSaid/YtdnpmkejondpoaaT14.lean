/- Parts of a proof, joined: Repeat. -/
import Derived.Test.YtdnpmkejondpoaaT12
import Derived.Test.YtdnpmkejondpoaaT13

/- bytes.Repeat of one byte. -/
namespace Go.Proofs.Ytdnpmkejondpoaa
open Go.RowKit
set_option linter.unusedVariables false
set_option linter.unusedSimpArgs false

/-- copy onto the place behind the bytes that are there -/
theorem wp_copy_grow {o : Oper} {a : Act} {w : World} {K : Act → World → Prop} {Q : Exit → Act → World → Prop} (d s : Operand)
    (ho : o.op = .call { callee := .builtin .copy, args := #[d, s], argTypes := #[33, 33] })
    (dp sp : Option Addr) (dLen dCap sLen sCap : Nat) (hd : a.eval d = .slice dp dLen dCap) (hs : a.eval s = .slice sp sLen sCap)
    (g : Nat) (L l : List UInt8) (ex : List Value) (hg : Row w g (L.map bv ++ ex).toArray) (hn : l.length = min sLen dLen) (hfit : l.length ≤ ex.length) (hl : 0 < l.length) (hdp : dp = some ⟨g, L.length, none⟩) (hr : RdB w sp l)
    (h : ∀ w', Row w' g ((L ++ l).map bv ++ ex.drop l.length).toArray → Only (fun k => k = g) w w' → K (a.put o.dst (.int .i64 (l.length : Int))) w') :
    Oper.wp Try.prog o a w K Q := by
  obtain rfl := hdp
  obtain ⟨g', o', rfl, hc⟩ := hr.at_ hl
  obtain ⟨T, hg⟩ := hg
  have hrun := run_copy_row (P := Try.prog) w 33 33 o.type 5 g L.length dLen dCap ⟨g', o', none⟩ sLen sCap _ T (l.map bv) Try.underlying33 sizeU8 hg (by simpa using hn) hr.news (by simp; omega) (bvs_one _)
  unfold Oper.wp
  simp [execOp, ho, resolve, invoke, builtin, hd, hs, hrun, Result.andThen, goInt]
  refine h _ ⟨T, ?_⟩ (Only.setRow _ _ _)
  have hL : ((L.map bv ++ ex).take L.length ++ l.map bv ++ (L.map bv ++ ex).drop (L.length + l.length)) = (L ++ l).map bv ++ ex.drop l.length := by
    rw [List.take_append, List.drop_append, List.take_of_length_le (by simp), List.drop_of_length_le (l := L.map bv) (by simp)]
    simp
  rw [setRow_heap w g _ _ T (0, 0) hg]
  rw [← hL]
  simp

theorem copy_grow {ops : Array Oper} {rest : List Oper} {o : Oper} {a : Act} {w : World} {Q : Exit → Act → World → Prop} (hgd : o.guard = none) (d s : Operand)
    (ho : o.op = .call { callee := .builtin .copy, args := #[d, s], argTypes := #[33, 33] })
    (dp sp : Option Addr) (dLen dCap sLen sCap : Nat) (hd : a.eval d = .slice dp dLen dCap) (hs : a.eval s = .slice sp sLen sCap)
    (g : Nat) (L l : List UInt8) (ex : List Value) (hg : Row w g (L.map bv ++ ex).toArray) (hn : l.length = min sLen dLen) (hfit : l.length ≤ ex.length) (hl : 0 < l.length) (hdp : dp = some ⟨g, L.length, none⟩) (hr : RdB w sp l)
    (h : ∀ w', Row w' g ((L ++ l).map bv ++ ex.drop l.length).toArray → Only (fun k => k = g) w w' → wpList Try.prog ops Q rest (a.put o.dst (.int .i64 (l.length : Int))) w') :
    wpList Try.prog ops Q (o :: rest) a w :=
  wpList_plain hgd fun _ hK => wp_copy_grow d s ho dp sp dLen dCap sLen sCap hd hs g L l ex hg hn hfit hl hdp hr fun w' h1 h2 => hK _ _ (h w' h1 h2)

theorem run_grow (w : World) (ty : TypeId) (sp : Option Addr) (dLen dCap sLen sCap : Nat) (g k : Nat) (L l : List UInt8) (ex : List Value) (hk : L.length = k) (hg : Row w g (L.map bv ++ ex).toArray) (hn : l.length = min sLen dLen) (hfit : l.length ≤ ex.length) (hl : 0 < l.length) (hr : RdB w sp l) :
    ∃ W, (Builtin.copy_ #[33, 33] ty #[.slice (some ⟨g, k, none⟩) dLen dCap, .slice sp sLen sCap]).run Try.prog w = .ok (.int .i64 (l.length : Int)) W ∧ Row W g ((L ++ l).map bv ++ ex.drop l.length).toArray ∧ Only (fun k => k = g) w W := by
  subst hk
  obtain ⟨g', o', rfl, hc⟩ := hr.at_ hl
  obtain ⟨T, hg⟩ := hg
  have hrun := run_copy_row (P := Try.prog) w 33 33 ty 5 g L.length dLen dCap ⟨g', o', none⟩ sLen sCap _ T (l.map bv) Try.underlying33 sizeU8 hg (by simpa using hn) hr.news (by simp; omega) (bvs_one _)
  refine ⟨_, by simpa [goInt] using hrun, ⟨T, ?_⟩, Only.setRow _ _ _⟩
  have hL : ((L.map bv ++ ex).take L.length ++ l.map bv ++ (L.map bv ++ ex).drop (L.length + l.length)) = (L ++ l).map bv ++ ex.drop l.length := by
    rw [List.take_append, List.drop_append, List.take_of_length_le (by simp), List.drop_of_length_le (l := L.map bv) (by simp)]
    simp
  rw [setRow_heap w g _ _ T (0, 0) hg]
  rw [← hL]
  simp

theorem rd_rep {w : World} {g k : Nat} {ex : List Value} (x : UInt8) (h : Row w g ((List.replicate k x).map bv ++ ex).toArray) (j : Nat) (hj : j ≤ k) : RdB w (some ⟨g, 0, none⟩) (List.replicate j x) := by
  refine .inr ⟨g, 0, rfl, fun i hi => ?_⟩
  simp at hi
  refine h.c _ _ ?_
  simp [List.getElem?_append, hi, show i < k by omega, bv]

def RepPost (x : UInt8) (n : Nat) (w : World) (e : Ending) (w' : World) : Prop :=
  ∃ b, e = .returned (.slice (some ⟨b, 0, none⟩) n n) ∧ RowB w' b (List.replicate n x) ∧ w.heap.size ≤ b ∧ Only noB w w'

set_option maxRecDepth 100000 in
set_option maxHeartbeats 1000000 in
theorem repeat_one (w : World) (g o c : Nat) (x : UInt8) (n : Nat) (h1 : 1 ≤ n) (hn : n ≤ 262144) (hc : w.cell? ⟨g, o, none⟩ = some (.int .u8 (x.toNat : Int))) :
    Calls Try.prog 46 #[.slice (some ⟨g, o, none⟩) 1 c, .int .i64 (n : Int)] w (RepPost x n w) := by
  obtain ⟨cs, hrunM, hle, _⟩ := Lib.run_makeNoZero (P := Try.prog) w #[3] 33 5 Try.underlying33 n (by omega)
  have hcall : (callFunc 64 #[.int .i64 (n : Int)]).run Try.prog w = .ok (.value (.slice (some ⟨w.heap.size, 0, none⟩) n cs.size)) ((w.alloc (.cells cs 5)).drewN 2) := by
    rw [run_callFunc_extern Try.func64 (by kernel_rfl) (by kernel_rfl) (by kernel_rfl) (e := Extern.BytealgMakeNoZero.makeNoZero #[3] #[33]) (by kernel_rfl), hrunM]
    rfl
  have hR0 : Row ((w.alloc (.cells cs 5)).drewN 2) w.heap.size (([] : List UInt8).map bv ++ cs.toList).toArray := by
    have h : Row (w.alloc (.cells cs 5)) w.heap.size (([] : List UInt8).map bv ++ cs.toList).toArray := by simpa using Row.new w cs 5
    exact h
  have hO0 : Only noB w ((w.alloc (.cells cs 5)).drewN 2) := ((Only.refl _ _).alloc _).drewN 2
  have hx : RdB ((w.alloc (.cells cs 5)).drewN 2) (some ⟨g, o, none⟩) [x] :=
    RdB.keep0 (w := w) (.inr ⟨g, o, rfl, fun i hi => by obtain rfl : i = 0 := by simpa using hi
                                                        simpa using hc⟩) hO0
  clear hrunM hc
  have HR0 := Lib.hid hR0; have HO0 := Lib.hid hO0; have HX := Lib.hid hx
  clear hR0 hO0 hx
  have z1 : ((n : Int) == 0) = false := by simp; omega
  have hcs : (n : Int) ≤ cs.size := by omega
  have e1 : 1 * n / 18446744073709551616 = 0 := by omega
  have e2 : 1 * n % 18446744073709551616 = n := by omega
  have E1 := Lib.hid e1; have E2 := Lib.hid e2; clear e1 e2
  have hpos : (0 : Int) < n := by omega
  have hne : ¬ n = 0 := by omega
  have hm : (8192 : Int) < n ∨ (n : Int) ≤ 8192 := by omega
  rcases hm with hm | hm
  · go_enter Try.func46, Try.ntmps46
    go_wp2_with (first
      | (go_at_call 63; refine (Try.bits_Mul 1 n (by omega) (by omega) _).mono ?_; rintro e w' ⟨rfl, hw⟩; rw [hw]; clear hw; rw [E1.out, E2.out])
      | (with_reducible refine copy_grow rfl (.tmp 58) (.tmp 59) rfl _ _ _ _ _ _ rfl rfl w.heap.size [] [x] cs.toList HR0.out ?hn ?hf ?hp ?hdp HX.out ?_))
    case hn => simp; omega
    case hf => simp; omega
    case hp => simp
    case hdp => rfl
    · intro w1 h1 h2
      have hO1 : Only noB w w1 := HO0.out.trans h2 (fun k hk e => by omega)
      have h1' : Row w1 w.heap.size (([x] : List UInt8).map bv ++ cs.toList.drop 1).toArray := by simpa using h1
      have H1 := Lib.hid h1'
      have HO1 := Lib.hid hO1
      clear h1 h1' h2 hO1
      go_wp2
      go_loopw [10] (fun t wr => ∃ (k : Nat) (ex : List Value), 1 ≤ k ∧ k ≤ n ∧ t = .int .i64 k ∧ n ≤ k + ex.length ∧ Row wr w.heap.size ((List.replicate k x).map bv ++ ex).toArray ∧ Only noB w wr) (fun t _ => n - (intOf t).toNat)
      case atStart => exact ⟨1, _, by omega, by omega, rfl, by simp; omega, H1.out, HO1.out⟩
      case round =>
        obtain ⟨k, ex, hk1, hk, rfl, hex, hR, hO⟩ := hrel
        have HR := Lib.hid hR; have HO := Lib.hid hO; clear hR hO
        by_cases hlt : k < n
        · by_cases hkm : k ≤ 8192
          · skip
            obtain ⟨j, hj, hj1, hj2⟩ : ∃ j, min k (n - k) = j ∧ 1 ≤ j ∧ k + j ≤ n := ⟨_, rfl, by omega, by omega⟩
            have HJ := Lib.hid hj; clear hj
            have hnk : ¬ n = k := by omega
            have hmin : min (k : Int) 8192 = k := by omega
            obtain ⟨W2, hrun, hR2, hO2⟩ := run_grow wr.drew 3 (some ⟨w.heap.size, 0, none⟩) (n - k) (n - k) k n w.heap.size k (List.replicate k x) (List.replicate j x) ex (by simp) (Row.drew HR.out) (by simp [HJ.out]) (by simp; omega) (by simp; omega) (rd_rep x (Row.drew HR.out) j (by have := HJ.out; omega))
            rw [List.length_replicate] at hrun hR2
            have HR2 := Lib.hid hR2; have HO2 := Lib.hid hO2; clear hR2 hO2
            go_wp2
            go_region
            go_wp2
            go_roundw
            case rel =>
              refine ⟨k + j, ex.drop j, by omega, by omega, by go_num, ?_, ?_, (HO.out.drew).trans HO2.out (fun k hk e => by omega)⟩
              · simp; omega
              · have := HR2.out; rw [List.replicate_append_replicate] at this; exact this
            case measure => simp [intOf]; omega
          · skip
            obtain ⟨j, hj, hj1, hj2⟩ : ∃ j, min 8192 (n - k) = j ∧ 1 ≤ j ∧ k + j ≤ n := ⟨_, rfl, by omega, by omega⟩
            have HJ := Lib.hid hj; clear hj
            have hnk : ¬ n = k := by omega
            have hmin : min (k : Int) 8192 = 8192 := by omega
            obtain ⟨W2, hrun, hR2, hO2⟩ := run_grow wr.drew 3 (some ⟨w.heap.size, 0, none⟩) (n - k) (n - k) 8192 n w.heap.size k (List.replicate k x) (List.replicate j x) ex (by simp) (Row.drew HR.out) (by simp [HJ.out]) (by simp; omega) (by simp; omega) (rd_rep x (Row.drew HR.out) j (by have := HJ.out; omega))
            rw [List.length_replicate] at hrun hR2
            have HR2 := Lib.hid hR2; have HO2 := Lib.hid hO2; clear hR2 hO2
            go_wp2
            go_region
            go_wp2
            go_roundw
            case rel =>
              refine ⟨k + j, ex.drop j, by omega, by omega, by go_num, ?_, ?_, (HO.out.drew).trans HO2.out (fun k hk e => by omega)⟩
              · simp; omega
              · have := HR2.out; rw [List.replicate_append_replicate] at this; exact this
            case measure => simp [intOf]; omega
        · go_wp2
          go_ret
          obtain rfl : k = n := by omega
          exact ⟨_, rfl, ⟨_, HR.out⟩, Nat.le_refl _, HO.out⟩
  · go_enter Try.func46, Try.ntmps46
    go_wp2_with (first
      | (go_at_call 63; refine (Try.bits_Mul 1 n (by omega) (by omega) _).mono ?_; rintro e w' ⟨rfl, hw⟩; rw [hw]; clear hw; rw [E1.out, E2.out])
      | (with_reducible refine copy_grow rfl (.tmp 58) (.tmp 59) rfl _ _ _ _ _ _ rfl rfl w.heap.size [] [x] cs.toList HR0.out ?hn ?hf ?hp ?hdp HX.out ?_))
    case hn => simp; omega
    case hf => simp; omega
    case hp => simp
    case hdp => rfl
    · intro w1 h1 h2
      have hO1 : Only noB w w1 := HO0.out.trans h2 (fun k hk e => by omega)
      have h1' : Row w1 w.heap.size (([x] : List UInt8).map bv ++ cs.toList.drop 1).toArray := by simpa using h1
      have H1 := Lib.hid h1'
      have HO1 := Lib.hid hO1
      clear h1 h1' h2 hO1
      go_wp2
      go_loopw [10] (fun t wr => ∃ (k : Nat) (ex : List Value), 1 ≤ k ∧ k ≤ n ∧ t = .int .i64 k ∧ n ≤ k + ex.length ∧ Row wr w.heap.size ((List.replicate k x).map bv ++ ex).toArray ∧ Only noB w wr) (fun t _ => n - (intOf t).toNat)
      case atStart => exact ⟨1, _, by omega, by omega, rfl, by simp; omega, H1.out, HO1.out⟩
      case round =>
        obtain ⟨k, ex, hk1, hk, rfl, hex, hR, hO⟩ := hrel
        have HR := Lib.hid hR; have HO := Lib.hid hO; clear hR hO
        by_cases hlt : k < n
        · skip
          obtain ⟨j, hj, hj1, hj2⟩ : ∃ j, min k (n - k) = j ∧ 1 ≤ j ∧ k + j ≤ n := ⟨_, rfl, by omega, by omega⟩
          have HJ := Lib.hid hj; clear hj
          have hnk : ¬ n = k := by omega
          have hmin : min (k : Int) (n : Int) = k := by omega
          obtain ⟨W2, hrun, hR2, hO2⟩ := run_grow wr.drew 3 (some ⟨w.heap.size, 0, none⟩) (n - k) (n - k) k n w.heap.size k (List.replicate k x) (List.replicate j x) ex (by simp) (Row.drew HR.out) (by simp [HJ.out]) (by simp; omega) (by simp; omega) (rd_rep x (Row.drew HR.out) j (by have := HJ.out; omega))
          rw [List.length_replicate] at hrun hR2
          have HR2 := Lib.hid hR2; have HO2 := Lib.hid hO2; clear hR2 hO2
          go_wp2
          go_region
          go_wp2
          go_roundw
          case rel =>
            refine ⟨k + j, ex.drop j, by omega, by omega, by go_num, ?_, ?_, (HO.out.drew).trans HO2.out (fun k hk e => by omega)⟩
            · simp; omega
            · have := HR2.out; rw [List.replicate_append_replicate] at this; exact this
          case measure => simp [intOf]; omega
        · go_wp2
          go_ret
          obtain rfl : k = n := by omega
          exact ⟨_, rfl, ⟨_, HR.out⟩, Nat.le_refl _, HO.out⟩

end Go.Proofs.Ytdnpmkejondpoaa
