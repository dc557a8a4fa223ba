/- Parts of a proof, joined: Copy. -/
import Derived.Laws.CopyOwn
import Derived.Lib.MakeNoZero
import Derived.Test.YtdnpmkejondpoaaT11

/- The builtin copy over bytes; bytes.Repeat of one byte; a new flash; bytes laid into a flash. -/
namespace Go.Proofs.Ytdnpmkejondpoaa
open Go.RowKit
set_option linter.unusedVariables false
set_option linter.unusedSimpArgs false

theorem sizeU8 : (Try.prog.info? 5).map (·.size) = some 1 := by kernel_rfl

theorem Only.setRow (w : World) (g : Nat) (cs : Array Value) : Only (fun k => k = g) w (w.setRow g cs) :=
  ⟨rfl, rfl, rfl, by simp, fun k hk hS => by simp only [World.setRow, Array.getElem?_modify]; rw [if_neg (fun e => hS e.symm)]⟩

theorem wp_copy_bytes {o : Oper} {a : Act} {w : World} {K : Act → World → Prop} {Q : Exit → Act → World → Prop} (d s : Operand)
    (ho : o.op = .call { callee := .builtin .copy, args := #[d, s], argTypes := #[33, 33] })
    (dp sp : Option Addr) (dLen dCap sLen sCap : Nat) (hd : a.eval d = .slice dp dLen dCap) (hs : a.eval s = .slice sp sLen sCap)
    (g off : Nat) (L l : List UInt8) (hg : RowB w g L) (hn : l.length = min sLen dLen) (hfit : off + l.length ≤ L.length) (hdp : 0 < l.length → dp = some ⟨g, off, none⟩) (hr : RdB w sp l)
    (h : ∀ w', RowB w' g (L.take off ++ l ++ L.drop (off + l.length)) → Only (fun k => k = g) w w' → K (a.put o.dst (.int .i64 (l.length : Int))) w') :
    Oper.wp Try.prog o a w K Q := by
  by_cases h0 : l = []
  · subst h0
    have hrun := run_copy_none (P := Try.prog) w 33 33 o.type 5 dp sp dLen dCap sLen sCap Try.underlying33 sizeU8 (by simpa using hn.symm)
    unfold Oper.wp
    simp [execOp, ho, resolve, invoke, builtin, hd, hs, hrun, Result.andThen]
    exact h w (by simpa using hg) (Only.refl _ _)
  · have hp : 0 < l.length := List.length_pos_iff.2 h0
    obtain rfl := hdp hp
    obtain ⟨g', o', rfl, hc⟩ := hr.at_ hp
    obtain ⟨ex, T, hg⟩ := hg
    have hrun := run_copy_row (P := Try.prog) w 33 33 o.type 5 g off dLen dCap ⟨g', o', none⟩ sLen sCap _ T (l.map bv) Try.underlying33 sizeU8 hg (by simpa using hn) hr.news (by simp; omega) (bvs_one _)
    unfold Oper.wp
    simp [execOp, ho, resolve, invoke, builtin, hd, hs, hrun, Result.andThen, goInt]
    refine h _ ⟨ex, T, ?_⟩ (Only.setRow _ _ _)
    have hL : ((L.map bv ++ ex).take off ++ l.map bv ++ (L.map bv ++ ex).drop (off + l.length)) = (L.take off ++ l ++ L.drop (off + l.length)).map bv ++ ex := by
      rw [List.take_append_of_le_length (by simp; omega), List.drop_append_of_le_length (by simp; omega)]
      simp
    rw [setRow_heap w g _ _ T (0, 0) hg]
    rw [← hL]
    simp

theorem copy_bytes {ops : Array Oper} {rest : List Oper} {o : Oper} {a : Act} {w : World} {Q : Exit → Act → World → Prop} (hgd : o.guard = none) (d s : Operand)
    (ho : o.op = .call { callee := .builtin .copy, args := #[d, s], argTypes := #[33, 33] })
    (dp sp : Option Addr) (dLen dCap sLen sCap : Nat) (hd : a.eval d = .slice dp dLen dCap) (hs : a.eval s = .slice sp sLen sCap)
    (g off : Nat) (L l : List UInt8) (hg : RowB w g L) (hn : l.length = min sLen dLen) (hfit : off + l.length ≤ L.length) (hdp : 0 < l.length → dp = some ⟨g, off, none⟩) (hr : RdB w sp l)
    (h : ∀ w', RowB w' g (L.take off ++ l ++ L.drop (off + l.length)) → Only (fun k => k = g) w w' → wpList Try.prog ops Q rest (a.put o.dst (.int .i64 (l.length : Int))) w') :
    wpList Try.prog ops Q (o :: rest) a w :=
  wpList_plain hgd fun _ hK => wp_copy_bytes d s ho dp sp dLen dCap sLen sCap hd hs g off L l hg hn hfit hdp hr fun w' h1 h2 => hK _ _ (h w' h1 h2)

theorem step_copy {ops : Array Oper} {o : Oper} {a : Act} {w : World} {K : Act → World → Prop} {Q : Exit → Act → World → Prop} {E : Prop} (hgd : o.guard = none) (d s : Operand)
    (ho : o.op = .call { callee := .builtin .copy, args := #[d, s], argTypes := #[33, 33] })
    (dp sp : Option Addr) (dLen dCap sLen sCap : Nat) (hd : a.eval d = .slice dp dLen dCap) (hs : a.eval s = .slice sp sLen sCap)
    (g off : Nat) (L l : List UInt8) (hg : RowB w g L) (hn : l.length = min sLen dLen) (hfit : off + l.length ≤ L.length) (hdp : 0 < l.length → dp = some ⟨g, off, none⟩) (hr : RdB w sp l)
    (h : ∀ w', RowB w' g (L.take off ++ l ++ L.drop (off + l.length)) → Only (fun k => k = g) w w' → K (a.put o.dst (.int .i64 (l.length : Int))) w') :
    if Region.wanted o (yielded ops a.tmps) = true then Oper.wp Try.prog o a w K Q else E := by
  have hw : Region.wanted o (yielded ops a.tmps) = true := by simp [Region.wanted, hgd]
  rw [if_pos hw]
  exact wp_copy_bytes d s ho dp sp dLen dCap sLen sCap hd hs g off L l hg hn hfit hdp hr h

set_option maxHeartbeats 400000 in
theorem fload_any (w : World) (f bb bw : Nat) (s : FSt) (a : Option Addr) (n c : Nat) (l : List UInt8) (hF : FlashR w f bb bw s) (hn : l.length = n) (hR : RdB w a l) :
    Calls Try.prog 27 #[.pointer (some ⟨f, 0, none⟩), .slice a n c] w (FlashPost f bb bw (s.load l) (.tuple #[]) w) := by
  obtain ⟨c0, c1, c2, c3, c4, c5⟩ := hF.row.c6
  have HF := Lib.hid hF; have HN := Lib.hid hn
  have hR' : RdB w a (l.take s.b.length) := by
    rcases hR with rfl | ⟨g, o, rfl, h⟩
    · simp; exact RdB.nil _ _
    · have := RdB.part (w := w) (g := g) (o := o) (l := l) (.inr ⟨g, o, rfl, h⟩) 0 (min s.b.length l.length) (by omega)
      rw [Nat.add_zero, List.drop_zero, show l.take (min s.b.length l.length) = l.take s.b.length from by rw [List.take_eq_take_iff]; omega] at this
      exact this
  have HR := Lib.hid hR'
  clear hF hn hR hR'
  go_enter Try.func27, Try.ntmps27
  go_wp2_with (first
    | (with_reducible refine copy_bytes rfl _ _ rfl _ _ _ _ _ _ rfl rfl bb 0 s.b (l.take s.b.length) HF.out.bytes ?hn ?hf (fun _ => rfl) HR.out ?_)
    | fail)
  case hn => simp; rw [HN.out]; omega
  case hf => simp; omega
  · intro w1 h1 h2
    have hS : Only (FlashS f bb bw) w w1 := h2.mono (fun k _ e => .inr (.inl e))
    have hd : s.b.drop (min s.b.length l.length) = s.b.drop l.length := by
      by_cases h : l.length ≤ s.b.length
      · rw [Nat.min_eq_right h]
      · rw [List.drop_of_length_le (by omega), List.drop_of_length_le (by omega)]
    rw [hd] at h1
    have hl : (l.take s.b.length ++ s.b.drop l.length).length = s.b.length := by simp; omega
    have hF1 : FlashR w1 f bb bw { s with b := l.take s.b.length ++ s.b.drop l.length } := by
      have hF := HF.out
      refine ⟨?_, h1, hF.wear.keep h2 (fun e => hF.n3 e.symm), hF.n1, hF.n2, hF.n3, ?_⟩
      · have := hF.row.keep h2 hF.n1; simp only [hl]; exact this
      · have := hF.ok; exact ⟨this.s0, this.s1, this.n0, this.n1, by simp only [hl]; exact this.len, this.t0, this.t1, this.l0, this.l1, this.w⟩
    have HF1 := Lib.hid hF1; have HS := Lib.hid hS
    clear hF1 hS h1 h2 hd hl c0 c1 c2 c3 c4 c5
    go_wp2_with (go_at_call 26; refine (frestore_any _ f bb bw _ HF1.out).mono ?_; rintro e w' ⟨rfl, hF2, hO2⟩)
    go_end0
    exact ⟨rfl, hF2, HS.out.then hO2⟩

end Go.Proofs.Ytdnpmkejondpoaa
