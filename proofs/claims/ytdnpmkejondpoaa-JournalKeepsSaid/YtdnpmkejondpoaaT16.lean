/- Parts of a proof, joined: J1, J2, J3, J4. -/
import Derived.Test.YtdnpmkejondpoaaT9
import Derived.Test.YtdnpmkejondpoaaT10
import Derived.Test.YtdnpmkejondpoaaT15

/- The journal: a record is made, and laid. -/
namespace Go.Proofs.Ytdnpmkejondpoaa
open Go.RowKit Go.Maps
set_option linter.unusedVariables false
set_option linter.unusedSimpArgs false

/-- a record without its mark -/
def headB (key : Nat) (l : List UInt8) (drop : Bool) : List UInt8 := [UInt8.ofNat key, if drop = true then 254 else UInt8.ofNat l.length]
def bodyB (key : Nat) (l : List UInt8) (drop : Bool) : List UInt8 := sealB (headB key l drop ++ l)
theorem bodyB_len (key : Nat) (l : List UInt8) (drop : Bool) : (bodyB key l drop).length = l.length + 6 := by
  simp [bodyB, sealB, headB, put32]

theorem RdB.notNil {w : World} {a : Option Addr} {l : List UInt8} (h : RdB w a l) (hl : l ≠ []) (ha : a = none) : False := by
  rcases h with h | ⟨g, o, e, _⟩
  · exact hl h
  · rw [ha] at e; cases e

theorem rd_two (w : World) (c d : Int) (x y : UInt8) (h : c = (x.toNat : Int)) (k : d = (y.toNat : Int)) : OwnB (w.alloc (.cells #[.int .u8 c, .int .u8 d] 5)) w.heap.size (.slice (some ⟨w.heap.size, 0, none⟩) 2 2) [x, y] := by
  subst h; subst k
  exact World.ownsRow_lit (base := w.heap.size) (e := 5) (size := 1) w #[bv x, bv y] 2 (Nat.le_refl _) (by simp [maxLen]) (by simp)

set_option maxHeartbeats 800000 in
theorem body_any (w : World) (key : Nat) (a : Option Addr) (n c : Nat) (l : List UInt8) (drop : Bool) (hk : key < 32) (hn : l.length = n) (hl : n ≤ 250) (hR : RdB w a l) (hnil : a = none → c = 0) :
    Calls Try.prog 41 #[.int .i64 (key : Int), .slice a n c, .bool drop] w (OwnPost (bodyB key l drop) w) := by
  have HN := Lib.hid hn; have HR := Lib.hid hR
  have hnil2 : a = none → n = 0 ∧ c = 0 := fun h => ⟨(by
    rcases hR with rfl | ⟨g, o, e, _⟩
    · simpa using hn.symm
    · rw [h] at e; cases e), hnil h⟩
  have HNIL := Lib.hid hnil2
  have e1 : (key : Int) = ((UInt8.ofNat key).toNat : Int) := by rw [UInt8.toNat_ofNat']; omega
  have e2 : (n : Int) = ((UInt8.ofNat n).toNat : Int) := by rw [UInt8.toNat_ofNat']; omega
  have E1 := Lib.hid e1; have E2 := Lib.hid e2
  clear hn hR hnil hnil2 e1 e2
  cases drop with
  | true =>
    have hb : [UInt8.ofNat key, 254] ++ l = headB key l true ++ l := rfl
    have HB := Lib.hid hb; clear hb
    go_enter Try.func41, Try.ntmps41
    go_wp2_with (first
      | (at_builtin; refine app_own (.tmp 15) (.tmp 16) rfl rfl w.heap.size _ [UInt8.ofNat key, 254] rfl (rd_two w _ _ _ _ E1.out (by decide)) _ _ _ l rfl HN.out (HR.out.keep0 ((Only.refl _ _).alloc _)) HNIL.out (by simp) (by rw [HN.out]; simp; omega) ?_; intro v2 w2 g1 g2 g3; obtain ⟨a2, c2, rfl, r2, n2, _, z2⟩ := g1.form; have G1 := Lib.hid g1; have R2 := Lib.hid r2; have G2 := Lib.hid g2; have Z2 := Lib.hid z2; clear g1 g2 g3 r2 n2 z2)
      | (go_at_call 59; refine (seal_any _ _ _ _ ([UInt8.ofNat key, 254] ++ l) rfl R2.out (fun h => (RdB.notNil R2.out (by simp) h).elim) (by rw [List.length_append, HN.out]; simp; omega)).mono ?_; rintro e w' ⟨v, rfl, h1, h2⟩))
    go_ret
    refine ⟨v, rfl, ?_, ?_⟩
    · have := G2.out.size; simp at this
      exact h1.mono (by omega)
    · exact (((Only.refl _ _).alloc _).trans G2.out (fun k hk h => by omega)).then h2
  | false =>
    have hb : [UInt8.ofNat key, UInt8.ofNat n] ++ l = headB key l false ++ l := by unfold headB; rw [HN.out]; rfl
    have HB := Lib.hid hb; clear hb
    go_enter Try.func41, Try.ntmps41
    go_wp2_with (first
      | (at_builtin; refine app_own (.tmp 15) (.tmp 16) rfl rfl w.heap.size _ [UInt8.ofNat key, UInt8.ofNat n] rfl (rd_two w _ _ _ _ E1.out E2.out) _ _ _ l rfl HN.out (HR.out.keep0 ((Only.refl _ _).alloc _)) HNIL.out (by simp) (by rw [HN.out]; simp; omega) ?_; intro v2 w2 g1 g2 g3; obtain ⟨a2, c2, rfl, r2, n2, _, z2⟩ := g1.form; have G1 := Lib.hid g1; have R2 := Lib.hid r2; have G2 := Lib.hid g2; have Z2 := Lib.hid z2; clear g1 g2 g3 r2 n2 z2)
      | (go_at_call 59; refine (seal_any _ _ _ _ ([UInt8.ofNat key, UInt8.ofNat n] ++ l) rfl R2.out (fun h => (RdB.notNil R2.out (by simp) h).elim) (by rw [List.length_append, HN.out]; simp; omega)).mono ?_; rintro e w' ⟨v, rfl, h1, h2⟩))
    go_ret
    refine ⟨v, rfl, ?_, ?_⟩
    · have := G2.out.size; simp at this
      rw [HB.out] at h1
      exact h1.mono (by omega)
    · exact (((Only.refl _ _).alloc _).trans G2.out (fun k hk h => by omega)).then h2

end Go.Proofs.Ytdnpmkejondpoaa

/- The journal: a record is laid; records are found. -/
namespace Go.Proofs.Ytdnpmkejondpoaa
open Go.RowKit Go.Maps
set_option linter.unusedVariables false
set_option linter.unusedSimpArgs false

/-- a record, then its mark -/
def PSt.lay (p : PSt) (s : FSt) (i : Int) (l : List UInt8) : Int × FSt :=
  if (p.write s i l).1 = 0 then p.write (p.write s i l).2 (i + l.length) [0] else p.write s i l
theorem PSt.lay_ok (p : PSt) {s : FSt} (h : s.ok) (i : Int) (l : List UInt8) : (p.lay s i l).2.ok := by
  unfold PSt.lay; split; exact PSt.write_ok _ (PSt.write_ok _ h _ _) _ _; exact PSt.write_ok _ h _ _
theorem PSt.lay_same (p : PSt) (s : FSt) (i : Int) (l : List UInt8) : (p.lay s i l).2.sector = s.sector ∧ (p.lay s i l).2.wear = s.wear ∧ (p.lay s i l).2.b.length = s.b.length := by
  have h1 := p.write_same s i l
  unfold PSt.lay; split
  · have h2 := p.write_same (p.write s i l).2 (i + l.length) [0]; exact ⟨h2.1.trans h1.1, h2.2.1.trans h1.2.1, h2.2.2.trans h1.2.2⟩
  · exact h1

def SysPost (f bb bw : Nat) (r : Int × FSt) (w : World) (e : Ending) (w' : World) : Prop :=
  e = .returned (.int .i64 r.1) ∧ FlashR w' f bb bw r.2 ∧ Only (FlashS f bb bw) w w'

set_option maxRecDepth 100000 in
set_option maxHeartbeats 800000 in
theorem lay_any (w : World) (b f bb bw : Nat) (p : PSt) (s : FSt) (i : Int) (a : Option Addr) (n c : Nat) (l : List UInt8) (hP : PartR w b f p) (hF : FlashR w f bb bw s) (hf : p.fits s) (hb : ¬ FlashS f bb bw b)
    (hn : l.length = n) (hR : RdB w a l) (hO : OffB (FlashS f bb bw) a) (h0 : 0 ≤ i) (h1 : i ≤ 1000000) (hn1 : n ≤ 1000) :
    Calls Try.prog 58 #[.pointer (some ⟨b, 0, none⟩), .int .i64 i, .slice a n c] w (SysPost f bb bw (p.lay s i l) w) := by
  obtain ⟨E, hE⟩ : ∃ E, (p.write s i l).1 = E := ⟨_, rfl⟩
  have HP := Lib.hid hP; have HF := Lib.hid hF; have HH := Lib.hid hf; have HB := Lib.hid hb; have HN := Lib.hid hn; have HR := Lib.hid hR; have HO := Lib.hid hO; have HE := Lib.hid hE
  have hlt := FlashS.lt hF
  have HLT := Lib.hid hlt
  clear hP hF hf hb hn hR hO hE hlt
  by_cases hz : E = 0
  · subst hz
    have hl : p.lay s i l = p.write (p.write s i l).2 (i + n) [0] := by unfold PSt.lay; rw [if_pos HE.out, HN.out]
    have HL := Lib.hid hl; clear hl
    go_enter Try.func58, Try.ntmps58
    go_wp2_with (go_at_call 53; (with_reducible refine (pwrite_any w b f bb bw p s i a n c l HP.out HF.out HH.out HN.out HR.out HO.out).mono ?_); rintro e w1 ⟨rfl, k1, k2⟩; rw [HE.out]; have K1 := Lib.hid k1; have K2 := Lib.hid k2; clear k1 k2)
    refine (pwrite_any _ b f bb bw p (p.write s i l).2 _ _ 1 1 [0] ((Row.keep HP.out K2.out HB.out).keep0 ((Only.refl _ _).alloc _)) (K1.out.keep0 ((Only.refl _ _).alloc _)) (HH.out.of (by rw [(p.write_same s i l).2.1])) rfl (rd_new1 _ _ 0 (by decide)) (fun q hq hs => by cases hq; have := HLT.out _ hs; have := K2.out.size; simp at *; omega)).mono ?_
    rintro e w2 ⟨rfl, k3, k4⟩
    have K3 := Lib.hid k3; have K4 := Lib.hid k4; clear k3 k4
    go_wp2
    go_ret
    exact ⟨ret_int (by rw [HL.out]), by rw [HL.out]; exact K3.out, (K2.out.alloc _).then K4.out⟩
  · have hl : p.lay s i l = p.write s i l := by unfold PSt.lay; rw [if_neg (by rw [HE.out]; exact hz)]
    have HL := Lib.hid hl; clear hl
    have hbz : (E != 0) = true := by simpa using hz
    go_enter Try.func58, Try.ntmps58
    go_wp2_with (go_at_call 53; (with_reducible refine (pwrite_any w b f bb bw p s i a n c l HP.out HF.out HH.out HN.out HR.out HO.out).mono ?_); rintro e w1 ⟨rfl, k1, k2⟩; rw [HE.out]; have K1 := Lib.hid k1; have K2 := Lib.hid k2; clear k1 k2)
    go_ret
    exact ⟨ret_int (by rw [HL.out, HE.out]), by rw [HL.out]; exact K1.out, K2.out⟩

end Go.Proofs.Ytdnpmkejondpoaa

/- The journal: the record at a place of a group's bytes. -/
namespace Go.Proofs.Ytdnpmkejondpoaa
open Go.RowKit Go.Maps
set_option linter.unusedVariables false
set_option linter.unusedSimpArgs false

structure Rec where
  key : Nat
  val : List UInt8
  drop : Bool
  fin : Nat

def recN (y : UInt8) : Nat := if y = 254 then 0 else y.toNat
def nextR (b : List UInt8) (i : Nat) : Option Rec :=
  if b.length < i + 2 then none else if 32 ≤ (b.getD i 0).toNat then none else if 250 < recN (b.getD (i + 1) 0) then none
  else if b.length < i + 7 + recN (b.getD (i + 1) 0) then none else if b.getD (i + 6 + recN (b.getD (i + 1) 0)) 0 ≠ 0 then none
  else some ⟨(b.getD i 0).toNat, (b.drop (i + 2)).take (recN (b.getD (i + 1) 0)), decide (b.getD (i + 1) 0 = 254), i + 7 + recN (b.getD (i + 1) 0)⟩

def zeroRec : Value := .agg #[.int .i64 0, .slice none 0 0, .bool false, .int .i64 0]
def NextPost (g : Nat) (b : List UInt8) (i : Nat) (w : World) (e : Ending) (w' : World) : Prop :=
  Only noB w w' ∧ match nextR b i with
  | none => e = .returned (.tuple #[zeroRec, .bool false])
  | some r => ∃ o, e = .returned (.tuple #[.agg #[.int .i64 (r.key : Int), .slice (some ⟨g, o, none⟩) r.val.length r.val.length, .bool r.drop, .int .i64 (r.fin : Int)], .bool true]) ∧ RdB w (some ⟨g, o, none⟩) r.val

theorem next_none {g : Nat} {b : List UInt8} {i : Nat} {w w' : World} (h : nextR b i = none) (ho : Only noB w w') : NextPost g b i w (.returned (.tuple #[zeroRec, .bool false])) w' := by
  refine ⟨ho, ?_⟩; rw [h]

set_option maxRecDepth 100000 in
set_option maxHeartbeats 1000000 in
theorem next_short (w : World) (g o n c i : Nat) (b : List UInt8) (hn : b.length = n) (hi : i ≤ n) (hm : n ≤ 1000000) (h1 : n < i + 2) :
    Calls Try.prog 55 #[.slice (some ⟨g, o, none⟩) n c, .int .i64 (i : Int)] w (NextPost g b i w) := by
  have hr : nextR b i = none := by unfold nextR; rw [if_pos (by omega)]
  have HR := Lib.hid hr
  clear hr hn
  have h1' : (n : Int) < i + 2 := by omega
  go_enter Try.func55, Try.ntmps55
  go_wp2
  exact bodyPost_ret (v := .tuple #[zeroRec, .bool false]) (by simp [results, Try.results55, go_sem, zeroRec]) rfl (next_none HR.out ((Only.refl _ _).alloc _))

set_option maxRecDepth 100000 in
set_option maxHeartbeats 1000000 in
theorem next_key (w : World) (g o n c i : Nat) (b : List UInt8) (hn : b.length = n) (hm : n ≤ 1000000) (h1 : i + 2 ≤ n) (hR : RdB w (some ⟨g, o, none⟩) b) (hk : 32 ≤ (b.getD i 0).toNat) :
    Calls Try.prog 55 #[.slice (some ⟨g, o, none⟩) n c, .int .i64 (i : Int)] w (NextPost g b i w) := by
  have hr : nextR b i = none := by unfold nextR; rw [if_neg (by omega), if_pos hk]
  have HR := Lib.hid hr
  obtain ⟨g', o', e, hc⟩ := hR.at_ (by omega)
  cases e
  have cx := hc i (by omega)
  have hgl : g < w.heap.size := World.block_lt_of_cell? w _ cx
  obtain ⟨x, hx⟩ : ∃ x, b.getD i 0 = x := ⟨_, rfl⟩
  rw [hx] at cx hk
  clear hr hn hc hR hx
  have h1' : ¬ (n : Int) < i + 2 := by omega
  have hk' : (32 : Int) ≤ (x.toNat : Int) := by omega
  go_enter Try.func55, Try.ntmps55
  go_wp2
  exact bodyPost_ret (v := .tuple #[zeroRec, .bool false]) (by simp [results, Try.results55, go_sem, zeroRec]) rfl (next_none HR.out ((Only.refl _ _).alloc _))

theorem u8_ne {y : UInt8} (h : y ≠ 254) : ((y.toNat : Int) == 254) = false := by
  rw [beq_eq_false_iff_ne]
  intro e
  apply h
  rw [← UInt8.toNat_inj]
  show y.toNat = 254
  omega

set_option maxRecDepth 100000 in
set_option maxHeartbeats 1000000 in
theorem next_big (w : World) (g o n c i : Nat) (b : List UInt8) (hn : b.length = n) (hm : n ≤ 1000000) (h1 : i + 2 ≤ n) (hR : RdB w (some ⟨g, o, none⟩) b) (hk : (b.getD i 0).toNat < 32)
    (hy : b.getD (i + 1) 0 ≠ 254) (hbig : 250 < (b.getD (i + 1) 0).toNat) :
    Calls Try.prog 55 #[.slice (some ⟨g, o, none⟩) n c, .int .i64 (i : Int)] w (NextPost g b i w) := by
  obtain ⟨g', o', e, hc⟩ := hR.at_ (by omega)
  cases e
  have cx := hc i (by omega)
  have cy := hc (i + 1) (by omega)
  have hgl : g < w.heap.size := World.block_lt_of_cell? w _ cx
  have hRR := Lib.hid hR; have HNN := Lib.hid hn
  obtain ⟨x, hx⟩ : ∃ x, b.getD i 0 = x := ⟨_, rfl⟩
  obtain ⟨y, hyy⟩ : ∃ y, b.getD (i + 1) 0 = y := ⟨_, rfl⟩
  rw [hx] at cx hk
  rw [hyy] at cy hy hbig
  have hN : recN y = y.toNat := by unfold recN; rw [if_neg hy]
  have hr : nextR b i = none := by
    unfold nextR; rw [hx, hyy, hN, if_neg (by omega), if_neg (by omega), if_pos hbig]
  have HR := Lib.hid hr
  have hyb : ((y.toNat : Int) == 254) = false := u8_ne hy
  have h1' : ¬ (n : Int) < i + 2 := by omega
  have hk' : (x.toNat : Int) < 32 := by omega
  have r1 := u8_range y
  clear hr hn hc hR hx hyy hN hy
  go_enter Try.func55, Try.ntmps55
  go_wp2
  go_region
  go_wp2
  refine bodyPost_ret (v := .tuple #[zeroRec, .bool false]) (by simp [results, Try.results55, go_sem, zeroRec]) rfl (next_none HR.out ?_)
  repeat (first | exact Only.refl _ _ | refine Only.setNew ?_ _ _ _ (by simp) | refine Only.alloc ?_ _ | refine Only.drew ?_)

set_option maxRecDepth 100000 in
set_option maxHeartbeats 1000000 in
theorem next_long (w : World) (g o n c i : Nat) (b : List UInt8) (hn : b.length = n) (hm : n ≤ 1000000) (h1 : i + 2 ≤ n) (hR : RdB w (some ⟨g, o, none⟩) b) (hk : (b.getD i 0).toNat < 32)
    (hy : b.getD (i + 1) 0 ≠ 254) (hpos : 0 < (b.getD (i + 1) 0).toNat) (hy1 : (b.getD (i + 1) 0).toNat ≤ 250) (hfin : n < i + 7 + (b.getD (i + 1) 0).toNat) :
    Calls Try.prog 55 #[.slice (some ⟨g, o, none⟩) n c, .int .i64 (i : Int)] w (NextPost g b i w) := by
  obtain ⟨g', o', e, hc⟩ := hR.at_ (by omega)
  cases e
  have cx := hc i (by omega)
  have cy := hc (i + 1) (by omega)
  have hgl : g < w.heap.size := World.block_lt_of_cell? w _ cx
  have hRR := Lib.hid hR; have HNN := Lib.hid hn
  obtain ⟨x, hx⟩ : ∃ x, b.getD i 0 = x := ⟨_, rfl⟩
  obtain ⟨y, hyy⟩ : ∃ y, b.getD (i + 1) 0 = y := ⟨_, rfl⟩
  rw [hx] at cx hk
  rw [hyy] at cy hy hpos hy1 hfin
  have hN : recN y = y.toNat := by unfold recN; rw [if_neg hy]
  have hr : nextR b i = none := by
    unfold nextR; rw [hx, hyy, hN, if_neg (by omega), if_neg (by omega), if_neg (by omega), if_pos (by omega)]
  have HR := Lib.hid hr
  have hyb : ((y.toNat : Int) == 254) = false := u8_ne hy
  have h1' : ¬ (n : Int) < i + 2 := by omega
  have hk' : (x.toNat : Int) < 32 := by omega
  have r1 := u8_range y
  clear hr hn hc hR hx hyy hN hy
  go_enter Try.func55, Try.ntmps55
  go_wp2
  go_region
  go_wp2
  refine bodyPost_ret (v := .tuple #[zeroRec, .bool false]) (by simp [results, Try.results55, go_sem, zeroRec]) rfl (next_none HR.out ?_)
  repeat (first | exact Only.refl _ _ | refine Only.setNew ?_ _ _ _ (by simp) | refine Only.alloc ?_ _ | refine Only.drew ?_)

set_option maxRecDepth 100000 in
set_option maxHeartbeats 1000000 in
theorem next_mark (w : World) (g o n c i : Nat) (b : List UInt8) (hn : b.length = n) (hm : n ≤ 1000000) (h1 : i + 2 ≤ n) (hR : RdB w (some ⟨g, o, none⟩) b) (hk : (b.getD i 0).toNat < 32)
    (hy : b.getD (i + 1) 0 ≠ 254) (hpos : 0 < (b.getD (i + 1) 0).toNat) (hy1 : (b.getD (i + 1) 0).toNat ≤ 250) (hfin : i + 7 + (b.getD (i + 1) 0).toNat ≤ n) (hmk : b.getD (i + 6 + (b.getD (i + 1) 0).toNat) 0 ≠ 0) :
    Calls Try.prog 55 #[.slice (some ⟨g, o, none⟩) n c, .int .i64 (i : Int)] w (NextPost g b i w) := by
  obtain ⟨g', o', e, hc⟩ := hR.at_ (by omega)
  cases e
  have cx := hc i (by omega)
  have cy := hc (i + 1) (by omega)
  have cz := hc (i + 6 + (b.getD (i + 1) 0).toNat) (by omega)
  have hgl : g < w.heap.size := World.block_lt_of_cell? w _ cx
  have hRR := Lib.hid hR; have HNN := Lib.hid hn
  obtain ⟨x, hx⟩ : ∃ x, b.getD i 0 = x := ⟨_, rfl⟩
  obtain ⟨y, hyy⟩ : ∃ y, b.getD (i + 1) 0 = y := ⟨_, rfl⟩
  obtain ⟨z, hz⟩ : ∃ z, b.getD (i + 6 + (b.getD (i + 1) 0).toNat) 0 = z := ⟨_, rfl⟩
  rw [hz] at cz hmk
  rw [hyy] at hz
  rw [hx] at cx hk
  rw [hyy] at cy hy cz hpos hy1 hfin
  have hN : recN y = y.toNat := by unfold recN; rw [if_neg hy]
  have hr : nextR b i = none := by
    unfold nextR; rw [hx, hyy, hN, if_neg (by omega), if_neg (by omega), if_neg (by omega), if_neg (by omega), if_pos (by rw [hz]; exact hmk)]
  have HR := Lib.hid hr
  have hyb : ((y.toNat : Int) == 254) = false := u8_ne hy
  have hzb : ((z.toNat : Int) != 0) = true := by rw [bne_zero_u8]; simpa using hmk
  have h1' : ¬ (n : Int) < i + 2 := by omega
  have hk' : (x.toNat : Int) < 32 := by omega
  have r1 := u8_range y
  clear hr hn hc hR hx hyy hN hy hmk hz
  go_enter Try.func55, Try.ntmps55
  go_wp2
  go_region
  go_wp2
  refine bodyPost_ret (v := .tuple #[zeroRec, .bool false]) (by simp [results, Try.results55, go_sem, zeroRec]) rfl (next_none HR.out ?_)
  repeat (first | exact Only.refl _ _ | refine Only.setNew ?_ _ _ _ (by simp) | refine Only.alloc ?_ _ | refine Only.drew ?_)

set_option maxRecDepth 100000 in
set_option maxHeartbeats 1000000 in
theorem next_ok (w : World) (g o n c i : Nat) (b : List UInt8) (hn : b.length = n) (hm : n ≤ 1000000) (h1 : i + 2 ≤ n) (hR : RdB w (some ⟨g, o, none⟩) b) (hk : (b.getD i 0).toNat < 32)
    (hy : b.getD (i + 1) 0 ≠ 254) (hpos : 0 < (b.getD (i + 1) 0).toNat) (hy1 : (b.getD (i + 1) 0).toNat ≤ 250) (hfin : i + 7 + (b.getD (i + 1) 0).toNat ≤ n) (hmk : b.getD (i + 6 + (b.getD (i + 1) 0).toNat) 0 = 0) (hnc : n ≤ c) :
    Calls Try.prog 55 #[.slice (some ⟨g, o, none⟩) n c, .int .i64 (i : Int)] w (NextPost g b i w) := by
  obtain ⟨g', o', e, hc⟩ := hR.at_ (by omega)
  cases e
  have cx := hc i (by omega)
  have cy := hc (i + 1) (by omega)
  have cz := hc (i + 6 + (b.getD (i + 1) 0).toNat) (by omega)
  have hgl : g < w.heap.size := World.block_lt_of_cell? w _ cx
  have hRR := Lib.hid hR; have HNN := Lib.hid hn
  obtain ⟨x, hx⟩ : ∃ x, b.getD i 0 = x := ⟨_, rfl⟩
  obtain ⟨y, hyy⟩ : ∃ y, b.getD (i + 1) 0 = y := ⟨_, rfl⟩
  rw [hmk] at cz
  rw [hx] at cx hk
  rw [hyy] at cy hy cz hpos hy1 hfin hmk
  have hN : recN y = y.toNat := by unfold recN; rw [if_neg hy]
  have hr : nextR b i = some ⟨x.toNat, (b.drop (i + 2)).take y.toNat, false, i + 7 + y.toNat⟩ := by
    unfold nextR; rw [hx, hyy, hN, if_neg (by omega), if_neg (by omega), if_neg (by omega), if_neg (by omega), if_neg (by rw [hmk]; simp)]; simp [hy]
  have HR := Lib.hid hr
  have hyb : ((y.toNat : Int) == 254) = false := u8_ne hy
  have h1' : ¬ (n : Int) < i + 2 := by omega
  have hk' : (x.toNat : Int) < 32 := by omega
  have r1 := u8_range y
  clear hr hn hc hR hx hyy hN hy hmk
  go_enter Try.func55, Try.ntmps55
  go_wp2
  go_region
  go_wp2
  refine bodyPost_ret (v := .tuple #[.agg #[.int .i64 (x.toNat : Int), .slice (some ⟨g, o + (i + 2), none⟩) y.toNat y.toNat, .bool false, .int .i64 ((i : Int) + 7 + y.toNat)], .bool true]) (by simp [results, Try.results55, go_sem]) rfl ⟨?_, ?_⟩
  · repeat (first | exact Only.refl _ _ | refine Only.setNew ?_ _ _ _ (by simp) | refine Only.alloc ?_ _ | refine Only.drew ?_)
  · rw [HR.out]
    have hp := hRR.out.part (i + 2) y.toNat (by rw [HNN.out]; omega)
    have hl : ((b.drop (i + 2)).take y.toNat).length = y.toNat := by have := HNN.out; simp; omega
    refine ⟨o + (i + 2), ?_, hp⟩
    simp only [hl]
    congr 1

end Go.Proofs.Ytdnpmkejondpoaa

/- The journal: the record at a place of a group's bytes (more cases). -/
namespace Go.Proofs.Ytdnpmkejondpoaa
open Go.RowKit Go.Maps
set_option linter.unusedVariables false
set_option linter.unusedSimpArgs false

set_option maxRecDepth 100000 in
set_option maxHeartbeats 1000000 in
theorem next_long0 (w : World) (g o n c i : Nat) (b : List UInt8) (hn : b.length = n) (hm : n ≤ 1000000) (h1 : i + 2 ≤ n) (hR : RdB w (some ⟨g, o, none⟩) b) (hk : (b.getD i 0).toNat < 32)
    (hy : b.getD (i + 1) 0 ≠ 254) (hy0 : b.getD (i + 1) 0 = 0) (hfin : n < i + 7 + 0) :
    Calls Try.prog 55 #[.slice (some ⟨g, o, none⟩) n c, .int .i64 (i : Int)] w (NextPost g b i w) := by
  obtain ⟨g', o', e, hc⟩ := hR.at_ (by omega)
  cases e
  have cx := hc i (by omega)
  have cy := hc (i + 1) (by omega)
  have hgl : g < w.heap.size := World.block_lt_of_cell? w _ cx
  have hRR := Lib.hid hR; have HNN := Lib.hid hn
  obtain ⟨x, hx⟩ : ∃ x, b.getD i 0 = x := ⟨_, rfl⟩
  obtain ⟨y, hyy⟩ : ∃ y, b.getD (i + 1) 0 = y := ⟨_, rfl⟩
  rw [hx] at cx hk
  rw [hyy] at cy hy hy0
  have hN : recN y = 0 := by unfold recN; rw [if_neg hy, hy0]; rfl
  have hr : nextR b i = none := by
    unfold nextR; rw [hx, hyy, hN, if_neg (by omega), if_neg (by omega), if_neg (by omega), if_pos (by omega)]
  have HR := Lib.hid hr
  have hyb : ((y.toNat : Int) == 254) = false := u8_ne hy
  have h1' : ¬ (n : Int) < i + 2 := by omega
  have hk' : (x.toNat : Int) < 32 := by omega
  have hy2 : (y.toNat : Int) ≤ 0 ∧ 0 ≤ (y.toNat : Int) := by rw [hy0]; decide
  have hy3 : y.toNat = 0 := by omega
  obtain ⟨v, hv⟩ : ∃ v : Nat, y.toNat = v := ⟨_, rfl⟩
  rw [hv] at cy hyb hy3
  subst hy3
  clear hr hn hc hR hx hyy hN hy hy0 hy2 hv
  go_enter Try.func55, Try.ntmps55
  go_wp2
  go_region
  go_wp2
  refine bodyPost_ret (v := .tuple #[zeroRec, .bool false]) (by simp [results, Try.results55, go_sem, zeroRec]) rfl (next_none HR.out ?_)
  repeat (first | exact Only.refl _ _ | refine Only.setNew ?_ _ _ _ (by simp) | refine Only.alloc ?_ _ | refine Only.drew ?_)

set_option maxRecDepth 100000 in
set_option maxHeartbeats 1000000 in
theorem next_mark0 (w : World) (g o n c i : Nat) (b : List UInt8) (hn : b.length = n) (hm : n ≤ 1000000) (h1 : i + 2 ≤ n) (hR : RdB w (some ⟨g, o, none⟩) b) (hk : (b.getD i 0).toNat < 32)
    (hy : b.getD (i + 1) 0 ≠ 254) (hy0 : b.getD (i + 1) 0 = 0) (hfin : i + 7 + 0 ≤ n) (hmk : b.getD (i + 6 + 0) 0 ≠ 0) :
    Calls Try.prog 55 #[.slice (some ⟨g, o, none⟩) n c, .int .i64 (i : Int)] w (NextPost g b i w) := by
  obtain ⟨g', o', e, hc⟩ := hR.at_ (by omega)
  cases e
  have cx := hc i (by omega)
  have cy := hc (i + 1) (by omega)
  have cz := hc (i + 6 + 0) (by omega)
  have hgl : g < w.heap.size := World.block_lt_of_cell? w _ cx
  have hRR := Lib.hid hR; have HNN := Lib.hid hn
  obtain ⟨x, hx⟩ : ∃ x, b.getD i 0 = x := ⟨_, rfl⟩
  obtain ⟨y, hyy⟩ : ∃ y, b.getD (i + 1) 0 = y := ⟨_, rfl⟩
  obtain ⟨z, hz⟩ : ∃ z, b.getD (i + 6 + 0) 0 = z := ⟨_, rfl⟩
  rw [hz] at cz hmk
  rw [hx] at cx hk
  rw [hyy] at cy hy hy0
  have hN : recN y = 0 := by unfold recN; rw [if_neg hy, hy0]; rfl
  have hr : nextR b i = none := by
    unfold nextR; rw [hx, hyy, hN, if_neg (by omega), if_neg (by omega), if_neg (by omega), if_neg (by omega), if_pos (by rw [hz]; exact hmk)]
  have HR := Lib.hid hr
  have hyb : ((y.toNat : Int) == 254) = false := u8_ne hy
  have hzb : ((z.toNat : Int) != 0) = true := by rw [bne_zero_u8]; simpa using hmk
  have h1' : ¬ (n : Int) < i + 2 := by omega
  have hk' : (x.toNat : Int) < 32 := by omega
  have hy2 : (y.toNat : Int) ≤ 0 ∧ 0 ≤ (y.toNat : Int) := by rw [hy0]; decide
  have hy3 : y.toNat = 0 := by omega
  obtain ⟨v, hv⟩ : ∃ v : Nat, y.toNat = v := ⟨_, rfl⟩
  rw [hv] at cy hyb hy3
  subst hy3
  clear hr hn hc hR hx hyy hN hy hmk hz hy0 hy2 hv
  go_enter Try.func55, Try.ntmps55
  go_wp2
  go_region
  go_wp2
  refine bodyPost_ret (v := .tuple #[zeroRec, .bool false]) (by simp [results, Try.results55, go_sem, zeroRec]) rfl (next_none HR.out ?_)
  repeat (first | exact Only.refl _ _ | refine Only.setNew ?_ _ _ _ (by simp) | refine Only.alloc ?_ _ | refine Only.drew ?_)

set_option maxRecDepth 100000 in
set_option maxHeartbeats 1000000 in
theorem next_ok0 (w : World) (g o n c i : Nat) (b : List UInt8) (hn : b.length = n) (hm : n ≤ 1000000) (h1 : i + 2 ≤ n) (hR : RdB w (some ⟨g, o, none⟩) b) (hk : (b.getD i 0).toNat < 32)
    (hy : b.getD (i + 1) 0 ≠ 254) (hy0 : b.getD (i + 1) 0 = 0) (hfin : i + 7 + 0 ≤ n) (hmk : b.getD (i + 6 + 0) 0 = 0) (hnc : n ≤ c) :
    Calls Try.prog 55 #[.slice (some ⟨g, o, none⟩) n c, .int .i64 (i : Int)] w (NextPost g b i w) := by
  obtain ⟨g', o', e, hc⟩ := hR.at_ (by omega)
  cases e
  have cx := hc i (by omega)
  have cy := hc (i + 1) (by omega)
  have cz := hc (i + 6 + 0) (by omega)
  have hgl : g < w.heap.size := World.block_lt_of_cell? w _ cx
  have hRR := Lib.hid hR; have HNN := Lib.hid hn
  obtain ⟨x, hx⟩ : ∃ x, b.getD i 0 = x := ⟨_, rfl⟩
  obtain ⟨y, hyy⟩ : ∃ y, b.getD (i + 1) 0 = y := ⟨_, rfl⟩
  rw [hmk] at cz
  rw [hx] at cx hk
  rw [hyy] at cy hy hy0
  have hN : recN y = 0 := by unfold recN; rw [if_neg hy, hy0]; rfl
  have hr : nextR b i = some ⟨x.toNat, (b.drop (i + 2)).take 0, false, i + 7 + 0⟩ := by
    unfold nextR; rw [hx, hyy, hN, if_neg (by omega), if_neg (by omega), if_neg (by omega), if_neg (by omega), if_neg (by rw [hmk]; simp)]; simp [hy]
  have HR := Lib.hid hr
  have hyb : ((y.toNat : Int) == 254) = false := u8_ne hy
  have h1' : ¬ (n : Int) < i + 2 := by omega
  have hk' : (x.toNat : Int) < 32 := by omega
  have hy2 : (y.toNat : Int) ≤ 0 ∧ 0 ≤ (y.toNat : Int) := by rw [hy0]; decide
  have hy3 : y.toNat = 0 := by omega
  obtain ⟨v, hv⟩ : ∃ v : Nat, y.toNat = v := ⟨_, rfl⟩
  rw [hv] at cy hyb hy3
  subst hy3
  clear hr hn hc hR hx hyy hN hy hmk hy0 hy2 hv
  go_enter Try.func55, Try.ntmps55
  go_wp2
  go_region
  go_wp2
  refine bodyPost_ret (v := .tuple #[.agg #[.int .i64 (x.toNat : Int), .slice (some ⟨g, o, none⟩) 0 0, .bool false, .int .i64 ((i : Int) + 7)], .bool true]) (by simp [results, Try.results55, go_sem]) rfl ⟨?_, ?_⟩
  · repeat (first | exact Only.refl _ _ | refine Only.setNew ?_ _ _ _ (by simp) | refine Only.alloc ?_ _ | refine Only.drew ?_)
  · rw [HR.out]
    refine ⟨o, ?_, .inl (by simp)⟩
    simp

end Go.Proofs.Ytdnpmkejondpoaa
