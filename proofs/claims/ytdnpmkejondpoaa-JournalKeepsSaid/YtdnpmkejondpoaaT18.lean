/- Parts of a proof, joined: J6, J7, J8, PReplay. -/
import Derived.Test.YtdnpmkejondpoaaT16
import Derived.Test.YtdnpmkejondpoaaT17

/- The journal: records are found, and held against their sums. -/
namespace Go.Proofs.Ytdnpmkejondpoaa
open Go.RowKit Go.Maps
set_option linter.unusedVariables false
set_option linter.unusedSimpArgs false

theorem next_any (w : World) (g o n c i : Nat) (b : List UInt8) (hn : b.length = n) (hi : i ≤ n) (hm : n ≤ 1000000) (hR : RdB w (some ⟨g, o, none⟩) b) (hnc : n ≤ c) :
    Calls Try.prog 55 #[.slice (some ⟨g, o, none⟩) n c, .int .i64 (i : Int)] w (NextPost g b i w) := by
  by_cases h1 : n < i + 2
  · exact next_short w g o n c i b hn hi hm h1
  · by_cases hk : 32 ≤ (b.getD i 0).toNat
    · exact next_key w g o n c i b hn hm (by omega) hR hk
    · by_cases hy : b.getD (i + 1) 0 = 254
      · by_cases hf : n < i + 7 + 0
        · exact next_longD w g o n c i b hn hm (by omega) hR (by omega) hy hf
        · by_cases hmk : b.getD (i + 6 + 0) 0 = 0
          · exact next_okD w g o n c i b hn hm (by omega) hR (by omega) hy (by omega) hmk hnc
          · exact next_markD w g o n c i b hn hm (by omega) hR (by omega) hy (by omega) hmk
      · by_cases hy0 : b.getD (i + 1) 0 = 0
        · by_cases hf : n < i + 7 + 0
          · exact next_long0 w g o n c i b hn hm (by omega) hR (by omega) hy hy0 hf
          · by_cases hmk : b.getD (i + 6 + 0) 0 = 0
            · exact next_ok0 w g o n c i b hn hm (by omega) hR (by omega) hy hy0 (by omega) hmk hnc
            · exact next_mark0 w g o n c i b hn hm (by omega) hR (by omega) hy hy0 (by omega) hmk
        · have hpos : 0 < (b.getD (i + 1) 0).toNat := by
            rcases Nat.eq_zero_or_pos (b.getD (i + 1) 0).toNat with h | h
            · exact absurd (by rw [← UInt8.toNat_inj]; exact h) hy0
            · exact h
          by_cases hb : 250 < (b.getD (i + 1) 0).toNat
          · exact next_big w g o n c i b hn hm (by omega) hR (by omega) hy hb
          · by_cases hf : n < i + 7 + (b.getD (i + 1) 0).toNat
            · exact next_long w g o n c i b hn hm (by omega) hR (by omega) hy hpos (by omega) hf
            · by_cases hmk : b.getD (i + 6 + (b.getD (i + 1) 0).toNat) 0 = 0
              · exact next_ok w g o n c i b hn hm (by omega) hR (by omega) hy hpos (by omega) (by omega) hmk hnc
              · exact next_mark w g o n c i b hn hm (by omega) hR (by omega) hy hpos (by omega) (by omega) hmk

/-- does the record at a place, up to its end, have its sum? -/
def rightR (b : List UInt8) (i fin : Nat) : Bool := sumOk ((b.drop i).take (fin - 1 - i))

set_option maxRecDepth 100000 in
set_option maxHeartbeats 800000 in
theorem right_any (w : World) (g o n c i fin : Nat) (b : List UInt8) (v0 v1 v2 : Value) (hn : b.length = n) (hm : n ≤ 1000000) (hR : RdB w (some ⟨g, o, none⟩) b) (hnc : n ≤ c) (hc : c ≤ 9223372036854775807) (hi : i < fin) (hf : fin ≤ n) :
    Calls Try.prog 56 #[.slice (some ⟨g, o, none⟩) n c, .int .i64 (i : Int), .agg #[v0, v1, v2, .int .i64 (fin : Int)]] w fun e w' => e = .returned (.bool (rightR b i fin)) ∧ Only noB w w' := by
  have hp := hR.part i (fin - 1 - i) (by omega)
  have hl : ((b.drop i).take (fin - 1 - i)).length = fin - 1 - i := by simp; omega
  have HP := Lib.hid hp; have HL := Lib.hid hl
  have hci : ¬ c = i := by omega
  have h1 : (1 : Int) ≤ fin := by omega
  have h2 : (i : Int) ≤ (fin : Int) - 1 := by omega
  have h3 : (fin : Int) ≤ c := by omega
  clear hp hl hn hR
  go_enter Try.func56, Try.ntmps56
  go_wp2_with fail
  refine (copen_any _ _ _ _ ((b.drop i).take (fin - 1 - i)) HL.out (HP.out.keep0 ((Only.refl _ _).alloc _)) (by omega) (by omega) (by omega)).mono ?_
  rintro e w1 ⟨v, rfl, k1, k2, k3⟩
  have K1 := Lib.hid k1
  clear k1 k2 k3
  go_wp2
  go_ret
  exact ⟨rfl, ((Only.refl _ _).alloc _).then K1.out⟩

end Go.Proofs.Ytdnpmkejondpoaa

/- The journal in memory; a group's bytes are read. -/
namespace Go.Proofs.Ytdnpmkejondpoaa
open Go.RowKit Go.Maps
set_option linter.unusedVariables false
set_option linter.unusedSimpArgs false

/-- Where a journal and its flash lie. -/
structure Env where
  f : Nat
  bb : Nat
  bw : Nat
  pa : Nat
  pb : Nat
  jb : Nat
  p0 : PSt
  p1 : PSt

def Env.FS (E : Env) : Nat → Prop := FlashS E.f E.bb E.bw
def Env.JS (E : Env) : Nat → Prop := fun k => FlashS E.f E.bb E.bw k ∨ k = E.jb
def Env.part (E : Env) (i : Nat) : PSt := if i = 0 then E.p0 else E.p1
def Env.pblk (E : Env) (i : Nat) : Nat := if i = 0 then E.pa else E.pb

structure SysR (w : World) (E : Env) (s : FSt) : Prop where
  fl : FlashR w E.f E.bb E.bw s
  a : PartR w E.pa E.f E.p0
  b : PartR w E.pb E.f E.p1
  f0 : E.p0.fits s
  f1 : E.p1.fits s
  na : ¬ E.FS E.pa
  nb : ¬ E.FS E.pb

theorem SysR.keep {w w' : World} {E : Env} {s : FSt} (h : SysR w E s) {S : Nat → Prop} (ho : Only S w w') (h1 : ∀ k, E.FS k → ¬ S k) (h2 : ¬ S E.pa) (h3 : ¬ S E.pb) : SysR w' E s :=
  ⟨h.fl.keep ho h1, h.a.keep ho h2, h.b.keep ho h3, h.f0, h.f1, h.na, h.nb⟩
theorem SysR.keep0 {w w' : World} {E : Env} {s : FSt} (h : SysR w E s) (ho : Only noB w w') : SysR w' E s := h.keep ho (fun _ _ => noB_not _) (noB_not _) (noB_not _)
/-- behind a step of the flash -/
theorem SysR.step {w w' : World} {E : Env} {s s' : FSt} (h : SysR w E s) (hF : FlashR w' E.f E.bb E.bw s') (ho : Only E.FS w w') (hw : s'.wear.length = s.wear.length) : SysR w' E s' :=
  ⟨hF, h.a.keep ho h.na, h.b.keep ho h.nb, h.f0.of hw, h.f1.of hw, h.na, h.nb⟩
theorem SysR.part {w : World} {E : Env} {s : FSt} (h : SysR w E s) (i : Nat) : PartR w (E.pblk i) E.f (E.part i) := by
  unfold Env.pblk Env.part; split; exact h.a; exact h.b
theorem SysR.fits {w : World} {E : Env} {s : FSt} (h : SysR w E s) (i : Nat) : (E.part i).fits s := by
  unfold Env.part; split; exact h.f0; exact h.f1
theorem SysR.npart {w : World} {E : Env} {s : FSt} (h : SysR w E s) (i : Nat) : ¬ E.FS (E.pblk i) := by
  unfold Env.pblk; split; exact h.na; exact h.nb

/-- the journal's own row -/
def JRow (w : World) (E : Env) (size now epoch fin : Nat) (mv : Value) : Prop :=
  Row w E.jb #[.pointer (some ⟨E.pa, 0, none⟩), .pointer (some ⟨E.pb, 0, none⟩), .int .i64 (size : Int), .int .i64 (now : Int), .int .u32 (epoch : Int), .int .i64 (fin : Int), mv]
theorem Row.c7 {w : World} {b : Nat} {v0 v1 v2 v3 v4 v5 v6 : Value} (h : Row w b #[v0, v1, v2, v3, v4, v5, v6]) :
    w.cell? ⟨b, 0, none⟩ = some v0 ∧ w.cell? ⟨b, 1, none⟩ = some v1 ∧ w.cell? ⟨b, 2, none⟩ = some v2 ∧ w.cell? ⟨b, 3, none⟩ = some v3 ∧ w.cell? ⟨b, 4, none⟩ = some v4 ∧ w.cell? ⟨b, 5, none⟩ = some v5 ∧ w.cell? ⟨b, 6, none⟩ = some v6 :=
  ⟨h.c 0 _ rfl, h.c 1 _ rfl, h.c 2 _ rfl, h.c 3 _ rfl, h.c 4 _ rfl, h.c 5 _ rfl, h.c 6 _ rfl⟩

/-- a group's bytes -/
def Env.bytes (E : Env) (s : FSt) (i n : Nat) : List UInt8 := (s.b.drop ((E.part i).base s)).take n
theorem fault_zero {p : PSt} {s : FSt} {n : Nat} (hd : s.down = false) (hn : n ≤ p.size s) : p.fault s 0 n = 0 := by
  unfold PSt.fault inSize
  rw [if_neg (by simp [hd]), if_neg (by simp; omega)]

set_option maxHeartbeats 800000 in
theorem bytes_any (w : World) (E : Env) (s : FSt) (size now epoch fin : Nat) (mv : Value) (i : Nat) (hS : SysR w E s) (hJ : JRow w E size now epoch fin mv) (hd : s.down = false) (hi : i ≤ 1) (hsz : size ≤ (E.part i).size s) :
    Calls Try.prog 48 #[.pointer (some ⟨E.jb, 0, none⟩), .int .i64 (i : Int)] w (ReadPost 0 (E.bytes s i size) w) := by
  obtain ⟨c0, c1, c2, c3, c4, c5, c6⟩ := Row.c7 hJ
  have hf := fault_zero hd hsz
  have hl : (E.part i).readL s 0 size = E.bytes s i size := by unfold PSt.readL FSt.part Env.bytes; simp
  have HS := Lib.hid hS; have HF := Lib.hid hf; have HL := Lib.hid hl
  clear hS hJ hd hf hl
  have hi2 : i = 0 ∨ i = 1 := by omega
  rcases hi2 with rfl | rfl
  · go_enter Try.func48, Try.ntmps48
    go_wp2_with fail
    go_region_with (go_at_call 65; refine (pread_any _ (E.pblk 0) E.f E.bb E.bw (E.part 0) s 0 size ((HS.out.part 0).keep0 ((Only.refl _ _).drew)) (HS.out.fl.keep0 ((Only.refl _ _).drew)) (HS.out.fits 0)).mono ?_; rintro e w' ⟨v, rfl, h1, h2, h3⟩; rw [HF.out] at h2 ⊢)
    all_goals
      have H1 := Lib.hid h1; have H2 := Lib.hid (h2 (by trivial)); clear h1 h2 h3
      go_wp2
      go_ret2
      exact ⟨v, rfl, ((Only.refl _ _).drew).then H1.out, fun _ => by rw [← HL.out]; exact H2.out, fun h => absurd rfl h⟩
  · go_enter Try.func48, Try.ntmps48
    go_wp2_with fail
    go_region_with (go_at_call 65; refine (pread_any _ (E.pblk 1) E.f E.bb E.bw (E.part 1) s 0 size ((HS.out.part 1).keep0 ((Only.refl _ _).drew)) (HS.out.fl.keep0 ((Only.refl _ _).drew)) (HS.out.fits 1)).mono ?_; rintro e w' ⟨v, rfl, h1, h2, h3⟩; rw [HF.out] at h2 ⊢)
    all_goals
      have H1 := Lib.hid h1; have H2 := Lib.hid (h2 (by trivial)); clear h1 h2 h3
      go_wp2
      go_ret2
      exact ⟨v, rfl, ((Only.refl _ _).drew).then H1.out, fun _ => by rw [← HL.out]; exact H2.out, fun h => absurd rfl h⟩

end Go.Proofs.Ytdnpmkejondpoaa

/- The journal: which group counts. -/
namespace Go.Proofs.Ytdnpmkejondpoaa
open Go.RowKit Go.Maps
set_option linter.unusedVariables false
set_option linter.unusedSimpArgs false

structure Env.apart (E : Env) : Prop where
  n0 : ¬ E.FS E.jb
  n1 : E.jb ≠ E.pa
  n2 : E.jb ≠ E.pb
theorem SysR.keepJ {w w' : World} {E : Env} {s : FSt} (h : SysR w E s) (hE : E.apart) (ho : Only (fun k => k = E.jb) w w') : SysR w' E s :=
  h.keep ho (fun k hk e => hE.n0 (e ▸ hk)) (fun e => hE.n1 e.symm) (fun e => hE.n2 e.symm)

structure Heads where
  found : Bool
  now : Nat
  epoch : Nat
def headsStep (b : List UInt8) (i : Nat) (h : Heads) : Heads :=
  if b.getD 0 0 = 0 ∧ (h.found = false ∨ h.epoch < get32 (b.drop 1)) then ⟨true, i, get32 (b.drop 1)⟩ else h
def headsF (b0 b1 : List UInt8) (now epoch : Nat) : Heads := headsStep b1 1 (headsStep b0 0 ⟨false, now, epoch⟩)
/-- what is to be done from round k on -/
def headsFrom (b0 b1 : List UInt8) : Nat → Heads → Heads
  | 0, h => headsStep b1 1 (headsStep b0 0 h)
  | 1, h => headsStep b1 1 h
  | _, h => h

def HeadsPost (E : Env) (size fin : Nat) (mv : Value) (h : Heads) (w : World) (e : Ending) (w' : World) : Prop :=
  e = .returned (.tuple #[.bool h.found, .int .i64 0]) ∧ JRow w' E size h.now h.epoch fin mv ∧ Only (fun k => k = E.jb) w w'

theorem get32_lt (l : List UInt8) : get32 l < 4294967296 := getN_lt l 4
theorem headsStep_lt {b : List UInt8} {i : Nat} {h : Heads} (hh : h.epoch < 4294967296) : (headsStep b i h).epoch < 4294967296 := by
  unfold headsStep; split; exact get32_lt _; exact hh

theorem headsFrom_step (E : Env) (s : FSt) (size k : Nat) (h : Heads) (hk : k ≤ 1) :
    headsFrom (E.bytes s 0 size) (E.bytes s 1 size) k h = headsFrom (E.bytes s 0 size) (E.bytes s 1 size) (k + 1) (headsStep (E.bytes s k size) k h) := by
  have : k = 0 ∨ k = 1 := by omega
  rcases this with rfl | rfl <;> rfl

set_option maxRecDepth 100000 in
set_option maxHeartbeats 4000000 in
theorem heads_any (w : World) (E : Env) (s : FSt) (size now epoch fin : Nat) (mv : Value) (hS : SysR w E s) (hJ : JRow w E size now epoch fin mv) (hE : E.apart) (hd : s.down = false) (h32 : 32 ≤ size) (hsm : size ≤ 262144)
    (h0 : size ≤ E.p0.size s) (h1 : size ≤ E.p1.size s) (hep : epoch < 4294967296) :
    Calls Try.prog 33 #[.pointer (some ⟨E.jb, 0, none⟩)] w (HeadsPost E size fin mv (headsF (E.bytes s 0 size) (E.bytes s 1 size) now epoch) w) := by
  have hl : ∀ i, i ≤ 1 → (E.bytes s i size).length = size := by
    intro i hi
    have hr := (hS.fits i).room hS.fl.ok
    have hs : size ≤ (E.part i).size s := by unfold Env.part; split; exact h0; exact h1
    unfold Env.bytes; simp; omega
  have HS := Lib.hid hS; have HJ := Lib.hid hJ; have HE := Lib.hid hE; have HD := Lib.hid hd; have HL := Lib.hid hl
  clear hS hJ hE hd hl
  go_enter Try.func33, Try.ntmps33
  go_wp2
  go_loopw [4, 10] (fun v t wr => ∃ (k : Nat) (st : Heads), k ≤ 2 ∧ t = .int .i64 k ∧ v = .bool st.found ∧ JRow wr E size st.now st.epoch fin mv ∧ Only (fun x => x = E.jb) w wr ∧ st.epoch < 4294967296 ∧
      headsF (E.bytes s 0 size) (E.bytes s 1 size) now epoch = headsFrom (E.bytes s 0 size) (E.bytes s 1 size) k st) (fun _ t _ => 2 - (intOf t).toNat)
  case atStart => exact ⟨0, ⟨false, now, epoch⟩, by omega, rfl, rfl, HJ.out, Only.refl _ _, hep, rfl⟩
  case round =>
    obtain ⟨k, st, hk, rfl, rfl, hJk, hO, hst, hrel⟩ := hrel
    obtain ⟨fd, nw, ep⟩ := st
    simp only at hJk hst hrel
    have HJk := Lib.hid hJk; have HO := Lib.hid hO; have HREL := Lib.hid hrel; clear hJk hO hrel
    by_cases hlt : k < 2
    · have hk2 : k ≤ 1 := by omega
      have hsk : size ≤ (E.part k).size s := by unfold Env.part; split; exact h0; exact h1
      have HSK := Lib.hid (HS.out.keepJ HE.out HO.out)
      obtain ⟨b, hb⟩ : ∃ b, E.bytes s k size = b := ⟨_, rfl⟩
      have hbl : b.length = size := by rw [← hb]; exact HL.out k hk2
      have HB := Lib.hid hb; have HBL := Lib.hid hbl
      obtain ⟨x, hx⟩ : ∃ x, b.getD 0 0 = x := ⟨_, rfl⟩
      obtain ⟨ne, hne⟩ : ∃ ne, get32 (b.drop 1) = ne := ⟨_, rfl⟩
      have hnel : ne < 4294967296 := by rw [← hne]; exact get32_lt _
      have HX := Lib.hid hx; have HNE := Lib.hid hne
      clear hb hbl hx hne
      go_wp2_with fail
      refine (bytes_any _ E s size nw ep fin mv k HSK.out HJk.out HD.out hk2 hsk).mono ?_
      rintro e w1 ⟨v, rfl, q1, q2, q3⟩
      obtain ⟨q4, q5⟩ := q2 rfl
      rw [HB.out] at q4
      obtain ⟨a, c, rfl, q6, q7, q8, q9⟩ := q4.form
      rw [HBL.out] at q8 ⊢
      obtain ⟨g, o, rfl, q10⟩ := q6.at_ne (by intro h; have := HBL.out; rw [h] at this; simp at this; omega)
      have Q1 := Lib.hid q1; have Q10 := Lib.hid q10
      have hc1 : ¬ c = 1 := by omega
      obtain ⟨g', o', e', q11⟩ := q10.at_ (by rw [HBL.out]; omega)
      cases e'
      have cx := q11 0 (by rw [HBL.out]; omega)
      rw [HX.out, Nat.add_zero] at cx
      have hJ1 : JRow w1 E size nw ep fin mv := HJk.out.keep0 Q1.out
      obtain ⟨d0, d1, d2, d3, d4, d5, d6⟩ := Row.c7 hJ1
      have zj := Row.z hJ1
      have HJ1 := Lib.hid hJ1
      clear q1 q2 q3 q4 q5 q6 q7 q9 q10 q11 hJ1
      have hxc : x = 0 ∨ x ≠ 0 := by by_cases h : x = 0; exact .inl h; exact .inr h
      rcases hxc with hx0 | hx0
      · have hxb : ((x.toNat : Int) == 0) = true := by rw [hx0]; rfl
        have HX0 := Lib.hid hx0; clear hx0
        cases fd with
        | false =>
          go_wp2_with (go_at_call 49; refine (get32_any _ _ _ _ (b.drop 1) (by rw [List.length_drop, HBL.out]) (Q10.out.tail 1 (by rw [HBL.out]; omega)) (by omega)).mono ?_; rintro e w2 ⟨rfl, rfl⟩; rw [HNE.out])
          go_roundw
          case rel =>
            have e1 : headsStep (E.bytes s k size) k ⟨false, nw, ep⟩ = ⟨true, k, ne⟩ := by
              unfold headsStep; rw [HB.out, HX.out, HNE.out, if_pos ⟨HX0.out, .inl rfl⟩]
            refine ⟨k + 1, ⟨true, k, ne⟩, by omega, by go_num, rfl, ?_, ((HO.out.thenNo Q1.out).set E.jb 3 _ rfl).set E.jb 4 _ rfl, hnel, by rw [HREL.out, headsFrom_step E s size k _ hk2, e1]⟩
            have := (Row.set HJ1.out 3 (.int .i64 (k : Int))).set 4 (.int .u32 (ne : Int))
            simpa [JRow] using this
          case measure => simp [intOf]; omega
        | true =>
          by_cases hgt : ep < ne
          · skip
            go_wp2_with (go_at_call 49; refine (get32_any _ _ _ _ (b.drop 1) (by rw [List.length_drop, HBL.out]) (Q10.out.tail 1 (by rw [HBL.out]; omega)) (by omega)).mono ?_; rintro e w2 ⟨rfl, rfl⟩; rw [HNE.out])
            go_roundw
            case rel =>
              have e1 : headsStep (E.bytes s k size) k ⟨true, nw, ep⟩ = ⟨true, k, ne⟩ := by
                unfold headsStep; rw [HB.out, HX.out, HNE.out, if_pos ⟨HX0.out, .inr hgt⟩]
              refine ⟨k + 1, ⟨true, k, ne⟩, by omega, by go_num, rfl, ?_, ((HO.out.thenNo Q1.out).set E.jb 3 _ rfl).set E.jb 4 _ rfl, hnel, by rw [HREL.out, headsFrom_step E s size k _ hk2, e1]⟩
              have := (Row.set HJ1.out 3 (.int .i64 (k : Int))).set 4 (.int .u32 (ne : Int))
              simpa [JRow] using this
            case measure => simp [intOf]; omega
          · skip
            go_wp2_with (go_at_call 49; refine (get32_any _ _ _ _ (b.drop 1) (by rw [List.length_drop, HBL.out]) (Q10.out.tail 1 (by rw [HBL.out]; omega)) (by omega)).mono ?_; rintro e w2 ⟨rfl, rfl⟩; rw [HNE.out])
            go_roundw
            case rel =>
              have e1 : headsStep (E.bytes s k size) k ⟨true, nw, ep⟩ = ⟨true, nw, ep⟩ := by
                unfold headsStep; rw [HB.out, HX.out, HNE.out, if_neg (fun h => by rcases h.2 with h | h; cases h; exact hgt h)]
              exact ⟨k + 1, ⟨true, nw, ep⟩, by omega, by go_num, rfl, HJ1.out, HO.out.thenNo Q1.out, hst, by rw [HREL.out, headsFrom_step E s size k _ hk2, e1]⟩
            case measure => simp [intOf]; omega
      · have hxb : ((x.toNat : Int) == 0) = false := by
          rw [beq_eq_false_iff_ne]; intro e; apply hx0; rw [← UInt8.toNat_inj]; show x.toNat = 0; omega
        have HX0 := Lib.hid hx0; clear hx0
        go_wp2_with (go_at_call 49; refine (get32_any _ _ _ _ (b.drop 1) (by rw [List.length_drop, HBL.out]) (Q10.out.tail 1 (by rw [HBL.out]; omega)) (by omega)).mono ?_; rintro e w2 ⟨rfl, rfl⟩; rw [HNE.out])
        go_roundw
        case rel =>
          have e1 : headsStep (E.bytes s k size) k ⟨fd, nw, ep⟩ = ⟨fd, nw, ep⟩ := by
            unfold headsStep; rw [HB.out, HX.out, HNE.out, if_neg (fun h => HX0.out h.1)]
          exact ⟨k + 1, ⟨fd, nw, ep⟩, by omega, by go_num, rfl, HJ1.out, HO.out.thenNo Q1.out, hst, by rw [HREL.out, headsFrom_step E s size k _ hk2, e1]⟩
        case measure => simp [intOf]; omega
    · obtain rfl : k = 2 := by omega
      go_wp2
      go_ret2
      refine ⟨?_, ?_, HO.out⟩
      · rw [HREL.out]; rfl
      · rw [HREL.out]; exact HJk.out

end Go.Proofs.Ytdnpmkejondpoaa

/- The journal: the records of a group, as plain data. -/
namespace Go.Proofs.Ytdnpmkejondpoaa
open Go.RowKit Go.Maps
set_option linter.unusedVariables false
set_option linter.unusedSimpArgs false

def Rec.apply (r : Rec) (m : Vals) : Vals := if r.drop = true then kdel m r.key else kput m r.key r.val
/-- the records from a place on; none: one has another sum -/
def replayF (b : List UInt8) : Nat → Nat → Vals → Option (Vals × Nat)
  | 0, i, m => some (m, i)
  | k + 1, i, m => match nextR b i with
    | none => some (m, i)
    | some r => if rightR b i r.fin = false then none else replayF b k r.fin (r.apply m)
def replayB (b : List UInt8) : Option (Vals × Nat) := replayF b (b.length + 1) 8 []
def tornB (b : List UInt8) (i : Nat) : Bool := (b.drop i).any fun c => c != 255

theorem nextR_spec {b : List UInt8} {i : Nat} {r : Rec} (h : nextR b i = some r) : r.key < 32 ∧ r.val.length ≤ 250 ∧ r.fin = i + 7 + r.val.length ∧ r.fin ≤ b.length := by
  unfold nextR at h
  split at h; cases h
  split at h; cases h
  split at h; cases h
  split at h; cases h
  split at h; cases h
  simp only [Option.some.injEq] at h
  subst h
  have : ((b.drop (i + 2)).take (recN (b.getD (i + 1) 0))).length = recN (b.getD (i + 1) 0) := by rw [List.length_take, List.length_drop]; omega
  show _ ∧ _ ∧ _ = i + 7 + _ ∧ _
  rw [this]
  exact ⟨by show (b.getD i 0).toNat < 32; omega, by omega, rfl, by show i + 7 + _ ≤ _; omega⟩

theorem replayF_big {b : List UInt8} : ∀ k i m, b.length < i + k → ∀ k', b.length < i + k' → replayF b k i m = replayF b k' i m := by
  intro k
  induction k with
  | zero =>
    intro i m h k' h'
    have hn : nextR b i = none := by unfold nextR; rw [if_pos (by omega)]
    cases k' with
    | zero => rfl
    | succ k' => unfold replayF; rw [hn]
  | succ k ih =>
    intro i m h k' h'
    cases k' with
    | zero =>
      have hn : nextR b i = none := by unfold nextR; rw [if_pos (by omega)]
      unfold replayF; rw [hn]
    | succ k' =>
      unfold replayF
      cases hn : nextR b i with
      | none => rfl
      | some r =>
        have := nextR_spec hn
        simp only []
        split
        · rfl
        · exact ih _ _ (by omega) _ (by omega)

def ReplayPost (E : Env) (size now epoch : Nat) (b : List UInt8) (w : World) (e : Ending) (w' : World) : Prop :=
  match replayB b with
  | none => e = .returned (.tuple #[.bool false, .int .i64 40]) ∧ Only (fun k => k = E.jb) w w' ∧ ∃ fin mv, JRow w' E size now epoch fin mv
  | some (m, i) => e = .returned (.tuple #[.bool (tornB b i), .int .i64 0]) ∧ Only (fun k => k = E.jb) w w' ∧
      ∃ mb, JRow w' E size now epoch i (.map (some mb)) ∧ JV w' E.JS mb m ∧ w.heap.size ≤ mb ∧ i ≤ b.length

end Go.Proofs.Ytdnpmkejondpoaa
