/- Parts of a proof, joined: PPut, Put, Drop, POpen, Open, Pairs, Same, PairsW, Same5, Groups, Alive. -/
import Derived.BigQuiet
import Derived.Test.YtdnpmkejondpoaaT13
import Derived.Test.YtdnpmkejondpoaaT19

/- The journal whole; Put, Drop as plain data. -/
namespace Go.Proofs.Ytdnpmkejondpoaa
open Go.RowKit Go.Maps
set_option linter.unusedVariables false
set_option linter.unusedSimpArgs false

theorem fill_end (p : PSt) (m : Vals) : ∀ (s : FSt) (i : Nat), (p.fill s i m).2.1 = 0 → (p.fill s i m).1 = i + (m.map fun q => recLen q.2).sum := by
  induction m with
  | nil => intro s i _; simp [PSt.fill]
  | cons q r ih =>
    intro s i h
    unfold PSt.fill at h ⊢
    split at h
    · rename_i h0
      rw [if_pos h0, ih _ _ h, List.map_cons, List.sum_cons]
      unfold recLen; omega
    · rename_i h0; exact absurd h h0
theorem refill_end (p : PSt) (s : FSt) (epoch : Nat) (m : Vals) (h : (p.refill s epoch m).1 = 0) : (p.refill s epoch m).2.1 = needV m := by
  unfold PSt.refill at *
  split at h
  · rename_i h1; exact absurd h h1
  · rename_i h1
    split at h
    · rename_i h2; exact absurd h h2
    · rename_i h2
      split at h
      · rename_i h3; exact absurd h h3
      · rename_i h3
        rw [if_neg h1, if_neg h2, if_neg h3]
        exact fill_end _ _ _ _ (by simpa using h2)

def JSt.ok (j : JSt) (size : Nat) : Prop := j.now ≤ 1 ∧ j.epoch < 4294967296 ∧ j.fin ≤ size
theorem move_ok (E : Env) (size : Nat) (j : JSt) (m : Vals) (h : j.ok size) : (E.move size j m).2.ok size := by
  unfold Env.move
  split
  · exact h
  split
  · exact h
  split
  · rename_i h1 h2 h3
    refine ⟨by show 1 - j.now ≤ 1; omega, by have := h.2.1; show j.epoch + 1 < _; omega, ?_⟩
    show (PSt.refill _ _ _ _).2.1 ≤ size
    rw [refill_end _ _ _ _ h3]; omega
  · exact h
theorem move_m (E : Env) (size : Nat) (j : JSt) (m : Vals) : (E.move size j m).2.m = if (E.move size j m).1 = 0 then m else j.m := by
  unfold Env.move
  split
  · rfl
  split
  · rfl
  split
  · rfl
  · rfl
theorem write_ok (E : Env) (size : Nat) (j : JSt) (b : List UInt8) (m : Vals) (h : j.ok size) : (E.write size j b m).2.ok size := by
  unfold Env.write
  split
  · exact h
  split
  · exact move_ok E size j m h
  split
  · exact ⟨h.1, h.2.1, by show j.fin + (b.length + 1) ≤ size; omega⟩
  · exact h
theorem write_m (E : Env) (size : Nat) (j : JSt) (b : List UInt8) (m : Vals) : (E.write size j b m).2.m = if (E.write size j b m).1 = 0 then m else j.m := by
  unfold Env.write
  split
  · rfl
  split
  · exact move_m E size j m
  split
  · rfl
  · rfl

/-- the journal in memory -/
structure JR (w : World) (E : Env) (size : Nat) (j : JSt) : Prop where
  sys : SysR w E j.s
  row : ∃ mb, JRow w E size j.now j.epoch j.fin (.map (some mb)) ∧ JV w E.JS mb j.m
  ap : E.apart
  ok : j.ok size
  sz : size ≤ 262144
theorem JR.keep0 {w w' : World} {E : Env} {size : Nat} {j : JSt} (h : JR w E size j) (ho : Only noB w w') : JR w' E size j := by
  obtain ⟨mb, h1, h2⟩ := h.row
  exact ⟨h.sys.keep0 ho, ⟨mb, h1.keep0 ho, h2.keep0 ho⟩, h.ap, h.ok, h.sz⟩

def Env.put (E : Env) (size : Nat) (j : JSt) (k : Int) (l : List UInt8) : Int × JSt :=
  if faultJ j.s k l.length ≠ 0 then (faultJ j.s k l.length, j) else if kget j.m k = some l then (0, j)
  else E.write size j (bodyB k.toNat l false) (kput j.m k l)
def Env.drop (E : Env) (size : Nat) (j : JSt) (k : Int) : Int × JSt :=
  if faultJ j.s k 0 ≠ 0 then (faultJ j.s k 0, j) else if kget j.m k = none then (4, j)
  else E.write size j (bodyB k.toNat [] true) (kdel j.m k)

def PutPost (E : Env) (size : Nat) (r : Int × JSt) (w : World) (e : Ending) (w' : World) : Prop :=
  e = .returned (.int .i64 r.1) ∧ JR w' E size r.2 ∧ Only E.JS w w'

/-- behind a write into a new map -/
theorem put_of {w0 w w' : World} {E : Env} {size mb mb' : Nat} {j : JSt} {b : List UInt8} {m : Vals} (ho0 : Only noB w0 w) (hJ : JV w E.JS mb j.m) (hN : JV w E.JS mb' m) (hap : E.apart) (hok : j.ok size) (hsz : size ≤ 262144)
    (h1 : SysR w' E (E.write size j b m).2.s) (h2 : JRow w' E size (E.write size j b m).2.now (E.write size j b m).2.epoch (E.write size j b m).2.fin (if (E.write size j b m).1 = 0 then .map (some mb') else .map (some mb))) (h3 : Only E.JS w w') :
    PutPost E size (E.write size j b m) w0 (.returned (.int .i64 (E.write size j b m).1)) w' := by
  refine ⟨rfl, ⟨h1, ?_, hap, write_ok E size j b m hok, hsz⟩, ho0.noThen h3⟩
  rw [write_m]
  by_cases h : (E.write size j b m).1 = 0
  · rw [if_pos h] at h2 ⊢; exact ⟨mb', h2, hN.keep h3⟩
  · rw [if_neg h] at h2 ⊢; exact ⟨mb, h2, hJ.keep h3⟩

theorem bytesOf_int (l : List UInt8) : Lib.bytesOf (l.map fun u => (u.toNat : Int)) = l := by
  unfold Lib.bytesOf
  rw [List.map_map]
  conv => rhs; rw [← List.map_id l]
  refine List.map_congr_left fun u _ => ?_
  simp
theorem RdB.bytesIn {w : World} {a : Option Addr} {l : List UInt8} (h : RdB w a l) : Lib.BytesIn w a l.length (l.map fun u => (u.toNat : Int)) := by
  intro h0
  obtain ⟨g, o, rfl, hc⟩ := h.at_ h0
  refine ⟨g, o, rfl, fun i hi => ?_⟩
  rw [hc i hi]
  simp [hi]
theorem equal_any (w : World) (a1 a2 : Option Addr) (n1 c1 n2 c2 : Nat) (l1 l2 : List UInt8) (h1 : l1.length = n1) (h2 : l2.length = n2) (r1 : RdB w a1 l1) (r2 : RdB w a2 l2) :
    Calls Try.prog 38 #[.slice a1 n1 c1, .slice a2 n2 c2] w fun e w' => e = .returned (.bool (l1 == l2)) ∧ w = w' := by
  subst h1; subst h2
  refine (Try.bytes_Equal_all a1 a2 _ c1 _ c2 _ _ w (by simp) (by simp) r1.bytesIn r2.bytesIn).mono ?_
  rintro e w' ⟨rfl, rfl⟩
  rw [bytesOf_int, bytesOf_int]
  exact ⟨rfl, rfl⟩

end Go.Proofs.Ytdnpmkejondpoaa

/- The journal: Put. -/
namespace Go.Proofs.Ytdnpmkejondpoaa
open Go.RowKit Go.Maps
set_option linter.unusedVariables false
set_option linter.unusedSimpArgs false

theorem jclone_any (w : World) (S : Nat → Prop) (b : Nat) (m : Vals) (hV : JV w S b m) (hS : ∀ k, S k → k < w.heap.size) :
    Calls Try.prog 39 #[.map (some b)] w fun e w' => e = .returned (.map (some w.heap.size)) ∧ JV w' S w.heap.size m ∧ Only noB w w' := by
  obtain ⟨vs, hm, hr⟩ := hV.ex
  refine (mclone_any w b vs hm).mono ?_
  rintro e w' ⟨rfl, h1, h2, _⟩
  exact ⟨rfl, ⟨⟨vs, h1, hr.keep h2.ofNo⟩, fun h => by have := hS _ h; omega, hV.small⟩, h2⟩

set_option maxRecDepth 100000 in
set_option maxHeartbeats 4000000 in
theorem put_any (w : World) (E : Env) (size : Nat) (j : JSt) (k : Int) (a : Option Addr) (n c : Nat) (l : List UInt8) (hJR : JR w E size j) (hk : inI k) (hn : l.length = n) (hnil : a = none → c = 0) (hR : RdB w a l) :
    Calls Try.prog 14 #[.pointer (some ⟨E.jb, 0, none⟩), .int .i64 k, .slice a n c] w (PutPost E size (E.put size j k l) w) := by
  obtain ⟨mb, hJ, hV⟩ := hJR.row
  have hjl := Row.lt hJ
  have hlJ := hJR.sys.ltJ hjl
  have zj := Row.z hJ
  obtain ⟨c0, c1, c2, c3, c4, c5, c6⟩ := Row.c7 hJ
  have HJR := Lib.hid hJR; have HJ := Lib.hid hJ; have HV := Lib.hid hV; have HLJ := Lib.hid hlJ; have HN := Lib.hid hn; have HR := Lib.hid hR; have HK := Lib.hid hk; have HNIL := Lib.hid hnil
  have hlook := hV.look_okW hk
  obtain ⟨F, hF⟩ : ∃ F, faultJ j.s k n = F := ⟨_, rfl⟩
  have HF := Lib.hid hF
  have hp : E.put size j k l = if F ≠ 0 then (F, j) else if kget j.m k = some l then (0, j) else E.write size j (bodyB k.toNat l false) (kput j.m k l) := by unfold Env.put; rw [hn, hF]
  have HP := Lib.hid hp
  clear hJR hJ hV hlJ hn hR hk hF hp hnil
  by_cases hz : F = 0
  · have hkr : 0 ≤ k ∧ k < 32 ∧ n ≤ 250 := by
      have := HF.out
      rw [hz] at this
      unfold faultJ at this
      split at this
      · cases this
      split at this
      · cases this
      split at this
      · cases this
      · omega
    subst hz
    have hz2 : a = none → n = 0 ∧ c = 0 := by
      intro h
      refine ⟨?_, HNIL.out h⟩
      rcases HR.out with h2 | ⟨g, o, h2, _⟩
      · rw [← HN.out, h2]; rfl
      · rw [h] at h2; cases h2
    have HZ2 := Lib.hid hz2; clear hz2
    obtain ⟨key, rfl⟩ : ∃ key : Nat, k = (key : Int) := ⟨k.toNat, by omega⟩
    rcases hlook with ⟨hg, hrun⟩ | ⟨l', a', c', hg, hrun, hR', hn', hO', hl'⟩
    · have hp2 : E.put size j key l = E.write size j (bodyB key l false) (kput j.m key l) := by rw [HP.out, if_neg (by simp), if_neg (by rw [hg]; simp)]; rfl
      have HP2 := Lib.hid hp2; have HG := Lib.hid hg
      clear hp2 hg
      go_enter Try.func14, Try.ntmps14
      go_wp2_with (go_at_call 37; ((with_reducible refine (jfault_any w E j.s size j.now j.epoch j.fin (.map (some mb)) key a n c HJR.out.sys HJ.out).mono ?_); rintro e w' ⟨rfl, rfl⟩; rw [HF.out]))
      refine (jclone_any w E.JS mb j.m HV.out HLJ.out).mono ?_
      rintro e w1 ⟨rfl, v1, v2⟩
      have V1 := Lib.hid v1; have V2 := Lib.hid v2
      clear v1 v2
      go_wp2_with fail
      refine (clone_any w1 a n c l HN.out (HR.out.keep0 V2.out) HZ2.out (by rw [HN.out]; omega)).mono ?_
      rintro e w2 ⟨v, rfl, u1, u2, u3⟩
      obtain ⟨w3, hrun3, v4, v5⟩ := (V1.out.keep0 u2).store (k := (key : Int)) ⟨by omega, by omega⟩ (u1.slB E.JS (fun k hk => Nat.lt_of_lt_of_le (HLJ.out k hk) V2.out.size)) (by rw [HN.out]; omega)
      have hO3 : Only noB w w3 := (V2.out.then u2).trans v5 (fun x hx e => by omega)
      have V4 := Lib.hid v4; have HO3 := Lib.hid hO3
      clear u1 u2 u3 v4 v5 hO3
      go_wp2_with fail
      refine (body_any w3 key a n c l false (by omega) HN.out (by omega) (HR.out.keep0 HO3.out) HNIL.out).mono ?_
      rintro e w4 ⟨v, rfl, u1, u2⟩
      obtain ⟨a4, c4, rfl, u3, u4, u5, u6⟩ := u1.form
      rw [bodyB_len, HN.out] at u5 ⊢
      have U2 := Lib.hid u2; have U3 := Lib.hid u3; have U4 := Lib.hid u4
      clear u1 u2 u3 u4 u5 u6
      go_wp2_with fail
      refine (write_any w4 E size w.heap.size (.map (some mb)) j (kput j.m key l) a4 (n + 6) c4 (bodyB key l false) (HJR.out.sys.keep0 (HO3.out.then U2.out)) (HJ.out.keep0 (HO3.out.then U2.out)) HJR.out.ap (V4.out.keep0 U2.out) HJR.out.ok.1 HJR.out.ok.2.1 HJR.out.sz (Nat.le_trans HJR.out.ok.2.2 HJR.out.sz) (by rw [bodyB_len, HN.out]) (by omega) U3.out (U4.out.off _ (fun k hk => Nat.lt_of_lt_of_le (HLJ.out k hk) HO3.out.size))).mono ?_
      rintro e w5 ⟨rfl, u1, u2, u3⟩
      have X := Lib.hid (put_of (HO3.out.then U2.out) (HV.out.keep0 (HO3.out.then U2.out)) (V4.out.keep0 U2.out) HJR.out.ap HJR.out.ok HJR.out.sz u1 u2 u3)
      clear u1 u2 u3
      go_wp2
      go_ret
      rw [HP2.out]
      exact X.out
    · have HR' := Lib.hid hR'; have HG := Lib.hid hg
      clear hR' hg hn' hO'
      by_cases he : l' = l
      · have hp2 : E.put size j key l = (0, j) := by rw [HP.out, if_neg (by simp), if_pos (by rw [HG.out, he])]
        have HP2 := Lib.hid hp2; have HE := Lib.hid (show (l' == l) = true by simpa using he)
        clear hp2 he
        go_enter Try.func14, Try.ntmps14
        go_wp2_with (first
          | (go_at_call 37; ((with_reducible refine (jfault_any w E j.s size j.now j.epoch j.fin (.map (some mb)) key a n c HJR.out.sys HJ.out).mono ?_); rintro e w' ⟨rfl, rfl⟩; rw [HF.out]))
          | (go_at_call 38; ((with_reducible refine (equal_any w a' a l'.length c' n c l' l rfl HN.out HR'.out HR.out).mono ?_); rintro e w' ⟨rfl, rfl⟩; rw [HE.out])))
        go_ret
        rw [HP2.out]
        exact ⟨ret_int rfl, HJR.out, Only.refl _ _⟩
      · have hp2 : E.put size j key l = E.write size j (bodyB key l false) (kput j.m key l) := by rw [HP.out, if_neg (by simp), if_neg (by rw [HG.out]; simpa using he)]; rfl
        have HP2 := Lib.hid hp2; have HE := Lib.hid (show (l' == l) = false by simpa using he)
        clear hp2 he
        go_enter Try.func14, Try.ntmps14
        go_wp2_with (first
          | (go_at_call 37; ((with_reducible refine (jfault_any w E j.s size j.now j.epoch j.fin (.map (some mb)) key a n c HJR.out.sys HJ.out).mono ?_); rintro e w' ⟨rfl, rfl⟩; rw [HF.out]))
          | (go_at_call 38; ((with_reducible refine (equal_any w a' a l'.length c' n c l' l rfl HN.out HR'.out HR.out).mono ?_); rintro e w' ⟨rfl, rfl⟩; rw [HE.out])))
        refine (jclone_any w E.JS mb j.m HV.out HLJ.out).mono ?_
        rintro e w1 ⟨rfl, v1, v2⟩
        have V1 := Lib.hid v1; have V2 := Lib.hid v2
        clear v1 v2
        go_wp2_with fail
        refine (clone_any w1 a n c l HN.out (HR.out.keep0 V2.out) HZ2.out (by rw [HN.out]; omega)).mono ?_
        rintro e w2 ⟨v, rfl, u1, u2, u3⟩
        obtain ⟨w3, hrun3, v4, v5⟩ := (V1.out.keep0 u2).store (k := (key : Int)) ⟨by omega, by omega⟩ (u1.slB E.JS (fun k hk => Nat.lt_of_lt_of_le (HLJ.out k hk) V2.out.size)) (by rw [HN.out]; omega)
        have hO3 : Only noB w w3 := (V2.out.then u2).trans v5 (fun x hx e => by omega)
        have V4 := Lib.hid v4; have HO3 := Lib.hid hO3
        clear u1 u2 u3 v4 v5 hO3
        go_wp2_with fail
        refine (body_any w3 key a n c l false (by omega) HN.out (by omega) (HR.out.keep0 HO3.out) HNIL.out).mono ?_
        rintro e w4 ⟨v, rfl, u1, u2⟩
        obtain ⟨a4, c4, rfl, u3, u4, u5, u6⟩ := u1.form
        rw [bodyB_len, HN.out] at u5 ⊢
        have U2 := Lib.hid u2; have U3 := Lib.hid u3; have U4 := Lib.hid u4
        clear u1 u2 u3 u4 u5 u6
        go_wp2_with fail
        refine (write_any w4 E size w.heap.size (.map (some mb)) j (kput j.m key l) a4 (n + 6) c4 (bodyB key l false) (HJR.out.sys.keep0 (HO3.out.then U2.out)) (HJ.out.keep0 (HO3.out.then U2.out)) HJR.out.ap (V4.out.keep0 U2.out) HJR.out.ok.1 HJR.out.ok.2.1 HJR.out.sz (Nat.le_trans HJR.out.ok.2.2 HJR.out.sz) (by rw [bodyB_len, HN.out]) (by omega) U3.out (U4.out.off _ (fun k hk => Nat.lt_of_lt_of_le (HLJ.out k hk) HO3.out.size))).mono ?_
        rintro e w5 ⟨rfl, u1, u2, u3⟩
        have X := Lib.hid (put_of (HO3.out.then U2.out) (HV.out.keep0 (HO3.out.then U2.out)) (V4.out.keep0 U2.out) HJR.out.ap HJR.out.ok HJR.out.sz u1 u2 u3)
        clear u1 u2 u3
        go_wp2
        go_ret
        rw [HP2.out]
        exact X.out
  · have hbz : (F != 0) = true := by simpa using hz
    have hp2 : E.put size j k l = (F, j) := by rw [HP.out, if_pos hz]
    have HP2 := Lib.hid hp2; clear hp2 hlook
    go_enter Try.func14, Try.ntmps14
    go_wp2_with (go_at_call 37; ((with_reducible refine (jfault_any w E j.s size j.now j.epoch j.fin (.map (some mb)) k a n c HJR.out.sys HJ.out).mono ?_); rintro e w' ⟨rfl, rfl⟩; rw [HF.out]))
    go_ret
    rw [HP2.out]
    exact ⟨ret_int rfl, HJR.out, Only.refl _ _⟩

end Go.Proofs.Ytdnpmkejondpoaa

/- The journal: Drop. -/
namespace Go.Proofs.Ytdnpmkejondpoaa
open Go.RowKit Go.Maps
set_option linter.unusedVariables false
set_option linter.unusedSimpArgs false

set_option maxRecDepth 100000 in
set_option maxHeartbeats 4000000 in
theorem drop_any (w : World) (E : Env) (size : Nat) (j : JSt) (k : Int) (hJR : JR w E size j) (hk : inI k) :
    Calls Try.prog 23 #[.pointer (some ⟨E.jb, 0, none⟩), .int .i64 k] w (PutPost E size (E.drop size j k) w) := by
  obtain ⟨mb, hJ, hV⟩ := hJR.row
  have hjl := Row.lt hJ
  have hlJ := hJR.sys.ltJ hjl
  have zj := Row.z hJ
  obtain ⟨c0, c1, c2, c3, c4, c5, c6⟩ := Row.c7 hJ
  have HJR := Lib.hid hJR; have HJ := Lib.hid hJ; have HV := Lib.hid hV; have HLJ := Lib.hid hlJ
  have hlook := hV.look_okW hk
  obtain ⟨F, hF⟩ : ∃ F, faultJ j.s k 0 = F := ⟨_, rfl⟩
  have HF := Lib.hid hF
  have hp : E.drop size j k = if F ≠ 0 then (F, j) else if kget j.m k = none then (4, j) else E.write size j (bodyB k.toNat [] true) (kdel j.m k) := by unfold Env.drop; rw [hF]
  have HP := Lib.hid hp
  clear hJR hJ hV hlJ hk hF hp
  by_cases hz : F = 0
  · have hkr : 0 ≤ k ∧ k < 32 := by
      have := HF.out
      rw [hz] at this
      unfold faultJ at this
      split at this
      · cases this
      split at this
      · cases this
      · omega
    subst hz
    obtain ⟨key, rfl⟩ : ∃ key : Nat, k = (key : Int) := ⟨k.toNat, by omega⟩
    rcases hlook with ⟨hg, hrun⟩ | ⟨l', a', c', hg, hrun, hR', hn', hO', hl'⟩
    · have hp2 : E.drop size j key = (4, j) := by rw [HP.out, if_neg (by simp), if_pos hg]
      have HP2 := Lib.hid hp2
      clear hp2 hg
      go_enter Try.func23, Try.ntmps23
      go_wp2_with (go_at_call 37; ((with_reducible refine (jfault_any w E j.s size j.now j.epoch j.fin (.map (some mb)) key none 0 0 HJR.out.sys HJ.out).mono ?_); rintro e w' ⟨rfl, rfl⟩; rw [HF.out]))
      go_ret
      rw [HP2.out]
      exact ⟨ret_int rfl, HJR.out, Only.refl _ _⟩
    · have hp2 : E.drop size j key = E.write size j (bodyB key [] true) (kdel j.m key) := by rw [HP.out, if_neg (by simp), if_neg (by rw [hg]; simp)]; rfl
      have HP2 := Lib.hid hp2
      clear hp2 hg hR' hn' hO'
      go_enter Try.func23, Try.ntmps23
      go_wp2_with (go_at_call 37; ((with_reducible refine (jfault_any w E j.s size j.now j.epoch j.fin (.map (some mb)) key none 0 0 HJR.out.sys HJ.out).mono ?_); rintro e w' ⟨rfl, rfl⟩; rw [HF.out]))
      refine (jclone_any w E.JS mb j.m HV.out HLJ.out).mono ?_
      rintro e w1 ⟨rfl, v1, v2⟩
      obtain ⟨w3, hrun3, v4, v5⟩ := v1.drop (k := (key : Int)) ⟨by omega, by omega⟩ 0
      have hO3 : Only noB w w3 := v2.trans v5 (fun x hx e => by omega)
      have V4 := Lib.hid v4; have HO3 := Lib.hid hO3
      clear v1 v2 v4 v5 hO3
      go_wp2_with fail
      refine (body_any w3 key none 0 0 [] true (by omega) rfl (by omega) (.inl rfl) (fun _ => rfl)).mono ?_
      rintro e w4 ⟨v, rfl, u1, u2⟩
      obtain ⟨a4, c4, rfl, u3, u4, u5, u6⟩ := u1.form
      have hb6 : (bodyB key [] true).length = 6 := bodyB_len _ _ _
      rw [hb6] at u5 ⊢
      have U2 := Lib.hid u2; have U3 := Lib.hid u3; have U4 := Lib.hid u4; have B6 := Lib.hid hb6
      clear u1 u2 u3 u4 u5 u6 hb6
      go_wp2_with fail
      refine (write_any w4 E size w.heap.size (.map (some mb)) j (kdel j.m key) a4 6 c4 (bodyB key [] true) (HJR.out.sys.keep0 (HO3.out.then U2.out)) (HJ.out.keep0 (HO3.out.then U2.out)) HJR.out.ap (V4.out.keep0 U2.out) HJR.out.ok.1 HJR.out.ok.2.1 HJR.out.sz (Nat.le_trans HJR.out.ok.2.2 HJR.out.sz) B6.out (by omega) U3.out (U4.out.off _ (fun k hk => Nat.lt_of_lt_of_le (HLJ.out k hk) HO3.out.size))).mono ?_
      rintro e w5 ⟨rfl, u1, u2, u3⟩
      have X := Lib.hid (put_of (HO3.out.then U2.out) (HV.out.keep0 (HO3.out.then U2.out)) (V4.out.keep0 U2.out) HJR.out.ap HJR.out.ok HJR.out.sz u1 u2 u3)
      clear u1 u2 u3
      go_wp2
      go_ret
      rw [HP2.out]
      exact X.out
  · have hbz : (F != 0) = true := by simpa using hz
    have hp2 : E.drop size j k = (F, j) := by rw [HP.out, if_pos hz]
    have HP2 := Lib.hid hp2; clear hp2 hlook
    go_enter Try.func23, Try.ntmps23
    go_wp2_with (go_at_call 37; ((with_reducible refine (jfault_any w E j.s size j.now j.epoch j.fin (.map (some mb)) k none 0 0 HJR.out.sys HJ.out).mono ?_); rintro e w' ⟨rfl, rfl⟩; rw [HF.out]))
    go_ret
    rw [HP2.out]
    exact ⟨ret_int rfl, HJR.out, Only.refl _ _⟩

end Go.Proofs.Ytdnpmkejondpoaa

/- The journal is opened, as plain data. -/
namespace Go.Proofs.Ytdnpmkejondpoaa
open Go.RowKit Go.Maps
set_option linter.unusedVariables false
set_option linter.unusedSimpArgs false

def Env.open' (E : Env) (size : Nat) (s : FSt) : Int × JSt :=
  if s.down = true then (30, ⟨s, 0, 0, 0, []⟩) else if size < 32 then (53, ⟨s, 0, 0, 0, []⟩)
  else if (headsF (E.bytes s 0 size) (E.bytes s 1 size) 0 0).found = false then E.move size ⟨s, 1, 0, 0, []⟩ []
  else match replayB (E.bytes s (headsF (E.bytes s 0 size) (E.bytes s 1 size) 0 0).now size) with
    | none => (40, ⟨s, 0, 0, 0, []⟩)
    | some (m, i) =>
      if tornB (E.bytes s (headsF (E.bytes s 0 size) (E.bytes s 1 size) 0 0).now size) i = true then E.move size ⟨s, (headsF (E.bytes s 0 size) (E.bytes s 1 size) 0 0).now, (headsF (E.bytes s 0 size) (E.bytes s 1 size) 0 0).epoch, i, m⟩ m
      else (0, ⟨s, (headsF (E.bytes s 0 size) (E.bytes s 1 size) 0 0).now, (headsF (E.bytes s 0 size) (E.bytes s 1 size) 0 0).epoch, i, m⟩)

def Env.at (E : Env) (jb : Nat) : Env := { E with jb := jb }
theorem Env.at_move (E : Env) (jb size : Nat) (j : JSt) (m : Vals) : (E.at jb).move size j m = E.move size j m := rfl
theorem SysR.at {w : World} {E : Env} {s : FSt} (h : SysR w E s) (jb : Nat) : SysR w (E.at jb) s := ⟨h.fl, h.a, h.b, h.f0, h.f1, h.na, h.nb⟩
theorem SysR.of_at {w : World} {E : Env} {s : FSt} {jb : Nat} (h : SysR w (E.at jb) s) : SysR w E s := ⟨h.fl, h.a, h.b, h.f0, h.f1, h.na, h.nb⟩
theorem SysR.apart {w : World} {E : Env} {s : FSt} (h : SysR w E s) : (E.at w.heap.size).apart :=
  ⟨fun hk => by have := h.ltF _ hk; exact Nat.lt_irrefl _ this, fun e => by have := Row.lt h.a; have e2 : w.heap.size = E.pa := e; omega, fun e => by have := Row.lt h.b; have e2 : w.heap.size = E.pb := e; omega⟩

theorem headsStep_now {b : List UInt8} {i : Nat} {h : Heads} (hi : i ≤ 1) (hh : h.now ≤ 1) : (headsStep b i h).now ≤ 1 := by
  unfold headsStep; split; exact hi; exact hh
theorem headsF_now (b0 b1 : List UInt8) : (headsF b0 b1 0 0).now ≤ 1 := headsStep_now (by omega) (headsStep_now (by omega) (by show (0 : Nat) ≤ 1; omega))
theorem headsF_lt (b0 b1 : List UInt8) : (headsF b0 b1 0 0).epoch < 4294967296 := headsStep_lt (headsStep_lt (by show (0 : Nat) < _; omega))
theorem headsF_none {b0 b1 : List UInt8} (h : (headsF b0 b1 0 0).found = false) : headsF b0 b1 0 0 = ⟨false, 0, 0⟩ := by
  unfold headsF headsStep at *
  by_cases h0 : b0.getD 0 0 = 0 <;> by_cases h1 : b1.getD 0 0 = 0 <;> simp only [h0, h1] at * <;> simp at h ⊢
  all_goals (split at h <;> cases h)

def OpenJPost (E : Env) (size : Nat) (r : Int × JSt) (w : World) (e : Ending) (w' : World) : Prop :=
  Only E.FS w w' ∧ SysR w' E r.2.s ∧ (r.1 ≠ 0 → e = .returned (.tuple #[.pointer none, .int .i64 r.1])) ∧
  (r.1 = 0 → ∃ jb, w.heap.size ≤ jb ∧ e = .returned (.tuple #[.pointer (some ⟨jb, 0, none⟩), .int .i64 0]) ∧ JR w' (E.at jb) size r.2)

end Go.Proofs.Ytdnpmkejondpoaa

/- The journal is opened. -/
namespace Go.Proofs.Ytdnpmkejondpoaa
open Go.RowKit Go.Maps
set_option linter.unusedVariables false
set_option linter.unusedSimpArgs false

theorem JRow.c7at {w : World} {E : Env} {jb size now epoch fin : Nat} {mv : Value} (h : JRow w (E.at jb) size now epoch fin mv) :
    (w.cell? ⟨jb, 0, none⟩ = some (.pointer (some ⟨E.pa, 0, none⟩)) ∧ w.cell? ⟨jb, 1, none⟩ = some (.pointer (some ⟨E.pb, 0, none⟩)) ∧ w.cell? ⟨jb, 2, none⟩ = some (.int .i64 (size : Int)) ∧ w.cell? ⟨jb, 3, none⟩ = some (.int .i64 (now : Int)) ∧ w.cell? ⟨jb, 4, none⟩ = some (.int .u32 (epoch : Int)) ∧ w.cell? ⟨jb, 5, none⟩ = some (.int .i64 (fin : Int)) ∧ w.cell? ⟨jb, 6, none⟩ = some mv) ∧
    (∀ i, w.frozen? ⟨jb, i, none⟩ = false) ∧ jb < w.heap.size := ⟨Row.c7 h, Row.z h, Row.lt h⟩

/-- behind a move while it is opened -/
theorem open_move {w w4 w5 : World} {E : Env} {size mb : Nat} {j : JSt} (ho : Only noB w w4) (hap : (E.at w.heap.size).apart) (hV : JV w4 (E.at w.heap.size).JS mb j.m) (hok : j.ok size) (hsz : size ≤ 262144)
    (h1 : SysR w5 (E.at w.heap.size) (E.move size j j.m).2.s) (h2 : JRow w5 (E.at w.heap.size) size (E.move size j j.m).2.now (E.move size j j.m).2.epoch (E.move size j j.m).2.fin (if (E.move size j j.m).1 = 0 then .map (some mb) else .map (some mb)))
    (h3 : Only (E.at w.heap.size).JS w4 w5) : Only E.FS w w5 ∧ SysR w5 E (E.move size j j.m).2.s ∧ JR w5 (E.at w.heap.size) size (E.move size j j.m).2 := by
  rw [ite_self] at h2
  refine ⟨ho.ofNo.trans h3 (fun x hx e => ?_), h1.of_at, ⟨h1, ⟨mb, h2, ?_⟩, hap, move_ok E size j j.m hok, hsz⟩⟩
  · rcases e with e | e
    · exact e
    · have e2 : x = w.heap.size := e; omega
  · rw [move_m, ite_self]; exact hV.keep h3

set_option maxRecDepth 100000 in
set_option maxHeartbeats 4000000 in
theorem open_any (w : World) (E : Env) (s : FSt) (size : Nat) (hS : SysR w E s) (h0 : E.p0.size s = size) (h1 : E.p1.size s = size) :
    Calls Try.prog 10 #[.pointer (some ⟨E.pa, 0, none⟩), .pointer (some ⟨E.pb, 0, none⟩)] w (OpenJPost E size (E.open' size s) w) := by
  have hsz : size ≤ 262144 := by have := (hS.f0.room hS.fl.ok).2.2.1; omega
  have hmm := @run_makeMap Try.prog
  have HS := Lib.hid hS; have H0 := Lib.hid h0; have H1 := Lib.hid h1
  obtain ⟨d, hd⟩ : ∃ d, s.down = d := ⟨_, rfl⟩
  have HD := Lib.hid hd
  clear hS h0 h1 hd
  go_enter Try.func10, Try.ntmps10
  go_wp2_with fail
  refine (psize_any w E.pa E.f E.bb E.bw E.p0 s HS.out.a HS.out.fl HS.out.f0).mono ?_
  rintro e w1 ⟨rfl, n1, rfl⟩
  rw [H0.out]
  go_wp2_with fail
  refine (psize_any (w.drewN n1) E.pb E.f E.bb E.bw E.p1 s (HS.out.b.drewN n1) (HS.out.fl.drewN n1) HS.out.f1).mono ?_
  rintro e w1 ⟨rfl, n2, rfl⟩
  rw [H1.out]
  go_wp2_with fail
  obtain ⟨w1, hw1⟩ : ∃ x, (w.drewN (n1 + n2)).alloc (.cells #[.pointer (some ⟨E.pa, 0, none⟩), .pointer (some ⟨E.pb, 0, none⟩), .int .i64 (size : Int), .int .i64 0, .int .u32 0, .int .i64 0, .map none] 66) = x := ⟨_, rfl⟩
  rw [hw1]
  have hO1 : Only noB w w1 := by rw [← hw1]; exact ((Only.refl noB w).drewN _).alloc _
  have hJ1 : JRow w1 (E.at w.heap.size) size 0 0 0 (.map none) := by rw [← hw1]; exact Row.new (w.drewN (n1 + n2)) _ _
  have hsz1 : w1.heap.size = w.heap.size + 1 := by rw [← hw1]; simp
  clear hw1
  have HS1 := Lib.hid (HS.out.keep0 hO1)
  have HJ1 := Lib.hid hJ1
  have HO1 := Lib.hid hO1
  have HSZ := Lib.hid hsz1
  obtain ⟨⟨c0, c1, c2, c3, c4, c5, c6⟩, zj, hjl⟩ := hJ1.c7at
  have HAP := Lib.hid HS.out.apart
  clear hJ1 hO1 hsz1
  cases d with
  | true =>
    have ho : E.open' size s = (30, ⟨s, 0, 0, 0, []⟩) := by unfold Env.open'; rw [if_pos HD.out]
    have HOP := Lib.hid ho; clear ho
    go_wp2_with (first
      | (go_at_call 31; first | ((with_reducible refine (pflash_any w1 E.pa E.f E.p0 HS1.out.a).mono ?_); rintro e w' ⟨rfl, rfl⟩) | ((with_reducible refine (pflash_any w1 E.pb E.f E.p1 HS1.out.b).mono ?_); rintro e w' ⟨rfl, rfl⟩))
      | (go_at_call 32; (with_reducible refine (fdown_any w1 E.f E.bb E.bw s HS1.out.fl).mono ?_); rintro e w' ⟨rfl, rfl⟩; rw [HD.out]))
    go_ret2
    rw [HOP.out]
    exact ⟨HO1.out.ofNo, HS1.out, fun _ => rfl, fun h => absurd h (by simp)⟩
  | false =>
    by_cases h32 : size < 32
    · have ho : E.open' size s = (53, ⟨s, 0, 0, 0, []⟩) := by unfold Env.open'; rw [if_neg (by rw [HD.out]; decide), if_pos h32]
      have HOP := Lib.hid ho; clear ho
      have h32' : (size : Int) < 32 := by omega
      go_wp2_with (first
      | (go_at_call 31; first | ((with_reducible refine (pflash_any w1 E.pa E.f E.p0 HS1.out.a).mono ?_); rintro e w' ⟨rfl, rfl⟩) | ((with_reducible refine (pflash_any w1 E.pb E.f E.p1 HS1.out.b).mono ?_); rintro e w' ⟨rfl, rfl⟩))
      | (go_at_call 32; (with_reducible refine (fdown_any w1 E.f E.bb E.bw s HS1.out.fl).mono ?_); rintro e w' ⟨rfl, rfl⟩; rw [HD.out]))
      go_ret2
      rw [HOP.out]
      exact ⟨HO1.out.ofNo, HS1.out, fun _ => rfl, fun h => absurd h (by simp)⟩
    · obtain ⟨b0, hb0⟩ : ∃ b0, E.bytes s 0 size = b0 := ⟨_, rfl⟩
      obtain ⟨b1, hb1⟩ : ∃ b1, E.bytes s 1 size = b1 := ⟨_, rfl⟩
      obtain ⟨⟨fd, nw, ep⟩, hh⟩ : ∃ h, headsF b0 b1 0 0 = h := ⟨_, rfl⟩
      have hnw : nw ≤ 1 := by have := headsF_now b0 b1; rw [hh] at this; exact this
      have hep : ep < 4294967296 := by have := headsF_lt b0 b1; rw [hh] at this; exact this
      have hnone : fd = false → nw = 0 ∧ ep = 0 := by
        intro h; have := headsF_none (b0 := b0) (b1 := b1) (by rw [hh]; exact h); rw [hh] at this
        simp only [Heads.mk.injEq] at this; exact this.2
      have ho : E.open' size s = if fd = false then E.move size ⟨s, 1, 0, 0, []⟩ [] else match replayB (E.bytes s nw size) with
          | none => (40, ⟨s, 0, 0, 0, []⟩)
          | some (m, i) => if tornB (E.bytes s nw size) i = true then E.move size ⟨s, nw, ep, i, m⟩ m else (0, ⟨s, nw, ep, i, m⟩) := by
        unfold Env.open'; rw [if_neg (by rw [HD.out]; decide), if_neg h32, hb0, hb1, hh]
        all_goals rfl
      have h32' : ¬ (size : Int) < 32 := by omega
      have HB0 := Lib.hid hb0; have HB1 := Lib.hid hb1; have HH := Lib.hid hh; have HOP := Lib.hid ho; have HNN := Lib.hid hnone
      clear hb0 hb1 hh ho hnone
      go_wp2_with (first
      | (go_at_call 31; first | ((with_reducible refine (pflash_any w1 E.pa E.f E.p0 HS1.out.a).mono ?_); rintro e w' ⟨rfl, rfl⟩) | ((with_reducible refine (pflash_any w1 E.pb E.f E.p1 HS1.out.b).mono ?_); rintro e w' ⟨rfl, rfl⟩))
      | (go_at_call 32; (with_reducible refine (fdown_any w1 E.f E.bb E.bw s HS1.out.fl).mono ?_); rintro e w' ⟨rfl, rfl⟩; rw [HD.out]))
      refine (heads_any w1 (E.at w.heap.size) s size 0 0 0 (.map none) (HS1.out.at _) HJ1.out HAP.out HD.out (by omega) hsz (by show size ≤ E.p0.size s; rw [H0.out]; exact Nat.le_refl _) (by show size ≤ E.p1.size s; rw [H1.out]; exact Nat.le_refl _) (by omega)).mono ?_
      rintro e w2 ⟨rfl, u1, u2⟩
      have hbe : headsF ((E.at w.heap.size).bytes s 0 size) ((E.at w.heap.size).bytes s 1 size) 0 0 = ⟨fd, nw, ep⟩ := by
        show headsF (E.bytes s 0 size) (E.bytes s 1 size) 0 0 = _
        rw [HB0.out, HB1.out, HH.out]
      rw [hbe] at u1 ⊢
      have HS2 := Lib.hid ((HS1.out.at w.heap.size).keepJ HAP.out u2)
      have HJ2 := Lib.hid u1
      have HO2 := Lib.hid (HO1.out.trans u2 (fun x hx e => by have e2 : x = w.heap.size := e; omega))
      obtain ⟨⟨d0, d1, d2, d3, d4, d5, d6⟩, zj2, hjl2⟩ := u1.c7at
      clear u1 u2 hbe c0 c1 c2 c3 c4 c5 c6 zj hjl
      cases fd with
      | false =>
        obtain ⟨rfl, rfl⟩ := HNN.out rfl
        have ho : E.open' size s = E.move size ⟨s, 1, 0, 0, []⟩ [] := by rw [HOP.out, if_pos rfl]
        have HO := Lib.hid ho; clear ho HOP
        go_wp2_with fail
        have hOj : Only (fun x => x = (E.at w.heap.size).jb) w2 (((w2.setCell ⟨w.heap.size, 6, none⟩ (.map (some w2.heap.size))).setCell ⟨w.heap.size, 3, none⟩ (.int .i64 1)).alloc (.map #[] 0)) :=
          (((Only.refl (fun x => x = (E.at w.heap.size).jb) w2).set w.heap.size 6 (.map (some w2.heap.size)) rfl).set w.heap.size 3 (.int .i64 1) rfl).alloc (.map #[] 0)
        have hjv := JV.new ((w2.setCell ⟨w.heap.size, 6, none⟩ (.map (some w2.heap.size))).setCell ⟨w.heap.size, 3, none⟩ (.int .i64 1)) (E.at w.heap.size).JS (by
          rw [setCell_size', setCell_size']; intro h
          have := HS2.out.ltJ hjl2 _ h; omega)
        rw [setCell_size', setCell_size'] at hjv
        have hrow : JRow (((w2.setCell ⟨w.heap.size, 6, none⟩ (.map (some w2.heap.size))).setCell ⟨w.heap.size, 3, none⟩ (.int .i64 1)).alloc (.map #[] 0)) (E.at w.heap.size) size 1 0 0 (.map (some w2.heap.size)) := by
          have := ((Row.set HJ2.out 6 (.map (some w2.heap.size))).set 3 (.int .i64 1)).alloc (.map #[] 0)
          exact this
        have hO3 : Only noB w (((w2.setCell ⟨w.heap.size, 6, none⟩ (.map (some w2.heap.size))).setCell ⟨w.heap.size, 3, none⟩ (.int .i64 1)).alloc (.map #[] 0)) :=
          HO2.out.trans hOj (fun x hx e => by have e2 : x = w.heap.size := e; omega)
        have hS3 := HS2.out.keepJ HAP.out hOj
        generalize ((w2.setCell ⟨w.heap.size, 6, none⟩ (.map (some w2.heap.size))).setCell ⟨w.heap.size, 3, none⟩ (.int .i64 1)).alloc (.map #[] 0) = w3 at hjv hrow hO3 hS3 ⊢
        generalize w2.heap.size = mb at hjv hrow ⊢
        have HV3 := Lib.hid hjv; have HJ3 := Lib.hid hrow; have HO3 := Lib.hid hO3; have HS3 := Lib.hid hS3
        clear hjv hrow hO3 hS3 hOj d0 d1 d2 d3 d4 d5 d6 zj2 hjl2
        refine (move_any w3 (E.at w.heap.size) size mb (.map (some mb)) ⟨s, 1, 0, 0, []⟩ [] 0 HS3.out HJ3.out HAP.out HV3.out rfl (by show (0 : Nat) < _; omega) hsz).mono ?_
        rintro e w4 ⟨rfl, u1, u2, u3⟩
        have X := open_move (j := ⟨s, 1, 0, 0, []⟩) HO3.out HAP.out HV3.out ⟨by show 1 ≤ 1; omega, by show (0 : Nat) < _; omega, by show 0 ≤ size; omega⟩ hsz u1 u2 u3
        have X := Lib.hid X
        clear u1 u2 u3
        rw [Env.at_move]
        obtain ⟨F, hF⟩ : ∃ F, (E.move size ⟨s, 1, 0, 0, []⟩ []).1 = F := ⟨_, rfl⟩
        rw [hF]
        have HF := Lib.hid hF; clear hF
        by_cases hz : F = 0
        · subst hz
          go_wp2
          go_ret2
          rw [HO.out]
          exact ⟨X.out.1, X.out.2.1, fun h => absurd HF.out h, fun _ => ⟨w.heap.size, Nat.le_refl _, rfl, X.out.2.2⟩⟩
        · have hbz : (F != 0) = true := by simpa using hz
          have Z := Lib.hid hz; clear hz
          go_wp2
          go_ret2
          rw [HO.out]
          exact ⟨X.out.1, X.out.2.1, fun _ => by rw [HF.out]; rfl, fun h => absurd (HF.out.symm.trans h) Z.out⟩
      | true =>
        obtain ⟨b, hb⟩ : ∃ b, E.bytes s nw size = b := ⟨_, rfl⟩
        rw [hb, if_neg (by decide)] at HOP
        have hbl : b.length = size := by
          have hr := (HS.out.fits nw).room HS.out.fl.ok
          have hps : (E.part nw).size s = size := by unfold Env.part; split; exact H0.out; exact H1.out
          rw [← hb]; unfold Env.bytes; simp; omega
        have HB := Lib.hid hb; have HBL := Lib.hid hbl
        clear hb hbl
        go_wp2_with fail
        refine (replay_any w2 (E.at w.heap.size) s size nw ep 0 (.map none) HS2.out HJ2.out HAP.out HD.out hnw (by omega) hsz (by show size ≤ (E.part nw).size s; unfold Env.part; split; (rw [H0.out]; exact Nat.le_refl _); (rw [H1.out]; exact Nat.le_refl _)) b HB.out).mono ?_
        rintro e w3 hpost
        unfold ReplayPost at hpost
        obtain ⟨rb, hrb⟩ : ∃ rb, replayB b = rb := ⟨_, rfl⟩
        rw [hrb] at hpost
        cases rb with
        | none =>
          obtain ⟨rfl, u1, fin', mv', u2⟩ := hpost
          have ho : E.open' size s = (40, ⟨s, 0, 0, 0, []⟩) := by rw [HOP.out, hrb]
          have HO := Lib.hid ho
          have HS3 := Lib.hid (HS2.out.keepJ HAP.out u1)
          have HO3 := Lib.hid (HO2.out.trans u1 (fun x hx e => by have e2 : x = w.heap.size := e; omega))
          clear ho u1 u2 hrb d0 d1 d2 d3 d4 d5 d6 zj2 hjl2 HOP
          go_wp2
          go_ret2
          rw [HO.out]
          exact ⟨HO3.out.ofNo, HS3.out.of_at, fun _ => rfl, fun h => absurd h (by simp)⟩
        | some p =>
          obtain ⟨m, i⟩ := p
          obtain ⟨rfl, u1, mb, u2, u3, u4, u5⟩ := hpost
          rw [HBL.out] at u5
          have HS3 := Lib.hid (HS2.out.keepJ HAP.out u1)
          have HO3 := Lib.hid (HO2.out.trans u1 (fun x hx e => by have e2 : x = w.heap.size := e; omega))
          have HJ3 := Lib.hid u2; have HV3 := Lib.hid u3
          obtain ⟨⟨k0, k1, k2, k3, k4, k5, k6⟩, zj3, hjl3⟩ := u2.c7at
          have hok : (⟨s, nw, ep, i, m⟩ : JSt).ok size := ⟨hnw, hep, u5⟩
          have HOK := Lib.hid hok
          obtain ⟨tn, htn⟩ : ∃ tn, tornB b i = tn := ⟨_, rfl⟩
          rw [htn]
          have ho : E.open' size s = if tn = true then E.move size ⟨s, nw, ep, i, m⟩ m else (0, ⟨s, nw, ep, i, m⟩) := by rw [HOP.out, hrb]; show (if tornB b i = true then _ else _) = _; rw [htn]
          have HO := Lib.hid ho
          clear ho u1 u2 u3 u4 hrb d0 d1 d2 d3 d4 d5 d6 zj2 hjl2 HOP hok htn
          cases tn with
          | false =>
            go_wp2
            go_ret2
            rw [HO.out, if_neg (by decide)]
            exact ⟨HO3.out.ofNo, HS3.out.of_at, fun h => absurd rfl h, fun _ => ⟨w.heap.size, Nat.le_refl _, rfl, ⟨HS3.out, ⟨mb, HJ3.out, HV3.out⟩, HAP.out, HOK.out, hsz⟩⟩⟩
          | true =>
            rw [if_pos rfl] at HO
            go_wp2_with fail
            refine (move_any w3 (E.at w.heap.size) size mb (.map (some mb)) ⟨s, nw, ep, i, m⟩ m (1 - nw) HS3.out HJ3.out HAP.out HV3.out (by show nw + (1 - nw) = 1; omega) hep hsz).mono ?_
            rintro e w4 ⟨rfl, u1, u2, u3⟩
            have X := Lib.hid (open_move (j := ⟨s, nw, ep, i, m⟩) HO3.out HAP.out HV3.out HOK.out hsz u1 u2 u3)
            clear u1 u2 u3
            rw [Env.at_move]
            obtain ⟨F, hF⟩ : ∃ F, (E.move size ⟨s, nw, ep, i, m⟩ m).1 = F := ⟨_, rfl⟩
            rw [hF]
            have HF := Lib.hid hF; clear hF
            by_cases hz : F = 0
            · subst hz
              go_wp2
              go_ret2
              rw [HO.out]
              exact ⟨X.out.1, X.out.2.1, fun h => absurd HF.out h, fun _ => ⟨w.heap.size, Nat.le_refl _, rfl, X.out.2.2⟩⟩
            · have hbz : (F != 0) = true := by simpa using hz
              have Z := Lib.hid hz; clear hz
              go_wp2
              go_ret2
              rw [HO.out]
              exact ⟨X.out.1, X.out.2.1, fun _ => by rw [HF.out]; rfl, fun h => absurd (HF.out.symm.trans h) Z.out⟩

end Go.Proofs.Ytdnpmkejondpoaa

/- Rows of pairs, in memory. -/
namespace Go.Proofs.Ytdnpmkejondpoaa
open Go.RowKit Go.Maps
set_option linter.unusedVariables false
set_option linter.unusedSimpArgs false

/-- the bytes lie in a block of bytes -/
def TB (w : World) (a : Option Addr) (l : List UInt8) : Prop := l = [] ∨ ∃ g o cs fz, a = some ⟨g, o, none⟩ ∧ w.heap[g]? = some (.cells cs 5 fz)
structure SlT (w : World) (S : Nat → Prop) (v : Value) (l : List UInt8) : Prop where
  ex : ∃ a c, v = .slice a l.length c ∧ RdB w a l ∧ (a = none → c = 0) ∧ OffB S a ∧ TB w a l

theorem OwnB.slT {w : World} {base : Nat} {v : Value} {l : List UInt8} (h : OwnB w base v l) (S : Nat → Prop) (hS : ∀ k, S k → k < base) : SlT w S v l := by
  obtain ⟨a, c, e, hr, hn, _, hc⟩ := h.form
  refine ⟨a, c, e, hr, hc, hn.off S hS, ?_⟩
  rcases h.2 with ⟨e2, h0⟩ | ⟨g, cap, cur, e2, hg, hh, _⟩
  · exact .inl (List.eq_nil_of_length_eq_zero h0)
  · rw [e] at e2; cases e2; exact .inr ⟨g, 0, cur, _, rfl, hh⟩
theorem SlT.keep {w w' : World} {S : Nat → Prop} {v : Value} {l : List UInt8} (h : SlT w S v l) (ho : Only S w w') : SlT w' S v l := by
  obtain ⟨a, c, e, hr, hn, hO, ht⟩ := h.ex
  refine ⟨a, c, e, hr.keep ho hO, hn, hO, ?_⟩
  rcases ht with h | ⟨g, o, cs, fz, rfl, hh⟩
  · exact .inl h
  · exact .inr ⟨g, o, cs, fz, rfl, ho.heap hh (hO _ rfl)⟩
theorem SlT.keepRow {w w' : World} {S : Nat → Prop} {v : Value} {l : List UInt8} (h : SlT w S v l) {g : Nat} {cs : Array Value} {fz : Nat × Nat} (hg : w.heap[g]? = some (.cells cs 78 fz)) (ho : Only (fun x => x = g) w w') : SlT w' S v l := by
  obtain ⟨a, c, e, hr, hn, hO, ht⟩ := h.ex
  have hoff : OffB (fun x => x = g) a ∨ l = [] := by
    rcases ht with h | ⟨g', o, cs', fz', rfl, hh⟩
    · exact .inr h
    · refine .inl fun p hp e => ?_
      cases hp
      simp only at e
      subst e
      rw [hh] at hg
      simp only [Option.some.injEq, Obj.cells.injEq] at hg
      exact absurd hg.2.1 (by decide)
  rcases hoff with hoff | h0
  · refine ⟨a, c, e, hr.keep ho hoff, hn, hO, ?_⟩
    rcases ht with h | ⟨g', o, cs', fz', rfl, hh⟩
    · exact .inl h
    · exact .inr ⟨g', o, cs', fz', rfl, ho.heap hh (hoff _ rfl)⟩
  · exact ⟨a, c, e, .inl h0, hn, hO, .inl h0⟩

inductive PRel (w : World) (S : Nat → Prop) : List (Int × Value) → Vals → Prop
  | nil : PRel w S [] []
  | cons {p : Int × Value} {q : Int × List UInt8} {vs : List (Int × Value)} {m : Vals} (h : p.1 = q.1 ∧ SlT w S p.2 q.2) (t : PRel w S vs m) : PRel w S (p :: vs) (q :: m)
theorem PRel.keep {w w' : World} {S : Nat → Prop} {vs : List (Int × Value)} {m : Vals} (h : PRel w S vs m) (ho : Only S w w') : PRel w' S vs m := by
  induction h with
  | nil => exact .nil
  | cons h t ih => exact .cons ⟨h.1, h.2.keep ho⟩ ih
theorem PRel.keepRow {w w' : World} {S : Nat → Prop} {vs : List (Int × Value)} {m : Vals} (h : PRel w S vs m) {g : Nat} {cs : Array Value} {fz : Nat × Nat} (hg : w.heap[g]? = some (.cells cs 78 fz)) (ho : Only (fun x => x = g) w w') : PRel w' S vs m := by
  induction h with
  | nil => exact .nil
  | cons h t ih => exact .cons ⟨h.1, h.2.keepRow hg ho⟩ ih
theorem PRel.len {w : World} {S : Nat → Prop} {vs : List (Int × Value)} {m : Vals} (h : PRel w S vs m) : vs.length = m.length := by
  induction h with
  | nil => rfl
  | cons h t ih => simp [ih]
theorem PRel.get {w : World} {S : Nat → Prop} {vs : List (Int × Value)} {m : Vals} (h : PRel w S vs m) : ∀ (i : Nat) (hi : i < vs.length) (hm : i < m.length), vs[i].1 = m[i].1 ∧ SlT w S vs[i].2 m[i].2 := by
  induction h with
  | nil => intro i hi _; simp at hi
  | @cons p q vs m h t ih =>
    intro i hi hm
    cases i with
    | zero => exact h
    | succ i => simpa using ih i (by simpa using hi) (by simpa using hm)
theorem PRel.app {w : World} {S : Nat → Prop} {vs us : List (Int × Value)} {m n : Vals} (h : PRel w S vs m) (k : PRel w S us n) : PRel w S (vs ++ us) (m ++ n) := by
  induction h with
  | nil => exact k
  | cons h t ih => exact .cons h ih

/-- the cells of pairs -/
def pcs (vs : List (Int × Value)) : List Value := vs.flatMap fun p => [.int .i64 p.1, p.2]
theorem pcs_len (vs : List (Int × Value)) : (pcs vs).length = vs.length * 2 := by
  induction vs with
  | nil => rfl
  | cons p r ih => unfold pcs at *; simp only [List.flatMap_cons, List.length_append, List.length_cons, List.length_nil, ih]; omega
theorem pcs_app (vs us : List (Int × Value)) : pcs (vs ++ us) = pcs vs ++ pcs us := by unfold pcs; simp
theorem pcs_get (vs : List (Int × Value)) : ∀ (i : Nat) (hi : i < vs.length), (pcs vs)[2 * i]? = some (.int .i64 vs[i].1) ∧ (pcs vs)[2 * i + 1]? = some vs[i].2 := by
  induction vs with
  | nil => intro i hi; simp at hi
  | cons p r ih =>
    intro i hi
    have e : pcs (p :: r) = .int .i64 p.1 :: p.2 :: pcs r := by unfold pcs; simp
    rw [e]
    cases i with
    | zero => exact ⟨rfl, rfl⟩
    | succ i =>
      have h := ih i (by simpa using hi)
      have e1 : 2 * (i + 1) = 2 * i + 1 + 1 := by omega
      rw [e1]
      simpa using h

/-- a row of pairs of the call's own -/
def OwnP (w : World) (base : Nat) (S : Nat → Prop) (v : Value) (m : Vals) : Prop :=
  ∃ vs, PRel w S vs m ∧ w.ownsRow base 78 2 v m.length (pcs vs)
/-- what reads as pairs -/
def RdP (w : World) (S : Nat → Prop) (v : Value) (m : Vals) : Prop :=
  ∃ a c vs, v = .slice a m.length c ∧ m.length ≤ c ∧ PRel w S vs m ∧ (m = [] ∨ ∃ g, a = some ⟨g, 0, none⟩ ∧ ¬ S g ∧ g < w.heap.size ∧ ∀ i, (hi : i < vs.length) → w.cell? ⟨g, 2 * i, none⟩ = some (.int .i64 vs[i].1) ∧ w.cell? ⟨g, 2 * i + 1, none⟩ = some vs[i].2)
theorem RdP.keep {w w' : World} {S : Nat → Prop} {v : Value} {m : Vals} (h : RdP w S v m) (ho : Only S w w') : RdP w' S v m := by
  obtain ⟨a, c, vs, e, hc, hp, hr⟩ := h
  refine ⟨a, c, vs, e, hc, hp.keep ho, ?_⟩
  rcases hr with h | ⟨g, ea, hg, hl, hcl⟩
  · exact .inl h
  · refine .inr ⟨g, ea, hg, Nat.lt_of_lt_of_le hl ho.size, fun i hi => ?_⟩
    have := hcl i hi
    rw [ho.cell (a := ⟨g, 2 * i, none⟩) hl hg, ho.cell (a := ⟨g, 2 * i + 1, none⟩) hl hg]
    exact this
theorem OwnP.rd {w : World} {base : Nat} {S : Nat → Prop} {v : Value} {m : Vals} (h : OwnP w base S v m) (hS : ∀ k, S k → k < base) : RdP w S v m := by
  obtain ⟨vs, hp, hl, h⟩ := h
  have hlen := hp.len
  rcases h with ⟨rfl, h0⟩ | ⟨g, cap, cur, rfl, hg, hh, h1, h2, h3, h4⟩
  · have : m = [] := List.eq_nil_of_length_eq_zero h0
    subst this
    exact ⟨none, 0, vs, rfl, by simp, hp, .inl rfl⟩
  · refine ⟨_, cap, vs, rfl, h1, hp, .inr ⟨g, rfl, fun hs => by have := hS g hs; omega, lt_of_block hh, fun i hi => ?_⟩⟩
    obtain ⟨e1, e2⟩ := pcs_get vs i hi
    rw [← h4, List.getElem?_take, if_pos (by omega), Array.getElem?_toList] at e1
    rw [← h4, List.getElem?_take, if_pos (by omega), Array.getElem?_toList] at e2
    constructor
    · simp [World.cell?, hh, e1]
    · simp [World.cell?, hh, e2]

def zeroPair : Value := .agg #[.int .i64 0, .slice none 0 0]
theorem infoPair : (Try.prog.info? 78).map (fun i => (i.zero, i.size, i.bytes)) = some (some zeroPair, 2, 32) := by kernel_rfl

theorem SlT.one {w : World} {S : Nat → Prop} {v : Value} {l : List UInt8} (h : SlT w S v l) : v.oneCell' = true := by
  obtain ⟨a, c, rfl, _⟩ := h.ex; rfl
theorem grown_row {w w' : World} {base n : Nat} {v : Value} {xs : List Value} (hown : w.ownsRow base 78 2 v n xs) (hg : w.grownBy w' v.ownBlock) :
    Only noB w w' ∨ ∃ g cs fz, w.heap[g]? = some (.cells cs 78 fz) ∧ base ≤ g ∧ Only (fun x => x = g) w w' := by
  rcases hown.2 with ⟨rfl, _⟩ | ⟨g, cap, cur, rfl, hgb, hh, _⟩
  · exact .inl ((Only.refl _ _).grown hg (fun k hk _ => by cases hk))
  · exact .inr ⟨g, cur, _, hh, hgb, (Only.refl _ _).grown hg (fun k hk _ => by simp [Value.ownBlock] at hk; exact hk.symm)⟩
/-- what is no row of pairs stays -/
def AsideP (w w' : World) : Prop := ∀ (g : Nat) (o : Obj), w.heap[g]? = some o → (∀ cs fz, o ≠ .cells cs 78 fz) → w'.heap[g]? = some o
theorem AsideP.ofNo {w w' : World} (h : Only noB w w') : AsideP w w' := fun g o hg _ => h.heap hg (noB_not _)
theorem AsideP.trans {a b c : World} (h : AsideP a b) (k : AsideP b c) : AsideP a c := fun g o hg ho => k g o (h g o hg ho) ho
/-- one pair more -/
theorem appP {w : World} {ops : Array Oper} {rest : List Oper} {o : Oper} {a : Act} {Q : Exit → Act → World → Prop} (s x : Operand) (hgd : o.guard = none)
    (ho : o.op = .call { callee := .builtin .append, args := #[s, x], argTypes := #[44, 44] })
    (base : Nat) (S : Nat → Prop) (v : Value) (m : Vals) (hs : a.eval s = v) (hown : OwnP w base S v m) (g c : Nat) (k : Int) (u : Value) (l : List UInt8) (hx : a.eval x = .slice (some ⟨g, 0, none⟩) 1 c)
    (h0 : w.cell? ⟨g, 0, none⟩ = some (.int .i64 k)) (h1 : w.cell? ⟨g, 1, none⟩ = some u) (hu : SlT w S u l) (hb : base ≤ w.heap.size) (hlen : m.length ≤ 1000000) (hSb : ∀ k, S k → k < base)
    (h : ∀ v' w', OwnP w' base S v' (m ++ [(k, l)]) → Only (fun k => base ≤ k) w w' → AsideP w w' → wpList Try.prog ops Q rest (a.put o.dst v') w') : wpList Try.prog ops Q (o :: rest) a w := by
  obtain ⟨i0, hi, hz0, hz1, hz2⟩ := info_parts infoPair
  obtain ⟨vs, hp, hrow⟩ := hown
  refine wpList_append_own w hgd s x 44 ho base 78 i0 zeroPair 2 32 Try.underlying44 hi hz0 hz1 hz2 rfl (by decide) v m.length (pcs vs) hs hrow ⟨g, 0, none⟩ 1 c [.int .i64 k, u] hx rfl ?_ ?_ (by simp only [maxLen]; omega) (by omega) hb ?_
  · intro j w0 hj
    match j, hj with
    | 0, hj => cases hj; exact h0
    | 1, hj => cases hj; exact h1
  · intro w0 hw
    simp only [List.mem_cons, List.not_mem_nil, or_false] at hw
    rcases hw with rfl | rfl
    · rfl
    · exact hu.one
  · intro v' w' h2 h3 _
    have hk : PRel w' S vs m ∧ SlT w' S u l ∧ Only (fun k => base ≤ k) w w' ∧ AsideP w w' := by
      rcases grown_row hrow h3 with ho | ⟨g', cs, fz, hh, hg, ho⟩
      · exact ⟨hp.keep ho.ofNo, hu.keep ho.ofNo, ho.ofNo, AsideP.ofNo ho⟩
      · exact ⟨hp.keepRow hh ho, hu.keepRow hh ho, ho.mono fun x _ e => by subst e; exact hg, fun q o hq hne => ho.heap hq (fun e => by have e2 : q = g' := e; rw [e2, hh] at hq; cases hq; exact hne _ _ rfl)⟩
    refine h v' w' ⟨vs ++ [(k, u)], hk.1.app (.cons ⟨rfl, hk.2.1⟩ .nil), ?_⟩ hk.2.2.1 hk.2.2.2
    rw [pcs_app, List.length_append]
    exact h2

end Go.Proofs.Ytdnpmkejondpoaa

/- The references' helpers: the same bytes? -/
namespace Go.Proofs.Ytdnpmkejondpoaa
open Go.RowKit Go.Maps
set_option linter.unusedVariables false
set_option linter.unusedSimpArgs false

theorem beq_drop {l1 l2 : List UInt8} (hl : l1.length = l2.length) {k : Nat} (hk : k < l1.length) : (l1.drop k == l2.drop k) = ((l1.getD k 0 == l2.getD k 0) && (l1.drop (k + 1) == l2.drop (k + 1))) := by
  have h2 : k < l2.length := by omega
  have e1 : l1.getD k 0 = l1[k] := by simp [List.getD, hk]
  have e2 : l2.getD k 0 = l2[k] := by simp [List.getD, h2]
  rw [List.drop_eq_getElem_cons hk, List.drop_eq_getElem_cons h2, e1, e2]
  rfl

set_option maxHeartbeats 800000 in
theorem same01_any (w : World) (a1 a2 : Option Addr) (n1 c1 n2 c2 : Nat) (l1 l2 : List UInt8) (hn1 : l1.length = n1) (hn2 : l2.length = n2) (h1 : RdB w a1 l1) (h2 : RdB w a2 l2) (hm : n1 ≤ 1000000) :
    Calls Try.prog 15 #[.slice a1 n1 c1, .slice a2 n2 c2] w (QuietPost (.bool (l1 == l2)) w) := by
  have N1 := Lib.hid hn1; have N2 := Lib.hid hn2; have H1 := Lib.hid h1; have H2 := Lib.hid h2
  clear hn1 hn2 h1 h2
  by_cases hne : n1 = n2
  · subst hne
    go_enter Try.func15, Try.ntmps15
    go_wp2
    go_loopw [5] (fun i wr => ∃ k d : Nat, i = .int .i64 (k : Int) ∧ k ≤ n1 ∧ wr = w.drewN d ∧ (l1 == l2) = (l1.drop k == l2.drop k)) (fun i _ => n1 - (intOf i).toNat)
    case atStart => exact ⟨0, 0, rfl, by omega, rfl, rfl⟩
    case round =>
      obtain ⟨k, d, rfl, hk, rfl, he⟩ := hrel
      have HE := Lib.hid he
      clear he
      by_cases hlt : k < n1
      · obtain ⟨g1, o1, rfl, q1⟩ := H1.out.at_ (by rw [N1.out]; omega)
        obtain ⟨g2, o2, rfl, q2⟩ := H2.out.at_ (by rw [N2.out]; omega)
        have cx := q1 k (by rw [N1.out]; exact hlt)
        have cy := q2 k (by rw [N2.out]; exact hlt)
        have hst := beq_drop (l1 := l1) (l2 := l2) (N1.out.trans N2.out.symm) (k := k) (by rw [N1.out]; exact hlt)
        obtain ⟨x, hx⟩ : ∃ x, l1.getD k 0 = x := ⟨_, rfl⟩
        obtain ⟨y, hy⟩ : ∃ y, l2.getD k 0 = y := ⟨_, rfl⟩
        rw [hx] at cx; rw [hy] at cy; rw [hx, hy] at hst
        have HST := Lib.hid hst
        clear hst hx hy q1 q2
        by_cases hxy : x = y
        · have hb : ((x.toNat : Int) == (y.toNat : Int)) = true := by rw [hxy]; simp
          have hst : (l1 == l2) = (l1.drop (k + 1) == l2.drop (k + 1)) := by rw [HE.out, HST.out, hxy]; simp
          have HS := Lib.hid hst
          clear hst hxy HST
          go_wp2
          go_quiet (skip)
          go_wp2
          exact ⟨⟨k + 1, _, by go_num, by omega, rfl, HS.out⟩, by simp [intOf]; omega⟩
        · have hb : ((x.toNat : Int) == (y.toNat : Int)) = false := by
            rw [beq_eq_false_iff_ne]; intro e; apply hxy; rw [← UInt8.toNat_inj]; omega
          have hst : (l1 == l2) = false := by rw [HE.out, HST.out]; simp [hxy]
          have HS := Lib.hid hst
          clear hst hxy HST
          go_wp2
          go_quiet (skip)
          go_wp2
          go_ret
          exact ⟨by rw [HS.out]; rfl, d + nq, by rw [World.drewN_drewN]⟩
      · obtain rfl : k = n1 := by omega
        go_wp2
        go_ret
        have e : (l1 == l2) = true := by rw [HE.out, List.drop_eq_nil_of_le (by rw [N1.out]; exact Nat.le_refl _), List.drop_eq_nil_of_le (by rw [N2.out]; exact Nat.le_refl _)]; rfl
        exact ⟨by rw [e]; rfl, d, rfl⟩
  · have hb : ((n1 : Int) != (n2 : Int)) = true := by rw [bne_iff_ne]; intro e; exact hne (by omega)
    have e : (l1 == l2) = false := by
      rw [beq_eq_false_iff_ne]; intro e; apply hne; rw [← N1.out, ← N2.out, e]
    have HE := Lib.hid e
    clear e hne
    go_enter Try.func15, Try.ntmps15
    go_wp2
    go_ret
    exact ⟨by rw [HE.out]; rfl, 0, rfl⟩

end Go.Proofs.Ytdnpmkejondpoaa

/- The law's pairs of a journal. -/
namespace Go.Proofs.Ytdnpmkejondpoaa
open Go.RowKit Go.Maps
set_option linter.unusedVariables false
set_option linter.unusedSimpArgs false

theorem OwnI.typed {w : World} {base : Nat} {v : Value} {l : List Int} (h : OwnI w base v l) :
    ∃ a c, v = .slice a l.length c ∧ (l = [] ∨ ∃ g cs fz, a = some ⟨g, 0, none⟩ ∧ base ≤ g ∧ w.heap[g]? = some (.cells cs 3 fz) ∧ ∀ (w' : World), w'.heap[g]? = some (.cells cs 3 fz) → ∀ i, (hi : i < l.length) → w'.cell? ⟨g, i, none⟩ = some (.int .i64 l[i])) := by
  rcases h.2 with ⟨rfl, h0⟩ | ⟨g, cap, cur, rfl, hg, hh, h1, h2, h3, h4⟩
  · have : l = [] := List.eq_nil_of_length_eq_zero h0
    subst this
    exact ⟨none, 0, rfl, .inl rfl⟩
  · refine ⟨_, cap, rfl, .inr ⟨g, cur, _, rfl, hg, hh, fun w' hw' i hi => ?_⟩⟩
    have h5 : (cur.toList.take (l.length * 1))[i]? = (l.map encZ)[i]? := by rw [h4]
    rw [List.getElem?_take, if_pos (by omega), Array.getElem?_toList] at h5
    simp [World.cell?, hw', h5, hi, encZ]

def PairsPost (E : Env) (m : Vals) (w : World) (e : Ending) (w' : World) : Prop := ∃ v, e = .returned v ∧ OwnP w' w.heap.size E.JS v m ∧ Only noB w w'

theorem OwnP.keep0 {w w' : World} {base : Nat} {S : Nat → Prop} {v : Value} {m : Vals} (h : OwnP w base S v m) (ho : Only noB w w') : OwnP w' base S v m := by
  obtain ⟨vs, hp, hl, h⟩ := h
  refine ⟨vs, hp.keep ho.ofNo, hl, ?_⟩
  rcases h with h0 | ⟨g, cap, cur, rfl, hg, hh, r⟩
  · exact .inl h0
  · exact .inr ⟨g, cap, cur, rfl, hg, ho.heap hh (noB_not _), r⟩
theorem OwnP.new (w : World) (S : Nat → Prop) : OwnP (w.alloc (.cells #[] 78)) w.heap.size S (.slice (some ⟨w.heap.size, 0, none⟩) 0 0) [] :=
  ⟨[], .nil, rfl, .inr ⟨w.heap.size, 0, #[], rfl, Nat.le_refl _, heap_alloc_new _ _, by simp, by simp, rfl, rfl⟩⟩

set_option maxRecDepth 100000 in
set_option maxHeartbeats 4000000 in
theorem pairs_any (w : World) (E : Env) (size : Nat) (j : JSt) (hJR : JR w E size j) :
    Calls Try.prog 18 #[.pointer (some ⟨E.jb, 0, none⟩)] w (PairsPost E j.m w) := by
  obtain ⟨mb, hJ, hV⟩ := hJR.row
  have hlJ := hJR.sys.ltJ (Row.lt hJ)
  have hms := hV.short
  have HJ := Lib.hid hJ; have HV := Lib.hid hV; have HLJ := Lib.hid hlJ
  clear hJR hJ hV hlJ
  go_enter Try.func18, Try.ntmps18
  go_wp2_with fail
  have hw1 : Only noB w (w.alloc (.cells #[] 78)) := (Only.refl _ _).alloc _
  refine (keys_any (w.alloc (.cells #[] 78)) E size j.now j.epoch j.fin mb E.JS j.m (Row.keep0 HJ.out hw1) (HV.out.keep0 hw1)).mono ?_
  rintro e w2 ⟨v, rfl, k1, k2⟩
  have hnew := (OwnP.new w E.JS).keep0 k2
  obtain ⟨a, c, rfl, hcells⟩ := k1.typed
  rw [List.length_map] at *
  have HO2 := Lib.hid (hw1.then k2); have HC := Lib.hid hcells; have HNEW := Lib.hid hnew
  clear k1 k2 hcells hnew hw1
  go_wp2_with fail
  go_loopw [3, 12] (fun v t wr => ∃ k : Nat, t = .int .i64 (k : Int) ∧ k ≤ j.m.length ∧ OwnP wr w.heap.size E.JS v (j.m.take k) ∧ Only noB w wr ∧ AsideP w2 wr) (fun _ t _ => j.m.length - (intOf t).toNat)
  case atStart => exact ⟨0, rfl, by omega, HNEW.out, HO2.out, AsideP.ofNo (Only.refl _ _)⟩
  case round =>
    obtain ⟨k, rfl, hk, hown, hO, hA⟩ := hrel
    have HOWN := Lib.hid hown; have HO := Lib.hid hO; have HA := Lib.hid hA
    clear hown hO hA
    by_cases hlt : k < j.m.length
    · obtain ⟨q, hq⟩ : ∃ q, j.m[k] = q := ⟨_, rfl⟩
      obtain ⟨x, l⟩ := q
      have hmem : (x, l) ∈ j.m := by rw [← hq]; exact List.getElem_mem hlt
      have hxk := HV.out.keys _ hmem
      have hkg := kget_mem HV.out.up hmem
      simp only at hxk
      have hcell : ∃ g, a = some ⟨g, 0, none⟩ ∧ wr.cell? ⟨g, k, none⟩ = some (.int .i64 x) ∧ g < wr.heap.size := by
        rcases HC.out with h | ⟨g, cs, fz, ea, hg, hh, h⟩
        · rw [List.map_eq_nil_iff] at h; rw [h] at hlt; simp at hlt
        · have hh2 := HA.out g _ hh (fun cs' fz' e => by simp only [Obj.cells.injEq] at e; exact absurd e.2.1 (by decide))
          have h2 := h wr hh2 k (by simpa using hlt)
          simp only [List.getElem_map, hq] at h2
          exact ⟨g, ea, h2, lt_of_block hh2⟩
      obtain ⟨g, rfl, cx, hgl⟩ := hcell
      have htk : j.m.take (k + 1) = j.m.take k ++ [(x, l)] := by rw [List.take_succ_eq_append_getElem hlt, hq]
      have HKG := Lib.hid hkg; have HTK := Lib.hid htk
      clear hkg htk hmem hq
      go_wp2_with fail
      refine (get_any wr E size j.now j.epoch j.fin mb E.JS j.m x (Row.keep0 HJ.out HO.out) (HV.out.keep0 HO.out) (by unfold inI; omega)).mono ?_
      rintro e w3 ⟨u1, u2⟩
      rw [HKG.out] at u2
      obtain ⟨v, rfl, u3⟩ := u2
      have U1 := Lib.hid u1
      have hT := Lib.hid (u3.slT E.JS (fun k hk => Nat.lt_of_lt_of_le (HLJ.out k hk) HO.out.size))
      clear u1 u3
      obtain ⟨a2, c2, rfl, _⟩ := hT.out.ex
      have hO3 := Lib.hid (HO.out.then U1.out)
      have hA3 := Lib.hid (HA.out.trans (AsideP.ofNo U1.out))
      have hown3 := Lib.hid (HOWN.out.keep0 U1.out)
      have hp : Only noB w3 (w3.alloc (.cells #[.int .i64 x, .slice a2 l.length c2] 78)) := (Only.refl _ _).alloc _
      have HP := Lib.hid hp
      clear hp
      go_wp2_with (at_builtin; refine appP (.tmp 24) (.tmp 28) rfl rfl w.heap.size E.JS _ (j.m.take k) rfl (hown3.out.keep0 HP.out) w3.heap.size 1 x (.slice a2 l.length c2) l rfl (by simp) (by simp) (hT.out.keep HP.out.ofNo) (Nat.le_trans hO3.out.size HP.out.size) (by rw [List.length_take]; omega) HLJ.out ?_; intro v4 w4 g1 g2 g3; have G1 := Lib.hid g1; have G2 := Lib.hid g2; have G3 := Lib.hid g3; clear g1 g2 g3)
      go_roundw
      case rel => exact ⟨k + 1, by go_num, by omega, by rw [HTK.out]; exact G1.out, (hO3.out.then HP.out).trans G2.out (fun y hy e => by omega), hA3.out.trans ((AsideP.ofNo HP.out).trans G3.out)⟩
      case measure => simp [intOf]; omega
    · obtain rfl : k = j.m.length := by omega
      go_wp2
      go_ret
      have := HOWN.out
      rw [List.take_length] at this
      exact ⟨_, rfl, this, HO.out⟩

end Go.Proofs.Ytdnpmkejondpoaa

/- The references' helpers: the same pairs? -/
namespace Go.Proofs.Ytdnpmkejondpoaa
open Go.RowKit Go.Maps
set_option linter.unusedVariables false
set_option linter.unusedSimpArgs false

theorem quietQd {P : Program} {f : FuncId} {args : Array Value} {w : World} {d n : Nat} {v : Value} (h : Calls P f args (w.drewN (d + n)) (QuietPost v (w.drewN (d + n)))) :
    Calls P f args (w.drewN (d + n)) fun e w'' => e = .returned v ∧ ∃ m, w'' = w.drewN (d + m) := h.mono fun _ _ ⟨he, m, hm⟩ => ⟨he, n + m, by rw [hm, World.drewN_drewN, Nat.add_assoc]⟩
theorem RdP.form {w : World} {S : Nat → Prop} {v : Value} {m : Vals} (h : RdP w S v m) : ∃ a c, v = .slice a m.length c ∧ m.length ≤ c ∧
    ∀ k, (hk : k < m.length) → ∃ g a2 c2, a = some ⟨g, 0, none⟩ ∧ g < w.heap.size ∧ w.cell? ⟨g, k * 2, none⟩ = some (.int .i64 m[k].1) ∧ w.cell? ⟨g, k * 2 + 1, none⟩ = some (.slice a2 m[k].2.length c2) ∧ RdB w a2 m[k].2 ∧ (a2 = none → c2 = 0) ∧ SlT w S (.slice a2 m[k].2.length c2) m[k].2 := by
  obtain ⟨a, c, vs, e, hc, hp, hr⟩ := h
  refine ⟨a, c, e, hc, fun k hk => ?_⟩
  have hl := hp.len
  obtain ⟨e1, e2⟩ := hp.get k (by omega) hk
  rcases hr with h | ⟨g, ea, hg, hgl, hcl⟩
  · subst h; simp at hk
  · obtain ⟨a2, c2, e3, r2, n2, _⟩ := e2.ex
    obtain ⟨q1, q2⟩ := hcl k (by omega)
    rw [Nat.mul_comm] at q1 q2
    rw [e1] at q1
    rw [e3] at q2 e2
    exact ⟨g, a2, c2, ea, hgl, q1, q2, r2, n2, e2⟩

theorem vals_drop {m1 m2 : Vals} (hl : m1.length = m2.length) {k : Nat} (hk : k < m1.length) : decide (m1.drop k = m2.drop k) = (decide (m1[k].1 = (m2[k]'(by omega)).1) && (m1[k].2 == (m2[k]'(by omega)).2) && decide (m1.drop (k + 1) = m2.drop (k + 1))) := by
  have h2 : k < m2.length := by omega
  rw [List.drop_eq_getElem_cons hk, List.drop_eq_getElem_cons h2]
  generalize m1[k] = p; generalize m2[k] = q
  obtain ⟨p1, p2⟩ := p; obtain ⟨q1, q2⟩ := q
  by_cases h1 : p1 = q1 <;> by_cases h2 : p2 = q2 <;> simp [h1, h2]

set_option maxRecDepth 100000 in
set_option maxHeartbeats 4000000 in
theorem same05_any (w : World) (S1 S2 : Nat → Prop) (v1 v2 : Value) (m1 m2 : Vals) (h1 : RdP w S1 v1 m1) (h2 : RdP w S2 v2 m2) (hm : m1.length ≤ 1000000) (hs : ∀ p ∈ m1, p.2.length ≤ 1000000) :
    Calls Try.prog 25 #[v1, v2] w (QuietPost (.bool (decide (m1 = m2))) w) := by
  obtain ⟨a1, c1, rfl, _, f1⟩ := h1.form
  obtain ⟨a2, c2, rfl, _, f2⟩ := h2.form
  have H1 := Lib.hid h1; have H2 := Lib.hid h2; have F1 := Lib.hid f1; have F2 := Lib.hid f2; have HS := Lib.hid hs
  clear h1 h2 f1 f2 hs
  obtain ⟨n1, hn1⟩ : ∃ n, m1.length = n := ⟨_, rfl⟩
  obtain ⟨n2, hn2⟩ : ∃ n, m2.length = n := ⟨_, rfl⟩
  rw [hn1] at hm ⊢; rw [hn2]
  have N1 := Lib.hid hn1; have N2 := Lib.hid hn2
  clear hn1 hn2
  by_cases hne : n1 = n2
  · subst hne
    go_enter Try.func25, Try.ntmps25
    go_wp2
    go_loopw [5] (fun i wr => ∃ k d : Nat, i = .int .i64 (k : Int) ∧ k ≤ n1 ∧ wr = w.drewN d ∧ decide (m1 = m2) = decide (m1.drop k = m2.drop k)) (fun i _ => n1 - (intOf i).toNat)
    case atStart => exact ⟨0, 0, rfl, by omega, rfl, rfl⟩
    case round =>
      obtain ⟨k, d, rfl, hk, rfl, he⟩ := hrel
      have HE := Lib.hid he
      clear he
      by_cases hlt : k < n1
      · have hk1 : k < m1.length := by rw [N1.out]; exact hlt
        have hk2 : k < m2.length := by rw [N2.out]; exact hlt
        obtain ⟨g1, b1, d1, rfl, hg1, x1, y1, r1, _⟩ := F1.out k hk1
        obtain ⟨g2, b2, d2, rfl, hg2, x2, y2, r2, _⟩ := F2.out k hk2
        have hst := vals_drop (m1 := m1) (m2 := m2) (N1.out.trans N2.out.symm) hk1
        have hsm := HS.out _ (List.getElem_mem hk1)
        obtain ⟨q1, hq1⟩ : ∃ q, m1[k] = q := ⟨_, rfl⟩
        obtain ⟨q2, hq2⟩ : ∃ q, m2[k] = q := ⟨_, rfl⟩
        rw [hq1] at x1 y1 r1 hst hsm; rw [hq2] at x2 y2 r2 hst
        obtain ⟨k1, l1⟩ := q1; obtain ⟨k2, l2⟩ := q2
        simp only at x1 y1 r1 x2 y2 r2 hst hsm
        have R1 := Lib.hid r1; have R2 := Lib.hid r2; have HST := Lib.hid hst
        clear r1 r2 hst hq1 hq2
        obtain ⟨B, hB⟩ : ∃ B, (decide (k1 = k2) && (l1 == l2)) = B := ⟨_, rfl⟩
        have HB := Lib.hid hB
        clear hB
        have RD : ∀ q, RdB (w.drewN q) b1 l1 ∧ RdB (w.drewN q) b2 l2 := fun q => ⟨R1.out.keep0 ((Only.refl _ _).drewN q), R2.out.keep0 ((Only.refl _ _).drewN q)⟩
        have RDH := Lib.hid RD
        clear RD
        go_upto_region 6 with fail
        go_cut [41] from 11 to 41 (fun v w' => v = .bool (!B) ∧ ∃ q, w' = w.drewN q)
        case first =>
          by_cases hkk : k1 = k2
          · have hBB : (l1 == l2) = B := by rw [← HB.out, hkk]; simp
            have HBB := Lib.hid hBB
            subst hkk
            clear hBB
            go_quiet ((go_at_call 15; exact quietQd (same01_any _ b1 b2 l1.length d1 l2.length d2 l1 l2 rfl rfl (R1.out.keep0 ((Only.refl _ _).drewN _)) (R2.out.keep0 ((Only.refl _ _).drewN _)) hsm)))
            go_wp2_with fail
            go_meet
            exact ⟨by rw [HBB.out], d + nq, rfl⟩
          · have hb : (k1 == k2) = false := by simpa using hkk
            have hb2 : (k1 != k2) = true := by simpa using hkk
            have hBB : B = false := by rw [← HB.out]; simp [hkk]
            subst hBB
            clear hkk
            go_quiet (skip)
            go_wp2_with fail
            go_meet
            exact ⟨rfl, d + nq, by rw [World.drewN_drewN]⟩
        case rest =>
          obtain ⟨rfl, q, rfl⟩ := hcut
          cases B with
          | true =>
            have hst : decide (m1 = m2) = decide (m1.drop (k + 1) = m2.drop (k + 1)) := by rw [HE.out, HST.out, HB.out, Bool.true_and]
            have HS2 := Lib.hid hst
            clear hst
            go_wp2
            go_roundw
            case rel => exact ⟨k + 1, q, by go_num, by omega, rfl, HS2.out⟩
            case measure => simp [intOf]; omega
          | false =>
            have hst : decide (m1 = m2) = false := by rw [HE.out, HST.out, HB.out, Bool.false_and]
            have HS2 := Lib.hid hst
            clear hst
            go_wp2
            go_ret
            exact ⟨by rw [HS2.out]; rfl, q, rfl⟩
      · obtain rfl : k = n1 := by omega
        go_wp2
        go_ret
        have e : decide (m1 = m2) = true := by rw [HE.out, List.drop_eq_nil_of_le (by rw [N1.out]; exact Nat.le_refl _), List.drop_eq_nil_of_le (by rw [N2.out]; exact Nat.le_refl _)]; rfl
        exact ⟨by rw [e]; rfl, d, rfl⟩
  · have hb : ((n1 : Int) != (n2 : Int)) = true := by rw [bne_iff_ne]; intro e; exact hne (by omega)
    have e : decide (m1 = m2) = false := by
      rw [decide_eq_false_iff_not]; intro e; apply hne; rw [← N1.out, ← N2.out, e]
    have HE := Lib.hid e
    clear e hne
    go_enter Try.func25, Try.ntmps25
    go_wp2
    go_ret
    exact ⟨by rw [HE.out]; rfl, 0, rfl⟩

end Go.Proofs.Ytdnpmkejondpoaa

/- The law's groups. -/
namespace Go.Proofs.Ytdnpmkejondpoaa
open Go.RowKit Go.Maps
set_option linter.unusedVariables false
set_option linter.unusedSimpArgs false

def GroupsPost (size : Int) (w : World) (e : Ending) (w' : World) : Prop :=
  ∃ E : Env, e = .returned (.tuple #[.pointer (some ⟨E.f, 0, none⟩), .pointer (some ⟨E.pa, 0, none⟩), .pointer (some ⟨E.pb, 0, none⟩)]) ∧ SysR w' E (FSt.fresh (clampN 4) (clampZ size)) ∧ E.p0 = ⟨0, 2⟩ ∧ E.p1 = ⟨2, 2⟩ ∧ Only noB w w' ∧ (∀ k, E.FS k → w.heap.size ≤ k)

theorem groups_any (w : World) (size : Int) : Calls Try.prog 9 #[.int .i64 size] w (GroupsPost size w) := by
  have hw4 : (FSt.fresh (clampN 4) (clampZ size)).wear.length = 4 := by
    show (List.replicate (clampN 4).toNat (0 : Int)).length = 4
    rw [List.length_replicate]; rfl
  have f0 : (⟨0, 2⟩ : PSt).fits (FSt.fresh (clampN 4) (clampZ size)) := ⟨by show 1 ≤ 2; omega, by rw [hw4]; show 0 + 2 ≤ 4; omega⟩
  have f1 : (⟨2, 2⟩ : PSt).fits (FSt.fresh (clampN 4) (clampZ size)) := ⟨by show 1 ≤ 2; omega, by rw [hw4]; show 2 + 2 ≤ 4; omega⟩
  have F0 := Lib.hid f0; have F1 := Lib.hid f1
  clear hw4 f0 f1
  go_enter Try.func9, Try.ntmps9
  go_wp2_with fail
  refine (fnew_any w 4 size).mono ?_
  rintro e w1 ⟨f, bb, bw, rfl, h1, h2, h3, h4, h5⟩
  have H1 := Lib.hid h1; have H2 := Lib.hid h2
  clear h1 h2
  go_wp2_with fail
  refine (pnew_any w1 f bb bw ⟨0, 2⟩ _ H1.out F0.out).mono ?_
  rintro e w2 ⟨pa, rfl, k1, k2, k3⟩
  have K1 := Lib.hid k1; have K2 := Lib.hid k2
  clear k1 k2
  go_wp2_with fail
  refine (pnew_any w2 f bb bw ⟨2, 2⟩ _ (H1.out.keep0 K2.out) F1.out).mono ?_
  rintro e w3 ⟨pb, rfl, l1, l2, l3⟩
  have L1 := Lib.hid l1; have L2 := Lib.hid l2
  clear l1 l2
  go_wp2
  refine bodyPost_ret (v := .tuple #[.pointer (some ⟨f, 0, none⟩), .pointer (some ⟨pa, 0, none⟩), .pointer (some ⟨pb, 0, none⟩)]) (by simp [results, Try.results9, go_sem]) rfl ?_
  have hlt := FlashS.lt H1.out
  have hs2 := K2.out.size
  refine ⟨⟨f, bb, bw, pa, pb, 0, ⟨0, 2⟩, ⟨2, 2⟩⟩, rfl, ⟨(H1.out.keep0 K2.out).keep0 L2.out, K1.out.keep0 L2.out, L1.out, F0.out, F1.out, fun hk => ?_, fun hk => ?_⟩, rfl, rfl, (H2.out.then K2.out).then L2.out, fun k hk => ?_⟩
  · have := hlt pa hk; omega
  · have := hlt pb hk; omega
  · rcases hk with e | e | e
    · have e2 : k = f := e; omega
    · have e2 : k = bb := e; omega
    · have e2 : k = bw := e; omega

end Go.Proofs.Ytdnpmkejondpoaa

/- The document's example, as plain data. -/
namespace Go.Proofs.Ytdnpmkejondpoaa
open Go.RowKit Go.Maps
set_option linter.unusedVariables false
set_option linter.unusedSimpArgs false

def EA : Env := ⟨0, 0, 0, 0, 0, 0, ⟨0, 2⟩, ⟨2, 2⟩⟩
def s0A : FSt := FSt.fresh (clampN 4) (clampZ 32)
def r1A : Int × JSt := EA.open' 64 s0A
def r2A : Int × JSt := EA.put 64 r1A.2 3 [97, 98]
def r3A : Int × JSt := EA.open' 64 r2A.2.s
theorem alive1 : r1A.1 = 0 ∧ r1A.2.epoch = 1 := by decide +kernel
theorem alive2 : r2A.1 = 0 ∧ r2A.2.fin = 17 := by decide +kernel
theorem alive3 : r3A.1 = 0 ∧ r3A.2.m = [(3, [97, 98])] := by decide +kernel
theorem alive4 : (EA.put 64 r1A.2 3 [97, 98]).1 = 0 ∧ (EA.put 64 r2A.2 40 []).1 = 1 ∧ (EA.drop 64 r2A.2 5).1 = 4 := by decide +kernel
theorem alive5 : r2A.2.s.b.getD 0 9 = 0 ∧ r2A.2.s.b.getD 1 9 = 1 ∧ r2A.2.s.b.getD 8 9 = 3 ∧ r2A.2.s.b.getD 9 9 = 2 ∧ r2A.2.s.b.getD 10 9 = 97 ∧ r2A.2.s.b.getD 16 9 = 0 := by decide +kernel
theorem alive6 : (EA.drop 64 r3A.2 3).1 = 0 ∧ (EA.drop 64 r3A.2 3).2.m = [] ∧ r2A.2.m = [(3, [97, 98])] := by decide +kernel

/-- what the groups' places in memory have no part in -/
theorem open_same (E : Env) (h0 : E.p0 = ⟨0, 2⟩) (h1 : E.p1 = ⟨2, 2⟩) (size : Nat) (s : FSt) : E.open' size s = EA.open' size s := by
  obtain ⟨f, bb, bw, pa, pb, jb, p0, p1⟩ := E
  simp only at h0 h1; subst h0; subst h1; rfl
theorem put_same (E : Env) (h0 : E.p0 = ⟨0, 2⟩) (h1 : E.p1 = ⟨2, 2⟩) (size : Nat) (j : JSt) (k : Int) (l : List UInt8) : E.put size j k l = EA.put size j k l := by
  obtain ⟨f, bb, bw, pa, pb, jb, p0, p1⟩ := E
  simp only at h0 h1; subst h0; subst h1; rfl
theorem drop_same (E : Env) (h0 : E.p0 = ⟨0, 2⟩) (h1 : E.p1 = ⟨2, 2⟩) (size : Nat) (j : JSt) (k : Int) : E.drop size j k = EA.drop size j k := by
  obtain ⟨f, bb, bw, pa, pb, jb, p0, p1⟩ := E
  simp only at h0 h1; subst h0; subst h1; rfl

end Go.Proofs.Ytdnpmkejondpoaa
