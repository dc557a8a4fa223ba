/- Parts of a proof, joined: Crc1, Crc2, Crc3, Crc4. -/
import Derived.Test.YtdnpmkejondpoaaT2
import Derived.Test.YtdnpmkejondpoaaT8

/- The check sum: a byte is taken up. -/
namespace Go.Proofs.Ytdnpmkejondpoaa
open Go.RowKit
set_option linter.unusedVariables false
set_option linter.unusedSimpArgs false

def crcBit (r : Nat) : Nat := if r % 2 = 1 then (r / 2) ^^^ 3988292384 else r / 2
def crcBits : Nat → Nat → Nat
  | 0, r => r
  | n + 1, r => crcBits n (crcBit r)
def crcStep (r : Nat) (b : UInt8) : Nat := crcBits 8 (r ^^^ b.toNat)
theorem crcBit_lt {r : Nat} (h : r < 4294967296) : crcBit r < 4294967296 := by
  unfold crcBit
  split
  · exact Nat.xor_lt_two_pow (n := 32) (by omega) (by omega)
  · omega
theorem crcBits_lt (n : Nat) : ∀ {r : Nat}, r < 4294967296 → crcBits n r < 4294967296 := by
  induction n with
  | zero => intro r h; exact h
  | succ n ih => intro r h; exact ih (crcBit_lt h)
theorem crcStep_lt {r : Nat} (h : r < 4294967296) (b : UInt8) : crcStep r b < 4294967296 :=
  crcBits_lt 8 (Nat.xor_lt_two_pow (n := 32) (by omega) (by have := b.toNat_lt; omega))

set_option maxHeartbeats 400000 in
theorem step_any (w : World) (r : Nat) (b : UInt8) (hr : r < 4294967296) :
    Calls Try.prog 95 #[.int .u32 (r : Int), .int .u8 (b.toNat : Int)] w fun e w' => e = .returned (.int .u32 (crcStep r b : Int)) ∧ w = w' := by
  obtain ⟨x, hx⟩ : ∃ x, r ^^^ b.toNat = x := ⟨_, rfl⟩
  have hx1 : x < 4294967296 := by rw [← hx]; exact Nat.xor_lt_two_pow (n := 32) (by omega) (by have := b.toNat_lt; omega)
  have hw : bits .xor .u32 (r : Int) (b.toNat : Int) = (x : Int) := by rw [u32_xor_nat _ _ hr (by have := b.toNat_lt; omega), hx]
  have hc : crcStep r b = crcBits 8 x := by unfold crcStep; rw [hx]
  have HC := Lib.hid hc
  have rb := u8_range b
  clear hx hc
  go_enter Try.func95, Try.ntmps95
  go_wp2
  go_loop [0, 10] (fun v t => ∃ (k y : Nat), k ≤ 8 ∧ t = .int .i64 k ∧ v = .int .u32 y ∧ y < 4294967296 ∧ crcBits 8 x = crcBits (8 - k) y) (fun _ t => 8 - (intOf t).toNat)
  case atStart => exact ⟨0, x, by omega, rfl, rfl, hx1, rfl⟩
  case round =>
    obtain ⟨k, y, hk, rfl, rfl, hy, hrel⟩ := hrel
    have HL := Lib.hid hrel; clear hrel
    by_cases hlt : k < 8
    · obtain ⟨m, hm⟩ : ∃ m, 8 - k = m + 1 := ⟨7 - k, by omega⟩
      have hm2 : 8 - (k + 1) = m := by omega
      have HM := Lib.hid hm; have HM2 := Lib.hid hm2; clear hm hm2
      have hand : bits .and .u32 (y : Int) 1 = ((y % 2 : Nat) : Int) := by
        have := u32_and_nat y 1 hy (by omega)
        rw [nat_mask1] at this
        exact this
      have HA := Lib.hid hand; clear hand
      go_wp2
      · have ht : (bits BinOp.and IntKind.u32 (y : Int) 1 == 1) = true := by assumption
        rw [HA.out] at ht
        have hodd : y % 2 = 1 := by have h := ht; simp at h; omega
        go_round
        case rel =>
          refine ⟨k + 1, crcBit y, by omega, by go_num, ?_, crcBit_lt hy, ?_⟩
          · have := u32_xor_nat (y / 2) 3988292384 (by omega) (by omega)
            unfold crcBit; rw [if_pos hodd, ← this]; simp
          · rw [HL.out, HM.out, HM2.out]; rfl
        case measure => simp [intOf]; omega
      · have ht : (bits BinOp.and IntKind.u32 (y : Int) 1 == 1) = false := by assumption
        rw [HA.out] at ht
        have hodd : ¬ y % 2 = 1 := by have h := ht; simp at h; omega
        go_round
        case rel =>
          refine ⟨k + 1, crcBit y, by omega, by go_num, ?_, crcBit_lt hy, ?_⟩
          · unfold crcBit; rw [if_neg hodd]; simp
          · rw [HL.out, HM.out, HM2.out]; rfl
        case measure => simp [intOf]; omega
    · obtain rfl : k = 8 := by omega
      go_wp2
      go_ret
      exact ⟨ret_int (by rw [HC.out, HL.out]; rfl), rfl⟩

/-- the register behind bytes -/
def crcRun : Nat → List UInt8 → Nat
  | r, [] => r
  | r, b :: l => crcRun (crcStep r b) l
theorem crcRun_lt (l : List UInt8) : ∀ {r : Nat}, r < 4294967296 → crcRun r l < 4294967296 := by
  induction l with
  | nil => intro r h; exact h
  | cons b l ih => intro r h; exact ih (crcStep_lt h b)
theorem crcRun_cons (r : Nat) (b : UInt8) (l : List UInt8) : crcRun r (b :: l) = crcRun (crcStep r b) l := rfl
theorem crcRun_drop (r : Nat) (l : List UInt8) (k : Nat) (hk : k < l.length) : crcRun r (l.drop k) = crcRun (crcStep r (l.getD k 0)) (l.drop (k + 1)) := by
  have e : l.getD k 0 = l[k] := by simp [hk]
  rw [List.drop_eq_getElem_cons hk, crcRun_cons, e]
def crcM : Nat := 4294967295
theorem crcM_eq : crcM = 4294967295 := rfl
def crcSum (l : List UInt8) : Nat := crcM - crcRun crcM l
theorem crcSum_lt (l : List UInt8) : crcSum l < 4294967296 := by
  have h : crcSum l ≤ crcM := Nat.sub_le _ _
  have := crcM_eq
  omega

theorem not_u32 (y : Nat) (hy : y < 4294967296) : bits BinOp.xor IntKind.u32 IntKind.u32.max (y : Int) = ((crcM - y : Nat) : Int) := by
  have h := u32_xor_nat 4294967295 y (by omega) hy
  have e : 4294967295 ^^^ y = 4294967295 - y := by
    have h1 : (BitVec.allOnes 32 ^^^ BitVec.ofNat 32 y).toNat = (~~~ (BitVec.ofNat 32 y)).toNat := by rw [BitVec.allOnes_xor]
    rw [BitVec.toNat_xor, BitVec.toNat_allOnes, BitVec.toNat_not, BitVec.toNat_ofNat, Nat.mod_eq_of_lt (by omega)] at h1
    exact h1
  rw [e] at h
  exact h

set_option maxHeartbeats 400000 in
theorem extend_any (w : World) (a : Option Addr) (n c : Nat) (l : List UInt8) (hn : l.length = n) (hR : RdB w a l) (hm : n ≤ 140737488355328) :
    Calls Try.prog 83 #[.int .u32 0, .slice a n c] w fun e w' => e = .returned (.int .u32 (crcSum l : Int)) ∧ w = w' := by
  have HN := Lib.hid hn; have HR := Lib.hid hR
  clear hn hR
  go_enter Try.func83, Try.ntmps83
  go_wp2_with fail
  go_loop [5, 12] (fun v t => ∃ (k y : Nat), k ≤ n ∧ t = .int .i64 k ∧ v = .int .u32 y ∧ y < 4294967296 ∧ crcRun crcM l = crcRun y (l.drop k)) (fun _ t => n - (intOf t).toNat)
  case atStart => exact ⟨0, crcM, by omega, rfl, rfl, by have := crcM_eq; omega, rfl⟩
  case round =>
    obtain ⟨k, y, hk, rfl, rfl, hy, hrel⟩ := hrel
    have HL := Lib.hid hrel; clear hrel
    by_cases hlt : k < n
    · have hcell : ∃ g o, a = some ⟨g, o, none⟩ ∧ w.cell? ⟨g, o + k, none⟩ = some (.int .u8 ((l.getD k 0).toNat : Int)) := by
        obtain ⟨g, o, e, h⟩ := HR.out.at_ (by have := HN.out; omega)
        exact ⟨g, o, e, h k (by rw [HN.out]; exact hlt)⟩
      obtain ⟨g, o, rfl, hcell⟩ := hcell
      have r1 := u8_range (l.getD k 0)
      have hd := crcRun_drop y l k (by rw [HN.out]; exact hlt)
      have HD := Lib.hid hd; clear hd
      go_wp2_with (go_at_call 95; refine (step_any _ y (l.getD k 0) hy).mono ?_; rintro e w' ⟨rfl, rfl⟩)
      go_round
      case rel => exact ⟨k + 1, crcStep y (l.getD k 0), by omega, by go_num, rfl, crcStep_lt hy _, by rw [HL.out, HD.out]⟩
      case measure => simp [intOf]; omega
    · go_wp2
      go_ret
      have : l.drop k = [] := List.drop_of_length_le (by rw [HN.out]; omega)
      refine ⟨ret_int ?_, rfl⟩
      have e : crcRun crcM l = y := by rw [HL.out, this]; rfl
      have e2 : crcSum l = crcM - y := by unfold crcSum; rw [e]
      rw [e2]
      exact not_u32 y hy

theorem sum_any (w : World) (a : Option Addr) (n c : Nat) (l : List UInt8) (hn : l.length = n) (hR : RdB w a l) (hm : n ≤ 140737488355328) :
    Calls Try.prog 72 #[.slice a n c] w fun e w' => e = .returned (.int .u32 (crcSum l : Int)) ∧ w = w' := by
  have HN := Lib.hid hn; have HR := Lib.hid hR
  clear hn hR
  go_enter Try.func72, Try.ntmps72
  go_wp2_with (go_at_call 83; refine (extend_any _ _ _ _ l HN.out HR.out hm).mono ?_; rintro e w' ⟨rfl, rfl⟩)
  go_ret
  exact ⟨rfl, rfl⟩

end Go.Proofs.Ytdnpmkejondpoaa

/- The check sum laid behind bytes, and held against them. -/
namespace Go.Proofs.Ytdnpmkejondpoaa
open Go.RowKit
set_option linter.unusedVariables false
set_option linter.unusedSimpArgs false

def byteN (n i : Nat) : UInt8 := UInt8.ofNat (n / 256 ^ i % 256)
def put32 (n : Nat) : List UInt8 := [byteN n 0, byteN n 1, byteN n 2, byteN n 3]
theorem put32_len (n : Nat) : (put32 n).length = 4 := rfl

def OwnPost (l : List UInt8) (w : World) (e : Ending) (w' : World) : Prop :=
  ∃ v, e = .returned v ∧ OwnB w' w.heap.size v l ∧ Only noB w w'

theorem byteN_int (n i : Nat) : ((n / 256 ^ i % 256 : Nat) : Int) = ((byteN n i).toNat : Int) := by
  unfold byteN
  rw [UInt8.toNat_ofNat']
  simp
theorem rd_new1 (w : World) (c : Int) (x : UInt8) (h : c = (x.toNat : Int)) : RdB (w.alloc (.cells #[.int .u8 c] 5)) (some ⟨w.heap.size, 0, none⟩) [x] := by
  subst h
  exact .inr ⟨_, 0, rfl, fun i hi => by
    obtain rfl : i = 0 := by simpa using hi
    simp⟩
theorem len4 {l : List UInt8} {m : Nat} {k n : Nat} {x : UInt8} (h : l.length = m) (hm : m ≤ 140737488355000) : (l ++ (put32 n).take k).length + [x].length ≤ 140737488355328 := by
  simp [put32, h]; omega
theorem step_put {w wr w2 : World} {v2 : Value} {l : List UInt8} {o : Obj} {n i : Nat} {x : UInt8} (hB : Only noB w wr) (g1 : OwnB w2 w.heap.size v2 (l ++ (put32 n).take i ++ [x])) (g2 : Only (fun k => w.heap.size ≤ k) (wr.alloc o) w2)
    (hx : (put32 n).take i ++ [x] = (put32 n).take (i + 1)) : OwnB w2 w.heap.size v2 (l ++ (put32 n).take (i + 1)) ∧ Only noB w w2 := by
  refine ⟨?_, (hB.alloc o).trans g2 (fun k hk h => by omega)⟩
  rw [List.append_assoc, hx] at g1; exact g1

set_option maxRecDepth 100000 in
set_option maxHeartbeats 1000000 in
theorem put32_any (w : World) (a : Option Addr) (m c : Nat) (l : List UInt8) (n : Nat) (hl : l.length = m) (hR : RdB w a l) (hnil : a = none → m = 0 ∧ c = 0) (hm : m ≤ 140737488355000) (hn : n < 4294967296) :
    Calls Try.prog 54 #[.slice a m c, .int .u32 (n : Int)] w (OwnPost (l ++ put32 n) w) := by
  have HL := Lib.hid hl; have HR := Lib.hid hR; have HNIL := Lib.hid hnil
  clear hl hR hnil
  go_enter Try.func54, Try.ntmps54
  go_wp2_with (go_at_call 36; refine (clone_any _ _ _ _ l HL.out HR.out HNIL.out (by rw [HL.out]; omega)).mono ?_; rintro e w1 ⟨v, rfl, h1, h2, h3⟩)
  have H1 := Lib.hid h1; have H2 := Lib.hid h2
  clear h1 h2 h3
  have b0 : (n : Int) % 256 = ((byteN n 0).toNat : Int) := by have := byteN_int n 0; simpa using this
  have B0 := Lib.hid b0
  have b1 : (n : Int) / 256 % 256 = ((byteN n 1).toNat : Int) := by have := byteN_int n 1; simpa using this
  have B1 := Lib.hid b1
  have b2 : (n : Int) / 65536 % 256 = ((byteN n 2).toNat : Int) := by have := byteN_int n 2; simpa using this
  have B2 := Lib.hid b2
  have b3 : (n : Int) / 16777216 = ((byteN n 3).toNat : Int) := by have := byteN_int n 3; simp at this; omega
  have B3 := Lib.hid b3
  clear b0 b1 b2 b3
  go_loopw [5, 9] (fun v t wr => ∃ k : Nat, k ≤ 4 ∧ t = .int .i64 k ∧ OwnB wr w.heap.size v (l ++ (put32 n).take k) ∧ Only noB w wr) (fun _ t _ => 4 - (intOf t).toNat)
  case atStart => exact ⟨0, by omega, rfl, by simpa using H1.out, H2.out⟩
  case round =>
    obtain ⟨k, hk, rfl, hO, hB⟩ := hrel
    have HO := Lib.hid hO; have HB := Lib.hid hB; clear hO hB
    by_cases hlt : k < 4
    · have hk4 : k = 0 ∨ k = 1 ∨ k = 2 ∨ k = 3 := by omega
      rcases hk4 with rfl | rfl | rfl | rfl
      · go_wp2_with (at_builtin; refine app_own (.tmp 12) (.tmp 18) rfl rfl w.heap.size _ _ rfl (HO.out.keep0 ((Only.refl _ _).alloc _)) (some ⟨wr.heap.size, 0, none⟩) 1 1 [byteN n 0] rfl rfl (rd_new1 _ _ _ B0.out) (fun h => by cases h) (by have := HB.out.size; simp; omega) (len4 HL.out hm) ?_; intro v2 w2 g1 g2 g3)
        have R := step_put (i := 0) HB.out g1 g2 rfl
        have RR := Lib.hid R; clear R g1 g2 g3
        go_wp2
        go_roundw
        case rel => exact ⟨1, by omega, by go_num, RR.out.1, RR.out.2⟩
        case measure => simp [intOf]
      · go_wp2_with (at_builtin; refine app_own (.tmp 12) (.tmp 18) rfl rfl w.heap.size _ _ rfl (HO.out.keep0 ((Only.refl _ _).alloc _)) (some ⟨wr.heap.size, 0, none⟩) 1 1 [byteN n 1] rfl rfl (rd_new1 _ _ _ B1.out) (fun h => by cases h) (by have := HB.out.size; simp; omega) (len4 HL.out hm) ?_; intro v2 w2 g1 g2 g3)
        have R := step_put (i := 1) HB.out g1 g2 rfl
        have RR := Lib.hid R; clear R g1 g2 g3
        go_wp2
        go_roundw
        case rel => exact ⟨2, by omega, by go_num, RR.out.1, RR.out.2⟩
        case measure => simp [intOf]
      · go_wp2_with (at_builtin; refine app_own (.tmp 12) (.tmp 18) rfl rfl w.heap.size _ _ rfl (HO.out.keep0 ((Only.refl _ _).alloc _)) (some ⟨wr.heap.size, 0, none⟩) 1 1 [byteN n 2] rfl rfl (rd_new1 _ _ _ B2.out) (fun h => by cases h) (by have := HB.out.size; simp; omega) (len4 HL.out hm) ?_; intro v2 w2 g1 g2 g3)
        have R := step_put (i := 2) HB.out g1 g2 rfl
        have RR := Lib.hid R; clear R g1 g2 g3
        go_wp2
        go_roundw
        case rel => exact ⟨3, by omega, by go_num, RR.out.1, RR.out.2⟩
        case measure => simp [intOf]
      · go_wp2_with (at_builtin; refine app_own (.tmp 12) (.tmp 18) rfl rfl w.heap.size _ _ rfl (HO.out.keep0 ((Only.refl _ _).alloc _)) (some ⟨wr.heap.size, 0, none⟩) 1 1 [byteN n 3] rfl rfl (rd_new1 _ _ _ B3.out) (fun h => by cases h) (by have := HB.out.size; simp; omega) (len4 HL.out hm) ?_; intro v2 w2 g1 g2 g3)
        have R := step_put (i := 3) HB.out g1 g2 rfl
        have RR := Lib.hid R; clear R g1 g2 g3
        go_wp2
        go_roundw
        case rel => exact ⟨4, by omega, by go_num, RR.out.1, RR.out.2⟩
        case measure => simp [intOf]
    · obtain rfl : k = 4 := by omega
      go_wp2
      go_ret
      exact ⟨_, rfl, by simpa [put32] using HO.out, HB.out⟩

end Go.Proofs.Ytdnpmkejondpoaa

/- The number of four bytes. -/
namespace Go.Proofs.Ytdnpmkejondpoaa
open Go.RowKit
set_option linter.unusedVariables false
set_option linter.unusedSimpArgs false

/-- the number of the first bytes, the lowest first -/
def getN (l : List UInt8) : Nat → Nat
  | 0 => 0
  | k + 1 => getN l k + (l.getD k 0).toNat * 256 ^ k
theorem getN_lt (l : List UInt8) (k : Nat) : getN l k < 256 ^ k := by
  induction k with
  | zero => simp [getN]
  | succ k ih =>
    have := (l.getD k 0).toNat_lt
    have h : (l.getD k 0).toNat * 256 ^ k ≤ 255 * 256 ^ k := Nat.mul_le_mul_right _ (by omega)
    simp only [getN, Nat.pow_succ]; omega
def get32 (l : List UInt8) : Nat := getN l 4

theorem or_rel {x : UInt8} {y i N : Nat} {e : Int} (hy : y < 256 ^ i) (he : e = ((x.toNat * 256 ^ i : Nat) : Int)) (hi : i ≤ 3) (hN : N = y + x.toNat * 256 ^ i) :
    Value.int IntKind.u32 (bits .or .u32 (y : Int) e) = .int .u32 (N : Int) := by
  have hx := x.toNat_lt
  have hp : 256 ^ i ≤ 16777216 := Nat.pow_le_pow_right (n := 256) (by omega) hi
  have h1 : x.toNat * 256 ^ i ≤ 255 * 256 ^ i := Nat.mul_le_mul_right _ (by omega)
  have e2 : (256 : Nat) ^ i = 2 ^ (8 * i) := by rw [Nat.pow_mul]
  rw [he, u32_or_nat y (x.toNat * 256 ^ i) (by omega) (by omega), Nat.or_comm, nat_join (8 * i) _ y (by rw [e2]; simp) (by rw [← e2]; exact hy), hN, Nat.add_comm]

set_option maxRecDepth 100000 in
set_option maxHeartbeats 1000000 in
theorem get32_any (w : World) (a : Option Addr) (m c : Nat) (l : List UInt8) (hl : l.length = m) (hR : RdB w a l) (hm : 4 ≤ m) :
    Calls Try.prog 49 #[.slice a m c] w fun e w' => e = .returned (.tuple #[.int .u32 (get32 l : Int), .bool true]) ∧ w = w' := by
  obtain ⟨g, o, rfl, hc⟩ := hR.at_ (by omega)
  have HC := Lib.hid hc; have HL := Lib.hid hl
  clear hl hR hc
  have hm1 : (4 : Int) ≤ m := by omega
  go_enter Try.func49, Try.ntmps49
  go_wp2
  go_loop [4, 9] (fun v t => ∃ k : Nat, k ≤ 4 ∧ t = .int .i64 k ∧ v = .int .u32 (getN l k : Int)) (fun _ t => 4 - (intOf t).toNat)
  case atStart => exact ⟨0, by omega, rfl, rfl⟩
  case round =>
    obtain ⟨k, hk, rfl, rfl⟩ := hrel
    by_cases hlt : k < 4
    · have hcell := HC.out k (by rw [HL.out]; omega)
      have hN := getN_lt l k
      have hk4 : k = 0 ∨ k = 1 ∨ k = 2 ∨ k = 3 := by omega
      have r1 := u8_range (l.getD k 0)
      have hs : getN l (k + 1) = getN l k + (l.getD k 0).toNat * 256 ^ k := rfl
      have HS := Lib.hid hs; clear hs
      obtain ⟨x, hx⟩ : ∃ x, l.getD k 0 = x := ⟨_, rfl⟩
      obtain ⟨y, hy⟩ : ∃ y, getN l k = y := ⟨_, rfl⟩
      rw [hx] at hcell r1; rw [hy] at hN ⊢
      have HX := Lib.hid hx; have HY := Lib.hid hy; clear hx hy
      rcases hk4 with rfl | rfl | rfl | rfl
      · simp only [Nat.add_zero] at hcell
        go_wp2
        go_round
        case rel => exact ⟨1, by omega, by go_num, or_rel (x := x) (i := 0) (e := (x.toNat : Int)) hN (by simp) (by omega) (by rw [HS.out, HX.out, HY.out])⟩
        case measure => simp [intOf]
      · go_wp2
        go_round
        case rel => exact ⟨2, by omega, by go_num, or_rel (x := x) (i := 1) (e := (x.toNat : Int) * 256) hN (by simp) (by omega) (by rw [HS.out, HX.out, HY.out])⟩
        case measure => simp [intOf]
      · go_wp2
        go_round
        case rel => exact ⟨3, by omega, by go_num, or_rel (x := x) (i := 2) (e := (x.toNat : Int) * 65536) hN (by simp) (by omega) (by rw [HS.out, HX.out, HY.out])⟩
        case measure => simp [intOf]
      · go_wp2
        go_round
        case rel => exact ⟨4, by omega, by go_num, or_rel (x := x) (i := 3) (e := (x.toNat : Int) * 16777216) hN (by simp) (by omega) (by rw [HS.out, HX.out, HY.out])⟩
        case measure => simp [intOf]
    · obtain rfl : k = 4 := by omega
      go_wp2
      go_ret2
      exact ⟨rfl, rfl⟩

end Go.Proofs.Ytdnpmkejondpoaa

/- Bytes are sealed with their sum, and opened. -/
namespace Go.Proofs.Ytdnpmkejondpoaa
open Go.RowKit
set_option linter.unusedVariables false
set_option linter.unusedSimpArgs false

def sealB (l : List UInt8) : List UInt8 := l ++ put32 (crcSum l)

set_option maxHeartbeats 400000 in
theorem seal_any (w : World) (a : Option Addr) (m c : Nat) (l : List UInt8) (hl : l.length = m) (hR : RdB w a l) (hnil : a = none → m = 0 ∧ c = 0) (hm : m ≤ 140737488355000) :
    Calls Try.prog 59 #[.slice a m c] w (OwnPost (sealB l) w) := by
  have HL := Lib.hid hl; have HR := Lib.hid hR; have HN := Lib.hid hnil
  clear hl hR hnil
  go_enter Try.func59, Try.ntmps59
  go_wp2_with (first
    | (go_at_call 72; refine (sum_any _ _ _ _ l HL.out HR.out (by omega)).mono ?_; rintro e w' ⟨rfl, rfl⟩)
    | (go_at_call 54; refine (put32_any _ _ _ _ l _ HL.out HR.out HN.out hm (crcSum_lt l)).mono ?_; rintro e w' ⟨v, rfl, h1, h2⟩))
  go_ret
  exact ⟨v, rfl, h1, h2⟩

/-- do bytes end in the sum of what stands ahead? -/
def sumOk (l : List UInt8) : Bool := decide (4 ≤ l.length) && (get32 (l.drop (l.length - 4)) == crcSum (l.take (l.length - 4)))

def OpenPost (l : List UInt8) (w : World) (e : Ending) (w' : World) : Prop :=
  ∃ v, e = .returned (.tuple #[v, .bool (sumOk l)]) ∧ Only noB w w' ∧ (sumOk l = true → OwnB w' w.heap.size v (l.take (l.length - 4))) ∧ (sumOk l = false → v = .slice none 0 0)

theorem RdB.at_ne {w : World} {a : Option Addr} {l : List UInt8} (h : RdB w a l) (h0 : l ≠ []) : ∃ g o, a = some ⟨g, o, none⟩ ∧ RdB w (some ⟨g, o, none⟩) l := by
  obtain ⟨g, o, rfl, hc⟩ := h.at_ (List.length_pos_iff.2 h0)
  exact ⟨g, o, rfl, h⟩
theorem RdB.tail {w : World} {g o : Nat} {l : List UInt8} (h : RdB w (some ⟨g, o, none⟩) l) (i : Nat) (hi : i ≤ l.length) : RdB w (some ⟨g, o + i, none⟩) (l.drop i) := by
  have := h.part i (l.length - i) (by omega)
  rw [List.take_of_length_le (by simp)] at this; exact this
theorem RdB.front {w : World} {g o : Nat} {l : List UInt8} (h : RdB w (some ⟨g, o, none⟩) l) (n : Nat) (hn : n ≤ l.length) : RdB w (some ⟨g, o, none⟩) (l.take n) := by
  have := h.part 0 n (by omega)
  simpa using this

set_option maxRecDepth 100000 in
set_option maxHeartbeats 800000 in
theorem copen_any (w : World) (a : Option Addr) (m c : Nat) (l : List UInt8) (hl : l.length = m) (hR : RdB w a l) (hc : m ≤ c) (hm : m ≤ 140737488355000) (hcm : c ≤ 9223372036854775807) :
    Calls Try.prog 71 #[.slice a m c] w (OpenPost l w) := by
  by_cases h4 : 4 ≤ m
  · obtain ⟨g, o, rfl, hR⟩ := hR.at_ne (by intro h; subst h; simp at hl; omega)
    obtain ⟨k, rfl⟩ : ∃ k, m = k + 4 := ⟨m - 4, by omega⟩
    have hk : l.length - 4 = k := by omega
    have hs : sumOk l = (get32 (l.drop k) == crcSum (l.take k)) := by unfold sumOk; rw [hk]; simp; omega
    have HL := Lib.hid hl; have HT := Lib.hid (hR.tail k (by omega)); have HF := Lib.hid (hR.front k (by omega)); have HS := Lib.hid hs; have HK := Lib.hid hk
    clear hl hR hs hk
    have hlt : (l.take k).length = k := by have := HL.out; simp; omega
    have hld : (l.drop k).length = 4 := by have := HL.out; simp; omega
    have HLT := Lib.hid hlt; have HLD := Lib.hid hld; clear hlt hld
    have hck : ¬ c = k := by omega
    by_cases hsum : get32 (l.drop k) = crcSum (l.take k)
    · have hb : ((get32 (l.drop k) : Int) != (crcSum (l.take k) : Int)) = false := by simp [hsum]
      have HSUM := Lib.hid hsum; clear hsum
      go_enter Try.func71, Try.ntmps71
      go_wp2_with (first
        | (go_at_call 72; (refine (sum_any _ _ _ _ (l.take k) HLT.out HF.out (by omega)).mono ?_); rintro e w' ⟨rfl, rfl⟩)
        | (go_at_call 49; (refine (get32_any _ _ _ _ (l.drop k) HLD.out HT.out (by omega)).mono ?_); rintro e w' ⟨rfl, rfl⟩)
        | (go_at_call 36; (refine (clone_any _ _ _ _ (l.take k) HLT.out HF.out (by simp) (by rw [HLT.out]; omega)).mono ?_); rintro e w' ⟨v, rfl, h1, h2, h3⟩))
      go_ret2
      have e : sumOk l = true := by rw [HS.out, HSUM.out]; simp
      refine ⟨v, by rw [e]; rfl, h2, fun _ => by rw [HK.out]; exact h1, fun h => absurd h (by rw [e]; decide)⟩
    · have hb : ((get32 (l.drop k) : Int) != (crcSum (l.take k) : Int)) = true := by rw [bne_iff_ne]; intro h; exact hsum (by omega)
      have HSUM := Lib.hid hsum; clear hsum
      go_enter Try.func71, Try.ntmps71
      go_wp2_with (first
        | (go_at_call 72; (refine (sum_any _ _ _ _ (l.take k) HLT.out HF.out (by omega)).mono ?_); rintro e w' ⟨rfl, rfl⟩)
        | (go_at_call 49; (refine (get32_any _ _ _ _ (l.drop k) HLD.out HT.out (by omega)).mono ?_); rintro e w' ⟨rfl, rfl⟩))
      go_ret2
      have e : sumOk l = false := by rw [HS.out]; simpa using HSUM.out
      exact ⟨_, by rw [e]; rfl, Only.refl _ _, fun h => absurd h (by rw [e]; decide), fun _ => rfl⟩
  · have e : sumOk l = false := by unfold sumOk; simp; omega
    have HE := Lib.hid e
    have hlt : (m : Int) < 4 := by omega
    clear hl hR hc e
    go_enter Try.func71, Try.ntmps71
    go_wp2
    go_ret2
    exact ⟨_, by rw [HE.out]; rfl, Only.refl _ _, fun h => absurd h (by rw [HE.out]; decide), fun _ => rfl⟩

end Go.Proofs.Ytdnpmkejondpoaa
