/- Parts of a proof, joined: New, Part1, Part2, Part3. -/
import Derived.Deep.RegionWith
import Derived.Deep.RegionHeld3
import Derived.Deep.OwnRows
import Derived.Test.YtdnpmkejondpoaaT14

/- A new flash. -/
namespace Go.Proofs.Ytdnpmkejondpoaa
open Go.RowKit
set_option linter.unusedVariables false
set_option linter.unusedSimpArgs false

def NewPost (s : FSt) (w : World) (e : Ending) (w' : World) : Prop :=
  ∃ f bb bw, e = .returned (.pointer (some ⟨f, 0, none⟩)) ∧ FlashR w' f bb bw s ∧ Only noB w w' ∧ w.heap.size ≤ f ∧ w.heap.size ≤ bb ∧ w.heap.size ≤ bw

theorem infoI64 : (Try.prog.info? 3).map (fun i => (i.zero, i.size, i.bytes)) = some (some (.int .i64 0), 1, 8) := by kernel_rfl

theorem Row.wear (w : World) (m : Nat) : Row (w.alloc (.cells (madeCells #[.int .i64 0] m) 3)) w.heap.size (ivs (List.replicate m 0)) := by
  have := Row.new w (madeCells #[.int .i64 0] m) 3
  have e : madeCells #[Value.int .i64 0] m = ivs (List.replicate m 0) := by
    apply Array.toList_inj.1
    rw [toList_madeCells_one]
    simp [ivs]
  rw [e] at this
  rw [e]; exact this

set_option maxRecDepth 100000 in
set_option maxHeartbeats 1000000 in
theorem fnew_any (w : World) (n z : Int) :
    Calls Try.prog 29 #[.int .i64 n, .int .i64 z] w (NewPost (FSt.fresh (clampN n) (clampZ z)) w) := by
  have hn0 : 1 ≤ clampN n ∧ clampN n ≤ 64 := by unfold clampN; omega
  have hz0 : 16 ≤ clampZ z ∧ clampZ z ≤ 4096 := by unfold clampZ; omega
  obtain ⟨m, hm⟩ : ∃ m : Nat, clampN n = m := Int.eq_ofNat_of_zero_le (show 0 ≤ clampN n by omega)
  obtain ⟨y, hy⟩ : ∃ y : Nat, clampZ z = y := Int.eq_ofNat_of_zero_le (show 0 ≤ clampZ z by omega)
  have hok := FSt.fresh_ok n z
  rw [hm, hy] at hok ⊢
  have hn1 : min (max n 1) 64 = (m : Int) := hm
  have hz1 : min (max z 16) 4096 = (y : Int) := hy
  rw [hm] at hn0; rw [hy] at hz0
  obtain ⟨a1, a2⟩ := hn0; obtain ⟨a3, a4⟩ := hz0
  have hp1 : (m : Int) * (y : Int) ≤ 262144 := by
    have : (m : Int) * (y : Int) ≤ 64 * 4096 := Int.mul_le_mul a2 a4 (by omega) (by omega)
    omega
  have hp0 : 1 ≤ (m : Int) * (y : Int) := by
    have : 1 * 16 ≤ (m : Int) * (y : Int) := Int.mul_le_mul a1 a3 (by omega) (by omega)
    omega
  obtain ⟨p, hpn⟩ : ∃ p : Nat, (m : Int) * (y : Int) = p := Int.eq_ofNat_of_zero_le (by omega)
  rw [hpn] at hp1 hp0
  have hwr : IntKind.i64.wrap ((m : Int) * (y : Int)) = (p : Int) := by rw [hpn, IntKind.wrap_i64]; omega
  have hmk : ∀ W : World, (Instr.makeSlice 48 (.int .i64 (m : Int)) (.int .i64 (m : Int))).run Try.prog W = .ok (.slice (some ⟨W.heap.size, 0, none⟩) m m) (W.alloc (.cells (madeCells #[.int .i64 0] m) 3)) :=
    fun W => run_make_row' 48 3 (.int .i64 0) 8 Try.underlying48 infoI64 rfl .i64 .i64 m (by omega) (by omega) W
  have HP := Lib.hid hpn; have HO := Lib.hid hok
  clear hm hy hpn hok
  have fin : ∀ (b bw f : Nat) (W : World), RowB W b (List.replicate p 255) → Row W bw (ivs (List.replicate m 0)) →
      Row W f #[.slice (some ⟨b, 0, none⟩) p p, .int .i64 (y : Int), .slice (some ⟨bw, 0, none⟩) m m, .int .i64 0, .int .i64 (-1), .bool false] → b ≠ bw → b ≠ f → bw ≠ f → Only noB w W → w.heap.size ≤ f → w.heap.size ≤ b → w.heap.size ≤ bw →
      NewPost (FSt.fresh m y) w (.returned (.pointer (some ⟨f, 0, none⟩))) W := by
    intro b bw f W k1 k2 k3 n1 n2 n3 k4 s1 s2 s3
    have e1 : ((m : Int) * (y : Int)).toNat = p := by rw [HP.out]; simp
    refine ⟨f, b, bw, rfl, ⟨?_, ?_, ?_, n2.symm, n3.symm, n1, HO.out⟩, k4, s1, s2, s3⟩
    · simp only [FSt.fresh, e1, List.length_replicate, Int.toNat_natCast]; exact k3
    · simp only [FSt.fresh, e1]; exact k1
    · simp only [FSt.fresh, Int.toNat_natCast]; exact k2
  have FIN := Lib.hid fin; clear fin
  go_enter Try.func29, Try.ntmps29
  go_wp2_with fail
  go_region_with ((go_at_call 46; refine (repeat_one _ _ _ _ 255 p (by omega) (by omega) (by simp)).mono ?_; rintro e w1 ⟨b, rfl, h1, h2, h3⟩))
  all_goals
    go_wp2
    go_ret
  · refine FIN.out b w1.heap.size (w1.heap.size + 1) _ ((h1.keep0 ((Only.refl _ _).alloc _)).keep0 ((Only.refl _ _).alloc _)) ((Row.wear w1 m).alloc _) (by simpa using Row.new (w1.alloc (.cells (madeCells #[.int .i64 0] m) 3)) _ 80) (by have := h1.lt; omega) (by have := h1.lt; omega) (by omega) ?_ ?_ ?_ ?_
    · exact (((((Only.refl _ _).alloc _).drew.then h3).alloc _).alloc _)
    · have := h3.size; simp at this; omega
    · simp at h2; omega
    · have := h3.size; simp at this; omega
  · have hs := h3.size
    simp only [World.size_drew, World.size_alloc] at h2 hs
    have hw : Row w1 (w.heap.size + 1) (ivs (List.replicate m 0)) := by
      have := (Row.drew (Row.wear (w.alloc (.cells #[.int .u8 255] 5)) m)).keep0 h3
      simpa using this
    refine FIN.out b (w.heap.size + 1) w1.heap.size _ (h1.keep0 ((Only.refl _ _).alloc _)) (hw.alloc _) (by simpa using Row.new w1 _ 80) (by omega) (by have := h1.lt; omega) (by omega) ?_ (by omega) (by omega) (by omega)
    exact (((((Only.refl _ _).alloc _).alloc _).drew).then h3).alloc _
  · have hs := h3.size
    simp only [World.size_drew, World.size_alloc] at h2 hs
    have hw : Row w1 w.heap.size (ivs (List.replicate m 0)) := (Row.drew ((Row.wear w m).alloc _)).keep0 h3
    refine FIN.out b w.heap.size w1.heap.size _ (h1.keep0 ((Only.refl _ _).alloc _)) (hw.alloc _) (by simpa using Row.new w1 _ 80) (by omega) (by have := h1.lt; omega) (by omega) ?_ (by omega) (by omega) (by omega)
    exact (((((Only.refl _ _).alloc _).alloc _).drew).then h3).alloc _

end Go.Proofs.Ytdnpmkejondpoaa

/- Parts of a flash: plain data, and the calls that only read. -/
namespace Go.Proofs.Ytdnpmkejondpoaa
open Go.RowKit
set_option linter.unusedVariables false
set_option linter.unusedSimpArgs false

theorem FlashR.drewN {w : World} {f bb bw : Nat} {s : FSt} (h : FlashR w f bb bw s) (n : Nat) : FlashR (w.drewN n) f bb bw s := h.keep0 ((Only.refl _ _).drewN n)
theorem Row.drewN {w : World} {b : Nat} {cs : Array Value} (h : Row w b cs) (n : Nat) : Row (w.drewN n) b cs := h
theorem quietS {P : Program} {f : FuncId} {args : Array Value} {w : World} {n : Nat} {v : Value} (h : Calls P f args (w.drewN n) fun e w' => e = .returned v ∧ w.drewN n = w') :
    Calls P f args (w.drewN n) fun e w'' => e = .returned v ∧ ∃ m, w'' = w.drewN m := h.mono fun _ _ ⟨he, hm⟩ => ⟨he, n, hm.symm⟩
theorem quietQ {P : Program} {f : FuncId} {args : Array Value} {w : World} {n : Nat} {v : Value} (h : Calls P f args (w.drewN n) (QuietPost v (w.drewN n))) :
    Calls P f args (w.drewN n) fun e w'' => e = .returned v ∧ ∃ m, w'' = w.drewN m := h.mono fun _ _ ⟨he, m, hm⟩ => ⟨he, n + m, by rw [hm, World.drewN_drewN]⟩

/-- A part: first sector, how many. -/
structure PSt where
  first : Nat
  count : Nat
structure PSt.fits (p : PSt) (s : FSt) : Prop where
  c1 : 1 ≤ p.count
  le : p.first + p.count ≤ s.wear.length
theorem PSt.fits.of {p : PSt} {s s' : FSt} (h : p.fits s) (e : s'.wear.length = s.wear.length) : p.fits s' := ⟨h.c1, by rw [e]; exact h.le⟩

/-- the part in memory -/
def PartR (w : World) (b f : Nat) (p : PSt) : Prop := Row w b #[.pointer (some ⟨f, 0, none⟩), .int .i64 (p.first : Int), .int .i64 (p.count : Int)]

def PSt.size (p : PSt) (s : FSt) : Nat := p.count * s.sector.toNat
def PSt.base (p : PSt) (s : FSt) : Nat := p.first * s.sector.toNat

theorem PSt.fits.room {p : PSt} {s : FSt} (h : p.fits s) (ok : s.ok) : p.base s + p.size s ≤ s.b.length ∧ 16 ≤ p.size s ∧ p.size s ≤ 262144 ∧ p.base s ≤ 262144 := by
  have h0 := ok.s0; have h1 := ok.s1; have h2 := ok.n1; have hl := ok.len; have hs := ok.small
  obtain ⟨z, hz⟩ : ∃ z : Nat, s.sector = z := Int.eq_ofNat_of_zero_le (by omega)
  unfold PSt.base PSt.size
  rw [hz] at hl h0 h1 ⊢
  simp only [Int.toNat_natCast]
  have e : s.b.length = s.wear.length * z := by have : (s.b.length : Int) = ((s.wear.length * z : Nat) : Int) := by rw [hl]; simp
                                                omega
  have h3 : (p.first + p.count) * z ≤ s.wear.length * z := Nat.mul_le_mul_right _ h.le
  have h4 : 1 * z ≤ p.count * z := Nat.mul_le_mul_right _ h.c1
  rw [Nat.add_mul] at h3
  omega

theorem pflash_any (w : World) (b f : Nat) (p : PSt) (hP : PartR w b f p) :
    Calls Try.prog 31 #[.pointer (some ⟨b, 0, none⟩)] w fun e w' => e = .returned (.pointer (some ⟨f, 0, none⟩)) ∧ w = w' := by
  obtain ⟨c0, c1, c2⟩ := Row.c3 hP
  clear hP
  go_enter Try.func31, Try.ntmps31
  go_wp2
  go_ret
  exact ⟨rfl, rfl⟩

set_option maxHeartbeats 400000 in
theorem psize_any (w : World) (b f bb bw : Nat) (p : PSt) (s : FSt) (hP : PartR w b f p) (hF : FlashR w f bb bw s) (hf : p.fits s) :
    Calls Try.prog 16 #[.pointer (some ⟨b, 0, none⟩)] w (QuietPost (.int .i64 (p.size s : Int)) w) := by
  obtain ⟨c0, c1, c2⟩ := Row.c3 hP
  have hr := hf.room hF.ok
  have hs0 := hF.ok.s0
  have hm : IntKind.i64.wrap ((p.count : Int) * s.sector) = (p.size s : Int) := by
    have e : (p.count : Int) * s.sector = (p.size s : Int) := by unfold PSt.size; rw [Int.natCast_mul, Int.toNat_of_nonneg (by omega)]
    rw [e, IntKind.wrap_i64]; omega
  have HF := Lib.hid hF
  clear hP hF hf hr hs0
  go_enter Try.func16, Try.ntmps16
  go_wp2_with fail
  go_quiet ((go_at_call 42; exact quietS (fsector_any _ f bb bw s (HF.out.drewN _))))
  go_wp2
  go_ret
  exact ⟨rfl, _, rfl⟩

set_option maxHeartbeats 400000 in
theorem pbase_any (w : World) (b f bb bw : Nat) (p : PSt) (s : FSt) (hP : PartR w b f p) (hF : FlashR w f bb bw s) (hf : p.fits s) :
    Calls Try.prog 70 #[.pointer (some ⟨b, 0, none⟩)] w (QuietPost (.int .i64 (p.base s : Int)) w) := by
  obtain ⟨c0, c1, c2⟩ := Row.c3 hP
  have hr := hf.room hF.ok
  have hs0 := hF.ok.s0
  have hm : IntKind.i64.wrap ((p.first : Int) * s.sector) = (p.base s : Int) := by
    have e : (p.first : Int) * s.sector = (p.base s : Int) := by unfold PSt.base; rw [Int.natCast_mul, Int.toNat_of_nonneg (by omega)]
    rw [e, IntKind.wrap_i64]; omega
  have HF := Lib.hid hF
  clear hP hF hf hr hs0
  go_enter Try.func70, Try.ntmps70
  go_wp2_with fail
  go_quiet ((go_at_call 42; exact quietS (fsector_any _ f bb bw s (HF.out.drewN _))))
  go_wp2
  go_ret
  exact ⟨rfl, _, rfl⟩

/-- do bytes lie in so many? -/
def inSize (sz : Nat) (i n : Int) : Bool := decide (0 ≤ i ∧ 0 ≤ n ∧ i ≤ sz ∧ n ≤ sz - i)

set_option maxHeartbeats 800000 in
theorem pwithin_any (w : World) (b f bb bw : Nat) (p : PSt) (s : FSt) (i n : Int) (hP : PartR w b f p) (hF : FlashR w f bb bw s) (hf : p.fits s) :
    Calls Try.prog 80 #[.pointer (some ⟨b, 0, none⟩), .int .i64 i, .int .i64 n] w (QuietPost (.bool (inSize (p.size s) i n)) w) := by
  have hr := (hf.room hF.ok).2.2.1
  have HP := Lib.hid hP; have HF := Lib.hid hF; have HH := Lib.hid hf
  obtain ⟨sz, hsz⟩ : ∃ sz, p.size s = sz := ⟨_, rfl⟩
  have fin : ∀ b : Bool, (b = true ↔ (0 ≤ i ∧ 0 ≤ n ∧ i ≤ sz ∧ n ≤ sz - i)) → Ending.returned (.bool b) = .returned (.bool (inSize (p.size s) i n)) := by
    intro b hb
    have : b = inSize (p.size s) i n := by unfold inSize; rw [Bool.eq_iff_iff, hb, hsz]; simp
    rw [this]
  rw [hsz] at hr
  have HSZ := Lib.hid hsz
  clear hP hF hf hsz
  by_cases h1 : 0 ≤ i
  · by_cases h2 : 0 ≤ n
    · by_cases h3 : i ≤ sz
      · by_cases h4 : n ≤ sz - i
        · go_enter Try.func80, Try.ntmps80
          go_wp2_with (go_at_call 16; (first | refine (psize_any _ b f bb bw p s HP.out HF.out HH.out).mono ?_ | refine (psize_any _ b f bb bw p s (Row.drewN HP.out _) (HF.out.drewN _) HH.out).mono ?_); rintro e w' ⟨rfl, m, rfl⟩; rw [HSZ.out])
          go_ret
          exact ⟨fin _ (by simp; omega), _, rfl⟩
        · go_enter Try.func80, Try.ntmps80
          go_wp2_with (go_at_call 16; (first | refine (psize_any _ b f bb bw p s HP.out HF.out HH.out).mono ?_ | refine (psize_any _ b f bb bw p s (Row.drewN HP.out _) (HF.out.drewN _) HH.out).mono ?_); rintro e w' ⟨rfl, m, rfl⟩; rw [HSZ.out])
          go_ret
          exact ⟨fin _ (by simp; omega), _, rfl⟩
      · go_enter Try.func80, Try.ntmps80
        go_wp2_with (go_at_call 16; (first | refine (psize_any _ b f bb bw p s HP.out HF.out HH.out).mono ?_ | refine (psize_any _ b f bb bw p s (Row.drewN HP.out _) (HF.out.drewN _) HH.out).mono ?_); rintro e w' ⟨rfl, m, rfl⟩; rw [HSZ.out])
        go_ret
        exact ⟨fin _ (by simp; omega), _, rfl⟩
    · go_enter Try.func80, Try.ntmps80
      go_wp2_with (go_at_call 16; (first | refine (psize_any _ b f bb bw p s HP.out HF.out HH.out).mono ?_ | refine (psize_any _ b f bb bw p s (Row.drewN HP.out _) (HF.out.drewN _) HH.out).mono ?_); rintro e w' ⟨rfl, m, rfl⟩; rw [HSZ.out])
      go_ret
      exact ⟨fin _ (by simp; omega), 0, rfl⟩
  · go_enter Try.func80, Try.ntmps80
    go_wp2_with (go_at_call 16; (first | refine (psize_any _ b f bb bw p s HP.out HF.out HH.out).mono ?_ | refine (psize_any _ b f bb bw p s (Row.drewN HP.out _) (HF.out.drewN _) HH.out).mono ?_); rintro e w' ⟨rfl, m, rfl⟩; rw [HSZ.out])
    go_ret
    exact ⟨fin _ (by simp; omega), 0, rfl⟩

def PSt.fault (p : PSt) (s : FSt) (i n : Int) : Int := if s.down = true then 30 else if inSize (p.size s) i n = false then 1 else 0

set_option maxHeartbeats 400000 in
theorem pfault_any (w : World) (b f bb bw : Nat) (p : PSt) (s : FSt) (i n : Int) (hP : PartR w b f p) (hF : FlashR w f bb bw s) (hf : p.fits s) :
    Calls Try.prog 68 #[.pointer (some ⟨b, 0, none⟩), .int .i64 i, .int .i64 n] w (QuietPost (.int .i64 (p.fault s i n)) w) := by
  obtain ⟨c0, c1, c2⟩ := Row.c3 hP
  have HP := Lib.hid hP; have HF := Lib.hid hF; have HH := Lib.hid hf
  clear hP hF hf
  by_cases hd : s.down = true
  · have he : p.fault s i n = 30 := by unfold PSt.fault; rw [if_pos hd]
    have HD := Lib.hid hd; have HE := Lib.hid he; clear hd he
    go_enter Try.func68, Try.ntmps68
    go_wp2_with (go_at_call 32; refine (fdown_any _ f bb bw s HF.out).mono ?_; rintro e w' ⟨rfl, rfl⟩; rw [HD.out])
    go_ret
    exact ⟨ret_int (by rw [HE.out]), 0, rfl⟩
  · have hd' : s.down = false := by simpa using hd
    by_cases hw : inSize (p.size s) i n = true
    · have he : p.fault s i n = 0 := by unfold PSt.fault; rw [if_neg hd, if_neg (by simp [hw])]
      have HD := Lib.hid hd'; have HE := Lib.hid he; have HW := Lib.hid hw; clear hd hd' he hw
      go_enter Try.func68, Try.ntmps68
      go_wp2_with (first
        | (go_at_call 32; refine (fdown_any _ f bb bw s HF.out).mono ?_; rintro e w' ⟨rfl, rfl⟩; rw [HD.out])
        | (go_at_call 80; refine (pwithin_any _ b f bb bw p s _ _ HP.out HF.out HH.out).mono ?_; rintro e w' ⟨rfl, m, rfl⟩; rw [HW.out]))
      go_ret
      exact ⟨ret_int (by rw [HE.out]), m, rfl⟩
    · have hw' : inSize (p.size s) i n = false := by simpa using hw
      have he : p.fault s i n = 1 := by unfold PSt.fault; rw [if_neg hd, if_pos hw']
      have HD := Lib.hid hd'; have HE := Lib.hid he; have HW := Lib.hid hw'; clear hd hd' he hw hw'
      go_enter Try.func68, Try.ntmps68
      go_wp2_with (first
        | (go_at_call 32; refine (fdown_any _ f bb bw s HF.out).mono ?_; rintro e w' ⟨rfl, rfl⟩; rw [HD.out])
        | (go_at_call 80; refine (pwithin_any _ b f bb bw p s _ _ HP.out HF.out HH.out).mono ?_; rintro e w' ⟨rfl, m, rfl⟩; rw [HW.out]))
      go_ret
      exact ⟨ret_int (by rw [HE.out]), m, rfl⟩

end Go.Proofs.Ytdnpmkejondpoaa

/- Parts of a flash: bytes are read and written. -/
namespace Go.Proofs.Ytdnpmkejondpoaa
open Go.RowKit
set_option linter.unusedVariables false
set_option linter.unusedSimpArgs false

/-- what a part's write answers, and the flash behind it -/
def PSt.write (p : PSt) (s : FSt) (i : Int) (l : List UInt8) : Int × FSt :=
  if p.fault s i l.length = 0 then s.program ((p.base s : Int) + i) l else (p.fault s i l.length, s)
theorem PSt.write_ok (p : PSt) {s : FSt} (h : s.ok) (i : Int) (l : List UInt8) : (p.write s i l).2.ok := by
  unfold PSt.write; split; exact FSt.program_ok h _ _; exact h
theorem PSt.write_same (p : PSt) (s : FSt) (i : Int) (l : List UInt8) : (p.write s i l).2.sector = s.sector ∧ (p.write s i l).2.wear = s.wear ∧ (p.write s i l).2.b.length = s.b.length := by
  unfold PSt.write; split; exact FSt.program_same _ _ _; exact ⟨rfl, rfl, rfl⟩

def PWritePost (f bb bw : Nat) (p : PSt) (s : FSt) (i : Int) (l : List UInt8) (w : World) (e : Ending) (w' : World) : Prop :=
  e = .returned (.int .i64 (p.write s i l).1) ∧ FlashR w' f bb bw (p.write s i l).2 ∧ Only (FlashS f bb bw) w w'

theorem fault_in {p : PSt} {s : FSt} {i n : Int} (h : p.fault s i n = 0) : s.down = false ∧ 0 ≤ i ∧ 0 ≤ n ∧ i + n ≤ p.size s := by
  unfold PSt.fault at h
  split at h
  · cases h
  · split at h
    · cases h
    · rename_i h1 h2
      unfold inSize at h2
      simp at h1 h2
      exact ⟨h1, by omega, by omega, by omega⟩

set_option maxHeartbeats 800000 in
theorem pwrite_any (w : World) (b f bb bw : Nat) (p : PSt) (s : FSt) (i : Int) (a : Option Addr) (n c : Nat) (l : List UInt8) (hP : PartR w b f p) (hF : FlashR w f bb bw s) (hf : p.fits s)
    (hn : l.length = n) (hR : RdB w a l) (hO : OffB (FlashS f bb bw) a) :
    Calls Try.prog 53 #[.pointer (some ⟨b, 0, none⟩), .int .i64 i, .slice a n c] w (PWritePost f bb bw p s i l w) := by
  obtain ⟨c0, c1, c2⟩ := Row.c3 hP
  have hr := hf.room hF.ok
  have HP := Lib.hid hP; have HF := Lib.hid hF; have HH := Lib.hid hf; have HN := Lib.hid hn; have HR := Lib.hid hR; have HO := Lib.hid hO
  clear hP hF hf hn hR hO
  by_cases hz : p.fault s i n = 0
  · have hin := fault_in hz
    have hw : p.write s i l = s.program ((p.base s : Int) + i) l := by unfold PSt.write; rw [HN.out, if_pos hz]
    have HZ := Lib.hid hz; have HW := Lib.hid hw; clear hz hw
    obtain ⟨i1, i2, i3, i4⟩ := hin
    obtain ⟨r1, r2, r3, r4⟩ := hr
    have hsum : IntKind.i64.wrap ((p.base s : Int) + i) = (p.base s : Int) + i := by rw [IntKind.wrap_i64]; omega
    clear i1
    go_enter Try.func53, Try.ntmps53
    go_wp2_with (go_at_call 68; refine (pfault_any _ b f bb bw p s _ _ HP.out HF.out HH.out).mono ?_; rintro e w' ⟨rfl, m, rfl⟩; rw [HZ.out])
    go_region_with (first
      | (go_at_call 70; refine (pbase_any _ b f bb bw p s (HP.out.keep0 (Only.refl _ _)) HF.out HH.out).mono ?_; rintro e w' ⟨rfl, m2, rfl⟩)
      | (go_at_call 70; refine (pbase_any _ b f bb bw p s (Row.drewN HP.out _) (HF.out.drewN _) HH.out).mono ?_; rintro e w' ⟨rfl, m2, rfl⟩)
      | (go_at_call 69; refine (program_any _ f bb bw s _ a n c l (HF.out.drewN _) HN.out (HR.out.keep0 ((Only.refl _ _).drewN _)) HO.out).mono ?_; rintro e w' ⟨rfl, h1, h2⟩))
    all_goals
      have H1 := Lib.hid h1; have H2 := Lib.hid h2; clear h1 h2
      go_wp2
      go_ret
      exact ⟨ret_int (by rw [HW.out]), by rw [HW.out]; exact H1.out, ((Only.refl _ _).drewN _).then H2.out⟩
  · have hw : p.write s i l = (p.fault s i n, s) := by unfold PSt.write; rw [HN.out, if_neg hz]
    have HW := Lib.hid hw; clear hw
    obtain ⟨E, hE⟩ : ∃ E, p.fault s i n = E := ⟨_, rfl⟩
    rw [hE] at hz
    have HE := Lib.hid hE; clear hE
    have hb : (E != 0) = true := by simpa using hz
    go_enter Try.func53, Try.ntmps53
    go_wp2_with (go_at_call 68; refine (pfault_any _ b f bb bw p s _ _ HP.out HF.out HH.out).mono ?_; rintro e w' ⟨rfl, m, rfl⟩; rw [HE.out])
    go_ret
    exact ⟨ret_int (by rw [HW.out, HE.out]), by rw [HW.out]; exact HF.out.drewN _, (Only.refl _ _).drewN _⟩

/-- what a part's read answers -/
def PSt.readL (p : PSt) (s : FSt) (i n : Int) : List UInt8 := s.part ((p.base s : Int) + i) n

set_option maxHeartbeats 800000 in
theorem pread_any (w : World) (b f bb bw : Nat) (p : PSt) (s : FSt) (i n : Int) (hP : PartR w b f p) (hF : FlashR w f bb bw s) (hf : p.fits s) :
    Calls Try.prog 65 #[.pointer (some ⟨b, 0, none⟩), .int .i64 i, .int .i64 n] w (ReadPost (p.fault s i n) (p.readL s i n) w) := by
  obtain ⟨c0, c1, c2⟩ := Row.c3 hP
  have hr := hf.room hF.ok
  have HP := Lib.hid hP; have HF := Lib.hid hF; have HH := Lib.hid hf
  clear hP hF hf
  by_cases hz : p.fault s i n = 0
  · have hin := fault_in hz
    obtain ⟨i1, i2, i3, i4⟩ := hin
    obtain ⟨r1, r2, r3, r4⟩ := hr
    have he : s.readE ((p.base s : Int) + i) n = 0 := by
      unfold FSt.readE FSt.within; rw [if_neg (by simp [i1]), if_neg (by simp; omega)]
    have hsum : IntKind.i64.wrap ((p.base s : Int) + i) = (p.base s : Int) + i := by rw [IntKind.wrap_i64]; omega
    have HZ := Lib.hid hz; have HE := Lib.hid he; clear hz he i1
    go_enter Try.func65, Try.ntmps65
    go_wp2_with (go_at_call 68; refine (pfault_any _ b f bb bw p s _ _ HP.out HF.out HH.out).mono ?_; rintro e w' ⟨rfl, m, rfl⟩; rw [HZ.out])
    go_region_with (first
      | (go_at_call 70; refine (pbase_any _ b f bb bw p s (HP.out.keep0 (Only.refl _ _)) HF.out HH.out).mono ?_; rintro e w' ⟨rfl, m2, rfl⟩)
      | (go_at_call 70; refine (pbase_any _ b f bb bw p s (Row.drewN HP.out _) (HF.out.drewN _) HH.out).mono ?_; rintro e w' ⟨rfl, m2, rfl⟩)
      | (go_at_call 78; refine (fread_any _ f bb bw s _ n (HF.out.drewN _)).mono ?_; rintro e w' ⟨v, rfl, h1, h2, h3⟩; rw [HE.out] at h2 ⊢))
    all_goals
      have H1 := Lib.hid h1; have H2 := Lib.hid (h2 (by trivial)); clear h1 h2 h3
      go_wp2
      go_ret2
      exact ⟨v, by rw [HZ.out]; rfl, ((Only.refl _ _).drewN _).then H1.out, fun _ => H2.out, fun h => absurd HZ.out h⟩
  · obtain ⟨E, hE⟩ : ∃ E, p.fault s i n = E := ⟨_, rfl⟩
    rw [hE] at hz ⊢
    have HE := Lib.hid hE; clear hE
    have hb : (E != 0) = true := by simpa using hz
    go_enter Try.func65, Try.ntmps65
    go_wp2_with (go_at_call 68; refine (pfault_any _ b f bb bw p s _ _ HP.out HF.out HH.out).mono ?_; rintro e w' ⟨rfl, m, rfl⟩; rw [HE.out])
    go_ret2
    exact ⟨_, rfl, (Only.refl _ _).drewN _, fun h => absurd h hz, fun _ => rfl⟩

end Go.Proofs.Ytdnpmkejondpoaa

/- Parts of a flash: one is made; its sectors are cleared. -/
namespace Go.Proofs.Ytdnpmkejondpoaa
open Go.RowKit
set_option linter.unusedVariables false
set_option linter.unusedSimpArgs false

/-- sectors are erased, one behind the other, up to the first error -/
def FSt.eraseN (s : FSt) (k : Nat) : Nat → Int × FSt
  | 0 => (0, s)
  | n + 1 => if (s.erase k).1 = 0 then FSt.eraseN (s.erase k).2 (k + 1) n else s.erase k
theorem FSt.eraseN_ok (n : Nat) : ∀ {s : FSt} (h : s.ok) (k : Nat), (s.eraseN k n).2.ok := by
  induction n with
  | zero => intro s h k; exact h
  | succ n ih => intro s h k; unfold FSt.eraseN; split
                 · exact ih (FSt.erase_ok h k) _
                 · exact FSt.erase_ok h k
theorem FSt.eraseN_same (n : Nat) : ∀ (s : FSt) (k : Nat), (s.eraseN k n).2.sector = s.sector ∧ (s.eraseN k n).2.wear.length = s.wear.length ∧ (s.eraseN k n).2.b.length = s.b.length := by
  induction n with
  | zero => intro s k; exact ⟨rfl, rfl, rfl⟩
  | succ n ih =>
    intro s k; unfold FSt.eraseN
    have h := s.erase_same k
    split
    · have h' := ih (s.erase k).2 (k + 1); exact ⟨h'.1.trans h.1, h'.2.1.trans h.2.1, h'.2.2.trans h.2.2⟩
    · exact h
def PSt.clear (p : PSt) (s : FSt) : Int × FSt := s.eraseN p.first p.count

def PClearPost (f bb bw : Nat) (p : PSt) (s : FSt) (w : World) (e : Ending) (w' : World) : Prop :=
  e = .returned (.int .i64 (p.clear s).1) ∧ FlashR w' f bb bw (p.clear s).2 ∧ Only (FlashS f bb bw) w w'

set_option maxHeartbeats 1600000 in
theorem pclear_any (w : World) (b f bb bw : Nat) (p : PSt) (s : FSt) (hP : PartR w b f p) (hF : FlashR w f bb bw s) (hf : p.fits s) (hO : ¬ FlashS f bb bw b) :
    Calls Try.prog 51 #[.pointer (some ⟨b, 0, none⟩)] w (PClearPost f bb bw p s w) := by
  obtain ⟨c0, c1, c2⟩ := Row.c3 hP
  have hn1 := hF.ok.n1
  have hle := hf.le
  have HP := Lib.hid hP; have HF := Lib.hid hF; have HH := Lib.hid hf; have HO := Lib.hid hO
  clear hP hF hf hO
  go_enter Try.func51, Try.ntmps51
  go_wp2
  go_loopw [9] (fun t wr => ∃ (k : Nat) (sk : FSt), k ≤ p.count ∧ t = .int .i64 k ∧ FlashR wr f bb bw sk ∧ Only (FlashS f bb bw) w wr ∧ s.eraseN p.first p.count = sk.eraseN (p.first + k) (p.count - k)) (fun t _ => p.count - (intOf t).toNat)
  case atStart => exact ⟨0, s, Nat.zero_le _, rfl, HF.out, Only.refl _ _, rfl⟩
  case round =>
    obtain ⟨k, sk, hk, rfl, hFk, hOk, hrel⟩ := hrel
    have HFk := Lib.hid hFk; have HOk := Lib.hid hOk; have HL := Lib.hid hrel; clear hFk hOk hrel
    have hPk : PartR wr b f p := Row.keep HP.out HOk.out HO.out
    clear c0 c1 c2
    obtain ⟨d0, d1, d2⟩ := Row.c3 hPk
    clear hPk
    by_cases hlt : k < p.count
    · obtain ⟨m, hm⟩ : ∃ m, p.count - k = m + 1 := ⟨p.count - k - 1, by omega⟩
      have hm2 : p.count - (k + 1) = m := by omega
      have HM := Lib.hid hm; have HM2 := Lib.hid hm2; clear hm hm2
      have hsum : IntKind.i64.wrap ((p.first : Int) + (k : Int)) = (p.first : Int) + (k : Int) := by rw [IntKind.wrap_i64]; omega
      obtain ⟨E, hE⟩ : ∃ E, (sk.erase ((p.first + k : Nat) : Int)).1 = E := ⟨_, rfl⟩
      have HE := Lib.hid hE; clear hE
      have hk2 : ((p.first : Int) + (k : Int)) = ((p.first + k : Nat) : Int) := by simp
      have HK2 := Lib.hid hk2; clear hk2
      by_cases hz : E = 0
      · subst hz
        go_wp2_with fail
        go_region_with (go_at_call 67; refine (erase_any _ f bb bw sk _ (HFk.out.drewN 1)).mono ?_; rintro e w' ⟨rfl, h1, h2⟩; rw [HK2.out] at h1 ⊢; rw [HE.out])
        all_goals
          have H1 := Lib.hid h1; have H2 := Lib.hid h2; clear h1 h2
          go_wp2
          go_roundw
          case rel =>
            refine ⟨k + 1, _, by omega, by go_num, H1.out, HOk.out.then (((Only.refl _ _).drewN 1).then H2.out), ?_⟩
            rw [HL.out, HM.out, HM2.out]
            simp only [FSt.eraseN]
            rw [if_pos HE.out, Nat.add_assoc]
          case measure => simp [intOf]; omega
      · have hb : (E != 0) = true := by simpa using hz
        go_wp2_with fail
        go_region_with (go_at_call 67; refine (erase_any _ f bb bw sk _ (HFk.out.drewN 1)).mono ?_; rintro e w' ⟨rfl, h1, h2⟩; rw [HK2.out] at h1 ⊢; rw [HE.out])
        all_goals
          have H1 := Lib.hid h1; have H2 := Lib.hid h2; clear h1 h2
          go_wp2
          go_ret
          have e1 : p.clear s = sk.erase ((p.first + k : Nat) : Int) := by
            unfold PSt.clear; rw [HL.out, HM.out]; simp only [FSt.eraseN]; rw [if_neg (by rw [HE.out]; exact hz)]
          exact ⟨ret_int (by rw [e1, HE.out]), by rw [e1]; exact H1.out, HOk.out.then (((Only.refl _ _).drewN 1).then H2.out)⟩
    · go_wp2
      go_ret
      have e0 : p.count - k = 0 := by omega
      have e1 : p.clear s = (0, sk) := by unfold PSt.clear; rw [HL.out, e0]; rfl
      exact ⟨ret_int (by rw [e1]), by rw [e1]; exact HFk.out, HOk.out⟩

def PNewPost (f : Nat) (p : PSt) (w : World) (e : Ending) (w' : World) : Prop :=
  ∃ b, e = .returned (.tuple #[.pointer (some ⟨b, 0, none⟩), .int .i64 0]) ∧ PartR w' b f p ∧ Only noB w w' ∧ w.heap.size ≤ b

set_option maxHeartbeats 800000 in
theorem pnew_any (w : World) (f bb bw : Nat) (p : PSt) (s : FSt) (hF : FlashR w f bb bw s) (hf : p.fits s) :
    Calls Try.prog 30 #[.pointer (some ⟨f, 0, none⟩), .int .i64 (p.first : Int), .int .i64 (p.count : Int)] w (PNewPost f p w) := by
  have h0 := hF.ok.s0; have h1 := hF.ok.s1; have h2 := hF.ok.n1; have hl := hF.ok.len
  have hc1 := hf.c1; have hle := hf.le
  have hdiv : (s.b.length : Int).tdiv s.sector = s.wear.length := by
    rw [hl, Int.mul_tdiv_cancel _ (by omega)]
  have hdiv2 : (s.b.length : Int) / s.sector = s.wear.length := by
    rw [hl, Int.mul_ediv_cancel _ (by omega)]
  have s0 : (s.sector == 0) = false := by simp; omega
  have HF := Lib.hid hF
  clear hF hf hl
  go_enter Try.func30, Try.ntmps30
  go_wp2_with (first
    | (go_at_call 47; refine (fsize_any _ f bb bw s HF.out).mono ?_; rintro e w' ⟨rfl, rfl⟩)
    | (go_at_call 42; refine (fsector_any _ f bb bw s HF.out).mono ?_; rintro e w' ⟨rfl, rfl⟩))
  go_ret2
  exact ⟨_, rfl, Row.new _ _ _, (Only.refl _ _).alloc _, Nat.le_refl _⟩

end Go.Proofs.Ytdnpmkejondpoaa
