/- Parts of a proof, joined: J5. -/
import Derived.Test.YtdnpmkejondpoaaT16

/- The journal: the record at a place of a group's bytes (more cases). -/
namespace Go.Proofs.Ytdnpmkejondpoaa
open Go.RowKit Go.Maps
set_option linter.unusedVariables false
set_option linter.unusedSimpArgs false

set_option maxRecDepth 100000 in
set_option maxHeartbeats 1000000 in
theorem next_longD (w : World) (g o n c i : Nat) (b : List UInt8) (hn : b.length = n) (hm : n ≤ 1000000) (h1 : i + 2 ≤ n) (hR : RdB w (some ⟨g, o, none⟩) b) (hk : (b.getD i 0).toNat < 32)
    (hy : b.getD (i + 1) 0 = 254) (hfin : n < i + 7 + 0) :
    Calls Try.prog 55 #[.slice (some ⟨g, o, none⟩) n c, .int .i64 (i : Int)] w (NextPost g b i w) := by
  obtain ⟨g', o', e, hc⟩ := hR.at_ (by omega)
  cases e
  have cx := hc i (by omega)
  have cy := hc (i + 1) (by omega)
  have hgl : g < w.heap.size := World.block_lt_of_cell? w _ cx
  have hRR := Lib.hid hR; have HNN := Lib.hid hn
  obtain ⟨x, hx⟩ : ∃ x, b.getD i 0 = x := ⟨_, rfl⟩
  obtain ⟨y, hyy⟩ : ∃ y, b.getD (i + 1) 0 = y := ⟨_, rfl⟩
  rw [hx] at cx hk
  rw [hyy] at cy hy
  have hN : recN y = 0 := by unfold recN; rw [if_pos hy]
  have hr : nextR b i = none := by
    unfold nextR; rw [hx, hyy, hN, if_neg (by omega), if_neg (by omega), if_neg (by omega), if_pos (by omega)]
  have HR := Lib.hid hr
  have hyb : ((y.toNat : Int) == 254) = true := by rw [hy]; rfl
  have h1' : ¬ (n : Int) < i + 2 := by omega
  have hk' : (x.toNat : Int) < 32 := by omega
  have r1 := u8_range y
  clear hr hn hc hR hx hyy hN hy
  go_enter Try.func55, Try.ntmps55
  go_wp2
  go_region
  go_wp2
  refine bodyPost_ret (v := .tuple #[zeroRec, .bool false]) (by simp [results, Try.results55, go_sem, zeroRec]) rfl (next_none HR.out ?_)
  repeat (first | exact Only.refl _ _ | refine Only.setNew ?_ _ _ _ (by simp) | refine Only.alloc ?_ _ | refine Only.drew ?_)

set_option maxRecDepth 100000 in
set_option maxHeartbeats 1000000 in
theorem next_markD (w : World) (g o n c i : Nat) (b : List UInt8) (hn : b.length = n) (hm : n ≤ 1000000) (h1 : i + 2 ≤ n) (hR : RdB w (some ⟨g, o, none⟩) b) (hk : (b.getD i 0).toNat < 32)
    (hy : b.getD (i + 1) 0 = 254) (hfin : i + 7 + 0 ≤ n) (hmk : b.getD (i + 6 + 0) 0 ≠ 0) :
    Calls Try.prog 55 #[.slice (some ⟨g, o, none⟩) n c, .int .i64 (i : Int)] w (NextPost g b i w) := by
  obtain ⟨g', o', e, hc⟩ := hR.at_ (by omega)
  cases e
  have cx := hc i (by omega)
  have cy := hc (i + 1) (by omega)
  have cz := hc (i + 6 + 0) (by omega)
  have hgl : g < w.heap.size := World.block_lt_of_cell? w _ cx
  have hRR := Lib.hid hR; have HNN := Lib.hid hn
  obtain ⟨x, hx⟩ : ∃ x, b.getD i 0 = x := ⟨_, rfl⟩
  obtain ⟨y, hyy⟩ : ∃ y, b.getD (i + 1) 0 = y := ⟨_, rfl⟩
  obtain ⟨z, hz⟩ : ∃ z, b.getD (i + 6 + 0) 0 = z := ⟨_, rfl⟩
  rw [hz] at cz hmk
  rw [hx] at cx hk
  rw [hyy] at cy hy
  have hN : recN y = 0 := by unfold recN; rw [if_pos hy]
  have hr : nextR b i = none := by
    unfold nextR; rw [hx, hyy, hN, if_neg (by omega), if_neg (by omega), if_neg (by omega), if_neg (by omega), if_pos (by rw [hz]; exact hmk)]
  have HR := Lib.hid hr
  have hyb : ((y.toNat : Int) == 254) = true := by rw [hy]; rfl
  have hzb : ((z.toNat : Int) != 0) = true := by rw [bne_zero_u8]; simpa using hmk
  have h1' : ¬ (n : Int) < i + 2 := by omega
  have hk' : (x.toNat : Int) < 32 := by omega
  have r1 := u8_range y
  clear hr hn hc hR hx hyy hN hy hmk hz
  go_enter Try.func55, Try.ntmps55
  go_wp2
  go_region
  go_wp2
  refine bodyPost_ret (v := .tuple #[zeroRec, .bool false]) (by simp [results, Try.results55, go_sem, zeroRec]) rfl (next_none HR.out ?_)
  repeat (first | exact Only.refl _ _ | refine Only.setNew ?_ _ _ _ (by simp) | refine Only.alloc ?_ _ | refine Only.drew ?_)

set_option maxRecDepth 100000 in
set_option maxHeartbeats 1000000 in
theorem next_okD (w : World) (g o n c i : Nat) (b : List UInt8) (hn : b.length = n) (hm : n ≤ 1000000) (h1 : i + 2 ≤ n) (hR : RdB w (some ⟨g, o, none⟩) b) (hk : (b.getD i 0).toNat < 32)
    (hy : b.getD (i + 1) 0 = 254) (hfin : i + 7 + 0 ≤ n) (hmk : b.getD (i + 6 + 0) 0 = 0) (hnc : n ≤ c) :
    Calls Try.prog 55 #[.slice (some ⟨g, o, none⟩) n c, .int .i64 (i : Int)] w (NextPost g b i w) := by
  obtain ⟨g', o', e, hc⟩ := hR.at_ (by omega)
  cases e
  have cx := hc i (by omega)
  have cy := hc (i + 1) (by omega)
  have cz := hc (i + 6 + 0) (by omega)
  have hgl : g < w.heap.size := World.block_lt_of_cell? w _ cx
  have hRR := Lib.hid hR; have HNN := Lib.hid hn
  obtain ⟨x, hx⟩ : ∃ x, b.getD i 0 = x := ⟨_, rfl⟩
  obtain ⟨y, hyy⟩ : ∃ y, b.getD (i + 1) 0 = y := ⟨_, rfl⟩
  rw [hmk] at cz
  rw [hx] at cx hk
  rw [hyy] at cy hy
  have hN : recN y = 0 := by unfold recN; rw [if_pos hy]
  have hr : nextR b i = some ⟨x.toNat, (b.drop (i + 2)).take 0, true, i + 7 + 0⟩ := by
    unfold nextR; rw [hx, hyy, hN, if_neg (by omega), if_neg (by omega), if_neg (by omega), if_neg (by omega), if_neg (by rw [hmk]; simp)]; simp [hy]
  have HR := Lib.hid hr
  have hyb : ((y.toNat : Int) == 254) = true := by rw [hy]; rfl
  have h1' : ¬ (n : Int) < i + 2 := by omega
  have hk' : (x.toNat : Int) < 32 := by omega
  have r1 := u8_range y
  clear hr hn hc hR hx hyy hN hy hmk
  go_enter Try.func55, Try.ntmps55
  go_wp2
  go_region
  go_wp2
  refine bodyPost_ret (v := .tuple #[.agg #[.int .i64 (x.toNat : Int), .slice (some ⟨g, o, none⟩) 0 0, .bool true, .int .i64 ((i : Int) + 7)], .bool true]) (by simp [results, Try.results55, go_sem]) rfl ⟨?_, ?_⟩
  · repeat (first | exact Only.refl _ _ | refine Only.setNew ?_ _ _ _ (by simp) | refine Only.alloc ?_ _ | refine Only.drew ?_)
  · rw [HR.out]
    refine ⟨o, ?_, .inl (by simp)⟩
    simp

end Go.Proofs.Ytdnpmkejondpoaa
