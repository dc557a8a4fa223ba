/- Parts of a proof, joined: AliveW. -/
import Derived.Deep.RegionWith
import Derived.Test.YtdnpmkejondpoaaT21

/- The law's alive: the document's example is as it says. -/
namespace Go.Proofs.Ytdnpmkejondpoaa
open Go.RowKit Go.Maps
set_option linter.unusedVariables false
set_option linter.unusedSimpArgs false

theorem rd_ab (w : World) (fz : Nat × Nat) : RdB (w.alloc (.cells #[.int .u8 97, .int .u8 98] 5 fz)) (some ⟨w.heap.size, 0, none⟩) [97, 98] := by
  refine .inr ⟨_, _, rfl, fun i hi => ?_⟩
  rw [World.cell?_alloc_mark]
  match i, hi with
  | 0, _ => rfl
  | 1, _ => rfl

set_option maxRecDepth 100000 in
set_option maxHeartbeats 4000000 in
theorem alive_any (w : World) : Calls Try.prog 7 #[] w fun e w' => e = .returned (.bool true) ∧ Only noB w w' := by
  have kc := fun (w : World) (C : Array Value) (n c : Nat) => Lib.run_convert_bytes_const (P := Try.prog) w 33 5 C n c Try.underlying33 Try.underlying5
  go_enter Try.func7, Try.ntmps7
  go_wp2_with fail
  refine (groups_any w 32).mono ?_
  rintro e w1 ⟨E, rfl, h1, h2, h3, h4, h5⟩
  have H1 := Lib.hid h1; have H2 := Lib.hid h2; have H3 := Lib.hid h3; have H4 := Lib.hid h4; have H5 := Lib.hid h5
  clear h1 h2 h3 h4 h5
  go_wp2_with fail
  refine (jopen w1 E s0A 64 H1.out rfl H2.out H3.out).mono ?_
  rintro e w2 ⟨k1, _, _, k4⟩
  obtain ⟨jb, hjb, rfl, hJ⟩ := k4 alive1.1
  have hJ : JW w2 E jb 64 r1A.2 := hJ
  have K1 := Lib.hid k1; have HJ := Lib.hid hJ
  clear k1 k4 hJ
  go_wp2_with fail
  refine (jepoch HJ.out).mono ?_
  rintro e w3 ⟨rfl, rfl⟩
  rw [alive1.2]
  go_wp2_with fail
  refine (jput (HJ.out.keep0 ((Only.refl _ _).alloc _)) 3 _ 2 2 [97, 98] (by unfold inI; omega) rfl (fun h => by cases h) (rd_ab _ _)).mono ?_
  rintro e w3 ⟨rfl, q1, q2⟩
  have hr : (EA.put 64 r1A.2 3 [97, 98]).1 = 0 := alive2.1
  rw [hr]
  have q1 : JW w3 E jb 64 r2A.2 := q1
  have HJ3 := Lib.hid q1
  have hk := ((Only.refl (JWS E jb) w2).alloc (.cells #[.int .u8 97, .int .u8 98] 5 (2, 3))).then q2
  have HK3 := Lib.hid hk
  clear hr q1 q2 hk
  go_wp2_with fail
  refine (jput HJ3.out 40 _ 0 0 [] (by unfold inI; omega) rfl (fun _ => rfl) (.inl rfl)).mono ?_
  rintro e w4 ⟨rfl, q1, q2⟩
  rw [put40A] at q1 ⊢
  have HJ4 := Lib.hid q1
  have HK4 := Lib.hid (HK3.out.then q2)
  clear q1 q2
  go_wp2_with fail
  refine (jdrop HJ4.out 5 (by unfold inI; omega)).mono ?_
  rintro e w5 ⟨rfl, q1, q2⟩
  rw [drop5A] at q1 ⊢
  have HJ5 := Lib.hid q1
  have HK5 := Lib.hid (HK4.out.then q2)
  clear q1 q2
  go_wp2_with fail
  refine (fimage_any w5 E.f E.bb E.bw r2A.2.s HJ5.out.sys.fl).mono ?_
  rintro e w6 ⟨img, rfl, i1, i2, _⟩
  have HI := Lib.hid i1; have HK6 := Lib.hid i2; have HJ6 := Lib.hid (HJ5.out.keep0 i2)
  clear i1 i2
  go_wp2_with fail
  refine (jget HJ6.out 3 (by unfold inI; omega)).mono ?_
  rintro e w7 ⟨v7, rfl, g1, g2⟩
  rw [get3A.1] at g1
  rw [get3A.1]
  have HG7 := Lib.hid g1; have HK7 := Lib.hid g2; have HJ7 := Lib.hid (HJ6.out.keep0 g2)
  clear g1 g2
  go_wp2_with fail
  refine (jkeys HJ7.out).mono ?_
  rintro e w8 ⟨v8, rfl, g1, g2⟩
  rw [alive6.2.2] at g1
  have HY8 := Lib.hid g1; have HK8 := Lib.hid g2; have HJ8 := Lib.hid (HJ7.out.keep0 g2)
  clear g1 g2
  go_wp2_with fail
  refine (jopen w8 E r2A.2.s 64 HJ8.out.sys rfl H2.out H3.out).mono ?_
  rintro e w9 ⟨k1, _, _, k4⟩
  obtain ⟨jc, hjc, rfl, hJ⟩ := k4 alive3.1
  have hJ : JW w9 E jc 64 r3A.2 := hJ
  have HK9 := Lib.hid k1; have HJ9 := Lib.hid hJ
  clear k1 k4 hJ
  go_wp2_with fail
  refine (jget HJ9.out 3 (by unfold inI; omega)).mono ?_
  rintro e w10 ⟨v10, rfl, g1, g2⟩
  rw [get3A.2] at g1
  rw [get3A.2]
  have HG10 := Lib.hid g1; have HK10 := Lib.hid g2; have HJ10 := Lib.hid (HJ9.out.keep0 g2)
  clear g1 g2
  have hlt : ∀ k, E.FS k → k < w5.heap.size := fun k hk => HJ5.out.lt k (JWS.fs hk)
  have hs6 := HK6.out.size
  have hs7 := HK7.out.size
  have e1 : OwnB w9 w5.heap.size img r2A.2.s.b := ((HI.out.keep0 HK7.out).keep0 HK8.out).keep HK9.out hlt
  obtain ⟨gi, ci, rfl, _, hci, hcell⟩ := (e1.keep0 HK10.out).row (by intro h; have := img64A; rw [h] at this; cases this)
  rw [img64A] at hci ⊢
  have c0 := hcell 0 (by rw [img64A]; omega)
  have c1 := hcell 1 (by rw [img64A]; omega)
  have c8 := hcell 8 (by rw [img64A]; omega)
  have c9 := hcell 9 (by rw [img64A]; omega)
  have c10 := hcell 10 (by rw [img64A]; omega)
  have c16 := hcell 16 (by rw [img64A]; omega)
  rw [alive7.1] at c0; rw [alive7.2.1] at c1; rw [alive7.2.2.1] at c8; rw [alive7.2.2.2.1] at c9; rw [alive7.2.2.2.2.1] at c10; rw [alive7.2.2.2.2.2] at c16
  have cv7 := (((HG7.out.keep0 HK8.out).keep HK9.out (fun k hk => by have := hlt k hk; omega)).keep0 HK10.out).str
  have cv10 := HG10.out.str
  obtain ⟨a8, c8', rfl, h8⟩ := ((HY8.out.keep HK9.out (fun k hk => by have := hlt k hk; omega)).keep0 HK10.out).typed
  have h8' : ∃ g, a8 = some ⟨g, 0, none⟩ ∧ w10.cell? ⟨g, 0, none⟩ = some (.int .i64 3) := by
    rcases h8 with h | ⟨g, cs, fz, e, _, hh, h⟩
    · cases h
    · exact ⟨g, e, h w10 hh 0 (by simp)⟩
  obtain ⟨g8, rfl, ck⟩ := h8'
  have HJB := Lib.hid ((HJ8.out.reopen HK9.out (by rw [← alive8]; exact HJ9.out.sys)).keep0 HK10.out)
  clear hlt hs6 hs7 e1 hcell h8
  go_wp2_with fail
  clear c0 c1 c8 c9 c10 c16 cv7 cv10 ck
  refine (jroom HJB.out).mono ?_
  rintro e w11 ⟨rfl, k11⟩
  have hr : ((64 : Nat) : Int) - (r2A.2.fin : Int) = 47 := by rw [alive2.2]; rfl
  rw [hr]
  have HK11 := Lib.hid k11
  clear hr k11
  go_wp2_with fail
  refine (jdrop (HJ10.out.keep0 HK11.out) 3 (by unfold inI; omega)).mono ?_
  rintro e w12 ⟨rfl, q1, q2⟩
  have hr : (EA.drop 64 r3A.2 3).1 = 0 := alive6.1
  rw [hr]
  have HJ12 := Lib.hid q1; have HK12 := Lib.hid q2
  clear hr q1 q2
  go_wp2_with fail
  refine (jkeys HJ12.out).mono ?_
  rintro e w13 ⟨v13, rfl, g1, g2⟩
  rw [alive6.2.1] at g1
  obtain ⟨a13, c13, rfl, _⟩ := g1.typed
  have HK13 := Lib.hid g2
  clear g1 g2
  go_wp2_with fail
  go_ret
  refine ⟨rfl, ?_⟩
  have f1 : ∀ x, x < w.heap.size → E.FS x → noB x := fun x hx h => by have := H5.out x h; omega
  have s1 := H4.out.size
  have s2 := K1.out.size
  have s5 := HK5.out.size
  have s6 := HK6.out.size
  have s7 := HK7.out.size
  have s8 := HK8.out.size
  have f2 : ∀ x, x < w.heap.size → JWS E jb x → noB x := fun x hx h => by
    rcases h with h | h
    · exact f1 x hx h
    · have e2 : x = jb := h; omega
  have f3 : ∀ x, x < w.heap.size → JWS E jc x → noB x := fun x hx h => by
    rcases h with h | h
    · exact f1 x hx h
    · have e2 : x = jc := h; omega
  have t2 : Only noB w w2 := H4.out.trans K1.out f1
  have t8 : Only noB w w8 := (((t2.trans HK5.out f2).then HK6.out).then HK7.out).then HK8.out
  have t11 : Only noB w w11 := ((t8.trans HK9.out f1).then HK10.out).then HK11.out
  exact (t11.trans HK12.out f3).then HK13.out

end Go.Proofs.Ytdnpmkejondpoaa
