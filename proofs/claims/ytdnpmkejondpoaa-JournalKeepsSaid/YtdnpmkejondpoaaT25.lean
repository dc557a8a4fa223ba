/- Parts of a proof, joined: Copy1, With, Ops. -/
import Derived.Test.YtdnpmkejondpoaaT21

/- The references' helpers: bytes as new memory; how many bytes pairs take. -/
namespace Go.Proofs.Ytdnpmkejondpoaa
open Go.RowKit Go.Maps
set_option linter.unusedVariables false
set_option linter.unusedSimpArgs false

theorem OwnB.new (w : World) : OwnB (w.alloc (.cells #[] 5)) w.heap.size (.slice (some ⟨w.heap.size, 0, none⟩) 0 0) [] :=
  World.ownsRow_lit (base := w.heap.size) (e := 5) (size := 1) w #[] 0 (Nat.le_refl _) (by simp [maxLen]) (by simp)

set_option maxRecDepth 100000 in
set_option maxHeartbeats 1000000 in
theorem copy1_any (w : World) (a : Option Addr) (n c : Nat) (l : List UInt8) (hn : l.length = n) (hR : RdB w a l) (hm : n ≤ 1000000) :
    Calls Try.prog 45 #[.slice a n c] w (OwnPost l w) := by
  have HN := Lib.hid hn; have HR := Lib.hid hR
  clear hn hR
  go_enter Try.func45, Try.ntmps45
  go_wp2
  go_loopw [3, 4] (fun v t wr => ∃ k : Nat, t = .int .i64 (k : Int) ∧ k ≤ n ∧ OwnB wr w.heap.size v (l.take k) ∧ Only noB w wr) (fun _ t _ => n - (intOf t).toNat)
  case atStart => exact ⟨0, rfl, by omega, OwnB.new w, (Only.refl _ _).alloc _⟩
  case round =>
    obtain ⟨k, rfl, hk, hown, hO⟩ := hrel
    have HOWN := Lib.hid hown; have HO := Lib.hid hO
    clear hown hO
    by_cases hlt : k < n
    · obtain ⟨g, o, rfl, hc⟩ := (HR.out.keep0 HO.out).at_ (by rw [HN.out]; omega)
      have cx := hc k (by rw [HN.out]; omega)
      obtain ⟨x, hx⟩ : ∃ x, l.getD k 0 = x := ⟨_, rfl⟩
      rw [hx] at cx
      have htk : l.take (k + 1) = l.take k ++ [x] := by
        rw [List.take_succ_eq_append_getElem (by rw [HN.out]; exact hlt)]
        congr 2
        rw [← hx, List.getD_eq_getElem?_getD, List.getElem?_eq_getElem (by rw [HN.out]; exact hlt)]; rfl
      have HTK := Lib.hid htk
      clear hc hx htk
      go_wp2_with (at_builtin; refine app_own (.tmp 12) (.tmp 17) rfl rfl w.heap.size _ _ rfl (HOWN.out.keep0 ((Only.refl _ _).alloc _)) (some ⟨wr.heap.size, 0, none⟩) 1 1 [x] rfl rfl (rd_new1 _ _ _ rfl) (fun h => by cases h) (by have := HO.out.size; simp; omega) (by rw [List.length_take]; simp; omega) ?_; intro v2 w2 g1 g2 g3; have G1 := Lib.hid g1; have G2 := Lib.hid g2; clear g1 g2 g3)
      go_roundw
      case rel => exact ⟨k + 1, by go_num, by omega, by rw [HTK.out]; exact G1.out, (HO.out.alloc _).trans G2.out (fun y hy e => by omega)⟩
      case measure => simp [intOf]; omega
    · obtain rfl : k = n := by omega
      go_wp2
      go_ret
      have h := HOWN.out
      rw [List.take_of_length_le (by rw [HN.out]; exact Nat.le_refl _)] at h
      exact ⟨_, rfl, h, HO.out⟩

set_option maxRecDepth 100000 in
set_option maxHeartbeats 1000000 in
theorem need5_any (w : World) (S : Nat → Prop) (v : Value) (m : Vals) (h : RdP w S v m) (hm : m.length ≤ 32) (hs : ∀ p ∈ m, p.2.length ≤ 250) :
    Calls Try.prog 17 #[v] w (QuietPost (.int .i64 (needV m : Int)) w) := by
  obtain ⟨a, c, rfl, _, f⟩ := h.form
  have hle := needV_le hs hm
  obtain ⟨n, hn⟩ : ∃ n, m.length = n := ⟨_, rfl⟩
  rw [hn] at hm ⊢
  have HN := Lib.hid hn; have F := Lib.hid f; have HS := Lib.hid hs
  have hbd : ∀ k, needV (m.take k) ≤ 8232 := fun k => needV_le (fun p hp => HS.out p (List.mem_of_mem_take hp)) (by rw [List.length_take, HN.out]; omega)
  have HBD := Lib.hid hbd
  clear hn h f hs hle hbd
  go_enter Try.func17, Try.ntmps17
  go_wp2
  go_loopw [3, 4] (fun s t wr => ∃ k d : Nat, t = .int .i64 (k : Int) ∧ k ≤ n ∧ s = .int .i64 (needV (m.take k) : Int) ∧ wr = w.drewN d) (fun _ t _ => n - (intOf t).toNat)
  case atStart => exact ⟨0, 0, rfl, by omega, rfl, rfl⟩
  case round =>
    obtain ⟨k, d, rfl, hk, rfl, rfl⟩ := hrel
    have hb := HBD.out k
    by_cases hlt : k < n
    · obtain ⟨g, a2, c2, rfl, hgl, q1, q2, r2, n2, _⟩ := F.out k (by rw [HN.out]; exact hlt)
      have hsm := HS.out _ (List.getElem_mem (show k < m.length by rw [HN.out]; exact hlt))
      have hst : needV (m.take (k + 1)) = needV (m.take k) + (7 + (m[k]'(by rw [HN.out]; exact hlt)).2.length) := by
        rw [List.take_succ_eq_append_getElem (by rw [HN.out]; exact hlt)]
        unfold needV recLen
        rw [List.map_append, List.sum_append, List.map_singleton, List.sum_singleton]; omega
      obtain ⟨q, hq⟩ : ∃ q, m[k]'(by rw [HN.out]; exact hlt) = q := ⟨_, rfl⟩
      rw [hq] at q1 q2 r2 hsm hst
      obtain ⟨x, l⟩ := q
      simp only at q1 q2 r2 hsm hst
      have HST := Lib.hid hst
      clear hst hq r2 n2
      go_wp2
      go_roundw
      case rel => exact ⟨k + 1, d, by go_num, by omega, by rw [HST.out]; go_num, rfl⟩
      case measure => simp [intOf]; omega
    · obtain rfl : k = n := by omega
      go_wp2
      go_ret
      refine ⟨ret_int ?_, d, rfl⟩
      rw [List.take_of_length_le (by rw [HN.out]; exact Nat.le_refl _)]

end Go.Proofs.Ytdnpmkejondpoaa

/- The references' helpers: pairs with a value, without a key. -/
namespace Go.Proofs.Ytdnpmkejondpoaa
open Go.RowKit Go.Maps
set_option linter.unusedVariables false
set_option linter.unusedSimpArgs false

theorem kput_lt {α : Type} {m : List (Int × α)} {k : Int} (h : ∀ p ∈ m, p.1 < k) (v : α) (r : List (Int × α)) : kput (m ++ r) k v = m ++ kput r k v := by
  induction m with
  | nil => rfl
  | cons p t ih =>
    have := h p List.mem_cons_self
    rw [List.cons_append, List.cons_append]
    conv => lhs; unfold kput
    rw [if_neg (by omega), if_neg (by omega), ih (fun q hq => h q (List.mem_cons_of_mem _ hq))]
theorem kput_ge {α : Type} {m : List (Int × α)} {k : Int} (h : ∃ p ∈ m, k ≤ p.1) (v : α) (r : List (Int × α)) : kput (m ++ r) k v = kput m k v ++ r := by
  induction m with
  | nil => obtain ⟨p, hp, _⟩ := h; simp at hp
  | cons p t ih =>
    rw [List.cons_append]
    unfold kput
    by_cases h1 : k < p.1
    · rw [if_pos h1, if_pos h1]; rfl
    · by_cases h2 : k = p.1
      · rw [if_neg h1, if_neg h1, if_pos h2, if_pos h2]; rfl
      · rw [if_neg h1, if_neg h1, if_neg h2, if_neg h2, ih ?_]
        · rfl
        · obtain ⟨q, hq, hk⟩ := h
          rcases List.mem_cons.1 hq with rfl | hq
          · omega
          · exact ⟨q, hq, hk⟩

theorem kput_len {α : Type} (m : List (Int × α)) (k : Int) (v : α) : (kput m k v).length ≤ m.length + 1 := by
  induction m with
  | nil => simp [kput]
  | cons p t ih =>
    unfold kput
    split
    · simp
    · split
      · simp
      · simp; omega

def PairsOwn (S : Nat → Prop) (m : Vals) (w : World) (e : Ending) (w' : World) : Prop := ∃ v, e = .returned v ∧ OwnP w' w.heap.size S v m ∧ Only noB w w'

set_option maxRecDepth 100000 in
set_option maxHeartbeats 4000000 in
theorem without_any (w : World) (S : Nat → Prop) (v : Value) (m : Vals) (k : Int) (h : RdP w S v m) (hS : ∀ k, S k → k < w.heap.size) (hm : m.length ≤ 1000) :
    Calls Try.prog 24 #[v, .int .i64 k] w (PairsOwn S (kdel m k) w) := by
  obtain ⟨a, c, rfl, _, _⟩ := h.form
  obtain ⟨n, hn⟩ : ∃ n, m.length = n := ⟨_, rfl⟩
  rw [hn] at h hm ⊢
  have HN := Lib.hid hn; have H := Lib.hid h; have HS := Lib.hid hS
  clear hn h hS
  go_enter Try.func24, Try.ntmps24
  go_wp2
  go_loopw [5, 6] (fun v t wr => ∃ i : Nat, t = .int .i64 (i : Int) ∧ i ≤ n ∧ OwnP wr w.heap.size S v (kdel (m.take i) k) ∧ Only noB w wr) (fun _ t _ => n - (intOf t).toNat)
  case atStart => exact ⟨0, rfl, by omega, OwnP.new w S, (Only.refl _ _).alloc _⟩
  case round =>
    obtain ⟨i, rfl, hi, hown, hO⟩ := hrel
    have HOWN := Lib.hid hown; have HO := Lib.hid hO
    clear hown hO
    by_cases hlt : i < n
    · obtain ⟨a', c', e', _, f⟩ := (H.out.keep HO.out.ofNo).form
      rw [HN.out] at e'
      cases e'
      obtain ⟨g, a2, c2, rfl, hgl, q1, q2, r2, n2, sl⟩ := f i (by rw [HN.out]; exact hlt)
      have htk : m.take (i + 1) = m.take i ++ [m[i]'(by rw [HN.out]; exact hlt)] := List.take_succ_eq_append_getElem _
      obtain ⟨q, hq⟩ : ∃ q, m[i]'(by rw [HN.out]; exact hlt) = q := ⟨_, rfl⟩
      rw [hq] at q1 q2 r2 sl htk
      obtain ⟨x, l⟩ := q
      simp only at q1 q2 r2 sl htk
      have SL := Lib.hid sl; have HTK := Lib.hid htk
      clear htk hq r2 n2 f sl
      by_cases hx : x = k
      · have hb : (x != k) = false := by simp [hx]
        have hkd : kdel (m.take (i + 1)) k = kdel (m.take i) k := by rw [HTK.out]; unfold kdel; rw [List.filter_append, List.filter_cons_of_neg (by simp [hx])]; simp
        have HKD := Lib.hid hkd
        clear hkd hx
        go_wp2
        go_roundw
        case rel => exact ⟨i + 1, by go_num, by omega, by rw [HKD.out]; exact HOWN.out, HO.out⟩
        case measure => simp [intOf]; omega
      · have hb : (x != k) = true := by simp [hx]
        have hkd : kdel (m.take (i + 1)) k = kdel (m.take i) k ++ [(x, l)] := by rw [HTK.out]; unfold kdel; rw [List.filter_append, List.filter_cons_of_pos (by simp [hx])]; rfl
        have hkl : (kdel (m.take i) k).length ≤ 1000 := by
          have h1 := List.length_filter_le (fun p : Int × List UInt8 => !decide (p.1 = k)) (m.take i)
          rw [List.length_take] at h1; unfold kdel; omega
        have HKD := Lib.hid hkd
        have hp : Only noB wr (wr.alloc (.cells #[.int .i64 x, .slice a2 l.length c2] 78)) := (Only.refl _ _).alloc _
        have HP := Lib.hid hp
        clear hkd hx hp
        go_wp2_with (at_builtin; refine appP (.tmp 21) (.tmp 26) rfl rfl w.heap.size S _ (kdel (m.take i) k) rfl (HOWN.out.keep0 HP.out) wr.heap.size 1 x (.slice a2 l.length c2) l rfl (by simp) (by simp) (SL.out.keep HP.out.ofNo) (Nat.le_trans HO.out.size HP.out.size) (by omega) HS.out ?_; intro v4 w4 g1 g2 g3; have G1 := Lib.hid g1; have G2 := Lib.hid g2; clear g1 g2 g3)
        go_roundw
        case rel => exact ⟨i + 1, by go_num, by omega, by rw [HKD.out]; exact G1.out, (HO.out.then HP.out).trans G2.out (fun y hy e => by omega)⟩
        case measure => simp [intOf]; omega
    · obtain rfl : i = n := by omega
      go_wp2
      go_ret
      have h := HOWN.out
      rw [List.take_of_length_le (by rw [HN.out]; exact Nat.le_refl _)] at h
      exact ⟨_, rfl, h, HO.out⟩

set_option maxRecDepth 100000 in
set_option maxHeartbeats 4000000 in
theorem with_any (w : World) (S : Nat → Prop) (v : Value) (m : Vals) (k : Int) (b : Option Addr) (nb cb : Nat) (lb : List UInt8) (h : RdP w S v m) (hS : ∀ k, S k → k < w.heap.size) (hm : m.length ≤ 1000) (hup : rising m)
    (hnb : lb.length = nb) (hb : RdB w b lb) (hbm : nb ≤ 1000000) :
    Calls Try.prog 22 #[v, .int .i64 k, .slice b nb cb] w (PairsOwn S (kput m k lb) w) := by
  obtain ⟨a, c, rfl, _, _⟩ := h.form
  obtain ⟨n, hn⟩ : ∃ n, m.length = n := ⟨_, rfl⟩
  rw [hn] at h hm ⊢
  have HN := Lib.hid hn; have H := Lib.hid h; have HS := Lib.hid hS; have HUP := Lib.hid hup; have HNB := Lib.hid hnb; have HB := Lib.hid hb
  clear hn h hS hup hnb hb
  go_enter Try.func22, Try.ntmps22
  go_wp2
  go_loopw [7, 8, 9] (fun u d t wr => ∃ (i : Nat) (D : Bool), t = .int .i64 (i : Int) ∧ d = .bool D ∧ i ≤ n ∧ OwnP wr w.heap.size S u (if D = true then kput (m.take i) k lb else m.take i) ∧ Only noB w wr ∧
    (D = true → ∃ p ∈ m.take i, k ≤ p.1) ∧ (D = false → ∀ p ∈ m.take i, p.1 < k)) (fun _ _ t _ => n - (intOf t).toNat)
  case atStart => exact ⟨0, false, rfl, rfl, by omega, OwnP.new w S, (Only.refl _ _).alloc _, by simp, by simp⟩
  case round =>
    obtain ⟨i, D, rfl, rfl, hi, hown, hO, hd1, hd0⟩ := hrel
    have HOWN := Lib.hid hown; have HO := Lib.hid hO; have HD1 := Lib.hid hd1; have HD0 := Lib.hid hd0
    clear hown hO hd1 hd0
    by_cases hlt : i < n
    · obtain ⟨a', c', e', _, f⟩ := H.out.form
      rw [HN.out] at e'
      cases e'
      obtain ⟨g, a2, c2, rfl, hgl0, q1, q2, r2, n2, sl⟩ := f i (by rw [HN.out]; exact hlt)
      have htk : m.take (i + 1) = m.take i ++ [m[i]'(by rw [HN.out]; exact hlt)] := List.take_succ_eq_append_getElem _
      have hgt : ∀ p ∈ m.take i, p.1 < (m[i]'(by rw [HN.out]; exact hlt)).1 := fun p hp => by
        have h1 := HUP.out
        unfold rising at h1
        rw [← List.take_append_drop i m] at h1
        have h2 := (List.pairwise_append.1 h1).2.2 p hp (m[i]'(by rw [HN.out]; exact hlt)) (by
          rw [List.mem_iff_getElem?]; exact ⟨0, by rw [List.getElem?_drop]; simp [HN.out, hlt]⟩)
        exact h2
      obtain ⟨q, hq⟩ : ∃ q, m[i]'(by rw [HN.out]; exact hlt) = q := ⟨_, rfl⟩
      rw [hq] at q1 q2 r2 sl htk hgt
      obtain ⟨x, l⟩ := q
      simp only at q1 q2 r2 sl htk hgt
      have fx : ∀ w', Only noB w w' → w'.cell? ⟨g, i * 2, none⟩ = some (.int .i64 x) ∧ w'.cell? ⟨g, i * 2 + 1, none⟩ = some (.slice a2 l.length c2) ∧ SlT w' S (.slice a2 l.length c2) l ∧ g < w'.heap.size :=
        fun w' ho => ⟨(ho.cell (a := ⟨g, i * 2, none⟩) hgl0 (noB_not _)).trans q1, (ho.cell (a := ⟨g, i * 2 + 1, none⟩) hgl0 (noB_not _)).trans q2, sl.keep ho.ofNo, Nat.lt_of_lt_of_le hgl0 ho.size⟩
      have FX := Lib.hid fx; have HTK := Lib.hid htk; have HGT := Lib.hid hgt
      clear htk hq r2 n2 f sl hgt q1 q2 fx hgl0
      obtain ⟨q1, q2, sl, hgl⟩ := FX.out wr HO.out
      have SL := Lib.hid sl
      clear sl
      have htl : (m.take i).length ≤ 1000 := by rw [List.length_take]; omega
      cases D with
      | true =>
        clear HD0
        obtain ⟨p, hp, hkp⟩ := HD1.out rfl
        have hxk : k < x := by have := HGT.out p hp; omega
        have hb1 : (x != k) = true := by simp; omega
        have hst : kput (m.take (i + 1)) k lb = kput (m.take i) k lb ++ [(x, l)] := by rw [HTK.out]; exact kput_ge ⟨p, hp, hkp⟩ _ _
        have HST := Lib.hid hst
        have hex : ∃ p ∈ m.take (i + 1), k ≤ p.1 := ⟨p, by rw [HTK.out]; exact List.mem_append_left _ hp, hkp⟩
        have HEX := Lib.hid hex
        have hkl : (kput (m.take i) k lb).length ≤ 1001 := by
          have := kput_len (m.take i) k lb; omega
        have hp : Only noB wr (wr.alloc (.cells #[.int .i64 x, .slice a2 l.length c2] 78)) := (Only.refl _ _).alloc _
        have HP := Lib.hid hp
        have hown := HOWN.out
        rw [if_pos rfl] at hown
        have HOW := Lib.hid hown
        clear hst hex hp hown hkp
        go_wp2_with (at_builtin; refine appP (.tmp 42) (.tmp 47) rfl rfl w.heap.size S _ (kput (m.take i) k lb) rfl (HOW.out.keep0 HP.out) wr.heap.size 1 x (.slice a2 l.length c2) l rfl (by simp) (by simp) (SL.out.keep HP.out.ofNo) (Nat.le_trans HO.out.size HP.out.size) (by omega) HS.out ?_; intro v4 w4 g1 g2 g3; have G1 := Lib.hid g1; have G2 := Lib.hid g2; clear g1 g2 g3)
        go_roundw
        case rel => exact ⟨i + 1, true, by go_num, rfl, by omega, by rw [if_pos rfl, HST.out]; exact G1.out, (HO.out.then HP.out).trans G2.out (fun y hy e => by omega), fun _ => HEX.out, fun h => by cases h⟩
        case measure => simp [intOf]; omega
      | false =>
        have hlo := HD0.out rfl
        have HLO := Lib.hid hlo
        have hown := HOWN.out
        rw [if_neg Bool.false_ne_true] at hown
        have HOW := Lib.hid hown
        clear hlo hown
        by_cases hx : x < k
        · have hb0 : decide (k ≤ x) = false := by simp; omega
          have hb1 : (x != k) = true := by simp; omega
          have hall : ∀ p ∈ m.take (i + 1), p.1 < k := fun p hp => by
            rw [HTK.out] at hp
            rcases List.mem_append.1 hp with hp | hp
            · exact HLO.out p hp
            · simp at hp; rw [hp]; exact hx
          have HALL := Lib.hid hall
          have hp : Only noB wr (wr.alloc (.cells #[.int .i64 x, .slice a2 l.length c2] 78)) := (Only.refl _ _).alloc _
          have HP := Lib.hid hp
          clear hall hp
          go_wp2_with (at_builtin; refine appP (.tmp 42) (.tmp 47) rfl rfl w.heap.size S _ (m.take i) rfl (HOW.out.keep0 HP.out) wr.heap.size 1 x (.slice a2 l.length c2) l rfl (by simp) (by simp) (SL.out.keep HP.out.ofNo) (Nat.le_trans HO.out.size HP.out.size) (by omega) HS.out ?_; intro v4 w4 g1 g2 g3; have G1 := Lib.hid g1; have G2 := Lib.hid g2; clear g1 g2 g3)
          go_roundw
          case rel => exact ⟨i + 1, false, by go_num, rfl, by omega, by rw [if_neg Bool.false_ne_true, HTK.out]; exact G1.out, (HO.out.then HP.out).trans G2.out (fun y hy e => by omega), (fun h => by cases h), fun _ => HALL.out⟩
          case measure => simp [intOf]; omega
        · have hb0 : decide (k ≤ x) = true := by simp; omega
          have hex : ∃ p ∈ m.take (i + 1), k ≤ p.1 := ⟨(x, l), by rw [HTK.out]; simp, by show k ≤ x; omega⟩
          have HEX := Lib.hid hex
          clear hex
          go_wp2_with fail
          refine (copy1_any wr b nb cb lb HNB.out (HB.out.keep0 HO.out) hbm).mono ?_
          rintro e w2 ⟨v2, rfl, h2, k2⟩
          have hsl := h2.slT S (fun y hy => Nat.lt_of_lt_of_le (HS.out y hy) HO.out.size)
          obtain ⟨a3, c3, rfl, _⟩ := hsl.ex
          have HSL := Lib.hid hsl; have HK2 := Lib.hid k2
          have hown2 := HOW.out.keep0 k2
          have HOW2 := Lib.hid hown2
          have hO2 : Only noB w w2 := HO.out.then k2
          have HO2 := Lib.hid hO2
          have hp : Only noB w2 (w2.alloc (.cells #[.int .i64 k, .slice a3 lb.length c3] 78)) := (Only.refl _ _).alloc _
          have HP := Lib.hid hp
          clear hsl h2 k2 hown2 hO2 hp q1 q2
          by_cases hxk : x = k
          · have hb1 : (x != k) = false := by simp [hxk]
            have hst : kput (m.take (i + 1)) k lb = m.take i ++ [(k, lb)] := by
              rw [HTK.out, kput_lt HLO.out]; congr 1; unfold kput; rw [if_neg (by show ¬ k < x; omega), if_pos (by show k = x; omega)]
            have HST := Lib.hid hst
            clear hst hxk
            have hres : ∀ (v4 : Value) (w4 : World), OwnP w4 w.heap.size S v4 (m.take i ++ [(k, lb)]) → Only (fun k => w.heap.size ≤ k) (w2.alloc (.cells #[.int .i64 k, .slice a3 lb.length c3] 78)) w4 →
              Only noB w w4 ∧ w4.cell? ⟨g, i * 2, none⟩ = some (.int .i64 x) := fun v4 w4 g1 g2 => by
                have ho4 : Only noB w w4 := (HO2.out.then HP.out).trans g2 (fun y hy e => by omega)
                exact ⟨ho4, (FX.out w4 ho4).1⟩
            go_wp2_with (at_builtin; refine appP (.tmp 28) (.tmp 33) rfl rfl w.heap.size S _ (m.take i) rfl (HOW2.out.keep0 HP.out) w2.heap.size 1 k (.slice a3 lb.length c3) lb rfl (by simp) (by simp) (HSL.out.keep HP.out.ofNo) (Nat.le_trans HO2.out.size HP.out.size) (by omega) HS.out ?_; intro v4 w4 g1 g2 g3; have hg := hres v4 w4 g1 g2; have q3 := hg.2; have G1 := Lib.hid g1; have G2 := Lib.hid hg.1; clear g1 g2 g3 hg)
            go_roundw
            case rel => exact ⟨i + 1, true, by go_num, rfl, by omega, by rw [if_pos rfl, HST.out]; exact G1.out, G2.out, fun _ => HEX.out, fun h => by cases h⟩
            case measure => simp [intOf]; omega
          · have hb1 : (x != k) = true := by simp [hxk]
            have hst : kput (m.take (i + 1)) k lb = m.take i ++ [(k, lb)] ++ [(x, l)] := by
              rw [HTK.out, kput_lt HLO.out, List.append_assoc]; congr 1; unfold kput; rw [if_pos (by show k < x; omega)]; rfl
            have HST := Lib.hid hst
            clear hst hxk
            have hres : ∀ (v4 : Value) (w4 : World), OwnP w4 w.heap.size S v4 (m.take i ++ [(k, lb)]) → Only (fun k => w.heap.size ≤ k) (w2.alloc (.cells #[.int .i64 k, .slice a3 lb.length c3] 78)) w4 → Only noB w w4 := fun v4 w4 g1 g2 =>
              (HO2.out.then HP.out).trans g2 (fun y hy e => by omega)
            go_wp2_with (first
              | (at_builtin; refine appP (.tmp 28) (.tmp 33) rfl rfl w.heap.size S _ (m.take i) rfl (HOW2.out.keep0 HP.out) w2.heap.size 1 k (.slice a3 lb.length c3) lb rfl (by simp) (by simp) (HSL.out.keep HP.out.ofNo) (Nat.le_trans HO2.out.size HP.out.size) (by omega) HS.out ?_; intro v4 w4 g1 g2 g3; have hg := hres v4 w4 g1 g2; obtain ⟨q3, q4, s4, l4⟩ := FX.out w4 hg; have G1 := Lib.hid g1; have G2 := Lib.hid hg; have S4 := Lib.hid s4; clear g1 g2 g3 hg s4)
              | (at_builtin; refine appP (.tmp 42) (.tmp 47) rfl rfl w.heap.size S _ (m.take i ++ [(k, lb)]) rfl (G1.out.keep0 ((Only.refl _ _).alloc _)) w4.heap.size 1 x (.slice a2 l.length c2) l rfl (by simp) (by simp) (S4.out.keep ((Only.refl _ _).alloc _)) (by have := G2.out.size; simp; omega) (by simp; omega) HS.out ?_; intro v5 w5 g1 g2 g3; have G5 := Lib.hid g1; have G6 := Lib.hid (((G2.out).alloc _).trans g2 (fun y hy e => by omega)); clear g1 g2 g3))
            go_roundw
            case rel => exact ⟨i + 1, true, by go_num, rfl, by omega, by rw [if_pos rfl, HST.out]; exact G5.out, G6.out, fun _ => HEX.out, fun h => by cases h⟩
            case measure => simp [intOf]; omega
    · obtain rfl : i = n := by omega
      have htn : m.take i = m := List.take_of_length_le (by rw [HN.out]; exact Nat.le_refl _)
      cases D with
      | true =>
        have hown := HOWN.out
        rw [if_pos rfl, htn] at hown
        have HOW := Lib.hid hown
        clear hown htn
        go_wp2
        go_ret
        exact ⟨_, rfl, HOW.out, HO.out⟩
      | false =>
        have hown := HOWN.out
        rw [if_neg Bool.false_ne_true, htn] at hown
        have hlo := HD0.out rfl
        rw [htn] at hlo
        have hst : kput m k lb = m ++ [(k, lb)] := by have := kput_lt hlo lb []; rw [List.append_nil] at this; rw [this]; rfl
        have HST := Lib.hid hst
        have HOW := Lib.hid hown
        have hml : m.length ≤ 1000 := by rw [HN.out]; omega
        clear hown htn hlo hst
        go_wp2_with fail
        refine (copy1_any wr b nb cb lb HNB.out (HB.out.keep0 HO.out) hbm).mono ?_
        rintro e w2 ⟨v2, rfl, h2, k2⟩
        have hsl := h2.slT S (fun y hy => Nat.lt_of_lt_of_le (HS.out y hy) HO.out.size)
        obtain ⟨a3, c3, rfl, _⟩ := hsl.ex
        have HSL := Lib.hid hsl; have HK2 := Lib.hid k2
        have HOW2 := Lib.hid (HOW.out.keep0 k2)
        have HO2 := Lib.hid (HO.out.then k2)
        have hp : Only noB w2 (w2.alloc (.cells #[.int .i64 k, .slice a3 lb.length c3] 78)) := (Only.refl _ _).alloc _
        have HP := Lib.hid hp
        clear hsl h2 k2 hp
        go_wp2_with (at_builtin; refine appP (.tmp 51) (.tmp 56) rfl rfl w.heap.size S _ m rfl (HOW2.out.keep0 HP.out) w2.heap.size 1 k (.slice a3 lb.length c3) lb rfl (by simp) (by simp) (HSL.out.keep HP.out.ofNo) (Nat.le_trans HO2.out.size HP.out.size) (by omega) HS.out ?_; intro v4 w4 g1 g2 g3; have G1 := Lib.hid g1; have G2 := Lib.hid ((HO2.out.then HP.out).trans g2 (fun y hy e => by omega)); clear g1 g2 g3)
        go_ret
        exact ⟨_, rfl, by rw [HST.out]; exact G1.out, G2.out⟩

end Go.Proofs.Ytdnpmkejondpoaa

/- The law's steps, in memory; are they few and small? -/
namespace Go.Proofs.Ytdnpmkejondpoaa
open Go.RowKit Go.Maps
set_option linter.unusedVariables false
set_option linter.unusedSimpArgs false

structure OpD where
  kind : Int
  key : Int
  val : List UInt8

/-- a row of steps -/
def RdOps (w : World) (a : Option Addr) (l : List OpD) : Prop :=
  l = [] ∨ ∃ g o, a = some ⟨g, o, none⟩ ∧ g < w.heap.size ∧ ∀ i, (hi : i < l.length) → ∃ a2 c2, w.cell? ⟨g, o + i * 3, none⟩ = some (.int .i64 l[i].kind) ∧ w.cell? ⟨g, o + i * 3 + 1, none⟩ = some (.int .i64 l[i].key) ∧
    w.cell? ⟨g, o + i * 3 + 2, none⟩ = some (.slice a2 l[i].val.length c2) ∧ RdB w a2 l[i].val ∧ (a2 = none → c2 = 0) ∧ inI l[i].kind ∧ inI l[i].key ∧ l[i].val.length ≤ 9223372036854775807
theorem RdOps.keep0 {w w' : World} {a : Option Addr} {l : List OpD} (h : RdOps w a l) (ho : Only noB w w') : RdOps w' a l := by
  rcases h with h | ⟨g, o, e, hg, h⟩
  · exact .inl h
  · refine .inr ⟨g, o, e, Nat.lt_of_lt_of_le hg ho.size, fun i hi => ?_⟩
    obtain ⟨a2, c2, h1, h2, h3, h4, h5⟩ := h i hi
    exact ⟨a2, c2, (ho.cell (a := ⟨g, o + i * 3, none⟩) hg (noB_not _)).trans h1, (ho.cell (a := ⟨g, o + i * 3 + 1, none⟩) hg (noB_not _)).trans h2, (ho.cell (a := ⟨g, o + i * 3 + 2, none⟩) hg (noB_not _)).trans h3, h4.keep0 ho, h5⟩
theorem RdOps.at_ {w : World} {a : Option Addr} {l : List OpD} (h : RdOps w a l) {i : Nat} (hi : i < l.length) :
    ∃ g o a2 c2, a = some ⟨g, o, none⟩ ∧ g < w.heap.size ∧ w.cell? ⟨g, o + i * 3, none⟩ = some (.int .i64 l[i].kind) ∧ w.cell? ⟨g, o + i * 3 + 1, none⟩ = some (.int .i64 l[i].key) ∧
    w.cell? ⟨g, o + i * 3 + 2, none⟩ = some (.slice a2 l[i].val.length c2) ∧ RdB w a2 l[i].val ∧ (a2 = none → c2 = 0) ∧ inI l[i].kind ∧ inI l[i].key ∧ l[i].val.length ≤ 9223372036854775807 := by
  rcases h with h | ⟨g, o, e, hg, h⟩
  · subst h; simp at hi
  · obtain ⟨a2, c2, r⟩ := h i hi
    exact ⟨g, o, a2, c2, e, hg, r⟩

def smallOps (l : List OpD) : Bool := l.all (fun o => decide (o.val.length ≤ 300)) && decide (l.length ≤ 40)

set_option maxRecDepth 100000 in
set_option maxHeartbeats 1000000 in
theorem small_any (w : World) (a : Option Addr) (n c : Nat) (l : List OpD) (hn : l.length = n) (hR : RdOps w a l) (hm : n ≤ 9223372036854775807) :
    Calls Try.prog 8 #[.slice a n c] w fun e w' => e = .returned (.bool (smallOps l)) ∧ Only noB w w' := by
  have HN := Lib.hid hn; have HR := Lib.hid hR
  clear hn hR
  go_enter Try.func8, Try.ntmps8
  go_wp2
  go_loopw [7] (fun t wr => ∃ k : Nat, t = .int .i64 (k : Int) ∧ k ≤ n ∧ Only noB w wr ∧ ∀ i, (hi : i < l.length) → i < k → l[i].val.length ≤ 300) (fun t _ => n - (intOf t).toNat)
  case atStart => exact ⟨0, rfl, by omega, Only.refl _ _, fun i _ h => by omega⟩
  case round =>
    obtain ⟨k, rfl, hk, hO, hall⟩ := hrel
    have HO := Lib.hid hO; have HALL := Lib.hid hall
    clear hO hall
    by_cases hlt : k < n
    · obtain ⟨g, o, a2, c2, rfl, hg, q1, q2, q3, _, _, _, _, hml⟩ := (HR.out.keep0 HO.out).at_ (i := k) (by rw [HN.out]; exact hlt)
      obtain ⟨q, hq⟩ : ∃ q, l[k]'(by rw [HN.out]; exact hlt) = q := ⟨_, rfl⟩
      rw [hq] at q1 q2 q3 hml
      obtain ⟨kd, ky, v⟩ := q
      simp only at q1 q2 q3 hml
      by_cases hv : v.length ≤ 300
      · have hst : ∀ i, (hi : i < l.length) → i < k + 1 → l[i].val.length ≤ 300 := fun i hi h => by
          by_cases e : i = k
          · subst e; rw [hq]; exact hv
          · exact HALL.out i hi (by omega)
        have HST := Lib.hid hst
        clear hst hq
        go_wp2
        go_roundw
        case rel => exact ⟨k + 1, by go_num, by omega, HO.out.alloc _, HST.out⟩
        case measure => simp [intOf]; omega
      · have hst : smallOps l = false := by
          unfold smallOps
          rw [Bool.and_eq_false_iff]; left
          rw [List.all_eq_false]
          exact ⟨_, List.getElem_mem (by rw [HN.out]; exact hlt), by rw [hq]; simpa using hv⟩
        have HST := Lib.hid hst
        have hv2 : 300 < v.length := by omega
        clear hst hq hv
        go_wp2
        go_ret
        exact ⟨by rw [HST.out]; rfl, HO.out.alloc _⟩
    · obtain rfl : k = n := by omega
      have hst : smallOps l = decide (k ≤ 40) := by
        unfold smallOps
        have : (l.all fun o => decide (o.val.length ≤ 300)) = true := by
          rw [List.all_eq_true]
          intro o ho
          obtain ⟨i, hi, rfl⟩ := List.getElem_of_mem ho
          simpa using HALL.out i hi (by rw [← HN.out]; exact hi)
        rw [this, HN.out]; rfl
      have HST := Lib.hid hst
      clear hst
      go_wp2
      go_ret
      refine ⟨?_, HO.out⟩
      rw [HST.out]
      congr 2
      simp
      omega

end Go.Proofs.Ytdnpmkejondpoaa
