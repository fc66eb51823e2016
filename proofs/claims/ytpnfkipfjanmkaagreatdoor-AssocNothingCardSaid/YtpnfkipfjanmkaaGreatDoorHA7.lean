/- DERIVED. WALKS: atof64, the slow way. DERIVED. WALKS: atof64 as one, ParseFloat at the texts that dec.nearest makes. -/
import Derived.Test.YtpnfkipfjanmkaaGreatDoorHEa
import Derived.Test.YtpnfkipfjanmkaaGreatDoorHWa
set_option linter.unusedVariables false
set_option linter.unusedSimpArgs false
namespace Go.Proofs.YtpnfkipfjanmkaaGreatDoor
open Go.RowKit Flt

theorem zero306 : Tryz.zeroCells306 = ((List.range 804).map (dcells (fun _ => 0) 0 0 false false)).toArray := by kernel_rfl
theorem decB_new (w : World) : DecB w.heap.size (fun _ => 0) 0 0 false false (w.alloc (.cells Tryz.zeroCells306 306)) := by
  have hs : Tryz.zeroCells306.size = 804 := by rw [zero306, List.size_toArray, List.length_map, List.length_range]
  have h := World.rowIs_alloc w Tryz.zeroCells306 306 (dcells (fun _ => 0) 0 0 false false) (fun i hi => by
    rw [hs] at hi
    rw [zero306, List.getElem?_toArray, List.getElem?_map, List.getElem?_range hi]; rfl)
  rw [hs] at h
  exact h

set_option maxHeartbeats 3200000 in
set_option maxRecDepth 1000000 in
theorem atof_slow {N : Nat} (s : ByteArray) (w : World) (F G : List UInt8) (eneg : Bool) (a : Int) (hs : s.data.toList = decText F G eneg) (hF : Digs F) (hF1 : 0 < F.length) (hF0 : ∀ c, F[0]? = some c → c.toNat ≠ 48) (hFz : ∀ c, F[F.length - 1]? = some c → c.toNat ≠ 48) (hFl : F.length ≤ 800)
    (hG : Digs G) (hG0 : 0 < G.length) (hGl : G.length ≤ 4) (ha : a = if eneg then -(dval G : Int) else (dval G : Int)) (M : Nat) (P : Int) (TR : Bool)
    (h1 : ∀ w, Calls Tryz.prog 327 #[.string s] w fun e w' => e = .returned (.tuple #[.float .f64 0, .int .i64 0, .bool false]) ∧ w' = w)
    (h2 : ∀ w, Calls Tryz.prog 328 #[.string s] w fun e w' => e = .returned (.tuple #[.int .u64 M, .int .i64 P, .bool false, .bool TR, .bool false, .int .i64 s.size, .bool true]) ∧ w' = w)
    (hopt : w.cell? ⟨3, 0, none⟩ = some (.bool true)) (hT : Tabs N w) (hC : Cheats N w) (hM : 0 < M) (hMb : M < 18446744073709551615) (hP1 : P ≤ 310) (hP2 : -345 ≤ P) (ha1 : -326 ≤ a) (hTR : TR = true)
    (R1 R2 : Nat) (hR1 : rn (UN M P) (UD P) = R1) (hR2 : rn (UN (M + 1) P) (UD P) = R2) (hne : R1 ≠ R2) :
    Calls Tryz.prog 295 #[.string s] w fun e w' => ∃ err, FErr err ∧ e = .returned (.tuple #[.float .f64 (rdec F a : Nat), .int .i64 s.size, err]) ∧ Below w.heap.size w w' := by
  subst hTR
  have hsz : s.size = (decText F G eneg).length := by rw [← hs]; simp
  have hsl : s.size ≤ 100000 := by
    rw [hsz]; unfold decText; cases eneg <;> simp <;> omega
  have hM0 : ((M : Int) == 0) = false := by rw [beq_eq_false_iff_ne]; omega
  have h4 := fun w (hT : Tabs N w) => p64_any M P w hM (by omega) hP2 hP1 hT
  have h5 := fun w (hT : Tabs N w) => p64_any (M + 1) P w (by omega) (by omega) hP2 hP1 hT
  rw [hR1] at h4
  rw [hR2] at h5
  simp only [Int.natCast_add, Int.natCast_one] at h5
  obtain ⟨o, ho, ho'⟩ := order_rungs (r := R1) (q := R2) (by rw [← hR1]; exact rn_le_infR (UD_pos _)) (by rw [← hR2]; exact rn_le_infR (UD_pos _))
  have hoe : ¬ o = .eq := fun h => hne (ho'.1 h)
  clear hR1 hR2 ho' hne hsz
  obtain ⟨R, hR⟩ : ∃ R : Nat, rdec F a = R := ⟨_, rfl⟩
  have h6 := fun (p : Nat) (D0 : Nat → Int) (ng tr : Bool) (w : World) h => dset_any (p := p) s F G eneg D0 ng tr w hs hF hF1 hF0 hFl hG hG0 hGl h
  rw [← ha] at h6
  have h7 := fun (p : Nat) (D : Nat → Int) (w : World) hD hT hC hN h => fb_set (N := N) (p := p) (D := D) (w := w) hF hF1 hF0 hFz hFl ha1 hD hT hC hN h
  rw [hR] at h7 ⊢
  have H4 := Lib.hid h4
  have H5 := Lib.hid h5
  have H6 := Lib.hid h6
  have H7 := Lib.hid h7
  have HT := Lib.hid hT
  have HC := Lib.hid hC
  clear h4 h5 h6 h7 hC ha hR
  have H1 := Lib.hid h1
  have H2 := Lib.hid h2
  have HS := Lib.hid hs
  clear h1 h2 hs
  have hf := bits64_run
  go_enter Tryz.func295, Tryz.ntmps295
  go_wp2_with fail
  refine (H1.out _).mono ?_
  rintro e w1 ⟨rfl, rfl⟩
  go_wp2_with fail
  refine (H2.out _).mono ?_
  rintro e w1 ⟨rfl, rfl⟩
  go_wp2_with fail
  refine (bool2u _ _).mono ?_
  rintro e w1 ⟨rfl, rfl⟩
  go_wp2_with fail
  refine (H4.out _ hT).mono ?_
  rintro e w2 ⟨rfl, hb⟩
  go_wp2_with fail
  refine (H5.out _ (hT.below hb hT.size)).mono ?_
  rintro e w3 ⟨rfl, hb2⟩
  have HB := Lib.hid (hb.trans (hb2.mono hb.size))
  have hz := (hb.trans (hb2.mono hb.size)).size
  clear hb hb2 hT
  have hw3 := HT.out.below HB.out HT.out.size
  have HT3 := Lib.hid hw3
  have HC3 := Lib.hid (HC.out.below HB.out HT.out.size (by have := HT.out.n18; omega))
  have hN3 : N ≤ w3.heap.size := Nat.le_trans HT.out.size hz
  clear hw3 HT HC
  have HD3 := Lib.hid (decB_new w3)
  have HBN := Lib.hid ((Below.refl w3.heap.size w3).alloc (Nat.le_refl _) (.cells Tryz.zeroCells306 306))
  cases o
  · go_wp2_with fail
    refine (H6.out _ _ _ _ _ HD3.out).mono ?_
    rintro e w4 ⟨rfl, hb4, D, hD, hd⟩
    have HD := Lib.hid hD
    have HDB := Lib.hid hd
    have HB4 := Lib.hid (HBN.out.trans hb4)
    clear hD hd hb4
    go_wp2_with fail
    refine (H7.out _ _ _ HD.out (HT3.out.below HB4.out hN3) (HC3.out.below HB4.out hN3 (by have := HT3.out.n18; omega)) hN3 HDB.out).mono ?_
    rintro e w5 ⟨rfl, hb5⟩
    have HB5 := Lib.hid (HB.out.trans ((HB4.out.trans hb5).mono hz))
    clear hb5
    by_cases hinf : R = infR
    · have hdi : decide (R = infR) = true := decide_eq_true hinf
      rw [hdi]
      clear hdi hinf
      go_wp2_with fail
      go_ret3
      exact ⟨_, .inr rfl, rfl, HB5.out⟩
    · have hdi : decide (R = infR) = false := decide_eq_false hinf
      rw [hdi]
      clear hdi hinf
      go_wp2_with fail
      go_ret3
      exact ⟨_, .inl rfl, rfl, HB5.out⟩
  · exact absurd rfl hoe
  · go_wp2_with fail
    refine (H6.out _ _ _ _ _ HD3.out).mono ?_
    rintro e w4 ⟨rfl, hb4, D, hD, hd⟩
    have HD := Lib.hid hD
    have HDB := Lib.hid hd
    have HB4 := Lib.hid (HBN.out.trans hb4)
    clear hD hd hb4
    go_wp2_with fail
    refine (H7.out _ _ _ HD.out (HT3.out.below HB4.out hN3) (HC3.out.below HB4.out hN3 (by have := HT3.out.n18; omega)) hN3 HDB.out).mono ?_
    rintro e w5 ⟨rfl, hb5⟩
    have HB5 := Lib.hid (HB.out.trans ((HB4.out.trans hb5).mono hz))
    clear hb5
    by_cases hinf : R = infR
    · have hdi : decide (R = infR) = true := decide_eq_true hinf
      rw [hdi]
      clear hdi hinf
      go_wp2_with fail
      go_ret3
      exact ⟨_, .inr rfl, rfl, HB5.out⟩
    · have hdi : decide (R = infR) = false := decide_eq_false hinf
      rw [hdi]
      clear hdi hinf
      go_wp2_with fail
      go_ret3
      exact ⟨_, .inl rfl, rfl, HB5.out⟩
end Go.Proofs.YtpnfkipfjanmkaaGreatDoor

namespace Go.Proofs.YtpnfkipfjanmkaaGreatDoor
open Go.RowKit Flt

/-- The text's digits, as dec.nearest leaves them. -/
structure Figures (F G : List UInt8) : Prop where
  digs : Digs F
  first : ∀ c, F[0]? = some c → c.toNat ≠ 48
  last : ∀ c, F[F.length - 1]? = some c → c.toNat ≠ 48
  len : F.length ≤ 800
  gdigs : Digs G
  gpos : 0 < G.length
  glen : G.length ≤ 4

def texp (G : List UInt8) (eneg : Bool) : Int := if eneg then -(dval G : Int) else (dval G : Int)

theorem dval_pos {F : List UInt8} (hF : Digs F) (hF1 : 0 < F.length) (hF0 : ∀ c, F[0]? = some c → c.toNat ≠ 48) : 10 ^ (F.length - 1) ≤ dval F := by
  rcases Nat.lt_or_ge (dval F) (10 ^ (F.length - 1)) with h4 | h4
  · exfalso
    have h1 := dig_dval hF hF1
    have h2 := digs_getD hF hF1
    have h3 := hF0 (F.getD 0 0) (by rw [List.getD_eq_getElem?_getD, List.getElem?_eq_getElem hF1]; rfl)
    unfold dig at h1
    rw [Nat.sub_zero, Nat.div_eq_of_lt h4] at h1
    omega
  · exact h4

theorem mantN_pos {F : List UInt8} (hF : Digs F) (hF1 : 0 < F.length) (hF0 : ∀ c, F[0]? = some c → c.toNat ≠ 48) : 0 < mantN F := by
  have h := dval_pos (hF.take 19) (by rw [List.length_take]; omega) (fun c hc => hF0 c (by
    rw [List.getElem?_take] at hc
    split at hc
    · exact hc
    · cases hc))
  exact Nat.lt_of_lt_of_le (Nat.pow_pos (by omega)) h

def AtofOut (R : Nat) (n : Nat) (w : World) (e : Ending) (w' : World) : Prop := ∃ err, FErr err ∧ e = .returned (.tuple #[.float .f64 R, .int .i64 n, err]) ∧ Below w.heap.size w w'

set_option maxHeartbeats 800000 in
theorem atof_any {N : Nat} (s : ByteArray) (w : World) (F G : List UInt8) (eneg : Bool) (hs : s.data.toList = decText F G eneg) (h : Figures F G) (hT : Tabs N w) (hC : Cheats N w) :
    Calls Tryz.prog 295 #[.string s] w (AtofOut (rdec F (texp G eneg)) s.size w) := by
  obtain ⟨hF, hF0, hFz, hFl, hG, hG0, hGl⟩ := h
  have hsz : s.size = (decText F G eneg).length := by rw [← hs]; simp
  have h1 := fun w => special_zero s w (by rw [hsz]; unfold decText; simp) (byte_at hs 0 (c := 48) rfl)
  have h2 := fun w => readFloat_any s F G eneg w hs hF hF0 (by omega) hG hG0 hGl
  have hdG : dval G < 10 ^ 4 := Nat.lt_of_lt_of_le (dval_lt hG) (Nat.pow_le_pow_right (by omega) hGl)
  rcases Nat.eq_zero_or_pos F.length with h0 | h0
  · have hFn : F = [] := List.eq_nil_of_length_eq_zero h0
    subst hFn
    have hm : mantN [] = 0 := rfl
    rw [hm] at h2
    rw [rdec_nil]
    refine (atof_zero s w _ _ _ h1 h2 hT.opt rfl).mono ?_
    rintro e w' ⟨rfl, rfl⟩
    exact ⟨_, .inl rfl, rfl, Below.refl _ _⟩
  have hM := mantN_pos hF h0 hF0
  have hM19 := mantN_lt19 hF
  have hM0 : ((mantN F : Int) == 0) = false := by rw [beq_eq_false_iff_ne]; omega
  rw [if_neg (show ¬ mantN F = 0 by omega)] at h2
  obtain ⟨a, ha⟩ : ∃ a : Int, (if eneg then -(dval G : Int) else (dval G : Int)) = a := ⟨_, rfl⟩
  have hta : texp G eneg = a := ha
  have hab : a < 10 ^ 4 ∧ -(10 ^ 4) < a := by rw [← ha]; split <;> omega
  rw [hta]
  rw [ha] at h2
  have hbt := rdec_between hF a
  obtain ⟨P, hP⟩ : ∃ P : Int, a - (min F.length 19 : Nat) = P := ⟨_, rfl⟩
  rw [hP] at h2 hbt
  rcases Int.lt_or_le 310 P with hP1 | hP1
  · have hinf : rdec F a = infR := by
      refine Nat.le_antisymm (rn_le_infR (UD_pos _)) ?_
      have := hbt.1
      rwa [rn_inf hM hP1] at this
    rw [hinf]
    refine (atof_inf s w _ _ _ h1 h2 hT.opt hM0 hP1).mono ?_
    rintro e w' ⟨rfl, rfl⟩
    exact ⟨_, .inr rfl, rfl, Below.refl _ _⟩
  rcases Int.lt_or_le P (-345) with hP2 | hP2
  · have hzero : rdec F a = 0 := by
      have := hbt.2
      rw [rn_small (by omega) hP2] at this
      omega
    rw [hzero]
    refine (atof_small s w _ _ _ h1 h2 hT.opt hM0 hP2).mono ?_
    rintro e w' ⟨rfl, rfl⟩
    exact ⟨_, .inl rfl, rfl, Below.refl _ _⟩
  by_cases hTR : truncB F = false
  · have hex := rdec_exact hF a hTR
    rw [hP] at hex
    rw [hex]
    exact atof_plain s w _ _ _ h1 h2 hT.opt hT hM (by omega) hP1 hP2 hTR
  have hTR : truncB F = true := by simpa using hTR
  have h20 : 19 < F.length := by
    rcases Nat.lt_or_ge 19 F.length with h | h
    · exact h
    · rw [truncB_few h] at hTR; cases hTR
  by_cases hsame : rn (UN (mantN F) P) (UD P) = rn (UN (mantN F + 1) P) (UD P)
  · have hR : rdec F a = rn (UN (mantN F) P) (UD P) := Nat.le_antisymm (by rw [hsame]; exact hbt.2) hbt.1
    rw [hR]
    exact atof_same s w _ _ _ h1 h2 hT.opt hT hM (by omega) hP1 hP2 hTR _ rfl hsame.symm
  · exact atof_slow s w F G eneg a hs hF h0 hF0 hFz hFl hG hG0 hGl ha.symm _ _ _ h1 h2 hT.opt hT hC hM (by omega) hP1 hP2 (by omega) hTR _ _ rfl rfl hsame
end Go.Proofs.YtpnfkipfjanmkaaGreatDoor
