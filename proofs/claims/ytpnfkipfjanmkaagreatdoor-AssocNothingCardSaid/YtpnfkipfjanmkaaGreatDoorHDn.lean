/- DERIVED. WALKS: floatBits, the way through the loops. -/
import Derived.Test.YtpnfkipfjanmkaaGreatDoorHA5
import Derived.Test.YtpnfkipfjanmkaaGreatDoorHDx
set_option linter.unusedVariables false
set_option linter.unusedSimpArgs false
namespace Go.Proofs.YtpnfkipfjanmkaaGreatDoor
open Go.RowKit Flt

theorem powtab_bounds : ∀ i, i < 9 → 1 ≤ powtab.getD i 0 ∧ powtab.getD i 0 ≤ 27 := by decide

/-- What floatBits hands back: x's nearest double, by the digits that were left at the end. -/
def FbOut (x : Rat) (B q : Int) (R : Nat) (b : Bool) : Prop :=
  ∃ E : Int, E = max B (-1022) ∧ ((1024 ≤ E ∧ R = 9218868437227405312 ∧ b = true) ∨
    (E < 1024 ∧ ∃ (V n : Nat) (dp : Int) (tr : Bool), 0 < n ∧ 10 ^ (n - 1) ≤ V ∧ V < 10 ^ n ∧ V % 10 ≠ 0 ∧ dp ≤ 18 ∧ Keep x q (V * 10 ^ (dp - n)) (E - 52) tr ∧
      (R : Int) = (E + 1022) * 4503599627370496 + (riV V n dp tr : Nat) ∧ b = decide (R = 9218868437227405312)))

theorem DecS.drewN {p : Nat} {y : Rat} {dp : Int} {ng tr : Bool} {w : World} (h : DecS p y dp ng tr w) (n : Nat) : DecS p y dp ng tr (w.drewN n) := h

theorem two_le_ten : ∀ i, i < 10 → 0 < i → 2 ^ (if i = 9 then 27 else powtab.getD i 0) ≤ 10 ^ i := by decide

/-- A left shift by the table's number stays below 1. -/
theorem keep_low {x : Rat} {B q : Int} (hB1 : 2 ^ B ≤ x) (hq2 : q ≤ B) {y y' : Rat} {e : Int} {tr tr' : Bool} {k : Nat} (h : Keep x q y e tr) (h' : Keep x q y' (e - k) tr') (hy : y * 2 ^ (k : Int) < 1) : y' < 1 := by
  have e1 : y * 2 ^ e = y * 2 ^ (k : Int) * 2 ^ (e - k) := by rw [Rat.mul_assoc, ← zp2_add]; congr 2; omega
  have h1 : y * 2 ^ e < 2 ^ (e - k) := by
    rw [e1]
    have := mul_lt_r hy (zp2_pos (e - k)); rwa [Rat.one_mul] at this
  have h2 := zp2_lt_imp (rlt_of_le_of_lt ((keep_two h hq2).1 hB1) h1)
  have hq : q ≤ e - k := by omega
  have h3 : ¬ 2 ^ (e - (k : Int)) ≤ x := fun h4 => absurd ((keep_two h hq).1 h4) (Rat.not_le.2 h1)
  refine Rat.not_le.1 fun h5 => h3 ((keep_two h' hq).2 ?_)
  have := mul_le_r h5 (Rat.le_of_lt (zp2_pos (e - k))); rwa [Rat.one_mul] at this

theorem pow_small {y : Rat} {i k : Nat} (hy : y < 10 ^ (-(i : Int))) (hk : 2 ^ k ≤ 10 ^ i) : y * 2 ^ (k : Int) < 1 := by
  have h1 := mul_lt_r hy (zp2_pos k)
  have h2 : (10 : Rat) ^ (-(i : Int)) * 2 ^ (k : Int) ≤ 1 := by
    have := Rat.mul_le_mul_of_nonneg_left (Rat.natCast_le_natCast.2 hk) (Rat.le_of_lt (zp_pos (-(i : Int))))
    rw [← zp_nat, ← zp2_nat, ← zp_add, Int.add_left_neg, Rat.zpow_zero] at this
    exact this
  exact rlt_of_lt_of_le h1 h2

theorem dp_le_zero {p : Nat} {y : Rat} {dp : Int} {ng tr : Bool} {w : World} (h : DecS p y dp ng tr w) (hy : y < 1) : dp ≤ 0 := by
  rcases Int.lt_or_le 0 dp with h1 | h1
  · have h2 := zp_le (a := 0) (b := dp - 1) (by omega)
    rw [Rat.zpow_zero] at h2
    exact absurd (Rat.le_trans h2 h.ge) (Rat.not_le.2 hy)
  · exact h1

set_option maxHeartbeats 3200000 in
set_option maxRecDepth 1000000 in
theorem fb_main {N : Nat} (p : Nat) (x : Rat) (B q : Int) (hN : N ≤ p) (hN14 : 18 ≤ N) (hB1 : 2 ^ B ≤ x) (hB2 : x < 2 ^ (B + 1)) (hq1 : B - 53 ≤ q) (hq2 : q ≤ B) (hq3 : -1115 ≤ q) (hBb : -1100 ≤ B) (hBb2 : B ≤ 1100)
    (y : Rat) (dp : Int) (tr : Bool) (w : World) (hT : Tabs N w) (hC : Cheats N w) (h : DecS p y dp false tr w) (hk : Keep x q y 0 tr) (hdp : dp ≤ 310) (hdp2 : -330 ≤ dp) (post : Ending → World → Prop)
    (hpost : ∀ w' (R : Nat) b, FbOut x B q R b → Below p w w' → post (.returned (.tuple #[.int .u64 R, .bool b])) w') :
    Calls Tryz.prog 335 #[.pointer (some ⟨p, 0, none⟩), .pointer (some ⟨10, 0, none⟩)] w post := by
  obtain ⟨n, hn, h0⟩ := h.nd
  have hz : ((n : Int) == 0) = false := by rw [beq_eq_false_iff_ne]; omega
  have h1 := h.dpc
  have shr : ∀ (wr : World) (y : Rat) (dp e : Int) (tr : Bool) (k : Nat) (s : Int), s = -(k : Int) → DecS p y dp false tr wr → Keep x q y e tr → 0 < k → k ≤ 500 → e ≤ 5000 → dp ≤ 800 → e + k - q ≤ 1115 →
      Calls Tryz.prog 270 #[.pointer (some ⟨p, 0, none⟩), .int .i64 s] wr fun e' w' => e' = .returned (.tuple #[]) ∧ Below p wr w' ∧ ∃ y' dp' tr', DecS p y' dp' false tr' w' ∧ Keep x q y' (e + k) tr' ∧ dp' ≤ dp :=
    fun wr y dp e tr k s hs h hk h0 h1 h2 h3 h4 => by subst hs; exact shift_right p x B q hB1 hB2 hq1 hq2 (by omega) y dp e false tr wr k h hk h0 h1 h2 h3 h4
  have shl : ∀ (wr : World) (y : Rat) (dp e : Int) (tr : Bool) (k : Nat) (s : Int), s = (k : Int) → Below p w wr → DecS p y dp false tr wr → Keep x q y e tr → 0 < k → k ≤ 500 → e ≤ 5000 → dp ≤ 300 →
      Calls Tryz.prog 270 #[.pointer (some ⟨p, 0, none⟩), .int .i64 s] wr fun e' w' => e' = .returned (.tuple #[]) ∧ Below p wr w' ∧ ∃ y' dp' tr', DecS p y' dp' false tr' w' ∧ Keep x q y' (e - k) tr' ∧ dp' ≤ dp + k :=
    fun wr y dp e tr k s hs hb h hk h0 h1 h2 h3 => by subst hs; exact shift_left p x B q hN (by omega) hB1 hB2 hq1 hq2 (by omega) y dp e false tr wr k (hC.below hb hN (by omega)) h hk h0 h1 h2 h3
  have HH := Lib.hid h
  have HK := Lib.hid hk
  have HT := Lib.hid hT
  have SR := Lib.hid shr
  have SL := Lib.hid shl
  have HB1 := Lib.hid hB1
  have HB2 := Lib.hid hB2
  have HP := Lib.hid hpost
  clear h hk hT hC shr shl hB1 hB2 hpost
  go_enter Tryz.func335, Tryz.ntmps335
  go_wp2_with fail
  refine wp_scope_two 0 1 (by decide) rfl rfl ?_
  intro J H0 H1
  go_wp2_with fail
  clear h0 h1 hz
  go_loopw [6] (fun ex wr => ∃ (y : Rat) (dp e : Int) (tr : Bool), ex = .int .i64 e ∧ 0 ≤ e ∧ e ≤ 1200 ∧ Below p w wr ∧ DecS p y dp false tr wr ∧ Keep x q y e tr ∧ dp ≤ 310) (fun ex _ => (2000 - intOf ex).toNat)
  case atStart => exact ⟨y, dp, 0, tr, rfl, by omega, by omega, Below.refl _ _, HH.out, HK.out, hdp⟩
  case round =>
    clear HH HK
    obtain ⟨y, dp, e, tr, rfl, he0, he1, hb, hd, hk, hdp⟩ := hrel
    have h1 := hd.dpc
    have HD := Lib.hid hd
    have HK := Lib.hid hk
    have HB := Lib.hid hb
    have TT := (HT.out.below hb hN).ptab
    obtain ⟨pb, po, t16, hpb, tcell⟩ := TT
    have TC := Lib.hid tcell
    clear hd hk hb tcell
    by_cases hpos : 0 < dp
    · have heB := keep_big HB2.out HK.out HD.out.ge hpos
      have hqb : e + 27 - q ≤ 1115 := by omega
      by_cases h9 : 9 ≤ dp
      · go_wp2_with fail
        go_quiet (fail)
        go_wp2_with fail
        refine (SR.out _ y dp e tr 27 (-27) rfl (HD.out.drewN _) HK.out (by omega) (by omega) (by omega) (by omega) (by omega)).mono ?_
        rintro e' w2 ⟨rfl, hb2, y2, dp2, tr2, hd2, hk2, hdp2⟩
        have HX := Lib.hid (And.intro hb2 (And.intro hd2 hk2))
        clear hb2 hd2 hk2
        go_wp2_with fail
        exact ⟨⟨y2, dp2, e + 27, tr2, rfl, by omega, by omega, (below_drewN HB.out _).trans HX.out.1, HX.out.2.1, HX.out.2.2, by omega⟩, by simp [intOf]; omega⟩
      · obtain ⟨d, rfl⟩ : ∃ d : Nat, dp = d := ⟨dp.toNat, by omega⟩
        have tc : wr.cell? ⟨pb, po + d, none⟩ = some (.int .i64 (powtab.getD d 0 : Nat)) := TC.out d (by omega)
        obtain ⟨pb1, pb2⟩ := powtab_bounds d (by omega)
        obtain ⟨k, hk⟩ : ∃ k, powtab.getD d 0 = k := ⟨_, rfl⟩
        rw [hk] at tc pb1 pb2
        clear hk
        go_wp2_with fail
        go_quiet (fail)
        go_wp2_with fail
        go_quiet (fail)
        go_wp2_with fail
        refine (SR.out _ y d e tr k _ rfl (HD.out.drewN _) HK.out (by omega) (by omega) (by omega) (by omega) (by omega)).mono ?_
        rintro e' w2 ⟨rfl, hb2, y2, dp2, tr2, hd2, hk2, hdp2⟩
        have HX := Lib.hid (And.intro hb2 (And.intro hd2 hk2))
        clear hb2 hd2 hk2
        go_wp2_with fail
        exact ⟨⟨y2, dp2, e + k, tr2, rfl, by omega, by omega, (below_drewN HB.out _).trans HX.out.1, HX.out.2.1, HX.out.2.2, by omega⟩, by simp [intOf]; omega⟩
    · have hy1 := rlt_of_lt_of_le HD.out.lt (zp_le (a := dp) (b := 0) (by omega))
      rw [Rat.zpow_zero] at hy1
      have HY := Lib.hid hy1
      clear hy1 TC t16 hpb
      go_wp2_with fail
      clear h1
      go_loopw [6] (fun ex wr => ∃ (y : Rat) (dp e : Int) (tr : Bool), ex = .int .i64 e ∧ -1200 ≤ e ∧ e ≤ 1200 ∧ Below p w wr ∧ DecS p y dp false tr wr ∧ Keep x q y e tr ∧ dp ≤ 0) (fun ex _ => (2000 + intOf ex).toNat)
      case atStart => exact ⟨y, dp, e, tr, rfl, by omega, by omega, HB.out, HD.out, HK.out, by omega⟩
      case round =>
        clear HD HK HB HY
        obtain ⟨y, dp, e, tr, rfl, he0, he1, hb, hd, hk, hdp⟩ := hrel
        have h1 := hd.dpc
        have HD := Lib.hid hd
        have HK := Lib.hid hk
        have HB := Lib.hid hb
        have TT := (HT.out.below hb hN).ptab
        obtain ⟨pb, po, t16, hpb, tcell⟩ := TT
        have TC := Lib.hid tcell
        clear hd hk hb tcell
        by_cases hneg : dp < 0
        · have hyt : y * 2 < 1 := by
            have h2 := rlt_of_lt_of_le HD.out.lt (zp_le (a := dp) (b := -1) (by omega))
            have h3 : (10 : Rat) ^ (-1 : Int) * 10 = 1 := by rw [← Rat.zpow_add_one (by decide), show (-1 : Int) + 1 = 0 from rfl, Rat.zpow_zero]
            generalize (10 : Rat) ^ (-1 : Int) = t at *
            grind
          have heB := keep_small HB1.out hq2 HK.out hyt
          have HYT := Lib.hid hyt
          clear hyt
          obtain ⟨i, hi⟩ : ∃ i : Nat, dp = -(i : Int) := ⟨(-dp).toNat, by omega⟩
          subst hi
          have hylt := HD.out.lt
          have hib : i ≤ 3000 := by have := dp_low HB1.out hq2 HK.out hylt; omega
          have HYL := Lib.hid hylt
          clear hylt
          by_cases h9 : 9 ≤ i
          · have h9i : (9 : Int) ≤ i := by omega
            go_wp2_with fail
            go_quiet (fail)
            go_wp2_with fail
            refine (SL.out _ y (-(i : Int)) e tr 27 27 rfl (below_drewN HB.out _) (HD.out.drewN _) HK.out (by omega) (by omega) (by omega) (by omega)).mono ?_
            rintro e' w2 ⟨rfl, hb2, y2, dp2, tr2, hd2, hk2, hdp2⟩
            have hlow : dp2 ≤ 0 := dp_le_zero hd2 (keep_low HB1.out hq2 HK.out hk2 (pow_small HYL.out (Nat.le_trans (show 2 ^ 27 ≤ 10 ^ 9 by decide) (Nat.pow_le_pow_right (by omega) h9))))
            have HX := Lib.hid (And.intro hb2 (And.intro hd2 hk2))
            clear hb2 hd2 hk2
            go_wp2_with fail
            exact ⟨⟨y2, dp2, e - 27, tr2, rfl, by omega, by omega, (below_drewN HB.out _).trans HX.out.1, HX.out.2.1, HX.out.2.2, hlow⟩, by simp [intOf]; omega⟩
          · have h9i : ¬ (9 : Int) ≤ i := by omega
            have tc : wr.cell? ⟨pb, po + i, none⟩ = some (.int .i64 (powtab.getD i 0 : Nat)) := TC.out i (by omega)
            obtain ⟨pb1, pb2⟩ := powtab_bounds i (by omega)
            have h2t := two_le_ten i (by omega) (by omega)
            rw [if_neg (by omega)] at h2t
            obtain ⟨k, hk⟩ : ∃ k, powtab.getD i 0 = k := ⟨_, rfl⟩
            rw [hk] at tc pb1 pb2 h2t
            have H2T := Lib.hid h2t
            clear hk h2t
            go_wp2_with fail
            go_quiet (fail)
            go_wp2_with fail
            go_quiet (fail)
            go_wp2_with fail
            refine (SL.out _ y (-(i : Int)) e tr k k rfl (below_drewN HB.out _) (HD.out.drewN _) HK.out (by omega) (by omega) (by omega) (by omega)).mono ?_
            rintro e' w2 ⟨rfl, hb2, y2, dp2, tr2, hd2, hk2, hdp2⟩
            have hlow : dp2 ≤ 0 := dp_le_zero hd2 (keep_low HB1.out hq2 HK.out hk2 (pow_small HYL.out H2T.out))
            have HX := Lib.hid (And.intro hb2 (And.intro hd2 hk2))
            clear hb2 hd2 hk2
            go_wp2_with fail
            exact ⟨⟨y2, dp2, e - k, tr2, rfl, by omega, by omega, (below_drewN HB.out _).trans HX.out.1, HX.out.2.1, HX.out.2.2, hlow⟩, by simp [intOf]; omega⟩
        · have hdp0 : dp = 0 := by omega
          subst hdp0
          obtain ⟨c, hc, hc53, hc1, hc2⟩ := HD.out.half
          by_cases hlt : c < 53
          · have hyt := hc53.1 hlt
            have heB := keep_small HB1.out hq2 HK.out hyt
            have HYT := Lib.hid hyt
            have tc : wr.cell? ⟨pb, po, none⟩ = some (.int .i64 1) := TC.out 0 (by omega)
            have hdl : decide (c < 53) = true := decide_eq_true hlt
            clear hyt hc53
            go_wp2_with fail
            go_quiet (fail)
            go_wp2_with fail
            go_quiet (fail)
            go_wp2_with fail
            refine (SL.out _ y 0 e tr 1 1 rfl (below_drewN HB.out _) (HD.out.drewN _) HK.out (by omega) (by omega) (by omega) (by omega)).mono ?_
            rintro e' w2 ⟨rfl, hb2, y2, dp2, tr2, hd2, hk2, hdp2⟩
            have hlow : dp2 ≤ 0 := dp_le_zero hd2 (keep_low HB1.out hq2 HK.out hk2 (by have := HYT.out; rw [show ((1 : Nat) : Int) = 1 from rfl, Rat.zpow_one]; exact this))
            have HX := Lib.hid (And.intro hb2 (And.intro hd2 hk2))
            clear hb2 hd2 hk2
            go_wp2_with fail
            exact ⟨⟨y2, dp2, e - 1, tr2, rfl, by omega, by omega, (below_drewN HB.out _).trans HX.out.1, HX.out.2.1, HX.out.2.2, hlow⟩, by simp [intOf]; omega⟩
          · have hge : 1 ≤ y * 2 := Rat.not_lt.1 fun h => hlt (hc53.2 h)
            have hy1 := HD.out.lt
            rw [Rat.zpow_zero] at hy1
            have heB := keep_mid HB1.out HB2.out hq2 HK.out hge hy1
            have hdl : decide (c < 53) = false := decide_eq_false hlt
            have TW := HT.out.below HB.out hN
            have c0 := TW.mant
            have c1 := TW.expb
            have c2 := TW.bias
            have c3 := HD.out.ngc
            clear hge hy1 hc53 TW
            subst heB
            clear TC t16 hpb
            by_cases hsub : B < -1022
            · obtain ⟨k, hk⟩ : ∃ k : Nat, (k : Int) = -1022 - B := ⟨(-1022 - B).toNat, by omega⟩
              have hk1 : -1022 - B = (k : Int) := hk.symm
              have hkb : k ≤ 100 := by omega
              clear hk
              go_wp2_with fail
              refine (SR.out _ y 0 (B + 1) tr k (-(k : Int)) rfl HD.out HK.out (by omega) (by omega) (by omega) (by omega) (by omega)).mono ?_
              rintro e' w2 ⟨rfl, hb2, y2, dp2, tr2, hd2, hk2, hdp2⟩
              have HX := Lib.hid (And.intro hb2 (And.intro hd2 hk2))
              clear hb2 hd2 hk2
              have hbw := HB.out.trans HX.out.1
              have TW := HT.out.below hbw hN
              have c0 := TW.mant
              have c1 := TW.expb
              have c2 := TW.bias
              have hkk : B + 1 + (k : Int) = -1022 + 1 := by omega
              have hBk : B + (k : Int) = -1022 := by omega
              have hk22 := HX.out.2.2
              rw [hkk] at hk22
              have HK22 := Lib.hid hk22
              clear TW hbw hk22 hkk
              go_wp2_with fail
              go_quiet (fail)
              go_wp2_with fail
              refine (SL.out _ y2 dp2 ((-1022) + 1) tr2 53 53 rfl (below_drewN (HB.out.trans HX.out.1) _) (HX.out.2.1.drewN _) HK22.out (by omega) (by omega) (by omega) (by omega)).mono ?_
              rintro e' w3 ⟨rfl, hb3, y3, dp3, tr3, hd3, hk3, hdp3⟩
              have hym := mant_lt HB2.out hk3 (by omega)
              have hdp16 := dp_le_16 hd3.ge hym
              have hdpl := dp_low HB1.out hq2 hk3 hd3.lt
              obtain ⟨V, n3, D3, g0, g1, g2, g3, g4, rfl, g6, g7⟩ := hd3
              have hro := rounded_any p n3 V D3 dp3 false tr3 w3 g7 g3 g6 g1 (by omega) (by omega)
              have hmb := riV_le (tr := tr3) g3 hym
              obtain ⟨m, hm⟩ : ∃ m, riV V n3 dp3 tr3 = m := ⟨_, rfl⟩
              rw [hm] at hro hmb
              have hbw := ((below_drewN (HB.out.trans HX.out.1) _)).trans hb3
              have TW := HT.out.below hbw hN
              have c0 := TW.mant
              have c1 := TW.expb
              have c2 := TW.bias
              have c3 := g7.ng'
              have HBW := Lib.hid hbw
              have HRO := Lib.hid hro
              have HG := Lib.hid (And.intro g0 (And.intro g2 (And.intro g3 (And.intro g4 (And.intro hk3 hm)))))
              clear TW hbw hro g0 g1 g2 g3 g4 g6 g7 hk3 hm hb3 hym hdpl
              go_wp2_with fail
              refine HRO.out.mono ?_
              rintro e w4 ⟨rfl, rfl⟩
              by_cases h53 : m = 9007199254740992
              · subst h53
                have b0 : bits .and .u64 4503599627370496 4503599627370496 = 4503599627370496 := by decide +kernel
                have b1 : bits .and .u64 4503599627370496 4503599627370495 = 0 := by decide +kernel
                have b2 : bits .and .i64 2 2047 = 2 := by decide +kernel
                have b3 : bits .or .u64 0 9007199254740992 = 9007199254740992 := by decide +kernel
                go_wp2_with fail
                go_quiet (fail)
                go_wp2_with fail
                refine wp_goto ?_
                refine H0.out _ _ ?_
                clear H0 H1
                go_wp2_with fail
                go_quiet (fail)
                go_wp2_with fail
                exact HP.out _ 9007199254740992 false ⟨(-1022), by omega, .inr ⟨by omega, V, n3, dp3, tr3, HG.out.1, HG.out.2.1, HG.out.2.2.1, HG.out.2.2.2.1, by omega, (by have := HG.out.2.2.2.2.1; rwa [show (-1022) + 1 - ((53 : Nat) : Int) = (-1022) - 52 from by omega] at this), by rw [HG.out.2.2.2.2.2]; omega, by simp; try omega⟩⟩ (below_drewN HBW.out _)
              · have h53i : ((m : Int) == 9007199254740992) = false := by rw [beq_eq_false_iff_ne]; omega
                have b0 := bits_top m (by omega)
                have b1 := bits_lo m (by omega)
                by_cases h52 : m < 4503599627370496
                · rw [if_pos h52] at b0
                  rw [Nat.mod_eq_of_lt h52] at b1
                  have b2 : bits .and .i64 0 2047 = 0 := by decide +kernel
                  have b3 := bits_hi m 0 h52 (by omega)
                  rw [show ((0 : Nat) : Int) * 4503599627370496 = 0 from rfl, Nat.zero_mul, Nat.zero_add] at b3
                  go_wp2_with fail
                  refine wp_goto ?_
                  refine H0.out _ _ ?_
                  clear H0 H1
                  go_wp2_with fail
                  go_quiet (fail)
                  go_wp2_with fail
                  exact HP.out _ m false ⟨(-1022), by omega, .inr ⟨by omega, V, n3, dp3, tr3, HG.out.1, HG.out.2.1, HG.out.2.2.1, HG.out.2.2.2.1, by omega, (by have := HG.out.2.2.2.2.1; rwa [show (-1022) + 1 - ((53 : Nat) : Int) = (-1022) - 52 from by omega] at this), by rw [HG.out.2.2.2.2.2]; omega, by simp; try omega⟩⟩ (below_drewN HBW.out _)
                · rw [if_neg h52] at b0
                  rw [show m % 4503599627370496 = m - 4503599627370496 from by omega] at b1
                  obtain ⟨f, hf⟩ : ∃ f, m - 4503599627370496 = f := ⟨_, rfl⟩
                  rw [hf] at b1
                  have b2 : bits .and .i64 1 2047 = 1 := by decide +kernel
                  have b3 := bits_hi f 1 (by omega) (by omega)
                  rw [show ((1 : Nat) : Int) * 4503599627370496 = 4503599627370496 from rfl] at b3
                  go_wp2_with fail
                  refine wp_goto ?_
                  refine H0.out _ _ ?_
                  clear H0 H1
                  go_wp2_with fail
                  go_quiet (fail)
                  go_wp2_with fail
                  exact HP.out _ (1 * 4503599627370496 + f) false ⟨(-1022), by omega, .inr ⟨by omega, V, n3, dp3, tr3, HG.out.1, HG.out.2.1, HG.out.2.2.1, HG.out.2.2.2.1, by omega, (by have := HG.out.2.2.2.2.1; rwa [show (-1022) + 1 - ((53 : Nat) : Int) = (-1022) - 52 from by omega] at this), by rw [HG.out.2.2.2.2.2]; omega, by simp; try omega⟩⟩ (below_drewN HBW.out _)
            · by_cases hov : 1024 ≤ B
              · go_wp2_with fail
                go_quiet (fail)
                go_wp2_with fail
                refine wp_goto ?_
                refine H1.out _ _ ?_
                clear H0 H1
                intro J' H0
                have b1 : bits .and .u64 0 4503599627370495 = 0 := by decide +kernel
                have b2 : bits .and .i64 2047 2047 = 2047 := by decide +kernel
                have b3 : bits .or .u64 0 9218868437227405312 = 9218868437227405312 := by decide +kernel
                go_wp2_with fail
                go_quiet (fail)
                go_wp2_with fail
                go_step3
                go_wp2_with fail
                go_quiet (fail)
                go_wp2_with fail
                exact HP.out _ 9218868437227405312 true ⟨B, by omega, .inl ⟨hov, rfl, rfl⟩⟩ (below_drewN HB.out _)
              · go_wp2_with fail
                go_quiet (fail)
                go_wp2_with fail
                refine (SL.out _ y 0 (B + 1) tr 53 53 rfl (below_drewN HB.out _) (HD.out.drewN _) HK.out (by omega) (by omega) (by omega) (by omega)).mono ?_
                rintro e' w3 ⟨rfl, hb3, y3, dp3, tr3, hd3, hk3, hdp3⟩
                have hym := mant_lt HB2.out hk3 (by omega)
                have hdp16 := dp_le_16 hd3.ge hym
                have hdpl := dp_low HB1.out hq2 hk3 hd3.lt
                obtain ⟨V, n3, D3, g0, g1, g2, g3, g4, rfl, g6, g7⟩ := hd3
                have hro := rounded_any p n3 V D3 dp3 false tr3 w3 g7 g3 g6 g1 (by omega) (by omega)
                have hmb := riV_le (tr := tr3) g3 hym
                obtain ⟨m, hm⟩ : ∃ m, riV V n3 dp3 tr3 = m := ⟨_, rfl⟩
                rw [hm] at hro hmb
                have hbw := ((below_drewN HB.out _)).trans hb3
                have TW := HT.out.below hbw hN
                have c0 := TW.mant
                have c1 := TW.expb
                have c2 := TW.bias
                have c3 := g7.ng'
                have HBW := Lib.hid hbw
                have HRO := Lib.hid hro
                have HG := Lib.hid (And.intro g0 (And.intro g2 (And.intro g3 (And.intro g4 (And.intro hk3 hm)))))
                clear TW hbw hro g0 g1 g2 g3 g4 g6 g7 hk3 hm hb3 hym hdpl
                go_wp2_with fail
                refine HRO.out.mono ?_
                rintro e w4 ⟨rfl, rfl⟩
                by_cases h53 : m = 9007199254740992
                · subst h53
                  have b0 : bits .and .u64 4503599627370496 4503599627370496 = 4503599627370496 := by decide +kernel
                  by_cases hov2 : B = 1023
                  · go_wp2_with fail
                    go_quiet (fail)
                    go_wp2_with fail
                    refine wp_goto ?_
                    refine H1.out _ _ ?_
                    clear H0 H1
                    intro J' H0
                    have b1 : bits .and .u64 0 4503599627370495 = 0 := by decide +kernel
                    have b2 : bits .and .i64 2047 2047 = 2047 := by decide +kernel
                    have b3 : bits .or .u64 0 9218868437227405312 = 9218868437227405312 := by decide +kernel
                    go_wp2_with fail
                    go_quiet (fail)
                    go_wp2_with fail
                    go_step3
                    go_wp2_with fail
                    go_quiet (fail)
                    go_wp2_with fail
                    exact HP.out _ 9218868437227405312 true ⟨B, by omega, .inr ⟨by omega, V, n3, dp3, tr3, HG.out.1, HG.out.2.1, HG.out.2.2.1, HG.out.2.2.2.1, by omega, (by have := HG.out.2.2.2.2.1; rwa [show B + 1 - ((53 : Nat) : Int) = B - 52 from by omega] at this), by rw [HG.out.2.2.2.2.2]; omega, by simp; try omega⟩⟩ (below_drewN HBW.out _)
                  · have b1 : bits .and .u64 4503599627370496 4503599627370495 = 0 := by decide +kernel
                    obtain ⟨EX, hEX⟩ : ∃ EX : Nat, B + 1 + 1023 = (EX : Int) := ⟨(B + 1024).toNat, by omega⟩
                    have b2 := bits_ex EX (by omega)
                    have b3 := bits_hi 0 EX (by omega) (by omega)
                    rw [show ((0 : Nat) : Int) = 0 from rfl, Nat.add_zero] at b3
                    have hlt : B + 1 < 1024 := by omega
                    go_wp2_with fail
                    go_quiet (fail)
                    go_wp2_with fail
                    refine wp_goto ?_
                    refine H0.out _ _ ?_
                    clear H0 H1
                    go_wp2_with fail
                    go_quiet (fail)
                    go_wp2_with fail
                    exact HP.out _ (EX * 4503599627370496) false ⟨B, by omega, .inr ⟨by omega, V, n3, dp3, tr3, HG.out.1, HG.out.2.1, HG.out.2.2.1, HG.out.2.2.2.1, by omega, (by have := HG.out.2.2.2.2.1; rwa [show B + 1 - ((53 : Nat) : Int) = B - 52 from by omega] at this), by rw [HG.out.2.2.2.2.2]; omega, by simp; try omega⟩⟩ (below_drewN HBW.out _)
                · have h53i : ((m : Int) == 9007199254740992) = false := by rw [beq_eq_false_iff_ne]; omega
                  have b0 := bits_top m (by omega)
                  have b1 := bits_lo m (by omega)
                  have hmge := mant_ge HB1.out hq2 HG.out.2.2.1 HG.out.2.2.2.2.1 (by omega)
                  have h52 : ¬ m < 4503599627370496 := by
                    have := HG.out.2.2.2.2.2
                    unfold riV at this
                    omega
                  rw [if_neg h52] at b0
                  rw [show m % 4503599627370496 = m - 4503599627370496 from by omega] at b1
                  obtain ⟨f, hf⟩ : ∃ f, m - 4503599627370496 = f := ⟨_, rfl⟩
                  rw [hf] at b1
                  obtain ⟨EX, hEX⟩ : ∃ EX : Nat, B + 1023 = (EX : Int) := ⟨(B + 1023).toNat, by omega⟩
                  have b2 := bits_ex EX (by omega)
                  have b3 := bits_hi f EX (by omega) (by omega)
                  clear hmge
                  go_wp2_with fail
                  refine wp_goto ?_
                  refine H0.out _ _ ?_
                  clear H0 H1
                  go_wp2_with fail
                  go_quiet (fail)
                  go_wp2_with fail
                  exact HP.out _ (EX * 4503599627370496 + f) false ⟨B, by omega, .inr ⟨by omega, V, n3, dp3, tr3, HG.out.1, HG.out.2.1, HG.out.2.2.1, HG.out.2.2.2.1, by omega, (by have := HG.out.2.2.2.2.1; rwa [show B + 1 - ((53 : Nat) : Int) = B - 52 from by omega] at this), by rw [HG.out.2.2.2.2.2]; omega, by simp; try omega⟩⟩ (below_drewN HBW.out _)
end Go.Proofs.YtpnfkipfjanmkaaGreatDoor
