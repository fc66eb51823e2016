/- DERIVED. WALKS: rightShift. -/
import Derived.Test.YtpnfkipfjanmkaaGreatDoorHDl
import Derived.Test.YtpnfkipfjanmkaaGreatDoorHWq
import Derived.Deep.LoopGhost
set_option linter.unusedVariables false
set_option linter.unusedSimpArgs false
namespace Go.Proofs.YtpnfkipfjanmkaaGreatDoor
open Go.RowKit Flt

/-- The number's first t digits, zeros behind the last. -/
def rsV (V n t : Nat) : Nat := V * 10 ^ t / 10 ^ n
def rsE (E : Nat → Nat) (n t : Nat) : Nat := if t < n then E t else 0
theorem rsV_zero {V n : Nat} (h : V < 10 ^ n) : rsV V n 0 = 0 := by unfold rsV; rw [Nat.pow_zero, Nat.mul_one]; exact Nat.div_eq_of_lt h
theorem rsV_ge {V n t : Nat} (h : n ≤ t) : rsV V n t = V * 10 ^ (t - n) := by
  unfold rsV
  have : 10 ^ t = 10 ^ (t - n) * 10 ^ n := by rw [← Nat.pow_add, show t - n + n = t from by omega]
  rw [this, ← Nat.mul_assoc, Nat.mul_div_cancel _ (Nat.pow_pos (by omega))]
theorem rsV_le {E : Nat → Nat} {n t : Nat} (hE : ∀ i, i < n → E i < 10) (h : t ≤ n) : rsV (vald E n) n t = vald E t := by
  unfold rsV
  have : 10 ^ n = 10 ^ (n - t) * 10 ^ t := by rw [← Nat.pow_add, show n - t + t = n from by omega]
  rw [this, Nat.mul_div_mul_right _ _ (Nat.pow_pos (by omega)), vald_pre hE h]
theorem rsV_succ {E : Nat → Nat} {n : Nat} (hE : ∀ i, i < n → E i < 10) (t : Nat) : rsV (vald E n) n (t + 1) = 10 * rsV (vald E n) n t + rsE E n t := by
  unfold rsE
  by_cases h : t < n
  · rw [if_pos h, rsV_le hE (by omega), rsV_le hE (by omega)]; rfl
  · rw [if_neg h, rsV_ge (by omega), rsV_ge (by omega), show t + 1 - n = t - n + 1 from by omega, Nat.pow_succ, Nat.add_zero, ← Nat.mul_assoc, Nat.mul_comm]
theorem rsE_lt {E : Nat → Nat} {n : Nat} (hE : ∀ i, i < n → E i < 10) (t : Nat) : rsE E n t < 10 := by
  unfold rsE; split
  · rename_i h; exact hE t h
  · omega

/-- What stands in n when t digits are read. -/
def rsN (E : Nat → Nat) (n k t : Nat) : Nat := 10 * (rsV (vald E n) n (t - 1) % 2 ^ k) + rsE E n (t - 1)
theorem rsN_lt {E : Nat → Nat} {n : Nat} (hE : ∀ i, i < n → E i < 10) (k t : Nat) : rsN E n k t < 10 * 2 ^ k := by
  unfold rsN
  have := rsE_lt hE (t - 1)
  have := Nat.mod_lt (rsV (vald E n) n (t - 1)) (Nat.pow_pos (n := k) (show 0 < 2 by omega))
  omega
theorem rsN_first {E : Nat → Nat} {n k r : Nat} (hE : ∀ i, i < n → E i < 10) (hr : 0 < r) (h : rsV (vald E n) n (r - 1) < 2 ^ k) : rsN E n k r = rsV (vald E n) n r := by
  obtain ⟨t, rfl⟩ : ∃ t, r = t + 1 := ⟨r - 1, by omega⟩
  unfold rsN
  rw [Nat.add_sub_cancel] at h ⊢
  rw [Nat.mod_eq_of_lt h, rsV_succ hE]
theorem rsN_split {E : Nat → Nat} {n k t : Nat} (hE : ∀ i, i < n → E i < 10) (ht : 0 < t) : rsV (vald E n) n t = 2 ^ k * (10 * (rsV (vald E n) n (t - 1) / 2 ^ k)) + rsN E n k t := by
  obtain ⟨t, rfl⟩ : ∃ s, t = s + 1 := ⟨t - 1, by omega⟩
  unfold rsN
  rw [Nat.add_sub_cancel, rsV_succ hE]
  have := Nat.div_add_mod (rsV (vald E n) n t) (2 ^ k)
  generalize rsV (vald E n) n t = x at *
  generalize x / 2 ^ k = q at *
  have e : 2 ^ k * (10 * q) = 10 * (2 ^ k * q) := by ac_rfl
  rw [e]; omega
theorem rsN_div {E : Nat → Nat} {n k t : Nat} (hE : ∀ i, i < n → E i < 10) (ht : 0 < t) : rsV (vald E n) n t / 2 ^ k = 10 * (rsV (vald E n) n (t - 1) / 2 ^ k) + rsN E n k t / 2 ^ k := by
  rw [rsN_split (k := k) hE ht, Nat.mul_add_div (Nat.pow_pos (by omega))]
theorem rsN_dig_lt {E : Nat → Nat} {n : Nat} (hE : ∀ i, i < n → E i < 10) (k t : Nat) : rsN E n k t / 2 ^ k < 10 :=
  Nat.div_lt_of_lt_mul (by rw [Nat.mul_comm]; exact rsN_lt hE k t)
theorem rsN_dig {E : Nat → Nat} {n k t : Nat} (hE : ∀ i, i < n → E i < 10) (ht : 0 < t) : rsN E n k t / 2 ^ k = rsV (vald E n) n t / 2 ^ k % 10 := by
  rw [rsN_div (k := k) hE ht, Nat.mul_add_mod, Nat.mod_eq_of_lt (rsN_dig_lt hE k t)]
theorem rsN_next {E : Nat → Nat} {n k t : Nat} (hE : ∀ i, i < n → E i < 10) (ht : 0 < t) : rsN E n k (t + 1) = 10 * (rsN E n k t % 2 ^ k) + rsE E n t := by
  have h : rsV (vald E n) n t % 2 ^ k = rsN E n k t % 2 ^ k := by
    rw [rsN_split (k := k) hE ht, Nat.mul_add_mod]
  rw [← h]; rfl
/-- Behind the digits and k more, nothing is left. -/
theorem rsN_end {E : Nat → Nat} {n k t : Nat} (h : n + k < t) : rsN E n k t = 0 := by
  unfold rsN rsE
  rw [if_neg (by omega), rsV_ge (by omega), show t - 1 - n = k + (t - 1 - n - k) from by omega, Nat.pow_add, Nat.add_zero]
  have : (10 : Nat) ^ k = 5 ^ k * 2 ^ k := by rw [← Nat.mul_pow]
  rw [this]
  generalize 10 ^ (t - 1 - n - k) = y
  have : vald E n * (5 ^ k * 2 ^ k * y) = (vald E n * 5 ^ k * y) * 2 ^ k := by ac_rfl
  rw [this, Nat.mul_mod_left]

/-- The digits put down. -/
def rsD (D : Nat → Int) (V n k r0 w : Nat) : Nat → Int := fun i => if i < w then ((rsV V n (r0 + i) / 2 ^ k % 10 : Nat) : Int) + 48 else D i
theorem rsD_step {D : Nat → Int} {V n k r0 w : Nat} (i : Nat) : (if i = w then ((rsV V n (r0 + w) / 2 ^ k % 10 : Nat) : Int) + 48 else rsD D V n k r0 w i) = rsD D V n k r0 (w + 1) i := by
  unfold rsD
  by_cases e : i = w
  · rw [if_pos e, if_pos (by omega), e]
  · rw [if_neg e]
    by_cases h : i < w
    · rw [if_pos h, if_pos (by omega)]
    · rw [if_neg h, if_neg (by omega)]
theorem rsD_over {D : Nat → Int} {V n k r0 w : Nat} (hw : 800 ≤ w) (i : Nat) (hi : i < 800) : rsD D V n k r0 w i = rsD D V n k r0 (w + 1) i := by
  unfold rsD; rw [if_pos (by omega), if_pos (by omega)]

/-- Has something been dropped, w digits being put down? -/
def rsT (V n k r0 w : Nat) : Bool := decide (rsV V n (r0 + w - 1) / 2 ^ k % 10 ^ (w - 800) ≠ 0)
theorem rsT_few {V n k r0 w : Nat} (h : w ≤ 800) : rsT V n k r0 w = false := by unfold rsT; rw [show w - 800 = 0 from by omega]; simp [Nat.mod_one]
theorem rsT_more {E : Nat → Nat} {n k r0 w : Nat} (hE : ∀ i, i < n → E i < 10) (hr : 0 < r0) (h : 800 ≤ w) : rsT (vald E n) n k r0 (w + 1) = (rsT (vald E n) n k r0 w || decide (rsN E n k (r0 + w) / 2 ^ k ≠ 0)) := by
  unfold rsT
  have h1 := rsN_div (k := k) hE (t := r0 + w) (by omega)
  have h2 := rsN_dig_lt hE k (r0 + w)
  rw [show r0 + (w + 1) - 1 = r0 + w from by omega, h1, show w + 1 - 800 = (w - 800) + 1 from by omega, Nat.pow_succ, Nat.mul_comm (10 ^ (w - 800)) 10, Nat.mod_mul]
  generalize rsV (vald E n) n (r0 + w - 1) / 2 ^ k = q
  generalize rsN E n k (r0 + w) / 2 ^ k = d at *
  have e1 : (10 * q + d) % 10 = d := by omega
  have e2 : (10 * q + d) / 10 = q := by omega
  rw [e1, e2, Bool.eq_iff_iff]
  simp only [decide_eq_true_eq, Bool.or_eq_true, ne_eq]
  omega


set_option maxHeartbeats 3200000 in
set_option maxRecDepth 100000 in
theorem rs_core (p n k : Nat) (D : Nat → Int) (E : Nat → Nat) (dp : Int) (ng tr : Bool) (w : World) (h : DecB p D n dp ng tr w)
    (hD : ∀ i, i < n → D i = (E i : Int) + 48) (hE : ∀ i, i < n → E i < 10) (hn0 : 0 < n) (hn : n ≤ 800) (hE0 : E 0 ≠ 0) (hk0 : 0 < k) (hk : k < 61) (hdp : -100000 ≤ dp) (hdp2 : dp ≤ 100000) :
    Calls Tryz.prog 313 #[.pointer (some ⟨p, 0, none⟩), .int .u64 k] w fun e w' => e = .returned (.tuple #[]) ∧ Below p w w' ∧
      ∃ r0 T D', 0 < r0 ∧ r0 ≤ n + 61 ∧ n ≤ r0 + T ∧ rsV (vald E n) n (r0 - 1) < 2 ^ k ∧ 2 ^ k ≤ rsV (vald E n) n r0 ∧ rsN E n k (r0 + T) = 0 ∧ D' = rsD D (vald E n) n k r0 T ∧
        DecB p D' (trimN D' (min T 800) : Nat) (if trimN D' (min T 800) = 0 then 0 else dp - (r0 - 1)) ng (tr || rsT (vald E n) n k r0 T) w' := by
  have hp60 : 2 ^ k ≤ 2 ^ 60 := Nat.pow_le_pow_right (by omega) (by omega)
  have hV0 := rsV_zero (vald_lt hE)
  have hVn : 0 < vald E n := by
    have h1 := vald_pre hE (i := 1) (by omega)
    have h2 : vald E 1 = E 0 := by simp [vald]
    rw [h2] at h1
    rcases Nat.eq_zero_or_pos (vald E n) with h3 | h3
    · rw [h3, Nat.zero_div] at h1; omega
    · exact h3
  have hstep := rsV_succ hE
  have hnl := fun t => rsN_lt hE k t
  have hnf := fun r (hr : 0 < r) h => rsN_first (k := k) hE hr h
  have hnd := fun t (ht : 0 < t) => rsN_dig (k := k) hE ht
  have hnn := fun t (ht : 0 < t) => rsN_next (k := k) hE ht
  have hdl := fun t => rsN_dig_lt hE k t
  have htm := fun r0 w (hr : 0 < r0) h => rsT_more (k := k) (w := w) hE hr h
  have hge := fun t (ht : n ≤ t) => rsV_ge (V := vald E n) ht
  obtain ⟨V, hV⟩ : ∃ V, vald E n = V := ⟨_, rfl⟩
  rw [hV] at hV0 hVn ⊢
  simp only [hV] at hstep hnf hnd hge htm
  obtain ⟨K, hK⟩ : ∃ K, 2 ^ k = K := ⟨_, rfl⟩
  have hKp : 0 < K := by rw [← hK]; exact Nat.pow_pos (by omega)
  have hKi : (2 : Int) ^ k = (K : Int) := by rw [← hK]; push_cast; rfl
  simp only [hK] at hp60 hnl hnf hnd hnn hdl htm ⊢
  have HK := Lib.hid hK
  have HH := Lib.hid h
  have HD := Lib.hid hD
  have HE := Lib.hid hE
  have HV0 := Lib.hid hV0
  have HVn := Lib.hid hVn
  have HST := Lib.hid hstep
  have HNL := Lib.hid hnl
  have HNF := Lib.hid hnf
  have HND := Lib.hid hnd
  have HNN := Lib.hid hnn
  have HDL := Lib.hid hdl
  have HTM := Lib.hid htm
  have HGE := Lib.hid hge
  have hKb : K ≤ 1152921504606846976 := by omega
  clear h hD hE hp60 hV0 hVn hstep hnl hnf hnd hnn hdl htm hge hV hK
  have h0 := HH.out.nd'
  have h1 := HH.out.dp'
  have hf := HH.out.fz
  go_enter Tryz.func313, Tryz.ntmps313
  go_wp2_with fail
  go_loopw [4, 6] (fun r N wr => ∃ t : Nat, t ≤ n ∧ r = .int .i64 t ∧ N = .int .u64 (rsV V n t : Nat) ∧ (t = 0 ∨ rsV V n (t - 1) < K) ∧ w = wr) (fun r _ _ => n - (intOf r).toNat)
  case atStart => exact ⟨0, Nat.zero_le _, rfl, by rw [HV0.out]; rfl, .inl rfl, rfl⟩
  case round =>
    obtain ⟨R0, ht, rfl, rfl, hlast, rfl⟩ := hrel
    obtain ⟨N, hN⟩ : ∃ N, rsV V n R0 = N := ⟨_, rfl⟩
    rw [hN]
    have HL := Lib.hid hlast
    have HN := Lib.hid hN
    clear hlast hN
    by_cases hlt : N < K
    · have hd0 : ((N : Int) / (K : Int) == 0) = true := by
        rw [beq_iff_eq]; exact Int.ediv_eq_zero_of_lt (by omega) (by omega)
      have hNb : N < 1152921504606846976 := by omega
      have HLT := Lib.hid hlt
      by_cases htn : R0 < n
      · have hc := HH.out.dig (i := R0) (by omega)
        rw [HD.out R0 htn] at hc
        have hEt := HE.out R0 htn
        clear hlt
        go_wp2_with fail
        refine ⟨⟨R0 + 1, by omega, rfl, int_eq ?_, .inr ?_, by trivial⟩, by simp [intOf]; omega⟩
        · rw [HST.out, HN.out, show rsE E n R0 = E R0 from if_pos htn]; omega
        · rw [Nat.add_sub_cancel, HN.out]; exact HLT.out
      · have hte : n = R0 := by omega
        subst hte
        have hV0 : ((N : Int) == 0) = false := by
          have := HGE.out n (Nat.le_refl _)
          rw [HN.out, Nat.sub_self, Nat.pow_zero, Nat.mul_one] at this
          have := HVn.out
          rw [beq_eq_false_iff_ne]; omega
        have hl1 : rsV V n (n - 1) < K := by
          rcases HL.out with h | h
          · omega
          · exact h
        have HL1 := Lib.hid hl1
        clear hlt hl1 HL
        go_wp2_with fail
        go_loopg [4, 6] 61 (fun g r c wr => ∃ s : Nat, n ≤ s ∧ s ≤ n + 60 ∧ g = n + 61 - s ∧ r = .int .i64 s ∧ c = .int .u64 (rsV V n s : Nat) ∧ rsV V n (s - 1) < K ∧ w = wr)
        case atStart => exact ⟨n, Nat.le_refl _, by omega, by omega, rfl, by rw [HN.out], HL1.out, rfl⟩
        case round =>
          clear HLT hd0 hNb hV0 HL1
          obtain ⟨s, hs1, hs2, hg, rfl, rfl, hpv, rfl⟩ := hrel
          have HPV := Lib.hid hpv
          have HG := Lib.hid hg
          obtain ⟨M, hM⟩ : ∃ M, rsV V n s = M := ⟨_, rfl⟩
          rw [hM]
          have HM := Lib.hid hM
          clear hpv hg hM
          by_cases hlt : M < K
          · have hd0 : ((M : Int) / (K : Int) == 0) = true := by
              rw [beq_iff_eq]; exact Int.ediv_eq_zero_of_lt (by omega) (by omega)
            have hNb : M < 1152921504606846976 := by omega
            have HLT := Lib.hid hlt
            clear hlt
            go_wp2_with fail
            go_roundg (n + 61 - (s + 1))
            case measure => have := HG.out; omega
            case rel =>
              have hs60 : s - n < 60 := by
                have h1 := HM.out
                rw [HGE.out s hs1] at h1
                have h2 : 2 ^ (s - n) ≤ 10 ^ (s - n) := Nat.pow_le_pow_left (by omega) _
                have h3 : 10 ^ (s - n) ≤ V * 10 ^ (s - n) := Nat.le_mul_of_pos_left _ HVn.out
                refine (Nat.pow_lt_pow_iff_right (show 1 < 2 by omega)).1 ?_
                omega
              refine ⟨s + 1, by omega, by omega, rfl, rfl, int_eq ?_, by rw [Nat.add_sub_cancel, HM.out]; exact HLT.out, rfl⟩
              have h1 := HST.out s
              rw [HM.out, show rsE E n s = 0 from if_neg (by omega)] at h1
              rw [h1]; omega
          · have hd0 : ((M : Int) / (K : Int) == 0) = false := by
              rw [beq_eq_false_iff_ne]
              have h1 : 0 < M / K := Nat.div_pos (by omega) hKp
              have h2 : (M : Int) / (K : Int) = ((M / K : Nat) : Int) := rfl
              rw [h2]; omega
            have hr0 : 0 < s := by omega
            have HNK := Lib.hid hlt
            clear hlt HN
            have HN := HM
            clear HM
            go_wp2_with fail
            go_loopw [4, 5, 6] (fun r wi c wx => ∃ t : Nat, s ≤ t ∧ (t ≤ n ∨ t = s) ∧ r = .int .i64 t ∧ wi = .int .i64 ((t - s : Nat) : Int) ∧ c = .int .u64 (rsN E n k t : Nat) ∧ Below p w wx ∧ DecB p (rsD D V n k s (t - s)) n (dp - (s - 1)) ng tr wx) (fun r _ _ _ => n - (intOf r).toNat)
            case atStart =>
              refine ⟨s, Nat.le_refl _, .inr rfl, rfl, by rw [Nat.sub_self]; rfl, ?_, (Below.refl p w).setCell (p := ⟨p, 801, none⟩) (Nat.le_refl _) _, ?_⟩
              · rw [HNF.out s hr0 HPV.out, HN.out]
              · rw [Nat.sub_self]
                exact (HH.out.setDp _).congr fun i _ => by unfold rsD; rw [if_neg (by omega)]
            case round =>
              obtain ⟨t, htR, htn, rfl, rfl, rfl, hb, hd⟩ := hrel
              have HB := Lib.hid hb
              have HDD := Lib.hid hd
              have c0 := hd.nd'
              have cf := hd.fz
              clear hb hd
              obtain ⟨x, hx⟩ : ∃ x, t - s = x := ⟨_, rfl⟩
              have hxt : s + x = t := by omega
              rw [hx]
              have hd2 := HDD.out
              rw [hx] at hd2
              have HDX := Lib.hid hd2
              have HX := Lib.hid hxt
              clear hd2 hxt hx
              by_cases htn2 : t < n
              · exact absurd htn2 (by omega)
              · have hx9 : x ≤ 800 := by have := HX.out; omega
                have HDX2 : Hid (DecB p (rsD D V n k s x) n (dp - (s - 1)) ng (tr || rsT V n k s x) wr) := by
                  have := HDX.out
                  show DecB ..
                  rw [rsT_few hx9, Bool.or_false]; exact this
                clear HDX HDD
                go_wp2_with fail
                go_loopg [5, 6] (n + k + 1 - t) (fun g wi c wy => ∃ t : Nat, s ≤ t ∧ n ≤ t ∧ t ≤ n + k + 100 ∧ g = n + k + 1 - t ∧ wi = .int .i64 ((min (t - s) 800 : Nat) : Int) ∧ c = .int .u64 (rsN E n k t : Nat) ∧ Below p w wy ∧ DecB p (rsD D V n k s (t - s)) n (dp - (s - 1)) ng (tr || rsT V n k s (t - s)) wy)
                case atStart =>
                  have hx := HX.out
                  have hx2 : t - s = x := by omega
                  refine ⟨t, htR, by omega, by omega, rfl, by rw [hx2, show min x 800 = x from by omega], rfl, HB.out, ?_⟩
                  rw [hx2]; exact HDX2.out
                case round =>
                  clear HDX2 HB HX hx9 htn2 htn htR c0 cf
                  obtain ⟨T, htR, htn, htk, hg, rfl, rfl, hb, hd⟩ := hrel
                  obtain ⟨x, hx⟩ : ∃ x, T - s = x := ⟨_, rfl⟩
                  have hxt : s + x = T := by omega
                  rw [hx] at hd ⊢
                  have HB := Lib.hid hb
                  have c0 := hd.nd'
                  have cf := hd.fz
                  have ct := hd.tr'
                  have HDD := Lib.hid hd
                  have HG := Lib.hid hg
                  have HX := Lib.hid hxt
                  clear hb hd hg hxt hx
                  obtain ⟨N2, hN2⟩ : ∃ N2, rsN E n k T = N2 := ⟨_, rfl⟩
                  rw [hN2]
                  by_cases hz : N2 = 0
                  · subst hz
                    obtain ⟨q, hq1⟩ : ∃ q, min x 800 = q := ⟨_, rfl⟩
                    rw [hq1]
                    have hdq : dp - ((s : Int) - 1) = dp - (s - 1) := rfl
                    have HNZ := Lib.hid hN2
                    have HQ1 := Lib.hid hq1
                    have htr := fun (wz : World) (h : DecB p (rsD D V n k s x) q (dp - (s - 1)) ng (tr || rsT V n k s x) wz) (hq : q ≤ 800) => dtrim_any p q _ _ ng _ wz h hq
                    have HTR := Lib.hid htr
                    clear hN2 hq1 htr hdq
                    go_wp2_with fail
                    refine (HTR.out _ (HDD.out.setNd q) (by have := HQ1.out; omega)).mono ?_
                    rintro e w9 ⟨rfl, hb9, hd9⟩
                    go_wp2_with fail
                    ((try simp only [Exit.inBlock, Exit.then]); first | refine bodyPost_end (results_none rfl _ _ _) rfl ?_ | refine bodyPost_ret (results_none rfl _ _ _) rfl ?_)
                    refine ⟨rfl, (HB.out.setCell (p := ⟨p, 800, none⟩) (Nat.le_refl _) _).trans hb9, s, x, _, hr0, by omega, by have := HX.out; omega, HPV.out, by rw [HN.out]; exact Nat.not_lt.1 HNK.out, by rw [HX.out]; exact HNZ.out, rfl, ?_⟩
                    rw [HQ1.out]; exact hd9
                  · have hN2pos : 0 < N2 := by omega
                    have hT1 : T ≤ n + k := by
                      rcases Nat.lt_or_ge (n + k) T with h | h
                      · rw [rsN_end h] at hN2; omega
                      · exact h
                    have hnl := HNL.out T
                    have hnd := HND.out T (by omega)
                    have hnn := HNN.out T (by omega)
                    have hdl := HDL.out T
                    rw [show rsE E n T = 0 from if_neg (by omega), Nat.add_zero] at hnn
                    rw [hN2] at hnl hnd hnn hdl
                    obtain ⟨d, hd⟩ : ∃ d, N2 / K = d := ⟨_, rfl⟩
                    obtain ⟨rm, hrm⟩ : ∃ rm, N2 % K = rm := ⟨_, rfl⟩
                    have hrml : rm < K := hrm ▸ Nat.mod_lt _ hKp
                    rw [hd] at hnd hdl
                    rw [hrm] at hnn
                    have hdi : (N2 : Int) / (K : Int) = (d : Int) := by rw [← hd]; rfl
                    have hN2b : N2 < 11529215046068469760 := by omega
                    have hand : bits .and .u64 (N2 : Int) ((K : Int) - 1) = (rm : Int) := by
                      rw [show (K : Int) - 1 = ((K - 1 : Nat) : Int) from by omega, bits_and_u64_nat _ _ (by omega) (by omega), ← HK.out, Nat.and_two_pow_sub_one_eq_mod, HK.out, hrm]
                    have HN2 := Lib.hid hnn
                    have HND2 := Lib.hid hnd
                    have HN3 := Lib.hid hN2
                    have hrm10 : ((rm : Int) * 10) = ((10 * rm : Nat) : Int) := by omega
                    have HRM := Lib.hid hrm10
                    have HD0 := Lib.hid hd
                    clear hnn hnd hN2 hd hrm hnl hrm10 hz
                    by_cases hx8 : x < 800
                    · have hct := HDD.out.dig hx8
                      have hmin : min x 800 = x := by omega
                      rw [hmin]
                      clear hmin
                      go_wp2_with fail
                      go_roundg (n + k + 1 - (T + 1))
                      case measure => have := HG.out; omega
                      case rel =>
                        refine ⟨T + 1, by omega, by omega, by omega, rfl, int_eq (by have := HX.out; omega), int_eq (by rw [HN2.out]; omega), HB.out.setCell (Nat.le_refl _) _, ?_⟩
                        have hs := HDD.out.setDig hx8 ((d : Int) + 48)
                        rw [show T + 1 - s = x + 1 from by have := HX.out; omega, rsT_few (by omega), ← rsT_few (V := V) (n := n) (k := k) (r0 := s) (w := x) (by omega)]
                        refine hs.congr fun i _ => ?_
                        rw [← rsD_step, HX.out, HK.out, ← HND2.out]
                    · have hmin : min x 800 = 800 := by omega
                      rw [hmin]
                      clear hmin
                      by_cases hd0 : d = 0
                      · have hdb : ¬ 0 < d := by omega
                        clear hd0
                        go_wp2_with fail
                        go_roundg (n + k + 1 - (T + 1))
                        case measure => have := HG.out; omega
                        case rel =>
                          refine ⟨T + 1, by omega, by omega, by omega, rfl, int_eq (by have := HX.out; omega), int_eq (by rw [HN2.out]; omega), HB.out, ?_⟩
                          have hs := HDD.out
                          have hm := HTM.out s x hr0 (by omega)
                          rw [HX.out, HN3.out, HD0.out, decide_eq_false (show ¬ d ≠ 0 by omega), Bool.or_false] at hm
                          rw [show T + 1 - s = x + 1 from by have := HX.out; omega, hm]
                          exact hs.congr fun i hi => rsD_over (by omega) i hi
                      · have hdb : 0 < d := by omega
                        go_wp2_with fail
                        go_roundg (n + k + 1 - (T + 1))
                        case measure => have := HG.out; omega
                        case rel =>
                          refine ⟨T + 1, by omega, by omega, by omega, rfl, int_eq (by have := HX.out; omega), int_eq (by rw [HN2.out]; omega), HB.out.setCell (Nat.le_refl _) _, ?_⟩
                          have hs := HDD.out.setTr true
                          have hm := HTM.out s x hr0 (by omega)
                          rw [HX.out, HN3.out, HD0.out, decide_eq_true (show d ≠ 0 from hd0), Bool.or_true] at hm
                          rw [show T + 1 - s = x + 1 from by have := HX.out; omega, hm, Bool.or_true]
                          exact hs.congr fun i hi => rsD_over (by omega) i hi
    · have hd0 : ((N : Int) / (K : Int) == 0) = false := by
        rw [beq_eq_false_iff_ne]
        have h1 : 0 < N / K := Nat.div_pos (by omega) hKp
        have h2 : (N : Int) / (K : Int) = ((N / K : Nat) : Int) := rfl
        rw [h2]; omega
      have hr0 : 0 < R0 := by
        rcases Nat.eq_zero_or_pos R0 with h | h
        · subst h; have := HN.out; rw [HV0.out] at this; omega
        · exact h
      have hpv : rsV V n (R0 - 1) < K := by
        rcases HL.out with h | h
        · omega
        · exact h
      have HPV := Lib.hid hpv
      have HNK := Lib.hid hlt
      clear hpv hlt HL
      go_wp2_with fail
      go_loopw [4, 5, 6] (fun r wi c wx => ∃ t : Nat, R0 ≤ t ∧ (t ≤ n ∨ t = R0) ∧ r = .int .i64 t ∧ wi = .int .i64 ((t - R0 : Nat) : Int) ∧ c = .int .u64 (rsN E n k t : Nat) ∧ Below p w wx ∧ DecB p (rsD D V n k R0 (t - R0)) n (dp - (R0 - 1)) ng tr wx) (fun r _ _ _ => n - (intOf r).toNat)
      case atStart =>
        refine ⟨R0, Nat.le_refl _, .inr rfl, rfl, by rw [Nat.sub_self]; rfl, ?_, (Below.refl p w).setCell (p := ⟨p, 801, none⟩) (Nat.le_refl _) _, ?_⟩
        · rw [HNF.out R0 hr0 HPV.out, HN.out]
        · rw [Nat.sub_self]
          exact (HH.out.setDp _).congr fun i _ => by unfold rsD; rw [if_neg (by omega)]
      case round =>
        obtain ⟨t, htR, htn, rfl, rfl, rfl, hb, hd⟩ := hrel
        have HB := Lib.hid hb
        have HDD := Lib.hid hd
        have c0 := hd.nd'
        have cf := hd.fz
        clear hb hd
        obtain ⟨x, hx⟩ : ∃ x, t - R0 = x := ⟨_, rfl⟩
        have hxt : R0 + x = t := by omega
        rw [hx]
        have hd2 := HDD.out
        rw [hx] at hd2
        have HDX := Lib.hid hd2
        have HX := Lib.hid hxt
        clear hd2 hxt hx
        by_cases htn2 : t < n
        · have hx8 : x < 800 := by have := HX.out; omega
          have hct := HDX.out.dig hx8
          have hc := HDX.out.dig (i := t) (by omega)
          have hDt : rsD D V n k R0 x t = (E t : Int) + 48 := by
            unfold rsD; rw [if_neg (by have := HX.out; omega), HD.out t htn2]
          rw [hDt] at hc
          have hEt := HE.out t htn2
          have hnl := HNL.out t
          have hnd := HND.out t (by omega)
          have hnn := HNN.out t (by omega)
          have hdl := HDL.out t
          rw [show rsE E n t = E t from if_pos htn2] at hnn
          obtain ⟨N2, hN2⟩ : ∃ N2, rsN E n k t = N2 := ⟨_, rfl⟩
          rw [hN2] at hnl hnd hnn hdl ⊢
          obtain ⟨d, hd⟩ : ∃ d, N2 / K = d := ⟨_, rfl⟩
          obtain ⟨rm, hrm⟩ : ∃ rm, N2 % K = rm := ⟨_, rfl⟩
          have hrml : rm < K := hrm ▸ Nat.mod_lt _ hKp
          rw [hd] at hnd hdl
          rw [hrm] at hnn
          have hdi : (N2 : Int) / (K : Int) = (d : Int) := by rw [← hd]; rfl
          have hN2b : N2 < 11529215046068469760 := by omega
          have hand : bits .and .u64 (N2 : Int) ((K : Int) - 1) = (rm : Int) := by
            rw [show (K : Int) - 1 = ((K - 1 : Nat) : Int) from by omega, bits_and_u64_nat _ _ (by omega) (by omega), ← HK.out, Nat.and_two_pow_sub_one_eq_mod, HK.out, hrm]
          have HN2 := Lib.hid hnn
          have HND2 := Lib.hid hnd
          clear hnn hnd hN2 hd hrm hDt hnl
          go_wp2_with fail
          refine ⟨⟨t + 1, by omega, .inl (by omega), rfl, int_eq (by have := HX.out; omega), int_eq (by rw [HN2.out]; omega), HB.out.setCell (Nat.le_refl _) _, ?_⟩, by simp [intOf]; omega⟩
          have hs := HDX.out.setDig hx8 ((d : Int) + 48)
          rw [show t + 1 - R0 = x + 1 from by have := HX.out; omega]
          refine hs.congr fun i _ => ?_
          rw [← rsD_step, HX.out, HK.out, ← HND2.out]
        · have hx9 : x ≤ 800 := by have := HX.out; omega
          have HDX2 : Hid (DecB p (rsD D V n k R0 x) n (dp - (R0 - 1)) ng (tr || rsT V n k R0 x) wr) := by
            have := HDX.out
            show DecB ..
            rw [rsT_few hx9, Bool.or_false]; exact this
          clear HDX HDD
          go_wp2_with fail
          go_loopg [5, 6] (n + k + 1 - t) (fun g wi c wy => ∃ t : Nat, R0 ≤ t ∧ n ≤ t ∧ t ≤ n + k + 100 ∧ g = n + k + 1 - t ∧ wi = .int .i64 ((min (t - R0) 800 : Nat) : Int) ∧ c = .int .u64 (rsN E n k t : Nat) ∧ Below p w wy ∧ DecB p (rsD D V n k R0 (t - R0)) n (dp - (R0 - 1)) ng (tr || rsT V n k R0 (t - R0)) wy)
          case atStart =>
            have hx := HX.out
            have hx2 : t - R0 = x := by omega
            refine ⟨t, htR, by omega, by omega, rfl, by rw [hx2, show min x 800 = x from by omega], rfl, HB.out, ?_⟩
            rw [hx2]; exact HDX2.out
          case round =>
            clear HDX2 HB HX hx9 htn2 htn htR c0 cf
            obtain ⟨T, htR, htn, htk, hg, rfl, rfl, hb, hd⟩ := hrel
            obtain ⟨x, hx⟩ : ∃ x, T - R0 = x := ⟨_, rfl⟩
            have hxt : R0 + x = T := by omega
            rw [hx] at hd ⊢
            have HB := Lib.hid hb
            have c0 := hd.nd'
            have cf := hd.fz
            have ct := hd.tr'
            have HDD := Lib.hid hd
            have HG := Lib.hid hg
            have HX := Lib.hid hxt
            clear hb hd hg hxt hx
            obtain ⟨N2, hN2⟩ : ∃ N2, rsN E n k T = N2 := ⟨_, rfl⟩
            rw [hN2]
            by_cases hz : N2 = 0
            · subst hz
              obtain ⟨q, hq1⟩ : ∃ q, min x 800 = q := ⟨_, rfl⟩
              rw [hq1]
              have hdq : dp - ((R0 : Int) - 1) = dp - (R0 - 1) := rfl
              have HNZ := Lib.hid hN2
              have HQ1 := Lib.hid hq1
              have htr := fun (wz : World) (h : DecB p (rsD D V n k R0 x) q (dp - (R0 - 1)) ng (tr || rsT V n k R0 x) wz) (hq : q ≤ 800) => dtrim_any p q _ _ ng _ wz h hq
              have HTR := Lib.hid htr
              clear hN2 hq1 htr hdq
              go_wp2_with fail
              refine (HTR.out _ (HDD.out.setNd q) (by have := HQ1.out; omega)).mono ?_
              rintro e w9 ⟨rfl, hb9, hd9⟩
              go_wp2_with fail
              ((try simp only [Exit.inBlock, Exit.then]); first | refine bodyPost_end (results_none rfl _ _ _) rfl ?_ | refine bodyPost_ret (results_none rfl _ _ _) rfl ?_)
              refine ⟨rfl, (HB.out.setCell (p := ⟨p, 800, none⟩) (Nat.le_refl _) _).trans hb9, R0, x, _, hr0, by omega, by have := HX.out; omega, HPV.out, by rw [HN.out]; exact Nat.not_lt.1 HNK.out, by rw [HX.out]; exact HNZ.out, rfl, ?_⟩
              rw [HQ1.out]; exact hd9
            · have hN2pos : 0 < N2 := by omega
              have hT1 : T ≤ n + k := by
                rcases Nat.lt_or_ge (n + k) T with h | h
                · rw [rsN_end h] at hN2; omega
                · exact h
              have hnl := HNL.out T
              have hnd := HND.out T (by omega)
              have hnn := HNN.out T (by omega)
              have hdl := HDL.out T
              rw [show rsE E n T = 0 from if_neg (by omega), Nat.add_zero] at hnn
              rw [hN2] at hnl hnd hnn hdl
              obtain ⟨d, hd⟩ : ∃ d, N2 / K = d := ⟨_, rfl⟩
              obtain ⟨rm, hrm⟩ : ∃ rm, N2 % K = rm := ⟨_, rfl⟩
              have hrml : rm < K := hrm ▸ Nat.mod_lt _ hKp
              rw [hd] at hnd hdl
              rw [hrm] at hnn
              have hdi : (N2 : Int) / (K : Int) = (d : Int) := by rw [← hd]; rfl
              have hN2b : N2 < 11529215046068469760 := by omega
              have hand : bits .and .u64 (N2 : Int) ((K : Int) - 1) = (rm : Int) := by
                rw [show (K : Int) - 1 = ((K - 1 : Nat) : Int) from by omega, bits_and_u64_nat _ _ (by omega) (by omega), ← HK.out, Nat.and_two_pow_sub_one_eq_mod, HK.out, hrm]
              have HN2 := Lib.hid hnn
              have HND2 := Lib.hid hnd
              have HN3 := Lib.hid hN2
              have hrm10 : ((rm : Int) * 10) = ((10 * rm : Nat) : Int) := by omega
              have HRM := Lib.hid hrm10
              have HD0 := Lib.hid hd
              clear hnn hnd hN2 hd hrm hnl hrm10 hz
              by_cases hx8 : x < 800
              · have hct := HDD.out.dig hx8
                have hmin : min x 800 = x := by omega
                rw [hmin]
                clear hmin
                go_wp2_with fail
                go_roundg (n + k + 1 - (T + 1))
                case measure => have := HG.out; omega
                case rel =>
                  refine ⟨T + 1, by omega, by omega, by omega, rfl, int_eq (by have := HX.out; omega), int_eq (by rw [HN2.out]; omega), HB.out.setCell (Nat.le_refl _) _, ?_⟩
                  have hs := HDD.out.setDig hx8 ((d : Int) + 48)
                  rw [show T + 1 - R0 = x + 1 from by have := HX.out; omega, rsT_few (by omega), ← rsT_few (V := V) (n := n) (k := k) (r0 := R0) (w := x) (by omega)]
                  refine hs.congr fun i _ => ?_
                  rw [← rsD_step, HX.out, HK.out, ← HND2.out]
              · have hmin : min x 800 = 800 := by omega
                rw [hmin]
                clear hmin
                by_cases hd0 : d = 0
                · have hdb : ¬ 0 < d := by omega
                  clear hd0
                  go_wp2_with fail
                  go_roundg (n + k + 1 - (T + 1))
                  case measure => have := HG.out; omega
                  case rel =>
                    refine ⟨T + 1, by omega, by omega, by omega, rfl, int_eq (by have := HX.out; omega), int_eq (by rw [HN2.out]; omega), HB.out, ?_⟩
                    have hs := HDD.out
                    have hm := HTM.out R0 x hr0 (by omega)
                    rw [HX.out, HN3.out, HD0.out, decide_eq_false (show ¬ d ≠ 0 by omega), Bool.or_false] at hm
                    rw [show T + 1 - R0 = x + 1 from by have := HX.out; omega, hm]
                    exact hs.congr fun i hi => rsD_over (by omega) i hi
                · have hdb : 0 < d := by omega
                  go_wp2_with fail
                  go_roundg (n + k + 1 - (T + 1))
                  case measure => have := HG.out; omega
                  case rel =>
                    refine ⟨T + 1, by omega, by omega, by omega, rfl, int_eq (by have := HX.out; omega), int_eq (by rw [HN2.out]; omega), HB.out.setCell (Nat.le_refl _) _, ?_⟩
                    have hs := HDD.out.setTr true
                    have hm := HTM.out R0 x hr0 (by omega)
                    rw [HX.out, HN3.out, HD0.out, decide_eq_true (show d ≠ 0 from hd0), Bool.or_true] at hm
                    rw [show T + 1 - R0 = x + 1 from by have := HX.out; omega, hm, Bool.or_true]
                    exact hs.congr fun i hi => rsD_over (by omega) i hi

end Go.Proofs.YtpnfkipfjanmkaaGreatDoor
