/- DERIVED. WALKS: prefixIsLessThan. -/
import Derived.Test.YtpnfkipfjanmkaaGreatDoorHDw
import Derived.Test.YtpnfkipfjanmkaaGreatDoorHDg
set_option linter.unusedVariables false
set_option linter.unusedSimpArgs false
namespace Go.Proofs.YtpnfkipfjanmkaaGreatDoor
open Go.RowKit Flt

set_option maxHeartbeats 1600000 in
theorem prefix_any (p n c : Nat) (E : Nat → Nat) (S : ByteArray) (W L : Nat) (w : World) (hE : ∀ j, j < n → E j < 10) (hb : ∀ i, i < n → w.cell? ⟨p, i, none⟩ = some (.int .u8 ((E i : Int) + 48)))
    (hL : S.size = L) (hS : ∀ i, ∀ h : i < S.size, (S[i]'h).toNat = dig W L i + 48) (hz : W % 10 ≠ 0) (hW : W < 10 ^ L) (hn : n ≤ 800) (hLb : L ≤ 100) :
    Calls Tryz.prog 341 #[.slice (some ⟨p, 0, none⟩) n c, .string S] w fun e w' => e = .returned (.bool (decide (vald E n * 10 ^ L < W * 10 ^ n))) ∧ ∃ k, w' = w.drewN k := by
  obtain ⟨r, hr⟩ : ∃ r, decide (vald E n * 10 ^ L < W * 10 ^ n) = r := ⟨_, rfl⟩
  rw [hr]
  have HR := Lib.hid hr
  have HE := Lib.hid hE
  have HB := Lib.hid hb
  have HS := Lib.hid hS
  have HZ := Lib.hid hz
  have hW0 : W / 10 ^ L = 0 := Nat.div_eq_of_lt hW
  have HW := Lib.hid hW0
  clear hr hE hb hS hz hW hW0
  go_enter Tryz.func341, Tryz.ntmps341
  go_wp2_with fail
  go_loopw [5] (fun i wr => ∃ k : Nat, i = .int .i64 k ∧ k ≤ L ∧ k ≤ n ∧ vald E k = W / 10 ^ (L - k) ∧ ∃ q, wr = w.drewN q) (fun i _ => L - (intOf i).toNat)
  case atStart => exact ⟨0, rfl, Nat.zero_le _, Nat.zero_le _, by rw [Nat.sub_zero, HW.out]; rfl, 0, rfl⟩
  case round =>
    obtain ⟨k, rfl, hk, hkn, hv, q, rfl⟩ := hrel
    have HV := Lib.hid hv
    clear hv
    by_cases hkL : k < L
    · by_cases hkn2 : k < n
      · have hb := HB.out k hkn2
        have hs := HS.out k
        have he := HE.out k hkn2
        generalize hd : dig W L k = d at hs
        have hdl : d < 10 := hd ▸ dig_lt W L k
        have HD := Lib.hid hd
        clear hd
        by_cases heq : E k = d
        · go_wp2_with fail
          go_quiet (fail)
          all_goals go_wp2_with fail
          exact ⟨⟨k + 1, rfl, by omega, by omega, pre_next hkL HV.out (heq.trans HD.out.symm), q + nq, rfl⟩, by simp [intOf]; omega⟩
        · have hne : ((E k : Int) + 48 != (d : Int) + 48) = true := by rw [bne_iff_ne]; omega
          go_wp2_with fail
          go_quiet (fail)
          all_goals go_wp2_with fail
          go_quiet (fail)
          all_goals go_wp2_with fail
          have e : decide (E k < d) = r := by
            rw [← HR.out]
            by_cases hlt : E k < d
            · rw [decide_eq_true hlt, decide_eq_true (pre_less HE.out hkn2 hkL HV.out (by rw [HD.out]; exact hlt))]
            · rw [decide_eq_false hlt, decide_eq_false (pre_more HE.out hkn2 hkL HV.out (by rw [HD.out]; omega))]
          rw [e]
          go_ret
          exact ⟨rfl, _, by rw [World.drewN_drewN, World.drewN_drewN]⟩
      · have hkn3 : k = n := by omega
        subst hkn3
        have e : true = r := by rw [← HR.out, decide_eq_true (pre_short HV.out hkL HZ.out)]
        subst e
        go_wp2_with fail
        go_ret
        exact ⟨rfl, q, rfl⟩
    · have hkL2 : k = L := by omega
      subst hkL2
      have hv := HV.out
      rw [Nat.sub_self, Nat.pow_zero, Nat.div_one] at hv
      have e : false = r := by rw [← HR.out, decide_eq_false (pre_end hv hkn)]
      subst e
      clear hv
      go_wp2_with fail
      go_ret
      exact ⟨rfl, q, rfl⟩
end Go.Proofs.YtpnfkipfjanmkaaGreatDoor
