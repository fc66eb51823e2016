/- DERIVED. WALKS: readFloat at the texts that dec.nearest makes. -/
import Derived.Test.YtpnfkipfjanmkaaGreatDoorHWd
import Derived.Test.YtpnfkipfjanmkaaGreatDoorHA0
import Derived.Deep.LoopGhost
set_option linter.unusedVariables false
set_option linter.unusedSimpArgs false
namespace Go.Proofs.YtpnfkipfjanmkaaGreatDoor
open Go.RowKit Flt

set_option maxHeartbeats 400000 in
theorem lower_any (c : Int) (w : World) : Calls Tryz.prog 300 #[.int .u8 c] w fun e w' => e = .returned (.int .u8 (bits .or .u8 c 32)) ∧ w' = w := by
  go_enter Tryz.func300, Tryz.ntmps300
  go_wp2
  go_ret
  exact ⟨rfl, rfl⟩

/-- The text "0.", digits, "e", a sign, digits. -/
def decText (F G : List UInt8) (eneg : Bool) : List UInt8 := 48 :: 46 :: (F ++ 101 :: ((if eneg then [45] else []) ++ G))

theorem byte_at {s : ByteArray} {l : List UInt8} (hs : s.data.toList = l) (k : Nat) {c : UInt8} (hc : l[k]? = some c) : ∀ h : k < s.size, (s[k]'h).toNat = c.toNat := by
  intro h
  subst hs
  have h2 : s.data.toList[k]? = some s[k] := by
    rw [List.getElem?_eq_getElem (by simpa using h)]; rfl
  rw [h2] at hc
  cases hc; rfl

/-- What the first loop's slots hold ahead of place k. -/
def RF (F : List UInt8) (k : Nat) (m t us sd sg nd nm dp : Value) : Prop :=
  us = .bool false ∧
  ((k = 0 ∧ m = .int .u64 0 ∧ t = .bool false ∧ sd = .bool false ∧ sg = .bool false ∧ nd = .int .i64 0 ∧ nm = .int .i64 0 ∧ dp = .int .i64 0) ∨
   (k = 1 ∧ m = .int .u64 0 ∧ t = .bool false ∧ sd = .bool false ∧ sg = .bool true ∧ nd = .int .i64 0 ∧ nm = .int .i64 0 ∧ dp = .int .i64 (-1)) ∨
   (∃ j, k = j + 2 ∧ j ≤ F.length ∧ m = .int .u64 (mantN (F.take j) : Nat) ∧ t = .bool (truncB (F.take j)) ∧ sd = .bool true ∧ sg = .bool true ∧ nd = .int .i64 j ∧ nm = .int .i64 (min j 19 : Nat) ∧ dp = .int .i64 0))

set_option maxHeartbeats 1600000 in
set_option maxRecDepth 100000 in
theorem readFloat_any (s : ByteArray) (F G : List UInt8) (eneg : Bool) (w : World) (hs : s.data.toList = decText F G eneg) (hF : Digs F) (hF0 : ∀ c, F[0]? = some c → c.toNat ≠ 48) (hFl : F.length ≤ 100000) (hG : Digs G) (hG0 : 0 < G.length) (hGl : G.length ≤ 4) :
    Calls Tryz.prog 328 #[.string s] w fun e w' => e = .returned (.tuple #[.int .u64 (mantN F : Nat), .int .i64 (if mantN F = 0 then 0 else (if eneg then -(dval G : Int) else (dval G : Int)) - (min F.length 19 : Nat)), .bool false, .bool (truncB F), .bool false, .int .i64 s.size, .bool true]) ∧ w' = w := by
  have hsz : s.size = (decText F G eneg).length := by rw [← hs]; simp
  have hdl : (decText F G eneg).length = F.length + 3 + (if eneg then 1 else 0) + G.length := by unfold decText; cases eneg <;> simp <;> omega
  rw [hdl] at hsz
  have hs2 : F.length + 4 ≤ s.size := by split at hsz <;> omega
  have hs3 : s.size ≤ 100010 := by split at hsz <;> omega
  have b0 := byte_at hs 0 (c := 48) rfl
  have b1 := byte_at hs 1 (c := 46) rfl
  have hl0 : bits .or .u8 46 32 = 46 := by decide +kernel
  have hE : ¬ s = ByteArray.empty := by intro h; rw [h] at hs2; exact absurd hs2 (by show ¬ _ ≤ 0; omega)
  obtain ⟨m, hm⟩ : ∃ m, mantN F = m := ⟨_, rfl⟩
  obtain ⟨tr, htr⟩ : ∃ t, truncB F = t := ⟨_, rfl⟩
  obtain ⟨q, hq⟩ : ∃ q, min F.length 19 = q := ⟨_, rfl⟩
  have hq1 : q ≤ 19 := by omega
  obtain ⟨v, hv⟩ : ∃ v, dval G = v := ⟨_, rfl⟩
  have hvb : v < 10 ^ 4 := by rw [← hv]; exact Nat.lt_of_lt_of_le (dval_lt hG) (Nat.pow_le_pow_right (by omega) hGl)
  rw [hm, htr, hq, hv]
  have HS := Lib.hid hs
  have HSZ := Lib.hid hsz
  have HM := Lib.hid hm
  have HTR := Lib.hid htr
  have HQ := Lib.hid hq
  have HV := Lib.hid hv
  clear hs hsz hm htr hq hv
  go_enter Tryz.func328, Tryz.ntmps328
  go_wp2_with fail
  go_step3
  go_wp2_with fail
  refine (lower_any _ _).mono ?_
  rintro e w1 ⟨rfl, rfl⟩
  go_wp2_with fail
  go_step3
  go_wp2_with fail
  go_loop [2, 5, 7, 9, 13, 14, 15, 16, 17] (fun m t i us sd sg nd nm dp => ∃ k : Nat, i = .int .i64 k ∧ k ≤ F.length + 2 ∧ RF F k m t us sd sg nd nm dp) (fun _ _ i _ _ _ _ _ _ => s.size - (intOf i).toNat)
  case atStart => exact ⟨0, rfl, by omega, rfl, .inl ⟨rfl, rfl, rfl, rfl, rfl, rfl, rfl, rfl⟩⟩
  case round =>
    obtain ⟨k, rfl, hk, rfl, hr⟩ := hrel
    rcases hr with ⟨rfl, rfl, rfl, rfl, rfl, rfl, rfl, rfl⟩ | ⟨rfl, rfl, rfl, rfl, rfl, rfl, rfl, rfl⟩ | ⟨j, rfl, hj, rfl, rfl, rfl, rfl, rfl, rfl, rfl⟩
    · go_wp2_with fail
      exact ⟨⟨1, rfl, by omega, rfl, .inr (.inl ⟨rfl, rfl, rfl, rfl, rfl, rfl, rfl, rfl⟩)⟩, by simp [intOf]; omega⟩
    · go_wp2_with fail
      exact ⟨⟨2, rfl, by omega, rfl, .inr (.inr ⟨0, rfl, by omega, rfl, rfl, rfl, rfl, rfl, rfl, rfl⟩)⟩, by simp [intOf]; omega⟩
    · by_cases hjn : j < F.length
      · have hcc := hF.at hjn
        have hc := byte_at HS.out (j + 2) (c := F[j]) (by
          unfold decText
          show (F ++ _)[j]? = _
          rw [List.getElem?_append_left hjn, List.getElem?_eq_getElem hjn])
        have hnz : j = 0 → F[j].toNat ≠ 48 := by
          rintro rfl
          exact hF0 _ (by rw [List.getElem?_eq_getElem hjn])
        by_cases h19 : j < 19
        · have hst := mantN_step hjn h19
          have hmb : mantN (F.take j) < 10 ^ 18 := mantN_lt (hF.take j) 18 (by rw [List.length_take]; omega)
          have htr : truncB (F.take j) = false := truncB_few (by rw [List.length_take]; omega)
          have htr' : truncB (F.take (j + 1)) = false := truncB_few (by rw [List.length_take]; omega)
          have hmin : min j 19 = j := by omega
          rw [htr, hmin]
          clear HM HTR HQ HV hvb
          obtain ⟨m, hm⟩ : ∃ m, mantN (F.take j) = m := ⟨_, rfl⟩
          rw [hm] at hst hmb ⊢
          obtain ⟨c, hcv⟩ : ∃ c, F[j].toNat = c := ⟨_, rfl⟩
          have hdv : dv F[j] = c - 48 := by unfold dv; rw [hcv]
          rw [hdv] at hst
          rw [hcv] at hc hcc hnz
          have HST := Lib.hid hst
          have HTR := Lib.hid htr'
          have HMIN := Lib.hid hmin
          clear hst htr htr' hm hcv hdv hmin
          by_cases h0 : j = 0
          · subst h0
            have hnz' := hnz rfl
            clear hnz
            go_wp2_with fail
            exact ⟨⟨3, rfl, by omega, rfl, .inr (.inr ⟨1, rfl, by omega, int_eq (by have := HST.out; rw [Nat.zero_add] at this; omega), bool_eq HTR.out.symm, rfl, rfl, rfl, rfl, rfl⟩)⟩, by simp [intOf]; omega⟩
          · clear hnz
            go_wp2_with fail
            all_goals exact ⟨⟨j + 3, int_eq (by omega), by omega, rfl, .inr (.inr ⟨j + 1, rfl, by omega, int_eq (by have := HST.out; omega), bool_eq HTR.out.symm, rfl, rfl, int_eq (by omega), int_eq (by omega), rfl⟩)⟩, by simp [intOf]; omega⟩
        · have hst := mantN_stay (F := F) (j := j) (by omega)
          have hts := truncB_step hjn (by omega)
          have hmin : min j 19 = 19 := by omega
          rw [hmin]
          have hc48 : (F[j] != 48) = decide (F[j].toNat ≠ 48) := by
            rw [Bool.eq_iff_iff, bne_iff_ne, decide_eq_true_eq, ne_eq, ne_eq, ← UInt8.toNat_inj]; rfl
          rw [hc48] at hts
          clear HM HTR HQ HV hvb
          obtain ⟨m, hm⟩ : ∃ m, mantN (F.take j) = m := ⟨_, rfl⟩
          rw [hm] at hst ⊢
          obtain ⟨tr, htr⟩ : ∃ t, truncB (F.take j) = t := ⟨_, rfl⟩
          rw [htr] at hts ⊢
          obtain ⟨c, hcv⟩ : ∃ c, F[j].toNat = c := ⟨_, rfl⟩
          rw [hcv] at hc hcc hnz hts
          have HST := Lib.hid hst
          have HTS := Lib.hid hts
          clear hst hm htr hts hcv hmin hc48 hnz
          have hj0 : ¬ j = 0 := by omega
          by_cases h48 : c = 48
          · subst h48
            go_wp2_with fail
            exact ⟨⟨j + 3, int_eq (by omega), by omega, rfl, .inr (.inr ⟨j + 1, rfl, by omega, int_eq (by have := HST.out; omega), bool_eq (by rw [HTS.out]; simp), rfl, rfl, int_eq (by omega), int_eq (by omega), rfl⟩)⟩, by simp [intOf]; omega⟩
          · go_wp2_with fail
            exact ⟨⟨j + 3, int_eq (by omega), by omega, rfl, .inr (.inr ⟨j + 1, rfl, by omega, int_eq (by have := HST.out; omega), bool_eq (by rw [HTS.out]; simp [h48]), rfl, rfl, int_eq (by omega), int_eq (by omega), rfl⟩)⟩, by simp [intOf]; omega⟩
      · have hje : j = F.length := by omega
        subst hje
        have hc := byte_at HS.out (F.length + 2) (c := 101) (by
          unfold decText
          show (F ++ _)[F.length]? = _
          rw [List.getElem?_append_right (Nat.le_refl _)]; simp)
        rw [List.take_length, HM.out, HTR.out, HQ.out]
        have hGb : ∀ t, (ht : t < G.length) → ∀ h : F.length + 3 + (if eneg then 1 else 0) + t < s.size, (s[F.length + 3 + (if eneg then 1 else 0) + t]'h).toNat = G[t].toNat := by
          intro t ht
          refine byte_at HS.out _ (c := G[t]) ?_
          unfold decText
          rw [show F.length + 3 + (if eneg then 1 else 0) + t = (F.length + (1 + (if eneg then 1 else 0) + t)) + 2 from by omega]
          show (F ++ 101 :: ((if eneg then [45] else []) ++ G))[F.length + (1 + (if eneg then 1 else 0) + t)]? = _
          rw [List.getElem?_append_right (by omega), Nat.add_sub_cancel_left]
          cases eneg
          · rw [show 1 + (if false = true then 1 else 0) + t = t + 1 from by simp; omega]
            simp [ht]
          · rw [show 1 + (if true = true then 1 else 0) + t = t + 2 from by simp; omega]
            simp [ht]
        have hsgn : eneg = true → ∀ h : F.length + 3 < s.size, (s[F.length + 3]'h).toNat = 45 := by
          intro he
          refine byte_at HS.out _ (c := 45) ?_
          unfold decText
          show (F ++ _)[F.length + 1]? = _
          rw [List.getElem?_append_right (by omega), Nat.add_sub_cancel_left, he]; rfl
        have hg0 := hG.at hG0
        have hl1 : bits .or .u8 101 32 = 101 := by decide +kernel
        have hsz := HSZ.out
        generalize F.length = n at *
        have HGB := Lib.hid hGb
        have HSG := Lib.hid hsgn
        clear hGb hsgn hdl
        have HSZ2 := Lib.hid hsz
        clear hsz HSZ
        cases eneg
        · have hsz : s.size = n + 3 + G.length := by simpa using HSZ2.out
          have hgb := HGB.out 0 hG0
          simp only [Bool.false_eq_true, if_false, Nat.add_zero] at hgb
          generalize G[0].toNat = g0 at *
          have hlt : n + 3 < s.size := by omega
          have HZ := Lib.hid hsz
          clear hsz HSG
          go_wp2_with fail
          refine (lower_any _ _).mono ?_
          rintro e w1 ⟨rfl, rfl⟩
          go_wp2_with fail
          go_loop [7, 9, 20] (fun i us e => ∃ t : Nat, t ≤ G.length ∧ i = .int .i64 (n + 3 + t : Nat) ∧ us = .bool false ∧ e = .int .i64 (dval (G.take t) : Nat)) (fun i _ _ => s.size - (intOf i).toNat)
          case atStart => exact ⟨0, Nat.zero_le _, int_eq (by omega), rfl, rfl⟩
          case round =>
            obtain ⟨t, ht, rfl, rfl, rfl⟩ := hrel
            by_cases htg : t < G.length
            · have hgt := hG.at htg
              have hgb := HGB.out t htg
              simp only [Bool.false_eq_true, if_false, Nat.add_zero, Nat.add_assoc] at hgb
              simp only [← Nat.add_assoc] at hgb
              have hst := dval_snoc (G.take t) G[t]
              rw [← take_succ_at htg] at hst
              have hb : dval (G.take t) < 10 ^ 3 := Nat.lt_of_lt_of_le (dval_lt (hG.take t)) (Nat.pow_le_pow_right (by omega) (by rw [List.length_take]; omega))
              have hdv : dv G[t] = G[t].toNat - 48 := rfl
              rw [hdv] at hst
              generalize G[t].toNat = g at *
              clear HV
              generalize dval (G.take t) = v at *
              have HST := Lib.hid hst
              have hlt : n + 3 + t < s.size := by have := HZ.out; omega
              clear hst hdv
              go_wp2_with fail
              exact ⟨⟨t + 1, by omega, int_eq (by omega), rfl, int_eq (by have := HST.out; omega)⟩, by simp [intOf]; omega⟩
            · have hte : t = G.length := by omega
              subst hte
              rw [List.take_length, HV.out]
              have hlt : ¬ n + 3 + G.length < s.size := by have := HZ.out; omega
              by_cases hm : m = 0
              · have hm' : ((m : Int) != 0) = false := by rw [bne_eq_false_iff_eq]; omega
                have HMM := Lib.hid hm
                clear hm
                go_wp2_with fail
                refine bodyPost_ret (v := .tuple #[.int .u64 (m : Nat), .int .i64 0, .bool false, .bool tr, .bool false, .int .i64 s.size, .bool true]) (by simp [results, Tryz.results328, go_sem]; have := HZ.out; omega) rfl ⟨by have h0 : m = 0 := HMM.out; subst h0; rfl, rfl⟩
              · have hm' : ((m : Int) != 0) = true := by rw [bne_iff_ne]; omega
                have HMM := Lib.hid hm
                clear hm
                go_wp2_with fail
                refine bodyPost_ret (v := .tuple #[.int .u64 (m : Nat), .int .i64 ((v : Int) - q), .bool false, .bool tr, .bool false, .int .i64 s.size, .bool true]) (by simp [results, Tryz.results328, go_sem]; have := HZ.out; omega) rfl ⟨rfl, rfl⟩
        · have hsz : s.size = n + 4 + G.length := by simpa using HSZ2.out
          have hgb := HGB.out 0 hG0
          simp only [if_true, Nat.add_zero] at hgb
          have hsg := HSG.out rfl
          generalize G[0].toNat = g0 at *
          have hlt : n + 3 < s.size := by omega
          have hlt4 : n + 4 < s.size := by omega
          have HZ := Lib.hid hsz
          clear hsz HSG
          go_wp2_with fail
          refine (lower_any _ _).mono ?_
          rintro e w1 ⟨rfl, rfl⟩
          go_wp2_with fail
          go_loop [7, 9, 20] (fun i us e => ∃ t : Nat, t ≤ G.length ∧ i = .int .i64 (n + 4 + t : Nat) ∧ us = .bool false ∧ e = .int .i64 (dval (G.take t) : Nat)) (fun i _ _ => s.size - (intOf i).toNat)
          case atStart => exact ⟨0, Nat.zero_le _, int_eq (by omega), rfl, rfl⟩
          case round =>
            obtain ⟨t, ht, rfl, rfl, rfl⟩ := hrel
            by_cases htg : t < G.length
            · have hgt := hG.at htg
              have hgb := HGB.out t htg
              simp only [if_true, Nat.reduceAdd, Nat.add_assoc] at hgb
              simp only [← Nat.add_assoc] at hgb
              have hst := dval_snoc (G.take t) G[t]
              rw [← take_succ_at htg] at hst
              have hb : dval (G.take t) < 10 ^ 3 := Nat.lt_of_lt_of_le (dval_lt (hG.take t)) (Nat.pow_le_pow_right (by omega) (by rw [List.length_take]; omega))
              have hdv : dv G[t] = G[t].toNat - 48 := rfl
              rw [hdv] at hst
              generalize G[t].toNat = g at *
              clear HV
              generalize dval (G.take t) = v at *
              have HST := Lib.hid hst
              have hlt : n + 4 + t < s.size := by have := HZ.out; omega
              clear hst hdv
              go_wp2_with fail
              exact ⟨⟨t + 1, by omega, int_eq (by omega), rfl, int_eq (by have := HST.out; omega)⟩, by simp [intOf]; omega⟩
            · have hte : t = G.length := by omega
              subst hte
              rw [List.take_length, HV.out]
              have hlt : ¬ n + 4 + G.length < s.size := by have := HZ.out; omega
              by_cases hm : m = 0
              · have hm' : ((m : Int) != 0) = false := by rw [bne_eq_false_iff_eq]; omega
                have HMM := Lib.hid hm
                clear hm
                go_wp2_with fail
                refine bodyPost_ret (v := .tuple #[.int .u64 (m : Nat), .int .i64 0, .bool false, .bool tr, .bool false, .int .i64 s.size, .bool true]) (by simp [results, Tryz.results328, go_sem]; have := HZ.out; omega) rfl ⟨by have h0 : m = 0 := HMM.out; subst h0; rfl, rfl⟩
              · have hm' : ((m : Int) != 0) = true := by rw [bne_iff_ne]; omega
                have HMM := Lib.hid hm
                clear hm
                go_wp2_with fail
                refine bodyPost_ret (v := .tuple #[.int .u64 (m : Nat), .int .i64 (-(v : Int) - q), .bool false, .bool tr, .bool false, .int .i64 s.size, .bool true]) (by simp [results, Tryz.results328, go_sem]; have := HZ.out; omega) rfl ⟨rfl, rfl⟩
end Go.Proofs.YtpnfkipfjanmkaaGreatDoor
