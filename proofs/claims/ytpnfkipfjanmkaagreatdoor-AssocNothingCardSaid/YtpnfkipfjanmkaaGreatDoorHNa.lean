/- DERIVED. WALKS: dec.sign, dec.run, dec.numeral. -/
import Derived.Test.YtpnfkipfjanmkaaGreatDoorHA1
import Derived.Test.YtpnfkipfjanmkaaGreatDoorHWd
import Derived.Test.YtpnfkipfjanmkaaGreatDoorHWr
import Derived.Lib.IndexBytes
import Derived.Lib.TrimByte
set_option linter.unusedVariables false
set_option linter.unusedSimpArgs false
namespace Go.Proofs.YtpnfkipfjanmkaaGreatDoor
open Go.RowKit Flt

theorem byte_of {s : ByteArray} {k : Nat} (h : k < s.size) : s.data.toList[k]? = some s[k] := by
  rw [List.getElem?_eq_getElem (by simpa using h)]; rfl

theorem emp_of {s : ByteArray} (h : s.size = 0) : s = ByteArray.empty := by
  have hl : s.data.toList = [] := List.eq_nil_of_length_eq_zero (by simpa using h)
  apply ByteArray.ext
  apply Array.toList_inj.1
  rw [hl]; rfl

set_option maxHeartbeats 800000 in
theorem sign_any (s : ByteArray) (w : World) : Calls Tryz.prog 144 #[.string s] w fun e w' => e = .returned (.int .i64 (signL s.data.toList : Nat)) ∧ w' = w := by
  by_cases h0 : s.size = 0
  · have he : s = ByteArray.empty := emp_of h0
    subst he
    go_enter Tryz.func144, Tryz.ntmps144
    go_wp2
    go_ret
    exact ⟨rfl, rfl⟩
  · have hp : 0 < s.size := by omega
    have hb := byte_of hp
    obtain ⟨c, hc⟩ : ∃ c, s[0].toNat = c := ⟨_, rfl⟩
    have hs : signL s.data.toList = if c = 43 ∨ c = 45 then 1 else 0 := by
      cases hl : s.data.toList with
      | nil => rw [hl] at hb; cases hb
      | cons a l => rw [hl] at hb; cases hb; rw [← hc]; rfl
    have hE : s.toList.isEmpty = false := by
      rw [Lib.toList_data]
      cases hl : s.data.toList with
      | nil => rw [hl] at hb; cases hb
      | cons a l => rfl
    rw [hs]
    clear hs hb h0
    by_cases h1 : c = 43
    · subst h1
      rw [if_pos (.inl rfl)]
      go_enter Tryz.func144, Tryz.ntmps144
      go_wp2
      go_ret
      exact ⟨rfl, rfl⟩
    · by_cases h2 : c = 45
      · subst h2
        rw [if_pos (.inr rfl)]
        go_enter Tryz.func144, Tryz.ntmps144
        go_wp2
        go_ret
        exact ⟨rfl, rfl⟩
      · rw [if_neg (by omega)]
        have h3 : ((c : Int) == 43) = false := by rw [beq_eq_false_iff_ne]; omega
        have h4 : ((c : Int) == 45) = false := by rw [beq_eq_false_iff_ne]; omega
        clear h1 h2
        go_enter Tryz.func144, Tryz.ntmps144
        go_wp2
        go_ret
        exact ⟨rfl, rfl⟩

set_option maxHeartbeats 800000 in
theorem run_any (s : ByteArray) (w : World) (hs : s.size ≤ 1000000) : Calls Tryz.prog 145 #[.string s] w fun e w' => e = .returned (.int .i64 (runL s.data.toList : Nat)) ∧ w' = w := by
  obtain ⟨n, hn⟩ : ∃ n, runL s.data.toList = n := ⟨_, rfl⟩
  have hle : n ≤ s.size := by rw [← hn]; have := runL_le s.data.toList; simpa using this
  rw [hn]
  have HN := Lib.hid hn
  clear hn
  go_enter Tryz.func145, Tryz.ntmps145
  go_wp2
  go_loop [3] (fun i => ∃ k : Nat, k ≤ n ∧ i = .int .i64 k) (fun i => s.size - (intOf i).toNat)
  case atStart => exact ⟨0, Nat.zero_le _, rfl⟩
  case round =>
    obtain ⟨k, hk, rfl⟩ := hrel
    by_cases hkn : k < n
    · have hks : k < s.size := by omega
      have hd := runL_digit (by rw [HN.out]; exact hkn) (byte_of hks)
      unfold isD at hd
      obtain ⟨h1, h2⟩ := of_decide_eq_true hd
      clear hd
      go_wp2
      go_round
      case rel => exact ⟨k + 1, by omega, by go_num⟩
      case measure => simp [intOf]; omega
    · obtain rfl : k = n := by omega
      by_cases hks : k < s.size
      · have hd := runL_end (l := s.data.toList) (c := s[k]) (by rw [HN.out]; exact byte_of hks)
        unfold isD at hd
        have hd := of_decide_eq_false hd
        by_cases h1 : 48 ≤ s[k].toNat
        · have h2 : ¬ s[k].toNat ≤ 57 := fun h => hd ⟨h1, h⟩
          clear hd
          go_wp2
          go_ret
          exact ⟨rfl, rfl⟩
        · clear hd
          go_wp2
          go_ret
          exact ⟨rfl, rfl⟩
      · go_wp2
        go_ret
        exact ⟨rfl, rfl⟩

theorem sign_at (s : ByteArray) (k : Nat) (w : World) : Calls Tryz.prog 144 #[.string (s.extract k s.size)] w fun e w' => e = .returned (.int .i64 (signL (s.data.toList.drop k) : Nat)) ∧ w' = w := by
  have h := sign_any (s.extract k s.size) w
  rwa [Lib.extract_to_end] at h
theorem run_at (s : ByteArray) (k : Nat) (w : World) (hs : s.size ≤ 1000000) : Calls Tryz.prog 145 #[.string (s.extract k s.size)] w fun e w' => e = .returned (.int .i64 (runL (s.data.toList.drop k) : Nat)) ∧ w' = w := by
  have h := run_any (s.extract k s.size) w (by
    rw [Lib.size_eq, Lib.extract_to_end, List.length_drop, ← Lib.size_eq]; omega)
  rwa [Lib.extract_to_end] at h

theorem at_some {s : ByteArray} {b : Nat} {c : UInt8} (h : s.data.toList[b]? = some c) : b < s.size ∧ ∀ h : b < s.size, (s[b]'h).toNat = c.toNat := by
  have hb : b < s.size := by
    rw [Lib.size_eq]
    rcases Nat.lt_or_ge b s.data.toList.length with h1 | h1
    · exact h1
    · rw [List.getElem?_eq_none h1] at h; cases h
  refine ⟨hb, fun hb => ?_⟩
  rw [byte_of hb] at h
  cases h; rfl
theorem at_not {s : ByteArray} {b : Nat} {c : UInt8} (h : ¬ s.data.toList[b]? = some c) (hb : b < s.size) : s[b].toNat ≠ c.toNat := by
  rw [byte_of hb] at h
  intro h1
  exact h (congrArg some (UInt8.toNat_inj.1 h1))

theorem ret_int {k : IntKind} {a b : Int} (h : a = b) : Ending.returned (.int k a) = .returned (.int k b) := by rw [h]
/-- how the exponent's part ends the walk -/
def NumOut (R : Nat) (w : World) (e : Ending) (w' : World) : Prop := e = .returned (.int .i64 (R : Nat)) ∧ w' = w

set_option maxHeartbeats 1600000 in
theorem numeral_dot (s : ByteArray) (w : World) (hs : s.size ≤ 100000) (a wh R : Nat) (ha : signL s.data.toList = a) (hwh : runL (s.data.toList.drop a) = wh) (hR : numAt s.data.toList a wh = R) (hdot : s.data.toList[a + wh]? = some 46) : Calls Tryz.prog 99 #[.string s] w (NumOut R w) := by
  have hsz : s.size = s.data.toList.length := Lib.size_eq s
  have ha1 := (signL_le s.data.toList).2
  rw [ha] at ha1
  have hwh1 := runL_le (s.data.toList.drop a)
  rw [List.length_drop] at hwh1
  rw [hwh] at hwh1
  unfold numAt at hR
  have HA := Lib.hid ha
  have HW := Lib.hid hwh
  have hb1 : a + wh ≤ s.size := by omega
  have ha2 : a ≤ s.size := by omega
  clear ha hwh hsz ha1 hwh1
  obtain ⟨hb, h46⟩ := at_some hdot
  have h46 := h46 hb
  have hdl : dotL s.data.toList (a + wh) = runL (s.data.toList.drop (a + wh + 1)) := if_pos hdot
  rw [if_pos hdot, hdl] at hR
  have hbe := runL_le (s.data.toList.drop (a + wh + 1))
  rw [List.length_drop, ← Lib.size_eq] at hbe
  obtain ⟨be, hbe'⟩ : ∃ be, runL (s.data.toList.drop (a + wh + 1)) = be := ⟨_, rfl⟩
  rw [hbe'] at hR hbe
  rw [show a + wh + 1 + be = a + wh + (1 + be) from by omega] at hR
  have HBE := Lib.hid hbe'
  clear hdl hdot hbe'
  by_cases hz : wh + be = 0
  · rw [if_pos hz] at hR
    have hz1 : ((wh : Int) + (be : Int) == 0) = true := by rw [beq_iff_eq]; omega
    have hz2 : decide (0 < (wh : Int) + (be : Int)) = false := by rw [decide_eq_false_iff_not]; omega
    have hz3 : ¬ 0 < (wh : Int) + (be : Int) := by omega
    subst hR
    clear hz
    go_enter Tryz.func99, Tryz.ntmps99
    go_wp2_with fail
    refine (sign_any _ _).mono ?_
    rintro e w1 ⟨rfl, rfl⟩
    rw [HA.out]
    go_wp2_with fail
    refine (run_at _ _ _ (by omega)).mono ?_
    rintro e w1 ⟨rfl, rfl⟩
    rw [HW.out]
    go_wp2_with fail
    refine (run_at _ _ _ (by omega)).mono ?_
    rintro e w1 ⟨rfl, rfl⟩
    rw [HBE.out]
    go_wp2_with fail
    go_ret
    exact ⟨rfl, rfl⟩
  · rw [if_neg hz] at hR
    have hz1 : ((wh : Int) + (be : Int) == 0) = false := by rw [beq_eq_false_iff_ne]; omega
    have hz2 : decide (0 < (wh : Int) + (be : Int)) = true := by rw [decide_eq_true_eq]; omega
    have hz3 : 0 < (wh : Int) + (be : Int) := by omega
    unfold expL at hR
    have hcs : a + wh + (1 + be) ≤ s.size := by omega
    clear hz
    by_cases hex : s.data.toList[a + wh + (1 + be)]? = some 101 ∨ s.data.toList[a + wh + (1 + be)]? = some 69
    · rw [if_pos hex] at hR
      have hcl : a + wh + (1 + be) < s.size := by rcases hex with h | h <;> exact (at_some h).1
      obtain ⟨n, hn⟩ : ∃ n, signL (s.data.toList.drop (a + wh + (1 + be) + 1)) = n := ⟨_, rfl⟩
      have hn1 := signL_le (s.data.toList.drop (a + wh + (1 + be) + 1))
      rw [List.length_drop, ← Lib.size_eq] at hn1
      rw [hn] at hR hn1
      obtain ⟨k, hk⟩ : ∃ k, runL (s.data.toList.drop (a + wh + (1 + be) + 1 + n)) = k := ⟨_, rfl⟩
      have hk1 := runL_le (s.data.toList.drop (a + wh + (1 + be) + 1 + n))
      rw [List.length_drop, ← Lib.size_eq] at hk1
      rw [hk] at hR hk1
      obtain ⟨hn2, hn3⟩ := hn1
      have HN := Lib.hid hn
      have HK := Lib.hid hk
      clear hn hk
      by_cases hk0 : 0 < k
      · rw [if_pos hk0] at hR
        have HR := Lib.hid hR
        clear hR
        rcases hex with hex | hex
        · have hc1 := (at_some hex).2 hcl
          clear hex
          go_enter Tryz.func99, Tryz.ntmps99
          go_wp2_with fail
          refine (sign_any _ _).mono ?_
          rintro e w1 ⟨rfl, rfl⟩
          rw [HA.out]
          go_wp2_with fail
          refine (run_at _ _ _ (by omega)).mono ?_
          rintro e w1 ⟨rfl, rfl⟩
          rw [HW.out]
          go_wp2_with fail
          refine (run_at _ _ _ (by omega)).mono ?_
          rintro e w1 ⟨rfl, rfl⟩
          rw [HBE.out]
          go_wp2_with fail
          refine (sign_at _ _ _).mono ?_
          rintro e w1 ⟨rfl, rfl⟩
          rw [HN.out]
          go_wp2_with fail
          refine (run_at _ _ _ (by omega)).mono ?_
          rintro e w1 ⟨rfl, rfl⟩
          rw [HK.out]
          go_wp2_with fail
          go_ret
          exact ⟨ret_int (by have := HR.out; omega), rfl⟩
        · have hc1 := (at_some hex).2 hcl
          clear hex
          go_enter Tryz.func99, Tryz.ntmps99
          go_wp2_with fail
          refine (sign_any _ _).mono ?_
          rintro e w1 ⟨rfl, rfl⟩
          rw [HA.out]
          go_wp2_with fail
          refine (run_at _ _ _ (by omega)).mono ?_
          rintro e w1 ⟨rfl, rfl⟩
          rw [HW.out]
          go_wp2_with fail
          refine (run_at _ _ _ (by omega)).mono ?_
          rintro e w1 ⟨rfl, rfl⟩
          rw [HBE.out]
          go_wp2_with fail
          refine (sign_at _ _ _).mono ?_
          rintro e w1 ⟨rfl, rfl⟩
          rw [HN.out]
          go_wp2_with fail
          refine (run_at _ _ _ (by omega)).mono ?_
          rintro e w1 ⟨rfl, rfl⟩
          rw [HK.out]
          go_wp2_with fail
          go_ret
          exact ⟨ret_int (by have := HR.out; omega), rfl⟩
      · rw [if_neg hk0] at hR
        have HR := Lib.hid hR
        clear hR
        rcases hex with hex | hex
        · have hc1 := (at_some hex).2 hcl
          clear hex
          go_enter Tryz.func99, Tryz.ntmps99
          go_wp2_with fail
          refine (sign_any _ _).mono ?_
          rintro e w1 ⟨rfl, rfl⟩
          rw [HA.out]
          go_wp2_with fail
          refine (run_at _ _ _ (by omega)).mono ?_
          rintro e w1 ⟨rfl, rfl⟩
          rw [HW.out]
          go_wp2_with fail
          refine (run_at _ _ _ (by omega)).mono ?_
          rintro e w1 ⟨rfl, rfl⟩
          rw [HBE.out]
          go_wp2_with fail
          refine (sign_at _ _ _).mono ?_
          rintro e w1 ⟨rfl, rfl⟩
          rw [HN.out]
          go_wp2_with fail
          refine (run_at _ _ _ (by omega)).mono ?_
          rintro e w1 ⟨rfl, rfl⟩
          rw [HK.out]
          go_wp2_with fail
          go_ret
          exact ⟨ret_int (by have := HR.out; omega), rfl⟩
        · have hc1 := (at_some hex).2 hcl
          clear hex
          go_enter Tryz.func99, Tryz.ntmps99
          go_wp2_with fail
          refine (sign_any _ _).mono ?_
          rintro e w1 ⟨rfl, rfl⟩
          rw [HA.out]
          go_wp2_with fail
          refine (run_at _ _ _ (by omega)).mono ?_
          rintro e w1 ⟨rfl, rfl⟩
          rw [HW.out]
          go_wp2_with fail
          refine (run_at _ _ _ (by omega)).mono ?_
          rintro e w1 ⟨rfl, rfl⟩
          rw [HBE.out]
          go_wp2_with fail
          refine (sign_at _ _ _).mono ?_
          rintro e w1 ⟨rfl, rfl⟩
          rw [HN.out]
          go_wp2_with fail
          refine (run_at _ _ _ (by omega)).mono ?_
          rintro e w1 ⟨rfl, rfl⟩
          rw [HK.out]
          go_wp2_with fail
          go_ret
          exact ⟨ret_int (by have := HR.out; omega), rfl⟩
    · rw [if_neg hex] at hR
      have HR := Lib.hid hR
      clear hR
      have hx1 := fun h => at_not (s := s) (b := a + wh + (1 + be)) (c := 101) (fun h => hex (.inl h)) h
      have hx2 := fun h => at_not (s := s) (b := a + wh + (1 + be)) (c := 69) (fun h => hex (.inr h)) h
      clear hex
      by_cases hcl : a + wh + (1 + be) < s.size
      · have hx1 := hx1 hcl
        have hx2 := hx2 hcl
        obtain ⟨x, hx⟩ : ∃ x, s[a + wh + (1 + be)].toNat = x := ⟨_, rfl⟩
        rw [hx] at hx1 hx2
        have hx3 : ((x : Int) == 101) = false := by rw [beq_eq_false_iff_ne]; show (x : Int) ≠ ((101 : Nat) : Int); have : x ≠ 101 := hx1; omega
        have hx4 : ((x : Int) == 69) = false := by rw [beq_eq_false_iff_ne]; show (x : Int) ≠ ((69 : Nat) : Int); have : x ≠ 69 := hx2; omega
        clear hx1 hx2
        go_enter Tryz.func99, Tryz.ntmps99
        go_wp2_with fail
        refine (sign_any _ _).mono ?_
        rintro e w1 ⟨rfl, rfl⟩
        rw [HA.out]
        go_wp2_with fail
        refine (run_at _ _ _ (by omega)).mono ?_
        rintro e w1 ⟨rfl, rfl⟩
        rw [HW.out]
        go_wp2_with fail
        refine (run_at _ _ _ (by omega)).mono ?_
        rintro e w1 ⟨rfl, rfl⟩
        rw [HBE.out]
        go_wp2_with fail
        go_ret
        exact ⟨ret_int (by have := HR.out; omega), rfl⟩
      · clear hx1 hx2
        go_enter Tryz.func99, Tryz.ntmps99
        go_wp2_with fail
        refine (sign_any _ _).mono ?_
        rintro e w1 ⟨rfl, rfl⟩
        rw [HA.out]
        go_wp2_with fail
        refine (run_at _ _ _ (by omega)).mono ?_
        rintro e w1 ⟨rfl, rfl⟩
        rw [HW.out]
        go_wp2_with fail
        refine (run_at _ _ _ (by omega)).mono ?_
        rintro e w1 ⟨rfl, rfl⟩
        rw [HBE.out]
        go_wp2_with fail
        go_ret
        exact ⟨ret_int (by have := HR.out; omega), rfl⟩

set_option maxHeartbeats 1600000 in
theorem numeral_nodot (s : ByteArray) (w : World) (hs : s.size ≤ 100000) (a wh R : Nat) (ha : signL s.data.toList = a) (hwh : runL (s.data.toList.drop a) = wh) (hR : numAt s.data.toList a wh = R) (hdot : ¬ s.data.toList[a + wh]? = some 46) (hbt : (∃ h : a + wh < s.size, ((s[a + wh].toNat : Int) == 46) = false) ∨ ¬ a + wh < s.size) : Calls Tryz.prog 99 #[.string s] w (NumOut R w) := by
  have hsz : s.size = s.data.toList.length := Lib.size_eq s
  have ha1 := (signL_le s.data.toList).2
  rw [ha] at ha1
  have hwh1 := runL_le (s.data.toList.drop a)
  rw [List.length_drop] at hwh1
  rw [hwh] at hwh1
  unfold numAt at hR
  have HA := Lib.hid ha
  have HW := Lib.hid hwh
  have hb1 : a + wh ≤ s.size := by omega
  have ha2 : a ≤ s.size := by omega
  clear ha hwh hsz ha1 hwh1
  have hdl : dotL s.data.toList (a + wh) = 0 := if_neg hdot
  rw [if_neg hdot, hdl, Nat.add_zero] at hR
  clear hdl hdot
  rcases hbt with ⟨hb, h46⟩ | hb
  · by_cases hz : wh = 0
    · rw [if_pos hz] at hR
      have hz1 : ((wh : Int) + 0 == 0) = true := by rw [beq_iff_eq]; omega
      have hz2 : decide (0 < (wh : Int) + 0) = false := by rw [decide_eq_false_iff_not]; omega
      have hz3 : ¬ 0 < (wh : Int) + 0 := by omega
      subst hR
      clear hz
      go_enter Tryz.func99, Tryz.ntmps99
      go_wp2_with fail
      refine (sign_any _ _).mono ?_
      rintro e w1 ⟨rfl, rfl⟩
      rw [HA.out]
      go_wp2_with fail
      refine (run_at _ _ _ (by omega)).mono ?_
      rintro e w1 ⟨rfl, rfl⟩
      rw [HW.out]
      go_wp2_with fail
      go_ret
      exact ⟨rfl, rfl⟩
    · rw [if_neg hz] at hR
      have hz1 : ((wh : Int) + 0 == 0) = false := by rw [beq_eq_false_iff_ne]; omega
      have hz2 : decide (0 < (wh : Int) + 0) = true := by rw [decide_eq_true_eq]; omega
      have hz3 : 0 < (wh : Int) + 0 := by omega
      unfold expL at hR
      have hcs : a + wh ≤ s.size := by omega
      clear hz
      by_cases hex : s.data.toList[a + wh]? = some 101 ∨ s.data.toList[a + wh]? = some 69
      · rw [if_pos hex] at hR
        have hcl : a + wh < s.size := by rcases hex with h | h <;> exact (at_some h).1
        obtain ⟨n, hn⟩ : ∃ n, signL (s.data.toList.drop (a + wh + 1)) = n := ⟨_, rfl⟩
        have hn1 := signL_le (s.data.toList.drop (a + wh + 1))
        rw [List.length_drop, ← Lib.size_eq] at hn1
        rw [hn] at hR hn1
        obtain ⟨k, hk⟩ : ∃ k, runL (s.data.toList.drop (a + wh + 1 + n)) = k := ⟨_, rfl⟩
        have hk1 := runL_le (s.data.toList.drop (a + wh + 1 + n))
        rw [List.length_drop, ← Lib.size_eq] at hk1
        rw [hk] at hR hk1
        obtain ⟨hn2, hn3⟩ := hn1
        have HN := Lib.hid hn
        have HK := Lib.hid hk
        clear hn hk
        by_cases hk0 : 0 < k
        · rw [if_pos hk0] at hR
          have HR := Lib.hid hR
          clear hR
          rcases hex with hex | hex
          · have hc1 := (at_some hex).2 hcl
            clear hex
            go_enter Tryz.func99, Tryz.ntmps99
            go_wp2_with fail
            refine (sign_any _ _).mono ?_
            rintro e w1 ⟨rfl, rfl⟩
            rw [HA.out]
            go_wp2_with fail
            refine (run_at _ _ _ (by omega)).mono ?_
            rintro e w1 ⟨rfl, rfl⟩
            rw [HW.out]
            go_wp2_with fail
            refine (sign_at _ _ _).mono ?_
            rintro e w1 ⟨rfl, rfl⟩
            rw [HN.out]
            go_wp2_with fail
            refine (run_at _ _ _ (by omega)).mono ?_
            rintro e w1 ⟨rfl, rfl⟩
            rw [HK.out]
            go_wp2_with fail
            go_ret
            exact ⟨ret_int (by have := HR.out; omega), rfl⟩
          · have hc1 := (at_some hex).2 hcl
            clear hex
            go_enter Tryz.func99, Tryz.ntmps99
            go_wp2_with fail
            refine (sign_any _ _).mono ?_
            rintro e w1 ⟨rfl, rfl⟩
            rw [HA.out]
            go_wp2_with fail
            refine (run_at _ _ _ (by omega)).mono ?_
            rintro e w1 ⟨rfl, rfl⟩
            rw [HW.out]
            go_wp2_with fail
            refine (sign_at _ _ _).mono ?_
            rintro e w1 ⟨rfl, rfl⟩
            rw [HN.out]
            go_wp2_with fail
            refine (run_at _ _ _ (by omega)).mono ?_
            rintro e w1 ⟨rfl, rfl⟩
            rw [HK.out]
            go_wp2_with fail
            go_ret
            exact ⟨ret_int (by have := HR.out; omega), rfl⟩
        · rw [if_neg hk0] at hR
          have HR := Lib.hid hR
          clear hR
          rcases hex with hex | hex
          · have hc1 := (at_some hex).2 hcl
            clear hex
            go_enter Tryz.func99, Tryz.ntmps99
            go_wp2_with fail
            refine (sign_any _ _).mono ?_
            rintro e w1 ⟨rfl, rfl⟩
            rw [HA.out]
            go_wp2_with fail
            refine (run_at _ _ _ (by omega)).mono ?_
            rintro e w1 ⟨rfl, rfl⟩
            rw [HW.out]
            go_wp2_with fail
            refine (sign_at _ _ _).mono ?_
            rintro e w1 ⟨rfl, rfl⟩
            rw [HN.out]
            go_wp2_with fail
            refine (run_at _ _ _ (by omega)).mono ?_
            rintro e w1 ⟨rfl, rfl⟩
            rw [HK.out]
            go_wp2_with fail
            go_ret
            exact ⟨ret_int (by have := HR.out; omega), rfl⟩
          · have hc1 := (at_some hex).2 hcl
            clear hex
            go_enter Tryz.func99, Tryz.ntmps99
            go_wp2_with fail
            refine (sign_any _ _).mono ?_
            rintro e w1 ⟨rfl, rfl⟩
            rw [HA.out]
            go_wp2_with fail
            refine (run_at _ _ _ (by omega)).mono ?_
            rintro e w1 ⟨rfl, rfl⟩
            rw [HW.out]
            go_wp2_with fail
            refine (sign_at _ _ _).mono ?_
            rintro e w1 ⟨rfl, rfl⟩
            rw [HN.out]
            go_wp2_with fail
            refine (run_at _ _ _ (by omega)).mono ?_
            rintro e w1 ⟨rfl, rfl⟩
            rw [HK.out]
            go_wp2_with fail
            go_ret
            exact ⟨ret_int (by have := HR.out; omega), rfl⟩
      · rw [if_neg hex] at hR
        have HR := Lib.hid hR
        clear hR
        have hx1 := fun h => at_not (s := s) (b := a + wh) (c := 101) (fun h => hex (.inl h)) h
        have hx2 := fun h => at_not (s := s) (b := a + wh) (c := 69) (fun h => hex (.inr h)) h
        clear hex
        by_cases hcl : a + wh < s.size
        · have hx1 := hx1 hcl
          have hx2 := hx2 hcl
          obtain ⟨x, hx⟩ : ∃ x, s[a + wh].toNat = x := ⟨_, rfl⟩
          rw [hx] at hx1 hx2
          have hx3 : ((x : Int) == 101) = false := by rw [beq_eq_false_iff_ne]; show (x : Int) ≠ ((101 : Nat) : Int); have : x ≠ 101 := hx1; omega
          have hx4 : ((x : Int) == 69) = false := by rw [beq_eq_false_iff_ne]; show (x : Int) ≠ ((69 : Nat) : Int); have : x ≠ 69 := hx2; omega
          clear hx1 hx2
          go_enter Tryz.func99, Tryz.ntmps99
          go_wp2_with fail
          refine (sign_any _ _).mono ?_
          rintro e w1 ⟨rfl, rfl⟩
          rw [HA.out]
          go_wp2_with fail
          refine (run_at _ _ _ (by omega)).mono ?_
          rintro e w1 ⟨rfl, rfl⟩
          rw [HW.out]
          go_wp2_with fail
          go_ret
          exact ⟨ret_int (by have := HR.out; omega), rfl⟩
        · exact absurd hb hcl
  · by_cases hz : wh = 0
    · rw [if_pos hz] at hR
      have hz1 : ((wh : Int) + 0 == 0) = true := by rw [beq_iff_eq]; omega
      have hz2 : decide (0 < (wh : Int) + 0) = false := by rw [decide_eq_false_iff_not]; omega
      have hz3 : ¬ 0 < (wh : Int) + 0 := by omega
      subst hR
      clear hz
      go_enter Tryz.func99, Tryz.ntmps99
      go_wp2_with fail
      refine (sign_any _ _).mono ?_
      rintro e w1 ⟨rfl, rfl⟩
      rw [HA.out]
      go_wp2_with fail
      refine (run_at _ _ _ (by omega)).mono ?_
      rintro e w1 ⟨rfl, rfl⟩
      rw [HW.out]
      go_wp2_with fail
      go_ret
      exact ⟨rfl, rfl⟩
    · rw [if_neg hz] at hR
      have hz1 : ((wh : Int) + 0 == 0) = false := by rw [beq_eq_false_iff_ne]; omega
      have hz2 : decide (0 < (wh : Int) + 0) = true := by rw [decide_eq_true_eq]; omega
      have hz3 : 0 < (wh : Int) + 0 := by omega
      unfold expL at hR
      have hcs : a + wh ≤ s.size := by omega
      clear hz
      by_cases hex : s.data.toList[a + wh]? = some 101 ∨ s.data.toList[a + wh]? = some 69
      · rw [if_pos hex] at hR
        have hcl : a + wh < s.size := by rcases hex with h | h <;> exact (at_some h).1
        obtain ⟨n, hn⟩ : ∃ n, signL (s.data.toList.drop (a + wh + 1)) = n := ⟨_, rfl⟩
        have hn1 := signL_le (s.data.toList.drop (a + wh + 1))
        rw [List.length_drop, ← Lib.size_eq] at hn1
        rw [hn] at hR hn1
        obtain ⟨k, hk⟩ : ∃ k, runL (s.data.toList.drop (a + wh + 1 + n)) = k := ⟨_, rfl⟩
        have hk1 := runL_le (s.data.toList.drop (a + wh + 1 + n))
        rw [List.length_drop, ← Lib.size_eq] at hk1
        rw [hk] at hR hk1
        obtain ⟨hn2, hn3⟩ := hn1
        have HN := Lib.hid hn
        have HK := Lib.hid hk
        clear hn hk
        exact absurd hcl hb
      · rw [if_neg hex] at hR
        have HR := Lib.hid hR
        clear hR
        have hx1 := fun h => at_not (s := s) (b := a + wh) (c := 101) (fun h => hex (.inl h)) h
        have hx2 := fun h => at_not (s := s) (b := a + wh) (c := 69) (fun h => hex (.inr h)) h
        clear hex
        by_cases hcl : a + wh < s.size
        · exact absurd hcl hb
        · clear hx1 hx2
          go_enter Tryz.func99, Tryz.ntmps99
          go_wp2_with fail
          refine (sign_any _ _).mono ?_
          rintro e w1 ⟨rfl, rfl⟩
          rw [HA.out]
          go_wp2_with fail
          refine (run_at _ _ _ (by omega)).mono ?_
          rintro e w1 ⟨rfl, rfl⟩
          rw [HW.out]
          go_wp2_with fail
          go_ret
          exact ⟨ret_int (by have := HR.out; omega), rfl⟩

theorem numeral_any (s : ByteArray) (w : World) (hs : s.size ≤ 100000) : Calls Tryz.prog 99 #[.string s] w (NumOut (numL s.data.toList) w) := by
  by_cases hdot : s.data.toList[signL s.data.toList + runL (s.data.toList.drop (signL s.data.toList))]? = some 46
  · exact numeral_dot s w hs _ _ _ rfl rfl rfl hdot
  · refine numeral_nodot s w hs _ _ _ rfl rfl rfl hdot ?_
    by_cases hb : signL s.data.toList + runL (s.data.toList.drop (signL s.data.toList)) < s.size
    · refine .inl ⟨hb, ?_⟩
      have := at_not hdot hb
      rw [beq_eq_false_iff_ne]
      intro h
      exact this (Int.natCast_inj.1 h)
    · exact .inr hb
end Go.Proofs.YtpnfkipfjanmkaaGreatDoor
