/- DERIVED. WALKS: dec.Prefix, dec.Looks. DERIVED. WALKS: dec.Looks. -/
import Derived.Test.YtpnfkipfjanmkaaGreatDoorHNb
import Derived.Lib.SlTrimSet
set_option linter.unusedVariables false
set_option linter.unusedSimpArgs false
namespace Go.Proofs.YtpnfkipfjanmkaaGreatDoor
open Go.RowKit Flt Go.Joins

theorem ret_pair {a b c d : Value} (h : a = c) (h2 : b = d) : Ending.returned (.tuple #[a, b]) = .returned (.tuple #[c, d]) := by rw [h, h2]

/-- what stands behind the blanks -/
def restL (l : List UInt8) : List UInt8 := Lib.trimLeftS l [32, 9, 10]
def valAt (r : List UInt8) (a : Nat) (W : List UInt8) : Nat := numV (r.take a) W (numB r (a + W.length)) (exOf r (exAt r (a + W.length)))
def valL (r : List UInt8) : Nat := valAt r (signL r) ((r.drop (signL r)).takeWhile isD)
/-- the numeral's value's bits -/
def preV (l : List UInt8) : Nat := if numL (restL l) = 0 then 0 else valL (restL l)
/-- the numeral's length, with the blanks ahead of it -/
def preN (l : List UInt8) : Nat := if numL (restL l) = 0 then 0 else l.length - (restL l).length + numL (restL l)

def PreOut (l : List UInt8) (w : World) (e : Ending) (w' : World) : Prop := e = .returned (.tuple #[.float .f64 (preV l : Nat), .int .i64 (preN l : Nat)]) ∧ Below w.heap.size w w'

theorem restL_len (l : List UInt8) : (restL l).length ≤ l.length := (List.dropWhile_suffix _).length_le
theorem numL_le (l : List UInt8) : numL l ≤ l.length := by
  by_cases h : numL l = 0
  · omega
  · obtain ⟨_, h2, h3, h4⟩ := numL_parts l _ _ _ rfl rfl rfl h
    have h5 := congrArg List.length h2
    rw [List.length_take] at h5
    have hx := exOf_cases l (exAt l (signL l + ((l.drop (signL l)).takeWhile isD).length))
    -- the parts lie in the text
    obtain ⟨c, hc⟩ : ∃ c, exAt l (signL l + ((l.drop (signL l)).takeWhile isD).length) = c := ⟨_, rfl⟩
    rw [hc] at hx h3
    have h1 := signL_le l
    have hw := runL_le (l.drop (signL l))
    have hw2 : runL (l.drop (signL l)) = ((l.drop (signL l)).takeWhile isD).length := rfl
    rw [List.length_drop, hw2] at hw
    have hcl : c ≤ l.length := by
      rw [← hc]
      unfold exAt
      split
      · rename_i hd
        have hb : signL l + ((l.drop (signL l)).takeWhile isD).length < l.length := by
          rcases Nat.lt_or_ge (signL l + ((l.drop (signL l)).takeWhile isD).length) l.length with h6 | h6
          · exact h6
          · rw [List.getElem?_eq_none h6] at hd; cases hd
        unfold dotL
        rw [if_pos hd]
        have := runL_le (l.drop (signL l + ((l.drop (signL l)).takeWhile isD).length + 1))
        rw [List.length_drop] at this
        omega
      · omega
    rcases hx with ⟨_, h7⟩ | ⟨e, es, K, _, _, h8, h9, h10, _, h7⟩
    · omega
    · have hc1 : c < l.length := by
        rcases Nat.lt_or_ge c l.length with h6 | h6
        · exact h6
        · rw [List.getElem?_eq_none h6] at h8; cases h8
      have hs := signL_le (l.drop (c + 1))
      rw [List.length_drop] at hs
      have hk := takeWhile_le isD (l.drop (c + 1 + signL (l.drop (c + 1))))
      rw [← h10, List.length_drop] at hk
      have hes : es.length = signL (l.drop (c + 1)) := by rw [h9, List.length_take, List.length_drop]; omega
      omega

set_option maxHeartbeats 1600000 in
theorem dprefix_any {N : Nat} (s : ByteArray) (w : World) (hl : s.size ≤ 780) (hV : Vars N w) : Calls Tryz.prog 49 #[.string s] w (PreOut s.data.toList w) := by
  obtain ⟨r, hr⟩ : ∃ r, restL s.data.toList = r := ⟨_, rfl⟩
  have hrl := restL_len s.data.toList
  rw [hr, ← Lib.size_eq] at hrl
  have hnl := numL_le r
  obtain ⟨n, hn⟩ : ∃ n, numL r = n := ⟨_, rfl⟩
  rw [hn] at hnl
  have hpv : preV s.data.toList = if n = 0 then 0 else valL r := by unfold preV; rw [hr, hn]
  have hpn : preN s.data.toList = if n = 0 then 0 else s.size - r.length + n := by unfold preN; rw [hr, hn, ← Lib.size_eq]
  have HR := Lib.hid (show Lib.trimLeftS s.data.toList [32, 9, 10] = r from hr)
  have HN := Lib.hid hn
  have HPV := Lib.hid hpv
  have HPN := Lib.hid hpn
  have HV := Lib.hid hV
  clear hr hn hpv hpn hV
  obtain ⟨t, ht⟩ : ∃ t : ByteArray, (⟨r.toArray⟩ : ByteArray) = t := ⟨_, rfl⟩
  have htd : t.data.toList = r := by rw [← ht]
  have hts : t.size = r.length := by rw [Lib.size_eq, htd]
  have HT := Lib.hid ht
  have HTD := Lib.hid htd
  have HTS := Lib.hid hts
  have ht1 : t.size ≤ 780 := by omega
  have hnt : n ≤ t.size := by omega
  have hts2 : t.size ≤ s.size := by omega
  clear ht htd hts hrl hnl
  go_enter Tryz.func49, Tryz.ntmps49
  go_wp2_with fail
  refine (tl_blank _ _).mono ?_
  rintro e w2 ⟨rfl, hb2⟩
  have HB2 := Lib.hid hb2
  clear hb2
  rw [HR.out, HT.out]
  go_wp2_with fail
  refine (numeral_any _ _ (by omega)).mono ?_
  rintro e w' ⟨rfl, rfl⟩
  rw [HTD.out, HN.out]
  by_cases h0 : n = 0
  · have h1 : ((n : Int) == 0) = true := by rw [beq_iff_eq]; omega
    have H0 := Lib.hid h0
    clear h0
    go_wp2_with fail
    go_ret2
    exact ⟨by rw [HPV.out, HPN.out, if_pos H0.out, if_pos H0.out]; rfl, HB2.out⟩
  · have h1 : ((n : Int) == 0) = false := by rw [beq_eq_false_iff_ne]; omega
    have H0 := Lib.hid h0
    clear h0
    go_wp2_with fail
    obtain ⟨hi, htk, _, _⟩ := numL_parts r _ _ _ rfl rfl rfl (by rw [HN.out]; exact H0.out)
    have hd : (t.extract 0 n).data.toList = r.take (numL r) := by rw [Lib.extract_data, HTD.out, List.drop_zero, Nat.sub_zero, HN.out]
    rw [htk] at hd
    have hes : (t.extract 0 n).size ≤ 790 := by
      rw [Lib.size_eq, Lib.extract_data, List.length_take]; omega
    refine (nearest_any (t.extract 0 n) _ _ _ _ _ _ hd hi hes (HV.out.below HB2.out HV.out.size)).mono ?_
    rintro e w3 ⟨rfl, hb3⟩
    have HB3 := Lib.hid (HB2.out.trans (hb3.mono HB2.out.size))
    have hvl : numV (r.take (signL r)) ((r.drop (signL r)).takeWhile isD) (numB r (signL r + ((r.drop (signL r)).takeWhile isD).length)) (exOf r (exAt r (signL r + ((r.drop (signL r)).takeWhile isD).length))) = valL r := rfl
    rw [hvl]
    have HVL := Lib.hid hvl
    clear hi htk hd hes hb3 hvl
    obtain ⟨R, hR⟩ : ∃ R, valL r = R := ⟨_, rfl⟩
    rw [hR]
    have HRR := Lib.hid hR
    clear hR
    go_wp2_with fail
    go_ret2
    refine ⟨?_, HB3.out⟩
    rw [HPV.out, HPN.out, if_neg H0.out, if_neg H0.out, HRR.out]
    refine ret_pair rfl (int_eq ?_)
    have := HTS.out
    omega
end Go.Proofs.YtpnfkipfjanmkaaGreatDoor

namespace Go.Proofs.YtpnfkipfjanmkaaGreatDoor
open Go.RowKit Flt Go.Joins

/-- what dec.Looks says of a text -/
def looksL (l : List UInt8) : Bool := decide (0 < preN l) && (Lib.trimS (l.drop (preN l)) [32, 9, 10]).isEmpty
def BoolOut (b : Bool) (w : World) (e : Ending) (w' : World) : Prop := e = .returned (.bool b) ∧ Below w.heap.size w w'
theorem preN_le (l : List UInt8) : preN l ≤ l.length := by
  unfold preN
  split
  · omega
  · have := numL_le (restL l)
    have := restL_len l
    omega

set_option maxHeartbeats 1600000 in
theorem looks_any {N : Nat} (s : ByteArray) (w : World) (hl : s.size ≤ 780) (hV : Vars N w) : Calls Tryz.prog 52 #[.string s] w (BoolOut (looksL s.data.toList) w) := by
  have hnl := preN_le s.data.toList
  rw [← Lib.size_eq] at hnl
  have HP := Lib.hid (dprefix_any s w hl hV)
  obtain ⟨L, hL⟩ : ∃ L, looksL s.data.toList = L := ⟨_, rfl⟩
  rw [hL]
  unfold looksL at hL
  unfold PreOut at HP
  obtain ⟨n, hn⟩ : ∃ n, preN s.data.toList = n := ⟨_, rfl⟩
  rw [hn] at hL hnl HP
  obtain ⟨v, hv⟩ : ∃ v, preV s.data.toList = v := ⟨_, rfl⟩
  rw [hv] at HP
  have HLL := Lib.hid hL
  clear hL hn hv hV
  go_enter Tryz.func52, Tryz.ntmps52
  go_wp2_with fail
  refine HP.out.mono ?_
  rintro e w2 ⟨rfl, hb2⟩
  have HB2 := Lib.hid hb2
  clear hb2
  by_cases h0 : 0 < n
  · obtain ⟨T, hT⟩ : ∃ T, Lib.trimS (s.data.toList.drop n) [32, 9, 10] = T := ⟨_, rfl⟩
    have hLT : L = T.isEmpty := by rw [← HLL.out, hT, decide_eq_true h0, Bool.true_and]
    have HT := Lib.hid (show Lib.trimS (s.extract n s.size).data.toList [32, 9, 10] = T by rw [Lib.extract_to_end]; exact hT)
    have hxs : (s.extract n s.size).size ≤ 9223372036854775807 := by rw [Lib.size_eq, Lib.extract_to_end, List.length_drop, ← Lib.size_eq]; omega
    clear hT
    subst hLT
    go_wp2_with fail
    refine (tr_blank _ _ hxs).mono ?_
    rintro e w3 ⟨rfl, hb3⟩
    have HB3 := Lib.hid (HB2.out.trans (hb3.mono HB2.out.size))
    clear hb3
    rw [HT.out]
    go_wp2_with fail
    go_ret
    exact ⟨rfl, HB3.out⟩
  · have hLT : L = false := by rw [← HLL.out, decide_eq_false h0, Bool.false_and]
    subst hLT
    have h1 : decide ((0 : Int) < (n : Int)) = false := by rw [decide_eq_false_iff_not]; omega
    go_wp2_with fail
    go_ret
    exact ⟨rfl, HB2.out⟩
end Go.Proofs.YtpnfkipfjanmkaaGreatDoor
