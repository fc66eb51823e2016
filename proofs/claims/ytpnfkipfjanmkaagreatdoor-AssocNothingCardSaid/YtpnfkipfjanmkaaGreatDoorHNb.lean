/- DERIVED. WALKS: dec.nearest. -/
import Derived.Test.YtpnfkipfjanmkaaGreatDoorHNa
import Derived.Test.YtpnfkipfjanmkaaGreatDoorHNs
import Derived.Test.YtpnfkipfjanmkaaGreatDoorHEd
import Derived.Test.YtpnfkipfjanmkaaGreatDoorHSr
set_option linter.unusedVariables false
set_option linter.unusedSimpArgs false
namespace Go.Proofs.YtpnfkipfjanmkaaGreatDoor
open Go.RowKit Flt Go.Joins

def FltOut (R : Nat) (w : World) (e : Ending) (w' : World) : Prop := e = .returned (.float .f64 R) ∧ Below w.heap.size w w'

theorem mk_list {s : ByteArray} {l : List UInt8} (h : s.data.toList = l) : s = ⟨l.toArray⟩ := by
  rw [← h]
theorem str_eq {s : ByteArray} {l : List UInt8} (h : s.data.toList = l) : Value.string s = .string ⟨l.toArray⟩ := by rw [mk_list h]

theorem cat_data (l k : List UInt8) : ((⟨l.toArray⟩ : ByteArray) ++ (⟨k.toArray⟩ : ByteArray)).data.toList = l ++ k := by
  rw [ByteArray.data_append, Array.toList_append]

theorem xor_top (R : Nat) (h : R < 2 ^ 63) : R ^^^ 2 ^ 63 = 2 ^ 63 + R := by
  apply Nat.eq_of_testBit_eq
  intro i
  rw [Nat.testBit_xor, Nat.testBit_two_pow]
  rcases Nat.lt_trichotomy i 63 with h1 | h1 | h1
  · rw [Nat.testBit_two_pow_add_gt h1, decide_eq_false (by omega), Bool.xor_false]
  · subst h1
    rw [Nat.testBit_two_pow_add_eq, decide_eq_true rfl, Nat.testBit_lt_two_pow h]; rfl
  · have h2 : 2 ^ 64 ≤ 2 ^ i := Nat.pow_le_pow_right (by omega) (by omega)
    rw [Nat.testBit_lt_two_pow (by omega : R < 2 ^ i), Nat.testBit_lt_two_pow (by omega : 2 ^ 63 + R < 2 ^ i), decide_eq_false (by omega)]; rfl
theorem neg_float (R : Nat) (h : R ≤ infR) : Op.unary .neg (.float .f64 R) = pure (.float .f64 (9223372036854775808 + R)) := by
  have h1 : infR < 2 ^ 63 := by decide
  have h2 := xor_top R (by omega)
  show pure (Value.float .f64 (R ^^^ 2 ^ 63)) = _
  rw [h2]

theorem ret_flt {k : FloatKind} {a b : Nat} (h : a = b) : Ending.returned (.float k a) = .returned (.float k b) := by rw [h]
theorem magV_of {W B ex FG F : List UInt8} {pw : Int} {R : Nat} (h1 : Lib.trimLeftB (W ++ B) 48 = FG) (h2 : Lib.trimRightB (⟨FG.toArray⟩ : ByteArray).data.toList 48 = F) (h3 : pw = clamp (pointV W B ex)) (h4 : rdec F pw = R) : magV W B ex = R := by
  have h5 : figs W B = FG := h1
  have h6 : Lib.trimRightB FG 48 = F := h2
  unfold magV
  rw [h5, h6, ← h3, h4]

theorem pointV_of {W B ex FG : List UInt8} (h1 : Lib.trimLeftB (W ++ B) 48 = FG) : pointV W B ex = (FG.length : Int) - (B.length : Int) + exV ex := by
  have h5 : figs W B = FG := h1
  unfold pointV
  rw [h5]
theorem sign_es {es K : List UInt8} (hes : es = [] ∨ ∃ c : UInt8, es = [c] ∧ (c = 43 ∨ c = 45)) (hK : Digs K) (hK0 : 0 < K.length) : signL (es ++ K) = es.length := by
  rcases hes with h1 | ⟨d, h1, h2⟩
  · subst h1
    cases K with
    | nil => simp at hK0
    | cons c K =>
      have := hK c (by simp)
      exact if_neg (by omega)
  · subst h1
    refine if_pos ?_
    rcases h2 with h2 | h2 <;> subst h2
    · left; decide
    · right; decide
theorem minus_es {p : ByteArray} {es K : List UInt8} (hp0 : 0 < p.size) (hpd : p.data.toList = es ++ K) (hes : es = [] ∨ ∃ c : UInt8, es = [c] ∧ (c = 43 ∨ c = 45)) (hK : Digs K) (hK0 : 0 < K.length) :
    (es = [45] → p[0].toNat = 45) ∧ (¬ es = [45] → ((p[0].toNat : Int) == 45) = false) := by
  have hb := byte_of hp0
  rw [hpd] at hb
  rcases hes with h1 | ⟨c, h1, h2⟩
  · subst h1
    cases K with
    | nil => simp at hK0
    | cons c K =>
      have hc0 : c = p[0] := Option.some.inj hb
      rw [← hc0]
      have := hK c (by simp)
      refine ⟨(fun h => by cases h), fun _ => ?_⟩
      rw [beq_eq_false_iff_ne]; omega
  · subst h1
    have hc0 : c = p[0] := Option.some.inj hb
    rw [← hc0]
    rcases h2 with h2 | h2
    · subst h2; exact ⟨(fun h => by cases h), (fun _ => by decide)⟩
    · subst h2; exact ⟨(fun _ => by decide), fun h => absurd rfl h⟩

theorem exV_of {e : UInt8} {es K : List UInt8} (hes : es = [] ∨ ∃ c : UInt8, es = [c] ∧ (c = 43 ∨ c = 45)) (hK : Digs K) (hK0 : 0 < K.length) :
    exV (e :: (es ++ K)) = if es = [45] then -((min (dval K) 1000000000 : Nat) : Int) else ((min (dval K) 1000000000 : Nat) : Int) := by
  have h1 : (es ++ K).drop (signL (es ++ K)) = K := by rw [sign_es hes hK hK0, List.drop_left]
  have h2 : (es ++ K)[0]? = some 45 ↔ es = [45] := by
    rcases hes with h3 | ⟨d, h3, _⟩
    · subst h3
      cases K with
      | nil => simp at hK0
      | cons c K =>
        have := hK c (by simp)
        constructor
        · intro h
          have : c = 45 := Option.some.inj h
          subst this
          exact absurd (hK 45 (by simp)).1 (by decide)
        · intro h; cases h
    · subst h3
      constructor
      · intro h
        have : d = 45 := Option.some.inj h
        rw [this]
      · intro h; rw [h]; rfl
  show (if (es ++ K)[0]? = some 45 then -((min (dval ((es ++ K).drop (signL (es ++ K)))) 1000000000 : Nat) : Int) else ((min (dval ((es ++ K).drop (signL (es ++ K)))) 1000000000 : Nat) : Int)) = _
  rw [h1]
  by_cases h : es = [45]
  · rw [if_pos h, if_pos (h2.2 h)]
  · rw [if_neg h, if_neg (fun h3 => h (h2.1 h3))]

theorem figures_of {W B : List UInt8} (hW : Digs W) (hB : Digs B) (hl : W.length + B.length ≤ 790) {a : Int} (h1 : -400 ≤ a) (h2 : a ≤ 400) :
    Figures (Lib.trimRightB (Lib.trimLeftB (W ++ B) 48) 48) (Lib.decDigits a.natAbs) := by
  have hd := digs_trimLeftB (hW.append hB)
  have hn := decDigits_len (u := a.natAbs) (by omega)
  refine ⟨digs_trimRightB hd, fun c hc => trimRightB_first (fun d hd => trimLeftB_first hd) hc, fun c hc => trimRightB_last hc, ?_, decDigits_digs _, hn.1, hn.2⟩
  have l1 := (trimB_len (W ++ B)).1
  have l2 := (trimB_len (Lib.trimLeftB (W ++ B) 48)).2
  rw [List.length_append] at l1
  omega

theorem itoa_len {a : Int} (h1 : -400 ≤ a) (h2 : a ≤ 400) : (Lib.itoa a).length ≤ 5 := by
  unfold Lib.itoa
  split
  · have := (decDigits_len (u := a.natAbs) (by omega)).2
    rw [List.length_cons]; omega
  · have := (decDigits_len (u := a.toNat) (by omega)).2
    omega

set_option maxHeartbeats 1600000 in
theorem nearest_any {N : Nat} (s : ByteArray) (w : World) (sg W dot B ex : List UInt8) (hs : s.data.toList = sg ++ (W ++ (dot ++ (B ++ ex)))) (h : IsNum sg W dot B ex) (hl : s.size ≤ 790) (hV : Vars N w) :
    Calls Tryz.prog 100 #[.string s] w (FltOut (numV sg W B ex) w) := by
  have hsz : s.size = s.data.toList.length := Lib.size_eq s
  rw [hs] at hsz
  have hsg : signL s.data.toList = sg.length := by rw [hs]; exact h.signL
  have hfr : s.data.toList.drop sg.length = W ++ (dot ++ (B ++ ex)) := by rw [hs, List.drop_left]
  have hsl := h.sgl
  obtain ⟨a, ha⟩ : ∃ a, sg.length = a := ⟨_, rfl⟩
  rw [ha] at hsg hfr hsl
  have has : a ≤ s.size := by rw [hsz, ← ha]; simp
  have hWB : W.length + B.length ≤ 790 := by
    have := hsz
    simp at this; omega
  have hFl := (trimB_len (W ++ B)).1
  obtain ⟨FG, hFG⟩ : ∃ FG, Lib.trimLeftB (W ++ B) 48 = FG := ⟨_, rfl⟩
  rw [hFG, List.length_append] at hFl
  have hBl : B.length ≤ 790 := by omega
  have hFsz : (⟨FG.toArray⟩ : ByteArray).size ≤ 9223372036854775807 := by
    show FG.toArray.size ≤ _
    rw [List.size_toArray]; omega
  obtain ⟨F, hF⟩ : ∃ F, Lib.trimRightB FG 48 = F := ⟨_, rfl⟩
  have hFl2 := (trimB_len FG).2
  rw [hF] at hFl2
  have hFl3 : F.length ≤ 790 := by omega
  have hFI : ∀ pw : Int, -400 ≤ pw → pw ≤ 400 → Figures F (Lib.decDigits pw.natAbs) := fun pw h1 h2 => by
    rw [← hF, ← hFG]
    exact figures_of h.dW h.dB hWB h1 h2
  have hs0 : 0 < s.size := by
    have := hsz
    have := h.pos
    simp at *; omega
  have hneg : (sg = [45] → s[0].toNat = 45) ∧ (¬ sg = [45] → ((s[0].toNat : Int) == 45) = false) := by
    have hb := byte_of hs0
    rw [hs] at hb
    rcases h.sgn with h1 | ⟨c, h1, h2⟩
    · subst h1
      obtain ⟨c, t, hc, hd⟩ := h.head (r := ex)
      rw [List.nil_append, hc] at hb
      have hc0 : c = s[0] := Option.some.inj hb
      rw [← hc0]
      refine ⟨(fun h => by cases h), fun _ => ?_⟩
      rw [beq_eq_false_iff_ne]
      rcases hd with hd | hd
      · omega
      · subst hd; decide
    · subst h1
      have hc0 : c = s[0] := Option.some.inj hb
      rw [← hc0]
      rcases h2 with h2 | h2
      · subst h2; exact ⟨(fun h => by cases h), (fun _ => by decide)⟩
      · subst h2; exact ⟨(fun _ => by decide), fun h => absurd rfl h⟩
  have HFI := Lib.hid hFI
  have HNEG := Lib.hid hneg
  clear hFI hneg
  have HFT := Lib.hid (show Lib.trimRightB (⟨FG.toArray⟩ : ByteArray).data.toList 48 = F from hF)
  have HFG := Lib.hid hFG
  clear hFl2 hF
  clear hFG
  have HSG := Lib.hid hsg
  have HFR := Lib.hid hfr
  have HS := Lib.hid hs
  have HSZ := Lib.hid hsz
  have HV := Lib.hid hV
  clear hsg hfr hs hsz hV
  go_enter Tryz.func100, Tryz.ntmps100
  go_wp2_with fail
  refine (sign_any _ _).mono ?_
  rintro e w1 ⟨rfl, rfl⟩
  rw [HSG.out]
  go_wp2_with fail
  have hix := h.indexE
  have hct := h.cutDot
  have hascii : ∀ (j : Nat) b, (s.extract a s.size).data.toList[j]? = some b → b.toNat < 128 := by
    intro j b hb
    rw [Lib.extract_to_end, HFR.out] at hb
    exact h.ascii hb
  have hxs : (s.extract a s.size).size < 4294967281 := by
    rw [Lib.size_eq, Lib.extract_to_end, List.length_drop, ← Lib.size_eq]; omega
  refine (Tryz.strings_IndexAny_laid _ _ _ hxs (by decide) hascii (ascii_of_all (by decide))).mono ?_
  rintro e w2 ⟨rfl, hb2⟩
  rw [Lib.extract_to_end, HFR.out]
  have HB2 := Lib.hid hb2
  have HCT := Lib.hid hct
  clear hb2 hct hascii hxs
  rcases h.hex with hex | ⟨e, es, K, hex, he, hes, hK, hK0⟩
  · rw [show (⟨#[101, 69]⟩ : ByteArray).data.toList = [101, 69] from rfl, hix, if_pos hex]
    clear hix
    obtain ⟨f, hf⟩ : ∃ f, s.extract a s.size = f := ⟨_, rfl⟩
    have hfd : f.data.toList = W ++ (dot ++ B) := by
      rw [← hf, Lib.extract_to_end, HFR.out, hex, List.append_nil]
    rw [hf]
    have HF := Lib.hid hfd
    have HEX := Lib.hid hex
    have hfs : f.size < 4294967281 := by
      have := HSZ.out
      rw [Lib.size_eq, hfd]; simp at *; omega
    have HPS := Lib.hid (show signL (ByteArray.mk #[]).data.toList = 0 from rfl)
    have HKT := Lib.hid (show Lib.trimLeftB ByteArray.empty.data.toList 48 = [] from rfl)
    clear hf hfd hex
    go_wp2_with fail
    obtain ⟨mx, hmx⟩ := (HV.out.below HB2.out HV.out.size).most
    refine (Tryz.strings_Cut _ _ mx _ hfs hmx).mono ?_
    rintro e w3 ⟨rfl, q, hq⟩
    have HBC := Lib.hid (show Below w1.heap.size w1 w3 by rw [hq]; first | exact below_drewN HB2.out _ | exact below_drewN (below_drewN HB2.out _) _)
    clear hq
    rw [HF.out, show (⟨#[46]⟩ : ByteArray).data.toList = [46] from rfl, HCT.out]
    clear hmx hfs
    go_wp2_with fail
    refine (Tryz.strings_TrimLeft_one _ _ (by decide) _).mono ?_
    rintro e w' ⟨rfl, rfl⟩
    rw [cat_data, HFG.out]
    go_wp2_with fail
    refine (sign_any _ _).mono ?_
    rintro e w' ⟨rfl, rfl⟩
    rw [HPS.out]
    go_wp2_with fail
    refine (Tryz.strings_TrimLeft_one _ _ (by decide) _).mono ?_
    rintro e w' ⟨rfl, rfl⟩
    rw [HKT.out]
    go_wp2_with fail
    refine (Tryz.strings_TrimRight_one _ _ (by decide) _ hFsz).mono ?_
    rintro e w' ⟨rfl, rfl⟩
    rw [HFT.out]
    go_wp2_with fail
    obtain ⟨pw, hpw⟩ : ∃ pw : Int, min (max ((FG.length : Int) - (B.length : Int)) (-400)) 400 = pw := ⟨_, rfl⟩
    have hpc : pw = clamp (pointV W B ex) := by
      rw [← hpw, pointV_of HFG.out, HEX.out, show exV [] = 0 from rfl, Int.add_zero]; rfl
    have hp1 : -400 ≤ pw := by omega
    have hp2 : pw ≤ 400 := by omega
    rw [hpw]
    have HPC := Lib.hid hpc
    clear hpw hpc
    obtain ⟨IT, hIT⟩ : ∃ IT, Lib.itoa pw = IT := ⟨_, rfl⟩
    have hITl : IT.length ≤ 5 := by rw [← hIT]; exact itoa_len hp1 hp2
    refine (Tryz.strconv_Itoa _ (by omega) (by omega) _ (HV.out.below HBC.out HV.out.size).itab).mono ?_
    rintro e w4 ⟨rfl, qk, os, hq⟩
    have HBI := Lib.hid (show Below w1.heap.size w1 w4 by rw [hq]; exact HBC.out.trans (Lib.below_grow _ _ HBC.out.size qk os))
    clear hq
    rw [hIT]
    have htx : ((⟨#[48, 46]⟩ : ByteArray) ++ ⟨F.toArray⟩ ++ ⟨#[101]⟩ ++ ⟨IT.toArray⟩).data.toList = decText F (Lib.decDigits pw.natAbs) (decide (pw < 0)) := by
      rw [← decText_of, hIT, ByteArray.data_append, ByteArray.data_append, ByteArray.data_append, Array.toList_append, Array.toList_append, Array.toList_append]; rfl
    have HTX := Lib.hid htx
    clear hIT htx
    go_wp2_with fail
    refine (pf_any _ _ F (Lib.decDigits pw.natAbs) (decide (pw < 0)) HTX.out (HFI.out pw hp1 hp2) (HV.out.below HBI.out HV.out.size)).mono ?_
    rintro e w5 ⟨err, rfl, hb5⟩
    have HB5 := Lib.hid (HBI.out.trans (hb5.mono HBI.out.size))
    rw [texp_of]
    obtain ⟨R, hR⟩ : ∃ R : Nat, rdec F pw = R := ⟨_, rfl⟩
    rw [hR]
    have HRR := Lib.hid hR
    have hRl : R ≤ infR := by rw [← hR]; exact rn_le_infR (UD_pos _)
    clear hR hb5
    by_cases hsg : sg = [45]
    · have hb0 := HNEG.out.1 hsg
      have hng := neg_float R hRl
      have HG := Lib.hid hsg
      clear hsg
      go_wp2_with fail
      go_ret
      exact ⟨ret_flt (by rw [numV, if_pos HG.out, magV_of HFG.out HFT.out HPC.out HRR.out]), HB5.out⟩
    · have hb0 := HNEG.out.2 hsg
      have HG := Lib.hid hsg
      clear hsg
      go_wp2_with fail
      go_ret
      exact ⟨ret_flt (by rw [numV, if_neg HG.out, magV_of HFG.out HFT.out HPC.out HRR.out, Nat.zero_add]), HB5.out⟩
  · have hne : ¬ ex = [] := by rw [hex]; simp
    rw [show (⟨#[101, 69]⟩ : ByteArray).data.toList = [101, 69] from rfl, hix, if_neg hne]
    clear hix hne
    obtain ⟨m, hm⟩ : ∃ m, (W ++ (dot ++ B)).length = m := ⟨_, rfl⟩
    rw [hm]
    have hms : a + m + 1 ≤ s.size := by
      have := HSZ.out
      rw [← hm, hex] at *
      simp at *
      omega
    have HM := Lib.hid hm
    have HEX := Lib.hid hex
    clear hm hex
    go_wp2_with fail
    have hxs2 : (s.extract a s.size).size = s.size - a := by rw [Lib.size_eq, Lib.extract_to_end, List.length_drop, ← Lib.size_eq]
    have hm1 : (m : Int) ≤ ((s.extract a s.size).size : Int) := by rw [hxs2]; omega
    have hm2 : (m : Int) + 1 ≤ ((s.extract a s.size).size : Int) := by rw [hxs2]; omega
    have HXS := Lib.hid hxs2
    clear hxs2
    go_quiet (fail)
    generalize hq2 : w2.drewN nq = w22
    have HB2 := Lib.hid (show Below w1.heap.size w1 w22 by rw [← hq2]; exact below_drewN HB2.out nq)
    clear hq2
    obtain ⟨f, hf⟩ : ∃ f, (s.extract a s.size).extract 0 m = f := ⟨_, rfl⟩
    obtain ⟨p, hp⟩ : ∃ p, (s.extract a s.size).extract (m + 1) (s.size - a) = p := ⟨_, rfl⟩
    have hfd : f.data.toList = W ++ (dot ++ B) := by
      rw [← hf, Lib.extract_data, Lib.extract_to_end, HFR.out, List.drop_zero, Nat.sub_zero, ← HM.out, show W ++ (dot ++ (B ++ ex)) = (W ++ (dot ++ B)) ++ ex from by simp only [List.append_assoc], List.take_left]
    have hpd : p.data.toList = es ++ K := by
      have h1 := HSZ.out
      rw [← hp, Lib.extract_data, Lib.extract_to_end, HFR.out, show W ++ (dot ++ (B ++ ex)) = (W ++ (dot ++ B)) ++ ex from by simp only [List.append_assoc], ← List.drop_drop, ← HM.out, List.drop_left, HEX.out]
      show (es ++ K).take _ = _
      refine List.take_of_length_le ?_
      have h2 := HM.out
      rw [HEX.out] at h1
      simp at h1 h2 ⊢
      omega
    rw [hf, hp]
    have HF := Lib.hid hfd
    have hfs : f.size < 4294967281 := by
      have := HSZ.out
      rw [Lib.size_eq, hfd]; simp at *; omega
    obtain ⟨n, hn⟩ : ∃ n, es.length = n := ⟨_, rfl⟩
    have hps : p.size = n + K.length := by rw [Lib.size_eq, hpd, List.length_append, hn]
    have hpx : (p.extract n p.size).data.toList = K := by rw [Lib.extract_to_end, hpd, ← hn, List.drop_left]
    obtain ⟨KT, hKT⟩ : ∃ KT, Lib.trimLeftB K 48 = KT := ⟨_, rfl⟩
    have hKl : KT.length ≤ K.length := by rw [← hKT]; exact (trimB_len K).1
    have hKl2 : K.length ≤ 790 := by
      have h1 := HSZ.out
      rw [HEX.out] at h1
      simp at h1; omega
    have HPS := Lib.hid (show signL p.data.toList = n by rw [hpd, ← hn]; exact sign_es hes hK hK0)
    have HKT := Lib.hid (show Lib.trimLeftB (p.extract n p.size).data.toList 48 = KT by rw [hpx]; exact hKT)
    have HK := Lib.hid hKT
    have hnp : n ≤ p.size := by omega
    have hp0 : 0 < p.size := by omega
    have HPN := Lib.hid (show (es = [45] → p[0].toNat = 45) ∧ (¬ es = [45] → ((p[0].toNat : Int) == 45) = false) from minus_es hp0 hpd hes hK hK0)
    clear hf hp hfd hpd hps hpx hKT hn
    go_wp2_with fail
    obtain ⟨mx, hmx⟩ := (HV.out.below HB2.out HV.out.size).most
    refine (Tryz.strings_Cut _ _ mx _ hfs hmx).mono ?_
    rintro e w3 ⟨rfl, q, hq⟩
    have HBC := Lib.hid (show Below w1.heap.size w1 w3 by rw [hq]; first | exact below_drewN HB2.out _ | exact below_drewN (below_drewN HB2.out _) _)
    clear hq
    rw [HF.out, show (⟨#[46]⟩ : ByteArray).data.toList = [46] from rfl, HCT.out]
    clear hmx hfs
    go_wp2_with fail
    refine (Tryz.strings_TrimLeft_one _ _ (by decide) _).mono ?_
    rintro e w' ⟨rfl, rfl⟩
    rw [cat_data, HFG.out]
    go_wp2_with fail
    refine (sign_any _ _).mono ?_
    rintro e w' ⟨rfl, rfl⟩
    rw [HPS.out]
    go_wp2_with fail
    refine (Tryz.strings_TrimLeft_one _ _ (by decide) _).mono ?_
    rintro e w' ⟨rfl, rfl⟩
    rw [HKT.out]
    by_cases hk0 : KT.isEmpty = true
    · have hke : (!KT.isEmpty) = false := by rw [hk0]; rfl
      have HKE := Lib.hid (List.isEmpty_iff.1 hk0)
      clear hk0
      go_wp2_with fail
      refine (Tryz.strings_TrimRight_one _ _ (by decide) _ hFsz).mono ?_
      rintro e w' ⟨rfl, rfl⟩
      rw [HFT.out]
      go_wp2_with fail
      obtain ⟨pw, hpw⟩ : ∃ pw : Int, min (max ((FG.length : Int) - (B.length : Int)) (-400)) 400 = pw := ⟨_, rfl⟩
      have hpc : pw = clamp (pointV W B ex) := by
        rw [← hpw, pointV_of HFG.out, HEX.out, exV_of hes hK hK0]
        have h1 : dval K = 0 := by rw [← dval_trim, HK.out, HKE.out]; rfl
        rw [h1]
        show _ = clamp _
        congr 1
        split <;> simp
      have hp1 : -400 ≤ pw := by omega
      have hp2 : pw ≤ 400 := by omega
      rw [hpw]
      have HPC := Lib.hid hpc
      clear hpw hpc
      obtain ⟨IT, hIT⟩ : ∃ IT, Lib.itoa pw = IT := ⟨_, rfl⟩
      have hITl : IT.length ≤ 5 := by rw [← hIT]; exact itoa_len hp1 hp2
      refine (Tryz.strconv_Itoa _ (by omega) (by omega) _ (HV.out.below HBC.out HV.out.size).itab).mono ?_
      rintro e w4 ⟨rfl, qk, os, hq⟩
      have HBI := Lib.hid (show Below w1.heap.size w1 w4 by rw [hq]; exact HBC.out.trans (Lib.below_grow _ _ HBC.out.size qk os))
      clear hq
      rw [hIT]
      have htx : ((⟨#[48, 46]⟩ : ByteArray) ++ ⟨F.toArray⟩ ++ ⟨#[101]⟩ ++ ⟨IT.toArray⟩).data.toList = decText F (Lib.decDigits pw.natAbs) (decide (pw < 0)) := by
        rw [← decText_of, hIT, ByteArray.data_append, ByteArray.data_append, ByteArray.data_append, Array.toList_append, Array.toList_append, Array.toList_append]; rfl
      have HTX := Lib.hid htx
      clear hIT htx
      go_wp2_with fail
      refine (pf_any _ _ F (Lib.decDigits pw.natAbs) (decide (pw < 0)) HTX.out (HFI.out pw hp1 hp2) (HV.out.below HBI.out HV.out.size)).mono ?_
      rintro e w5 ⟨err, rfl, hb5⟩
      have HB5 := Lib.hid (HBI.out.trans (hb5.mono HBI.out.size))
      rw [texp_of]
      obtain ⟨R, hR⟩ : ∃ R : Nat, rdec F pw = R := ⟨_, rfl⟩
      rw [hR]
      have HRR := Lib.hid hR
      have hRl : R ≤ infR := by rw [← hR]; exact rn_le_infR (UD_pos _)
      clear hR hb5
      by_cases hsg : sg = [45]
      · have hb0 := HNEG.out.1 hsg
        have hng := neg_float R hRl
        have HG := Lib.hid hsg
        clear hsg
        go_wp2_with fail
        go_ret
        exact ⟨ret_flt (by rw [numV, if_pos HG.out, magV_of HFG.out HFT.out HPC.out HRR.out]), HB5.out⟩
      · have hb0 := HNEG.out.2 hsg
        have HG := Lib.hid hsg
        clear hsg
        go_wp2_with fail
        go_ret
        exact ⟨ret_flt (by rw [numV, if_neg HG.out, magV_of HFG.out HFT.out HPC.out HRR.out, Nat.zero_add]), HB5.out⟩
    · have hke : (!KT.isEmpty) = true := by rw [Bool.not_eq_true] at hk0; rw [hk0]; rfl
      have hKTp : 0 < KT.length := by
        cases hc : KT with
        | nil => rw [hc] at hk0; exact absurd rfl hk0
        | cons c l => simp
      clear hk0
      by_cases hk9 : KT.length < 9
      · obtain ⟨v, hv⟩ : ∃ v, dval KT = v := ⟨_, rfl⟩
        have hKTd : Digs KT := by rw [← HK.out]; exact digs_trimLeftB hK
        have hat := atoi_digs hKTd hKTp
        have hvb : v < 1000000000 := by
          rw [← hv]
          exact Nat.lt_of_lt_of_le (dval_lt hKTd) (show _ ≤ 10 ^ 9 from Nat.pow_le_pow_right (by omega) (by omega))
        rw [hv] at hat
        have HAT := Lib.hid (show Lib.atoi (⟨KT.toArray⟩ : ByteArray).data.toList = some ((v : Nat) : Int) from hat)
        have HVV := Lib.hid hv
        clear hv hat
        go_wp2_with fail
        refine (Tryz.strconv_Atoi _ _ (by show KT.toArray.size ≤ 18; rw [List.size_toArray]; omega) HAT.out _).mono ?_
        rintro e w4 ⟨rfl, t, hq⟩
        have HBC := Lib.hid (show Below w1.heap.size w1 w4 by rw [hq]; exact HBC.out.trans (below_bytesWorld _ _ _ _ HBC.out.size))
        clear hq
        by_cases hes45 : es = [45]
        · have hb1 := HPN.out.1 hes45
          have HES := Lib.hid hes45
          clear hes45
          go_wp2_with fail
          refine (Tryz.strings_TrimRight_one _ _ (by decide) _ hFsz).mono ?_
          rintro e w' ⟨rfl, rfl⟩
          rw [HFT.out]
          go_wp2_with fail
          obtain ⟨pw, hpw⟩ : ∃ pw : Int, min (max ((FG.length : Int) - (B.length : Int) + -(v : Int)) (-400)) 400 = pw := ⟨_, rfl⟩
          have hpc : pw = clamp (pointV W B ex) := by
            rw [← hpw, pointV_of HFG.out, HEX.out, exV_of hes hK hK0, if_pos HES.out]
            have h1 : powN K = v := by
              unfold powN
              rw [HK.out, if_pos hk9, ← dval_trim, HK.out, HVV.out]
            have h2 := (clamp_pow hK ((FG.length : Int) - (B.length : Int)) (by omega) (by omega)).2
            rw [h1] at h2
            simp only [Int.sub_eq_add_neg] at h2 ⊢
            rw [← h2]
            rfl
          have hp1 : -400 ≤ pw := by omega
          have hp2 : pw ≤ 400 := by omega
          rw [hpw]
          have HPC := Lib.hid hpc
          clear hpw hpc
          obtain ⟨IT, hIT⟩ : ∃ IT, Lib.itoa pw = IT := ⟨_, rfl⟩
          have hITl : IT.length ≤ 5 := by rw [← hIT]; exact itoa_len hp1 hp2
          refine (Tryz.strconv_Itoa _ (by omega) (by omega) _ (HV.out.below HBC.out HV.out.size).itab).mono ?_
          rintro e w4 ⟨rfl, qk, os, hq⟩
          have HBI := Lib.hid (show Below w1.heap.size w1 w4 by rw [hq]; exact HBC.out.trans (Lib.below_grow _ _ HBC.out.size qk os))
          clear hq
          rw [hIT]
          have htx : ((⟨#[48, 46]⟩ : ByteArray) ++ ⟨F.toArray⟩ ++ ⟨#[101]⟩ ++ ⟨IT.toArray⟩).data.toList = decText F (Lib.decDigits pw.natAbs) (decide (pw < 0)) := by
            rw [← decText_of, hIT, ByteArray.data_append, ByteArray.data_append, ByteArray.data_append, Array.toList_append, Array.toList_append, Array.toList_append]; rfl
          have HTX := Lib.hid htx
          clear hIT htx
          go_wp2_with fail
          refine (pf_any _ _ F (Lib.decDigits pw.natAbs) (decide (pw < 0)) HTX.out (HFI.out pw hp1 hp2) (HV.out.below HBI.out HV.out.size)).mono ?_
          rintro e w5 ⟨err, rfl, hb5⟩
          have HB5 := Lib.hid (HBI.out.trans (hb5.mono HBI.out.size))
          rw [texp_of]
          obtain ⟨R, hR⟩ : ∃ R : Nat, rdec F pw = R := ⟨_, rfl⟩
          rw [hR]
          have HRR := Lib.hid hR
          have hRl : R ≤ infR := by rw [← hR]; exact rn_le_infR (UD_pos _)
          clear hR hb5
          by_cases hsg : sg = [45]
          · have hb0 := HNEG.out.1 hsg
            have hng := neg_float R hRl
            have HG := Lib.hid hsg
            clear hsg
            go_wp2_with fail
            go_ret
            exact ⟨ret_flt (by rw [numV, if_pos HG.out, magV_of HFG.out HFT.out HPC.out HRR.out]), HB5.out⟩
          · have hb0 := HNEG.out.2 hsg
            have HG := Lib.hid hsg
            clear hsg
            go_wp2_with fail
            go_ret
            exact ⟨ret_flt (by rw [numV, if_neg HG.out, magV_of HFG.out HFT.out HPC.out HRR.out, Nat.zero_add]), HB5.out⟩
        · have hb1 := HPN.out.2 hes45
          have HES := Lib.hid hes45
          clear hes45
          go_wp2_with fail
          refine (Tryz.strings_TrimRight_one _ _ (by decide) _ hFsz).mono ?_
          rintro e w' ⟨rfl, rfl⟩
          rw [HFT.out]
          go_wp2_with fail
          obtain ⟨pw, hpw⟩ : ∃ pw : Int, min (max ((FG.length : Int) - (B.length : Int) + (v : Int)) (-400)) 400 = pw := ⟨_, rfl⟩
          have hpc : pw = clamp (pointV W B ex) := by
            rw [← hpw, pointV_of HFG.out, HEX.out, exV_of hes hK hK0, if_neg HES.out]
            have h1 : powN K = v := by
              unfold powN
              rw [HK.out, if_pos hk9, ← dval_trim, HK.out, HVV.out]
            have h2 := (clamp_pow hK ((FG.length : Int) - (B.length : Int)) (by omega) (by omega)).1
            rw [h1] at h2
            rw [← h2]
            rfl
          have hp1 : -400 ≤ pw := by omega
          have hp2 : pw ≤ 400 := by omega
          rw [hpw]
          have HPC := Lib.hid hpc
          clear hpw hpc
          obtain ⟨IT, hIT⟩ : ∃ IT, Lib.itoa pw = IT := ⟨_, rfl⟩
          have hITl : IT.length ≤ 5 := by rw [← hIT]; exact itoa_len hp1 hp2
          refine (Tryz.strconv_Itoa _ (by omega) (by omega) _ (HV.out.below HBC.out HV.out.size).itab).mono ?_
          rintro e w4 ⟨rfl, qk, os, hq⟩
          have HBI := Lib.hid (show Below w1.heap.size w1 w4 by rw [hq]; exact HBC.out.trans (Lib.below_grow _ _ HBC.out.size qk os))
          clear hq
          rw [hIT]
          have htx : ((⟨#[48, 46]⟩ : ByteArray) ++ ⟨F.toArray⟩ ++ ⟨#[101]⟩ ++ ⟨IT.toArray⟩).data.toList = decText F (Lib.decDigits pw.natAbs) (decide (pw < 0)) := by
            rw [← decText_of, hIT, ByteArray.data_append, ByteArray.data_append, ByteArray.data_append, Array.toList_append, Array.toList_append, Array.toList_append]; rfl
          have HTX := Lib.hid htx
          clear hIT htx
          go_wp2_with fail
          refine (pf_any _ _ F (Lib.decDigits pw.natAbs) (decide (pw < 0)) HTX.out (HFI.out pw hp1 hp2) (HV.out.below HBI.out HV.out.size)).mono ?_
          rintro e w5 ⟨err, rfl, hb5⟩
          have HB5 := Lib.hid (HBI.out.trans (hb5.mono HBI.out.size))
          rw [texp_of]
          obtain ⟨R, hR⟩ : ∃ R : Nat, rdec F pw = R := ⟨_, rfl⟩
          rw [hR]
          have HRR := Lib.hid hR
          have hRl : R ≤ infR := by rw [← hR]; exact rn_le_infR (UD_pos _)
          clear hR hb5
          by_cases hsg : sg = [45]
          · have hb0 := HNEG.out.1 hsg
            have hng := neg_float R hRl
            have HG := Lib.hid hsg
            clear hsg
            go_wp2_with fail
            go_ret
            exact ⟨ret_flt (by rw [numV, if_pos HG.out, magV_of HFG.out HFT.out HPC.out HRR.out]), HB5.out⟩
          · have hb0 := HNEG.out.2 hsg
            have HG := Lib.hid hsg
            clear hsg
            go_wp2_with fail
            go_ret
            exact ⟨ret_flt (by rw [numV, if_neg HG.out, magV_of HFG.out HFT.out HPC.out HRR.out, Nat.zero_add]), HB5.out⟩
      · by_cases hes45 : es = [45]
        · have hb1 := HPN.out.1 hes45
          have HES := Lib.hid hes45
          have HK9 := Lib.hid hk9
          clear hes45
          go_wp2_with fail
          refine (Tryz.strings_TrimRight_one _ _ (by decide) _ hFsz).mono ?_
          rintro e w' ⟨rfl, rfl⟩
          rw [HFT.out]
          go_wp2_with fail
          obtain ⟨pw, hpw⟩ : ∃ pw : Int, min (max ((FG.length : Int) - (B.length : Int) + -1073741824) (-400)) 400 = pw := ⟨_, rfl⟩
          have hpc : pw = clamp (pointV W B ex) := by
            rw [← hpw, pointV_of HFG.out, HEX.out, exV_of hes hK hK0, if_pos HES.out]
            have h1 : powN K = 1073741824 := by
              unfold powN
              rw [HK.out, if_neg HK9.out]
            have h2 := (clamp_pow hK ((FG.length : Int) - (B.length : Int)) (by omega) (by omega)).2
            rw [h1] at h2
            simp only [Int.sub_eq_add_neg] at h2 ⊢
            rw [← h2]
            rfl
          have hp1 : -400 ≤ pw := by omega
          have hp2 : pw ≤ 400 := by omega
          rw [hpw]
          have HPC := Lib.hid hpc
          clear hpw hpc
          obtain ⟨IT, hIT⟩ : ∃ IT, Lib.itoa pw = IT := ⟨_, rfl⟩
          have hITl : IT.length ≤ 5 := by rw [← hIT]; exact itoa_len hp1 hp2
          refine (Tryz.strconv_Itoa _ (by omega) (by omega) _ (HV.out.below HBC.out HV.out.size).itab).mono ?_
          rintro e w4 ⟨rfl, qk, os, hq⟩
          have HBI := Lib.hid (show Below w1.heap.size w1 w4 by rw [hq]; exact HBC.out.trans (Lib.below_grow _ _ HBC.out.size qk os))
          clear hq
          rw [hIT]
          have htx : ((⟨#[48, 46]⟩ : ByteArray) ++ ⟨F.toArray⟩ ++ ⟨#[101]⟩ ++ ⟨IT.toArray⟩).data.toList = decText F (Lib.decDigits pw.natAbs) (decide (pw < 0)) := by
            rw [← decText_of, hIT, ByteArray.data_append, ByteArray.data_append, ByteArray.data_append, Array.toList_append, Array.toList_append, Array.toList_append]; rfl
          have HTX := Lib.hid htx
          clear hIT htx
          go_wp2_with fail
          refine (pf_any _ _ F (Lib.decDigits pw.natAbs) (decide (pw < 0)) HTX.out (HFI.out pw hp1 hp2) (HV.out.below HBI.out HV.out.size)).mono ?_
          rintro e w5 ⟨err, rfl, hb5⟩
          have HB5 := Lib.hid (HBI.out.trans (hb5.mono HBI.out.size))
          rw [texp_of]
          obtain ⟨R, hR⟩ : ∃ R : Nat, rdec F pw = R := ⟨_, rfl⟩
          rw [hR]
          have HRR := Lib.hid hR
          have hRl : R ≤ infR := by rw [← hR]; exact rn_le_infR (UD_pos _)
          clear hR hb5
          by_cases hsg : sg = [45]
          · have hb0 := HNEG.out.1 hsg
            have hng := neg_float R hRl
            have HG := Lib.hid hsg
            clear hsg
            go_wp2_with fail
            go_ret
            exact ⟨ret_flt (by rw [numV, if_pos HG.out, magV_of HFG.out HFT.out HPC.out HRR.out]), HB5.out⟩
          · have hb0 := HNEG.out.2 hsg
            have HG := Lib.hid hsg
            clear hsg
            go_wp2_with fail
            go_ret
            exact ⟨ret_flt (by rw [numV, if_neg HG.out, magV_of HFG.out HFT.out HPC.out HRR.out, Nat.zero_add]), HB5.out⟩
        · have hb1 := HPN.out.2 hes45
          have HES := Lib.hid hes45
          have HK9 := Lib.hid hk9
          clear hes45
          go_wp2_with fail
          refine (Tryz.strings_TrimRight_one _ _ (by decide) _ hFsz).mono ?_
          rintro e w' ⟨rfl, rfl⟩
          rw [HFT.out]
          go_wp2_with fail
          obtain ⟨pw, hpw⟩ : ∃ pw : Int, min (max ((FG.length : Int) - (B.length : Int) + 1073741824) (-400)) 400 = pw := ⟨_, rfl⟩
          have hpc : pw = clamp (pointV W B ex) := by
            rw [← hpw, pointV_of HFG.out, HEX.out, exV_of hes hK hK0, if_neg HES.out]
            have h1 : powN K = 1073741824 := by
              unfold powN
              rw [HK.out, if_neg HK9.out]
            have h2 := (clamp_pow hK ((FG.length : Int) - (B.length : Int)) (by omega) (by omega)).1
            rw [h1] at h2
            rw [← h2]
            rfl
          have hp1 : -400 ≤ pw := by omega
          have hp2 : pw ≤ 400 := by omega
          rw [hpw]
          have HPC := Lib.hid hpc
          clear hpw hpc
          obtain ⟨IT, hIT⟩ : ∃ IT, Lib.itoa pw = IT := ⟨_, rfl⟩
          have hITl : IT.length ≤ 5 := by rw [← hIT]; exact itoa_len hp1 hp2
          refine (Tryz.strconv_Itoa _ (by omega) (by omega) _ (HV.out.below HBC.out HV.out.size).itab).mono ?_
          rintro e w4 ⟨rfl, qk, os, hq⟩
          have HBI := Lib.hid (show Below w1.heap.size w1 w4 by rw [hq]; exact HBC.out.trans (Lib.below_grow _ _ HBC.out.size qk os))
          clear hq
          rw [hIT]
          have htx : ((⟨#[48, 46]⟩ : ByteArray) ++ ⟨F.toArray⟩ ++ ⟨#[101]⟩ ++ ⟨IT.toArray⟩).data.toList = decText F (Lib.decDigits pw.natAbs) (decide (pw < 0)) := by
            rw [← decText_of, hIT, ByteArray.data_append, ByteArray.data_append, ByteArray.data_append, Array.toList_append, Array.toList_append, Array.toList_append]; rfl
          have HTX := Lib.hid htx
          clear hIT htx
          go_wp2_with fail
          refine (pf_any _ _ F (Lib.decDigits pw.natAbs) (decide (pw < 0)) HTX.out (HFI.out pw hp1 hp2) (HV.out.below HBI.out HV.out.size)).mono ?_
          rintro e w5 ⟨err, rfl, hb5⟩
          have HB5 := Lib.hid (HBI.out.trans (hb5.mono HBI.out.size))
          rw [texp_of]
          obtain ⟨R, hR⟩ : ∃ R : Nat, rdec F pw = R := ⟨_, rfl⟩
          rw [hR]
          have HRR := Lib.hid hR
          have hRl : R ≤ infR := by rw [← hR]; exact rn_le_infR (UD_pos _)
          clear hR hb5
          by_cases hsg : sg = [45]
          · have hb0 := HNEG.out.1 hsg
            have hng := neg_float R hRl
            have HG := Lib.hid hsg
            clear hsg
            go_wp2_with fail
            go_ret
            exact ⟨ret_flt (by rw [numV, if_pos HG.out, magV_of HFG.out HFT.out HPC.out HRR.out]), HB5.out⟩
          · have hb0 := HNEG.out.2 hsg
            have HG := Lib.hid hsg
            clear hsg
            go_wp2_with fail
            go_ret
            exact ⟨ret_flt (by rw [numV, if_neg HG.out, magV_of HFG.out HFT.out HPC.out HRR.out, Nat.zero_add]), HB5.out⟩

end Go.Proofs.YtpnfkipfjanmkaaGreatDoor
