/- DERIVED. WALKS: leftShift. -/
import Derived.Test.YtpnfkipfjanmkaaGreatDoorHDp
set_option linter.unusedVariables false
set_option linter.unusedSimpArgs false
namespace Go.Proofs.YtpnfkipfjanmkaaGreatDoor
open Go.RowKit Flt

def cutLen (k : Nat) : Nat := if k = 0 then 0 else k * 699 / 1000 + 1
def cutB (k : Nat) : ByteArray := ⟨((List.range (cutLen k)).map fun i => UInt8.ofNat (dig (5 ^ k) (cutLen k) i + 48)).toArray⟩
def cutDelta (k : Nat) : Nat := if k = 0 then 0 else k + 1 - cutLen k

/-- leftcheats, below block N. -/
def Cheats (N : Nat) (w : World) : Prop :=
  ∃ b off, w.cell? ⟨14, 0, none⟩ = some (.slice (some ⟨b, off, none⟩) 61 61) ∧ b < N ∧ ∀ k, k < 61 → w.cell? ⟨b, off + k * 2, none⟩ = some (.int .i64 (cutDelta k : Nat)) ∧ w.cell? ⟨b, off + k * 2 + 1, none⟩ = some (.string (cutB k))

theorem Cheats.below {N B : Nat} {w w' : World} (h : Cheats N w) (hb : Below B w w') (hB : N ≤ B) (hg : 14 < N) : Cheats N w' := by
  obtain ⟨b, off, h1, h2, h3⟩ := h
  exact ⟨b, off, by rw [hb.cell (by show 14 < B; omega)]; exact h1, h2, fun k hk => by
    rw [hb.cell (by show b < B; omega), hb.cell (by show b < B; omega)]; exact h3 k hk⟩

theorem cut_facts : ∀ k : Nat, k < 61 → 0 < k → 10 ^ (cutLen k - 1) ≤ 5 ^ k ∧ 5 ^ k < 10 ^ cutLen k ∧ 5 ^ k % 10 ≠ 0 ∧ 1 ≤ cutLen k ∧ cutLen k ≤ k ∧ cutLen k ≤ 100 ∧ cutDelta k = k + 1 - cutLen k := by
  decide +kernel

theorem cutB_size (k : Nat) : (cutB k).size = cutLen k := by
  show (cutB k).data.size = _; simp [cutB]
theorem cutB_at (k i : Nat) (h : i < (cutB k).size) : ((cutB k)[i]'h).toNat = dig (5 ^ k) (cutLen k) i + 48 := by
  have : (cutB k)[i]'h = UInt8.ofNat (dig (5 ^ k) (cutLen k) i + 48) := by
    show (cutB k).data[i]'_ = _
    simp [cutB]
  rw [this, UInt8.toNat_ofNat', Nat.mod_eq_of_lt (by have := dig_lt (5 ^ k) (cutLen k) i; omega)]

/-- How many digits V·2^k has. -/
def lsN (n k V : Nat) : Nat := n + (k + 1 - cutLen k) - (if V * 10 ^ cutLen k < 5 ^ k * 10 ^ n then 1 else 0)

theorem lsN_bounds {n k V : Nat} (hk0 : 0 < k) (hk : k < 61) (hn : 0 < n) (hV : V < 10 ^ n) (hV1 : 10 ^ (n - 1) ≤ V) :
    10 ^ (lsN n k V - 1) ≤ V * 2 ^ k ∧ V * 2 ^ k < 10 ^ lsN n k V ∧ n ≤ lsN n k V ∧ lsN n k V ≤ n + k := by
  obtain ⟨h1, h2, _, h3, h4, _⟩ := cut_facts k hk hk0
  have e10 : (10 : Nat) ^ k = 5 ^ k * 2 ^ k := by rw [← Nat.mul_pow]
  have p5 : 0 < 5 ^ k := Nat.pow_pos (by omega)
  have p2 : 0 < 2 ^ k := Nat.pow_pos (by omega)
  generalize hL : cutLen k = L at *
  unfold lsN
  rw [hL]
  by_cases hlt : V * 10 ^ L < 5 ^ k * 10 ^ n
  · rw [if_pos hlt]
    refine ⟨?_, ?_, by omega, by omega⟩
    · refine Nat.le_of_mul_le_mul_right (c := 10 ^ L) ?_ (Nat.pow_pos (by omega))
      have e : 10 ^ (n + (k + 1 - L) - 1 - 1) * 10 ^ L = 10 ^ (n - 1) * 10 ^ k := by rw [← Nat.pow_add, ← Nat.pow_add]; congr 1; omega
      rw [e, e10]
      calc 10 ^ (n - 1) * (5 ^ k * 2 ^ k) ≤ V * (10 ^ L * 2 ^ k) := Nat.mul_le_mul hV1 (Nat.mul_le_mul_right _ (Nat.le_of_lt h2))
        _ = V * 2 ^ k * 10 ^ L := by ac_rfl
    · refine Nat.lt_of_mul_lt_mul_right (a := 10 ^ L) ?_
      have e : 10 ^ (n + (k + 1 - L) - 1) * 10 ^ L = 10 ^ n * 10 ^ k := by rw [← Nat.pow_add, ← Nat.pow_add]; congr 1; omega
      rw [e, e10]
      calc V * 2 ^ k * 10 ^ L = V * 10 ^ L * 2 ^ k := by ac_rfl
        _ < 5 ^ k * 10 ^ n * 2 ^ k := Nat.mul_lt_mul_of_pos_right hlt p2
        _ = 10 ^ n * (5 ^ k * 2 ^ k) := by ac_rfl
  · rw [if_neg hlt]
    refine ⟨?_, ?_, by omega, by omega⟩
    · refine Nat.le_of_mul_le_mul_right (c := 10 ^ L) ?_ (Nat.pow_pos (by omega))
      have e : 10 ^ (n + (k + 1 - L) - 0 - 1) * 10 ^ L = 10 ^ n * 10 ^ k := by rw [← Nat.pow_add, ← Nat.pow_add]; congr 1; omega
      rw [e, e10]
      calc 10 ^ n * (5 ^ k * 2 ^ k) = 5 ^ k * 10 ^ n * 2 ^ k := by ac_rfl
        _ ≤ V * 10 ^ L * 2 ^ k := Nat.mul_le_mul_right _ (Nat.not_lt.1 hlt)
        _ = V * 2 ^ k * 10 ^ L := by ac_rfl
    · refine Nat.lt_of_mul_lt_mul_right (a := 10 ^ (L - 1)) ?_
      have e : 10 ^ (n + (k + 1 - L) - 0) * 10 ^ (L - 1) = 10 ^ n * 10 ^ k := by rw [← Nat.pow_add, ← Nat.pow_add]; congr 1; omega
      rw [e, e10]
      calc V * 2 ^ k * 10 ^ (L - 1) = V * (10 ^ (L - 1) * 2 ^ k) := by ac_rfl
        _ ≤ V * (5 ^ k * 2 ^ k) := Nat.mul_le_mul_left _ (Nat.mul_le_mul_right _ h1)
        _ < 10 ^ n * (5 ^ k * 2 ^ k) := Nat.mul_lt_mul_of_pos_right hV (Nat.mul_pos p5 p2)

/-- The carry behind j digits. -/
def lsC (V k j : Nat) : Nat := V % 10 ^ j * 2 ^ k / 10 ^ j

theorem lsC_lt (V k j : Nat) : lsC V k j < 2 ^ k := by
  unfold lsC
  refine Nat.div_lt_of_lt_mul ?_
  exact Nat.mul_lt_mul_of_pos_right (Nat.mod_lt _ (Nat.pow_pos (by omega))) (Nat.pow_pos (by omega))

theorem lsC_step (V k j : Nat) : lsC V k (j + 1) = (lsC V k j + V / 10 ^ j % 10 * 2 ^ k) / 10 ∧ V * 2 ^ k / 10 ^ j % 10 = (lsC V k j + V / 10 ^ j % 10 * 2 ^ k) % 10 := by
  unfold lsC
  have hp : 0 < 10 ^ j := Nat.pow_pos (by omega)
  have e1 : V % 10 ^ (j + 1) = V % 10 ^ j + 10 ^ j * (V / 10 ^ j % 10) := by rw [Nat.pow_succ, Nat.mod_mul]
  constructor
  · rw [e1, Nat.pow_succ, ← Nat.div_div_eq_div_mul, Nat.add_mul]
    congr 1
    rw [Nat.mul_assoc, Nat.add_mul_div_left _ _ hp]
  · have e2 : V * 2 ^ k = V % 10 ^ j * 2 ^ k + 10 ^ j * (V / 10 ^ j * 2 ^ k) := by
      have := Nat.mod_add_div V (10 ^ j)
      calc V * 2 ^ k = (V % 10 ^ j + 10 ^ j * (V / 10 ^ j)) * 2 ^ k := by rw [this]
        _ = _ := by rw [Nat.add_mul, Nat.mul_assoc]
    rw [e2, Nat.add_mul_div_left _ _ hp]
    generalize V % 10 ^ j * 2 ^ k / 10 ^ j = c
    generalize V / 10 ^ j = q
    have : q * 2 ^ k % 10 = q % 10 * 2 ^ k % 10 := by simp [Nat.mul_mod]
    omega

theorem lsC_all {V k n : Nat} (h : V < 10 ^ n) : lsC V k n = V * 2 ^ k / 10 ^ n := by unfold lsC; rw [Nat.mod_eq_of_lt h]

/-- Has something been dropped behind place 800, j digits from the right being done? -/
def lsT (X m j : Nat) : Bool := decide (X % 10 ^ min j (m - 800) ≠ 0)
theorem lsT_zero (X m : Nat) : lsT X m 0 = false := by unfold lsT; simp [Nat.mod_one]
theorem lsT_keep {X m j : Nat} (h : m - 1 - j < 800) : lsT X m (j + 1) = lsT X m j := by
  unfold lsT; rw [show min (j + 1) (m - 800) = min j (m - 800) from by omega]
theorem lsT_more {X m j : Nat} (h : 800 ≤ m - 1 - j) : lsT X m (j + 1) = (lsT X m j || decide (X / 10 ^ j % 10 ≠ 0)) := by
  unfold lsT
  rw [show min (j + 1) (m - 800) = j + 1 from by omega, show min j (m - 800) = j from by omega, Nat.pow_succ, Nat.mod_mul, Bool.eq_iff_iff]
  simp only [decide_eq_true_eq, Bool.or_eq_true, ne_eq]
  have hp : 0 < 10 ^ j := Nat.pow_pos (by omega)
  rw [Nat.add_eq_zero_iff, Nat.mul_eq_zero]
  omega

theorem DecB.congr {p : Nat} {D D' : Nat → Int} {nd dp : Int} {ng tr : Bool} {w : World} (h : DecB p D nd dp ng tr w) (e : ∀ i, i < 800 → D i = D' i) : DecB p D' nd dp ng tr w :=
  World.rowIs.congr h fun i hi => by
    unfold dcells
    by_cases a : i < 800
    · rw [if_pos a, if_pos a, e i a]
    · rw [if_neg a, if_neg a]

/-- The digits' cells when j digits of X are written. -/
def lsD (D : Nat → Int) (X m j : Nat) : Nat → Int := fun i => if m - j ≤ i ∧ i < m then (dig X m i : Int) + 48 else D i

theorem lsD_step {D : Nat → Int} {X m j : Nat} (hj : j < m) (i : Nat) : (if i = m - 1 - j then ((dig X m (m - 1 - j) : Nat) : Int) + 48 else lsD D X m j i) = lsD D X m (j + 1) i := by
  unfold lsD
  by_cases e : i = m - 1 - j
  · rw [if_pos e, if_pos (by omega), e]
  · rw [if_neg e]
    by_cases h : m - j ≤ i ∧ i < m
    · rw [if_pos h, if_pos (by omega)]
    · rw [if_neg h, if_neg (by omega)]
theorem lsD_over {D : Nat → Int} {X m j : Nat} (hj : 800 ≤ m - 1 - j) (i : Nat) (hi : i < 800) : lsD D X m j i = lsD D X m (j + 1) i := by
  unfold lsD
  by_cases h : m - j ≤ i ∧ i < m
  · rw [if_pos h, if_pos (by omega)]
  · rw [if_neg h, if_neg (by omega)]

theorem slice304 (p n : Nat) (w : World) (hn : n ≤ 800) : (Instr.sliceAt 304 (.pointer (some ⟨p, 0, none⟩)) (some (.int .i64 0)) (some (.int .i64 n)) none).run Tryz.prog w = .ok (.slice (some ⟨p, 0, none⟩) n 800) w := by
  have h304 : Tryz.prog.underlying 304 = some (.array (Tryz.prog.arrayLen 304) (Tryz.prog.elem 304)) := by kernel_rfl
  have hl : Tryz.prog.arrayLen 304 = 800 := by kernel_rfl
  have he : Tryz.prog.elem 304 = 5 := by kernel_rfl
  have h5 : sizeOf 5 = sizeOf 5 := rfl
  rw [run_sliceAt_array_lh w 304 _ h304 .i64 .i64 0 n (by omega) (by omega) (by rw [hl]; omega), hl, he]
  simp [slicedAt, go_sem]

set_option maxHeartbeats 3200000 in
set_option maxRecDepth 100000 in
theorem ls_core (p n k δ V X de b off : Nat) (D : Nat → Int) (E : Nat → Nat) (dp : Int) (ng tr lt : Bool) (S : ByteArray) (w : World) (h : DecB p D n dp ng tr w)
    (hpb : b < p) (hp14 : 14 < p) (hD : ∀ i, i < n → D i = (E i : Int) + 48) (hE : ∀ i, i < n → E i < 10) (hn : n ≤ 800) (hk0 : 0 < k) (hk : k < 61) (hdp : -100000 ≤ dp) (hdp2 : dp ≤ 100000)
    (c14 : w.cell? ⟨14, 0, none⟩ = some (.slice (some ⟨b, off, none⟩) 61 61)) (cd : w.cell? ⟨b, off + k * 2, none⟩ = some (.int .i64 (de : Nat))) (cs : w.cell? ⟨b, off + k * 2 + 1, none⟩ = some (.string S))
    (HP : Hid (∀ w' : World, (∀ i, i < n → World.cell? w' ⟨p, i, none⟩ = some (.int .u8 ((E i : Int) + 48))) →
      Calls Tryz.prog 341 #[.slice (some ⟨p, 0, none⟩) n 800, .string S] w' fun e w'' => e = .returned (.bool lt) ∧ ∃ k, w'' = w'.drewN k))
    (hde : (de : Int) - (if lt = true then 1 else 0) = δ) (hδ : δ ≤ 60) (hV : V < 10 ^ n) (hX : V * 2 ^ k = X) (hm1 : 10 ^ (n + δ - 1) ≤ X) (hm2 : X < 10 ^ (n + δ)) (hdig : ∀ i, i < n → V / 10 ^ (n - 1 - i) % 10 = E i)
    (t : Nat) (ht : trimN (lsD D X (n + δ) (n + δ)) (min (n + δ) 800) = t) (dq : Int) (hdq : (if t = 0 then 0 else dp + δ) = dq) :
    Calls Tryz.prog 312 #[.pointer (some ⟨p, 0, none⟩), .int .u64 k] w fun e w' => e = .returned (.tuple #[]) ∧ Below p w w' ∧
      DecB p (lsD D X (n + δ) (n + δ)) t dq ng (tr || lsT X (n + δ) (n + δ)) w' := by
  obtain ⟨m, hmm⟩ : ∃ m, n + δ = m := ⟨_, rfl⟩
  rw [hmm] at hm1 hm2 ht ⊢
  have hp60 : 2 ^ k ≤ 2 ^ 60 := Nat.pow_le_pow_right (by omega) (by omega)
  have HH := Lib.hid h
  have HD := Lib.hid hD
  have HE := Lib.hid hE
  have HV := Lib.hid hV
  have HM1 := Lib.hid hm1
  have HM2 := Lib.hid hm2
  have HX := Lib.hid hX
  have HDG := Lib.hid hdig
  have HMM := Lib.hid hmm
  have HT := Lib.hid ht
  have HDQ := Lib.hid hdq
  have h0 := h.nd'
  have hf := h.fz
  have hb0 : ∀ q, ∀ i, i < n → World.cell? (w.drewN q) ⟨p, i, none⟩ = some (.int .u8 ((E i : Int) + 48)) := fun q i hi => by
    have := HH.out.dig (i := i) (by omega)
    rw [HD.out i hi] at this
    exact this
  have hsl := fun w => slice304 p n w hn
  have HB0 := Lib.hid hb0
  have hq := Lib.hid hp60
  clear h hD hE hV hm1 hm2 hX hdig hb0 hp60 ht hdq
  clear hmm
  cases lt
  · have hde2 : (de : Int) = δ := by simpa using hde
    clear hde
    go_enter Tryz.func312, Tryz.ntmps312
    go_wp2_with fail
    go_quiet ((go_at_call 341; exact Calls.quiet_of (HP.out _ (HB0.out _))))
    go_wp2_with fail
    go_loopw [5, 6, 7] (fun r wi c wr => ∃ R : Nat, R ≤ n ∧ r = .int .i64 ((R : Int) - 1) ∧ wi = .int .i64 ((δ : Int) + R) ∧ c = .int .u64 (lsC V k (n - R) : Nat) ∧ Below p w wr ∧ DecB p (lsD D X m (n - R)) n dp ng (tr || lsT X m (n - R)) wr) (fun r _ _ _ => (intOf r + 1).toNat)
    case atStart =>
      refine ⟨n, Nat.le_refl _, rfl, int_eq (by omega), ?_, below_drewN (Below.refl _ _) _, ?_⟩
      · rw [Nat.sub_self]; unfold lsC; simp [Nat.mod_one]
      · rw [Nat.sub_self, lsT_zero, Bool.or_false]
        exact (HH.out.drewN nq).congr fun i _ => by unfold lsD; rw [if_neg (by omega)]
    case round =>
      obtain ⟨R, hR, rfl, rfl, rfl, hb, hd⟩ := hrel
      rcases R with _ | R
      · have HB := Lib.hid hb
        have HDD := Lib.hid hd
        clear hb hd
        have e0 : ((0 : Nat) : Int) - 1 = -1 := by omega
        have e1 : (δ : Int) + ((0 : Nat) : Int) = δ := by omega
        rw [e0, e1, Nat.sub_zero, lsC_all HV.out, HX.out]
        go_wp2_with fail
        go_loopw [6, 7] (fun wi c wx => ∃ R : Nat, R ≤ δ ∧ wi = .int .i64 R ∧ c = .int .u64 (X / 10 ^ (m - R) : Nat) ∧ Below p w wx ∧ DecB p (lsD D X m (m - R)) n dp ng (tr || lsT X m (m - R)) wx) (fun wi _ _ => (intOf wi).toNat)
        case atStart =>
          have hmm := HMM.out
          have hmd : m - δ = n := by omega
          exact ⟨δ, Nat.le_refl _, rfl, by rw [hmd], HB.out, by rw [hmd]; exact HDD.out⟩
        case round =>
          obtain ⟨R, hR, rfl, rfl, hb, hd⟩ := hrel
          have HB := Lib.hid hb
          have HDD := Lib.hid hd
          clear hb hd
          rcases R with _ | R
          · rw [Nat.sub_zero, Nat.div_eq_of_lt HM2.out]
            have hdd := HDD.out
            rw [Nat.sub_zero] at hdd
            have HDD := Lib.hid hdd
            have c0 := hdd.nd'
            have c1 := hdd.dp'
            have cf := hdd.fz
            have hmm := HMM.out
            have hms : (n : Int) + δ = m := by omega
            have htr := fun (q : Nat) (dp : Int) (wz : World) (h : DecB p (lsD D X m m) q dp ng (tr || lsT X m m) wz) (hq : q ≤ 800) => dtrim_any p q (lsD D X m m) dp ng (tr || lsT X m m) wz h hq
            have HTR := Lib.hid htr
            clear hdd htr hmm
            by_cases h8 : 800 ≤ m
            · have hte := HT.out
              rw [show min m 800 = 800 from by omega] at hte
              have HTE := Lib.hid hte
              clear hte
              go_wp2_with fail
              refine (HTR.out 800 (dp + δ) _ ((((HDD.out.setNd m).setNd 800).setDp (dp + δ))) (by omega)).mono ?_
              rintro e w9 ⟨rfl, hb9, hd9⟩
              go_wp2_with fail
              ((try simp only [Exit.inBlock, Exit.then]); first | refine bodyPost_end (results_none rfl _ _ _) rfl ?_ | refine bodyPost_ret (results_none rfl _ _ _) rfl ?_)
              rw [HTE.out, HDQ.out] at hd9
              exact ⟨rfl, (((HB.out.setCell (Nat.le_refl _) _).setCell (Nat.le_refl _) _).setCell (Nat.le_refl _) _).trans hb9, hd9⟩
            · have hte := HT.out
              rw [show min m 800 = m from by omega] at hte
              have HTE := Lib.hid hte
              clear hte
              go_wp2_with fail
              refine (HTR.out m (dp + δ) _ (((HDD.out.setNd m).setDp (dp + δ))) (by omega)).mono ?_
              rintro e w9 ⟨rfl, hb9, hd9⟩
              go_wp2_with fail
              ((try simp only [Exit.inBlock, Exit.then]); first | refine bodyPost_end (results_none rfl _ _ _) rfl ?_ | refine bodyPost_ret (results_none rfl _ _ _) rfl ?_)
              rw [HTE.out, HDQ.out] at hd9
              exact ⟨rfl, ((HB.out.setCell (Nat.le_refl _) _).setCell (Nat.le_refl _) _).trans hb9, hd9⟩
          · have hmm := HMM.out
            have e1 : ((R + 1 : Nat) : Int) = (R : Int) + 1 := by omega
            have e2 : (R : Int) + 1 - 1 = (R : Int) := by omega
            rw [e1]
            obtain ⟨T, hT⟩ : ∃ T, X / 10 ^ (m - (R + 1)) = T := ⟨_, rfl⟩
            have hTpos : 0 < T := by
              rw [← hT]
              refine Nat.div_pos (Nat.le_trans (Nat.pow_le_pow_right (by omega) (by omega)) HM1.out) (Nat.pow_pos (by omega))
            have hTb : T ≤ 2 ^ 60 := by
              have h1 : X / 10 ^ (m - (R + 1)) ≤ X / 10 ^ n := Nat.div_le_div_left (Nat.pow_le_pow_right (by omega) (by omega)) (Nat.pow_pos (by omega))
              have h2 := lsC_lt V k n
              rw [lsC_all HV.out, HX.out] at h2
              rw [← hT]
              exact Nat.le_trans h1 (Nat.le_trans (Nat.le_of_lt h2) hq.out)
            obtain ⟨rm, hrm⟩ : ∃ rm, T % 10 = rm := ⟨_, rfl⟩
            have hr : (T : Int) - 10 * ((T : Int) / 10) = (rm : Int) := by omega
            have hrb : rm < 10 := by omega
            have hdg : dig X m R = rm := by
              unfold dig; rw [show m - 1 - R = m - (R + 1) from by omega, hT, hrm]
            have hqo : X / 10 ^ (m - R) = T / 10 := by
              rw [← hT, Nat.div_div_eq_div_mul, ← Nat.pow_succ, show (m - (R + 1)).succ = m - R from by omega]
            rw [hT]
            have HDG2 := Lib.hid hdg
            have HQO := Lib.hid hqo
            have HRM := Lib.hid hrm
            clear hdg hqo hrm hT
            have h8 : R < 800 := by omega
            have hct := HDD.out.dig h8
            have hfz := HDD.out.fz
            clear hmm
            go_wp2_with fail
            have hmm := HMM.out
            refine ⟨⟨R, by omega, rfl, int_eq (by rw [HQO.out]; omega), HB.out.setCell (Nat.le_refl _) _, ?_⟩, by simp [intOf]⟩
            have hs := HDD.out.setDig h8 ((rm : Int) + 48)
            rw [show m - R = m - (R + 1) + 1 from by omega, lsT_keep (by omega)]
            refine hs.congr fun i _ => ?_
            rw [← lsD_step (by omega), show m - 1 - (m - (R + 1)) = R from by omega, HDG2.out]
      · have hmm := HMM.out
        have e1 : ((R + 1 : Nat) : Int) - 1 = R := by omega
        have e2 : (δ : Int) + ((R + 1 : Nat) : Int) = ((δ + R : Nat) : Int) + 1 := by omega
        have e3 : ((δ + R : Nat) : Int) + 1 - 1 = ((δ + R : Nat) : Int) := by omega
        rw [e1, e2]
        have hc := hd.dig (i := R) (by omega)
        have hD1 : lsD D X m (n - (R + 1)) R = (E R : Int) + 48 := by
          unfold lsD
          rw [if_neg (by omega), HD.out R (by omega)]
        rw [hD1] at hc
        have hER := HE.out R (by omega)
        have hfz := hd.fz
        generalize hcc : lsC V k (n - (R + 1)) = c
        have hclt : c < 2 ^ k := hcc ▸ lsC_lt ..
        obtain ⟨M, hM⟩ : ∃ M, E R * 2 ^ k = M := ⟨_, rfl⟩
        have hMb : M ≤ 9 * 2 ^ 60 := hM ▸ Nat.mul_le_mul (by omega) hq.out
        have hcb : c ≤ 2 ^ 60 := Nat.le_trans (Nat.le_of_lt hclt) hq.out
        have hs1 : IntKind.u64.wrap ((E R : Int) * 2 ^ k) = (M : Int) := by
          have : (E R : Int) * 2 ^ k = (M : Int) := by rw [← hM]; push_cast; rfl
          rw [this, IntKind.wrap_u64]; omega
        obtain ⟨T, hT⟩ : ∃ T, c + M = T := ⟨_, rfl⟩
        have hs2 : IntKind.u64.wrap ((c : Int) + M) = (T : Int) := by rw [IntKind.wrap_u64]; omega
        have hTb : T ≤ 10 * 2 ^ 60 := by omega
        have hst := lsC_step V k (n - (R + 1))
        rw [show n - (R + 1) + 1 = n - R from by omega, hcc, show n - (R + 1) = n - 1 - R from by omega, HDG.out R (by omega), hM, hT, HX.out] at hst
        obtain ⟨rm, hrm⟩ : ∃ rm, T % 10 = rm := ⟨_, rfl⟩
        rw [hrm] at hst
        have hr : (T : Int) - 10 * ((T : Int) / 10) = (rm : Int) := by omega
        have hrb : rm < 10 := by omega
        have HST := Lib.hid hst
        have HB := Lib.hid hb
        have HDD := Lib.hid hd
        have HRM := Lib.hid hrm
        have hmr : m - 1 - (n - (R + 1)) = δ + R := by omega
        have HMR := Lib.hid hmr
        clear hst hcc hM hT hclt hb hd hD1 e1 hmm hrm hmr
        by_cases h8 : δ + R < 800
        · have hct := HDD.out.dig h8
          go_wp2_with fail
          refine ⟨⟨R, by omega, rfl, rfl, int_eq (by rw [HST.out.1]; omega), HB.out.setCell (Nat.le_refl _) _, ?_⟩, by simp [intOf]⟩
          have hs := HDD.out.setDig h8 ((rm : Int) + 48)
          have hmr := HMR.out
          rw [show n - R = n - (R + 1) + 1 from by omega, lsT_keep (by omega)]
          refine hs.congr fun i _ => ?_
          have hmm := HMM.out
          rw [← lsD_step (by omega), hmr]
          have : dig X m (δ + R) = rm := by
            unfold dig; rw [show m - 1 - (δ + R) = n - 1 - R from by omega]; exact HST.out.2
          rw [this]
        · have hct := HDD.out.tr'
          by_cases h0 : rm = 0
          · subst h0
            go_wp2_with fail
            refine ⟨⟨R, by omega, rfl, rfl, int_eq (by rw [HST.out.1]; omega), HB.out, ?_⟩, by simp [intOf]⟩
            have hs := HDD.out
            have hmr := HMR.out
            rw [show n - R = n - (R + 1) + 1 from by omega, lsT_more (by omega)]
            have : X / 10 ^ (n - (R + 1)) % 10 = 0 := by
              rw [show n - (R + 1) = n - 1 - R from by omega]; exact HST.out.2
            rw [this]
            simp only [ne_eq, not_true_eq_false, decide_false, Bool.or_false]
            exact hs.congr fun i hi => lsD_over (by omega) i hi
          · go_wp2_with fail
            refine ⟨⟨R, by omega, rfl, rfl, int_eq (by rw [HST.out.1]; omega), HB.out.setCell (Nat.le_refl _) _, ?_⟩, by simp [intOf]⟩
            have hs := HDD.out.setTr true
            have hmr := HMR.out
            rw [show n - R = n - (R + 1) + 1 from by omega, lsT_more (by omega)]
            have : X / 10 ^ (n - (R + 1)) % 10 = rm := by
              rw [show n - (R + 1) = n - 1 - R from by omega]; exact HST.out.2
            rw [this, decide_eq_true (show rm ≠ 0 from h0), Bool.or_true, Bool.or_true]
            exact hs.congr fun i hi => lsD_over (by omega) i hi
  · have hde2 : (de : Int) - 1 = δ := by simpa using hde
    clear hde
    go_enter Tryz.func312, Tryz.ntmps312
    go_wp2_with fail
    go_quiet ((go_at_call 341; exact Calls.quiet_of (HP.out _ (HB0.out _))))
    go_wp2_with fail
    go_loopw [5, 6, 7] (fun r wi c wr => ∃ R : Nat, R ≤ n ∧ r = .int .i64 ((R : Int) - 1) ∧ wi = .int .i64 ((δ : Int) + R) ∧ c = .int .u64 (lsC V k (n - R) : Nat) ∧ Below p w wr ∧ DecB p (lsD D X m (n - R)) n dp ng (tr || lsT X m (n - R)) wr) (fun r _ _ _ => (intOf r + 1).toNat)
    case atStart =>
      refine ⟨n, Nat.le_refl _, rfl, int_eq (by omega), ?_, below_drewN (Below.refl _ _) _, ?_⟩
      · rw [Nat.sub_self]; unfold lsC; simp [Nat.mod_one]
      · rw [Nat.sub_self, lsT_zero, Bool.or_false]
        exact (HH.out.drewN nq).congr fun i _ => by unfold lsD; rw [if_neg (by omega)]
    case round =>
      obtain ⟨R, hR, rfl, rfl, rfl, hb, hd⟩ := hrel
      rcases R with _ | R
      · have HB := Lib.hid hb
        have HDD := Lib.hid hd
        clear hb hd
        have e0 : ((0 : Nat) : Int) - 1 = -1 := by omega
        have e1 : (δ : Int) + ((0 : Nat) : Int) = δ := by omega
        rw [e0, e1, Nat.sub_zero, lsC_all HV.out, HX.out]
        go_wp2_with fail
        go_loopw [6, 7] (fun wi c wx => ∃ R : Nat, R ≤ δ ∧ wi = .int .i64 R ∧ c = .int .u64 (X / 10 ^ (m - R) : Nat) ∧ Below p w wx ∧ DecB p (lsD D X m (m - R)) n dp ng (tr || lsT X m (m - R)) wx) (fun wi _ _ => (intOf wi).toNat)
        case atStart =>
          have hmm := HMM.out
          have hmd : m - δ = n := by omega
          exact ⟨δ, Nat.le_refl _, rfl, by rw [hmd], HB.out, by rw [hmd]; exact HDD.out⟩
        case round =>
          obtain ⟨R, hR, rfl, rfl, hb, hd⟩ := hrel
          have HB := Lib.hid hb
          have HDD := Lib.hid hd
          clear hb hd
          rcases R with _ | R
          · rw [Nat.sub_zero, Nat.div_eq_of_lt HM2.out]
            have hdd := HDD.out
            rw [Nat.sub_zero] at hdd
            have HDD := Lib.hid hdd
            have c0 := hdd.nd'
            have c1 := hdd.dp'
            have cf := hdd.fz
            have hmm := HMM.out
            have hms : (n : Int) + δ = m := by omega
            have htr := fun (q : Nat) (dp : Int) (wz : World) (h : DecB p (lsD D X m m) q dp ng (tr || lsT X m m) wz) (hq : q ≤ 800) => dtrim_any p q (lsD D X m m) dp ng (tr || lsT X m m) wz h hq
            have HTR := Lib.hid htr
            clear hdd htr hmm
            by_cases h8 : 800 ≤ m
            · have hte := HT.out
              rw [show min m 800 = 800 from by omega] at hte
              have HTE := Lib.hid hte
              clear hte
              go_wp2_with fail
              refine (HTR.out 800 (dp + δ) _ ((((HDD.out.setNd m).setNd 800).setDp (dp + δ))) (by omega)).mono ?_
              rintro e w9 ⟨rfl, hb9, hd9⟩
              go_wp2_with fail
              ((try simp only [Exit.inBlock, Exit.then]); first | refine bodyPost_end (results_none rfl _ _ _) rfl ?_ | refine bodyPost_ret (results_none rfl _ _ _) rfl ?_)
              rw [HTE.out, HDQ.out] at hd9
              exact ⟨rfl, (((HB.out.setCell (Nat.le_refl _) _).setCell (Nat.le_refl _) _).setCell (Nat.le_refl _) _).trans hb9, hd9⟩
            · have hte := HT.out
              rw [show min m 800 = m from by omega] at hte
              have HTE := Lib.hid hte
              clear hte
              go_wp2_with fail
              refine (HTR.out m (dp + δ) _ (((HDD.out.setNd m).setDp (dp + δ))) (by omega)).mono ?_
              rintro e w9 ⟨rfl, hb9, hd9⟩
              go_wp2_with fail
              ((try simp only [Exit.inBlock, Exit.then]); first | refine bodyPost_end (results_none rfl _ _ _) rfl ?_ | refine bodyPost_ret (results_none rfl _ _ _) rfl ?_)
              rw [HTE.out, HDQ.out] at hd9
              exact ⟨rfl, ((HB.out.setCell (Nat.le_refl _) _).setCell (Nat.le_refl _) _).trans hb9, hd9⟩
          · have hmm := HMM.out
            have e1 : ((R + 1 : Nat) : Int) = (R : Int) + 1 := by omega
            have e2 : (R : Int) + 1 - 1 = (R : Int) := by omega
            rw [e1]
            obtain ⟨T, hT⟩ : ∃ T, X / 10 ^ (m - (R + 1)) = T := ⟨_, rfl⟩
            have hTpos : 0 < T := by
              rw [← hT]
              refine Nat.div_pos (Nat.le_trans (Nat.pow_le_pow_right (by omega) (by omega)) HM1.out) (Nat.pow_pos (by omega))
            have hTb : T ≤ 2 ^ 60 := by
              have h1 : X / 10 ^ (m - (R + 1)) ≤ X / 10 ^ n := Nat.div_le_div_left (Nat.pow_le_pow_right (by omega) (by omega)) (Nat.pow_pos (by omega))
              have h2 := lsC_lt V k n
              rw [lsC_all HV.out, HX.out] at h2
              rw [← hT]
              exact Nat.le_trans h1 (Nat.le_trans (Nat.le_of_lt h2) hq.out)
            obtain ⟨rm, hrm⟩ : ∃ rm, T % 10 = rm := ⟨_, rfl⟩
            have hr : (T : Int) - 10 * ((T : Int) / 10) = (rm : Int) := by omega
            have hrb : rm < 10 := by omega
            have hdg : dig X m R = rm := by
              unfold dig; rw [show m - 1 - R = m - (R + 1) from by omega, hT, hrm]
            have hqo : X / 10 ^ (m - R) = T / 10 := by
              rw [← hT, Nat.div_div_eq_div_mul, ← Nat.pow_succ, show (m - (R + 1)).succ = m - R from by omega]
            rw [hT]
            have HDG2 := Lib.hid hdg
            have HQO := Lib.hid hqo
            have HRM := Lib.hid hrm
            clear hdg hqo hrm hT
            have h8 : R < 800 := by omega
            have hct := HDD.out.dig h8
            have hfz := HDD.out.fz
            clear hmm
            go_wp2_with fail
            have hmm := HMM.out
            refine ⟨⟨R, by omega, rfl, int_eq (by rw [HQO.out]; omega), HB.out.setCell (Nat.le_refl _) _, ?_⟩, by simp [intOf]⟩
            have hs := HDD.out.setDig h8 ((rm : Int) + 48)
            rw [show m - R = m - (R + 1) + 1 from by omega, lsT_keep (by omega)]
            refine hs.congr fun i _ => ?_
            rw [← lsD_step (by omega), show m - 1 - (m - (R + 1)) = R from by omega, HDG2.out]
      · have hmm := HMM.out
        have e1 : ((R + 1 : Nat) : Int) - 1 = R := by omega
        have e2 : (δ : Int) + ((R + 1 : Nat) : Int) = ((δ + R : Nat) : Int) + 1 := by omega
        have e3 : ((δ + R : Nat) : Int) + 1 - 1 = ((δ + R : Nat) : Int) := by omega
        rw [e1, e2]
        have hc := hd.dig (i := R) (by omega)
        have hD1 : lsD D X m (n - (R + 1)) R = (E R : Int) + 48 := by
          unfold lsD
          rw [if_neg (by omega), HD.out R (by omega)]
        rw [hD1] at hc
        have hER := HE.out R (by omega)
        have hfz := hd.fz
        generalize hcc : lsC V k (n - (R + 1)) = c
        have hclt : c < 2 ^ k := hcc ▸ lsC_lt ..
        obtain ⟨M, hM⟩ : ∃ M, E R * 2 ^ k = M := ⟨_, rfl⟩
        have hMb : M ≤ 9 * 2 ^ 60 := hM ▸ Nat.mul_le_mul (by omega) hq.out
        have hcb : c ≤ 2 ^ 60 := Nat.le_trans (Nat.le_of_lt hclt) hq.out
        have hs1 : IntKind.u64.wrap ((E R : Int) * 2 ^ k) = (M : Int) := by
          have : (E R : Int) * 2 ^ k = (M : Int) := by rw [← hM]; push_cast; rfl
          rw [this, IntKind.wrap_u64]; omega
        obtain ⟨T, hT⟩ : ∃ T, c + M = T := ⟨_, rfl⟩
        have hs2 : IntKind.u64.wrap ((c : Int) + M) = (T : Int) := by rw [IntKind.wrap_u64]; omega
        have hTb : T ≤ 10 * 2 ^ 60 := by omega
        have hst := lsC_step V k (n - (R + 1))
        rw [show n - (R + 1) + 1 = n - R from by omega, hcc, show n - (R + 1) = n - 1 - R from by omega, HDG.out R (by omega), hM, hT, HX.out] at hst
        obtain ⟨rm, hrm⟩ : ∃ rm, T % 10 = rm := ⟨_, rfl⟩
        rw [hrm] at hst
        have hr : (T : Int) - 10 * ((T : Int) / 10) = (rm : Int) := by omega
        have hrb : rm < 10 := by omega
        have HST := Lib.hid hst
        have HB := Lib.hid hb
        have HDD := Lib.hid hd
        have HRM := Lib.hid hrm
        have hmr : m - 1 - (n - (R + 1)) = δ + R := by omega
        have HMR := Lib.hid hmr
        clear hst hcc hM hT hclt hb hd hD1 e1 hmm hrm hmr
        by_cases h8 : δ + R < 800
        · have hct := HDD.out.dig h8
          go_wp2_with fail
          refine ⟨⟨R, by omega, rfl, rfl, int_eq (by rw [HST.out.1]; omega), HB.out.setCell (Nat.le_refl _) _, ?_⟩, by simp [intOf]⟩
          have hs := HDD.out.setDig h8 ((rm : Int) + 48)
          have hmr := HMR.out
          rw [show n - R = n - (R + 1) + 1 from by omega, lsT_keep (by omega)]
          refine hs.congr fun i _ => ?_
          have hmm := HMM.out
          rw [← lsD_step (by omega), hmr]
          have : dig X m (δ + R) = rm := by
            unfold dig; rw [show m - 1 - (δ + R) = n - 1 - R from by omega]; exact HST.out.2
          rw [this]
        · have hct := HDD.out.tr'
          by_cases h0 : rm = 0
          · subst h0
            go_wp2_with fail
            refine ⟨⟨R, by omega, rfl, rfl, int_eq (by rw [HST.out.1]; omega), HB.out, ?_⟩, by simp [intOf]⟩
            have hs := HDD.out
            have hmr := HMR.out
            rw [show n - R = n - (R + 1) + 1 from by omega, lsT_more (by omega)]
            have : X / 10 ^ (n - (R + 1)) % 10 = 0 := by
              rw [show n - (R + 1) = n - 1 - R from by omega]; exact HST.out.2
            rw [this]
            simp only [ne_eq, not_true_eq_false, decide_false, Bool.or_false]
            exact hs.congr fun i hi => lsD_over (by omega) i hi
          · go_wp2_with fail
            refine ⟨⟨R, by omega, rfl, rfl, int_eq (by rw [HST.out.1]; omega), HB.out.setCell (Nat.le_refl _) _, ?_⟩, by simp [intOf]⟩
            have hs := HDD.out.setTr true
            have hmr := HMR.out
            rw [show n - R = n - (R + 1) + 1 from by omega, lsT_more (by omega)]
            have : X / 10 ^ (n - (R + 1)) % 10 = rm := by
              rw [show n - (R + 1) = n - 1 - R from by omega]; exact HST.out.2
            rw [this, decide_eq_true (show rm ≠ 0 from h0), Bool.or_true, Bool.or_true]
            exact hs.congr fun i hi => lsD_over (by omega) i hi

/-- x·2^k, by digits. -/
theorem leftShift_any {N : Nat} (p n k : Nat) (D : Nat → Int) (E : Nat → Nat) (dp : Int) (ng tr : Bool) (w : World) (hC : Cheats N w) (hN : N ≤ p) (hN14 : 14 < N) (h : DecB p D n dp ng tr w)
    (hD : ∀ i, i < n → D i = (E i : Int) + 48) (hE : ∀ i, i < n → E i < 10) (hn0 : 0 < n) (hn : n ≤ 800) (hE0 : E 0 ≠ 0) (hk0 : 0 < k) (hk : k < 61) (hdp : -100000 ≤ dp) (hdp2 : dp ≤ 100000) :
    ∃ m δ, m = n + δ ∧ 10 ^ (m - 1) ≤ vald E n * 2 ^ k ∧ vald E n * 2 ^ k < 10 ^ m ∧ δ ≤ k ∧
    Calls Tryz.prog 312 #[.pointer (some ⟨p, 0, none⟩), .int .u64 k] w fun e w' => e = .returned (.tuple #[]) ∧ Below p w w' ∧
      DecB p (lsD D (vald E n * 2 ^ k) m m) (trimN (lsD D (vald E n * 2 ^ k) m m) (min m 800) : Nat) (if trimN (lsD D (vald E n * 2 ^ k) m m) (min m 800) = 0 then 0 else dp + δ) ng (tr || lsT (vald E n * 2 ^ k) m m) w' := by
  have hV := vald_lt hE
  have hV1 : 10 ^ (n - 1) ≤ vald E n := by
    have h1 := vald_pre hE (i := 1) (by omega)
    have h2 : vald E 1 = E 0 := by simp [vald]
    rw [h2] at h1
    have := Nat.div_mul_le_self (vald E n) (10 ^ (n - 1))
    rw [← h1] at this
    exact Nat.le_trans (by rw [Nat.mul_comm]; exact Nat.le_mul_of_pos_right _ (by omega)) this
  obtain ⟨hm1, hm2, hm3, hm4⟩ := lsN_bounds hk0 hk hn0 hV hV1
  obtain ⟨b, off, c14, hbN, hcells⟩ := hC
  obtain ⟨cd, cs⟩ := hcells k hk
  obtain ⟨f1, f2, f3, f4, f5, f6, f7⟩ := cut_facts k hk hk0
  obtain ⟨δ, hδ⟩ : ∃ δ, lsN n k (vald E n) = n + δ := ⟨lsN n k (vald E n) - n, by omega⟩
  rw [hδ] at hm1 hm2 hm4
  refine ⟨n + δ, δ, rfl, hm1, hm2, by omega, ?_⟩
  refine ls_core p n k δ (vald E n) (vald E n * 2 ^ k) (cutDelta k) b off D E dp ng tr (decide (vald E n * 10 ^ cutLen k < 5 ^ k * 10 ^ n)) (cutB k) w h (by omega) (by omega) hD hE hn hk0 hk hdp hdp2 c14 cd cs
    (Lib.hid fun w' hb => prefix_any p n 800 E (cutB k) (5 ^ k) (cutLen k) w' hE hb (cutB_size k) (cutB_at k) f3 f2 hn f6) ?_ (by omega) hV rfl hm1 hm2 (fun i hi => (vald_digit hE hi).symm) _ rfl _ rfl
  unfold lsN at hδ
  rw [f7]
  by_cases hlt : vald E n * 10 ^ cutLen k < 5 ^ k * 10 ^ n
  · rw [if_pos hlt] at hδ; rw [decide_eq_true hlt, if_pos rfl]; omega
  · rw [if_neg hlt] at hδ; rw [decide_eq_false hlt, if_neg (by simp)]; omega

end Go.Proofs.YtpnfkipfjanmkaaGreatDoor
