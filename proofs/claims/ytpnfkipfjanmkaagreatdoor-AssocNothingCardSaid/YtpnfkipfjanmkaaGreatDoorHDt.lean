/- DERIVED. WALKS: (*decimal).set at the texts that dec.nearest makes. -/
import Derived.Test.YtpnfkipfjanmkaaGreatDoorHWr
import Derived.Test.YtpnfkipfjanmkaaGreatDoorHDq
import Derived.RegionTactic
set_option linter.unusedVariables false
set_option linter.unusedSimpArgs false
namespace Go.Proofs.YtpnfkipfjanmkaaGreatDoor
open Go.RowKit Flt

/-- What stands in the decimal ahead of place k of the text. -/
def RS (F : List UInt8) (p : Nat) (D0 : Nat → Int) (k : Nat) (sd sg : Value) (wr : World) : Prop :=
  (k = 0 ∧ sd = .bool false ∧ sg = .bool false ∧ DecB p D0 0 0 false false wr) ∨
  (k = 1 ∧ sd = .bool false ∧ sg = .bool true ∧ DecB p D0 0 (-1) false false wr) ∨
  (∃ j, k = j + 2 ∧ j ≤ F.length ∧ sd = .bool true ∧ sg = .bool true ∧ ∃ D : Nat → Int, (∀ i, i < j → D i = ((F.getD i 0).toNat : Int)) ∧ DecB p D j 0 false false wr)

def SetOut (F : List UInt8) (p : Nat) (dp : Int) (w : World) (w' : World) : Prop :=
  Below p w w' ∧ ∃ D : Nat → Int, (∀ i, i < F.length → D i = ((F.getD i 0).toNat : Int)) ∧ DecB p D F.length dp false false w'

theorem RS.step {F : List UInt8} {p j : Nat} {D0 D : Nat → Int} {wr : World} (hD : ∀ i, i < j → D i = ((F.getD i 0).toNat : Int)) (hd : DecB p D j 0 false false wr) (hj : j < F.length) (h8 : j < 800) {c v : Int} (hc : ((F.getD j 0).toNat : Int) = c) (hv : v = (j : Int) + 1) :
    RS F p D0 (j + 3) (.bool true) (.bool true) ((wr.setCell ⟨p, j, none⟩ (.int .u8 c)).setCell ⟨p, 800, none⟩ (.int .i64 v)).drew := by
  refine .inr (.inr ⟨j + 1, rfl, by omega, rfl, rfl, fun i => if i = j then c else D i, fun i hi => ?_, ?_⟩)
  · by_cases e : i = j
    · subst e; exact (if_pos rfl).trans hc.symm
    · exact (if_neg e).trans (hD i (by omega))
  · have h1 := (hd.setDig h8 c).setNd v
    rw [hv, show (j : Int) + 1 = ((j + 1 : Nat) : Int) from by omega] at h1 ⊢
    exact World.rowIs.drew h1

theorem RS.below {p j : Nat} {w wr : World} {a b : Value} (h : Below p w wr) : Below p w ((wr.setCell ⟨p, j, none⟩ a).setCell ⟨p, 800, none⟩ b).drew :=
  below_drewN ((h.setCell (p := ⟨p, j, none⟩) (Nat.le_refl _) _).setCell (p := ⟨p, 800, none⟩) (Nat.le_refl _) _) 1

set_option maxHeartbeats 3200000 in
set_option maxRecDepth 1000000 in
theorem dset_any {p : Nat} (s : ByteArray) (F G : List UInt8) (eneg : Bool) (D0 : Nat → Int) (ng tr : Bool) (w : World) (hs : s.data.toList = decText F G eneg) (hF : Digs F) (hF1 : 0 < F.length) (hF0 : ∀ c, F[0]? = some c → c.toNat ≠ 48) (hFl : F.length ≤ 800) (hG : Digs G) (hG0 : 0 < G.length) (hGl : G.length ≤ 4) (h : DecB p D0 0 0 ng tr w) :
    Calls Tryz.prog 334 #[.pointer (some ⟨p, 0, none⟩), .string s] w fun e w' => e = .returned (.bool true) ∧ SetOut F p (if eneg then -(dval G : Int) else (dval G : Int)) w w' := by
  have hsz : s.size = (decText F G eneg).length := by rw [← hs]; simp
  have hdl : (decText F G eneg).length = F.length + 3 + (if eneg then 1 else 0) + G.length := by unfold decText; cases eneg <;> simp <;> omega
  rw [hdl] at hsz
  have hs2 : F.length + 4 ≤ s.size := by split at hsz <;> omega
  have hs3 : s.size ≤ 100010 := by split at hsz <;> omega
  have b0 := byte_at hs 0 (c := 48) rfl
  have b1 := byte_at hs 1 (c := 46) rfl
  have hE : ¬ s = ByteArray.empty := by intro h; rw [h] at hs2; exact absurd hs2 (by show ¬ _ ≤ 0; omega)
  obtain ⟨v, hv⟩ : ∃ v, dval G = v := ⟨_, rfl⟩
  have hvb : v < 10 ^ 4 := by rw [← hv]; exact Nat.lt_of_lt_of_le (dval_lt hG) (Nat.pow_le_pow_right (by omega) hGl)
  rw [hv]
  have c1 := h.fz
  have c2 := h.nd'
  have c3 := h.dp'
  have c4 := h.ng'
  have c5 := h.tr'
  have HH := Lib.hid h
  have HS := Lib.hid hs
  have HSZ := Lib.hid hsz
  have HV := Lib.hid hv
  clear hs hsz hv h
  go_enter Tryz.func334, Tryz.ntmps334
  go_wp2_with fail
  clear c1 c2 c3 c4 c5
  go_loopw [5, 6, 7] (fun i sd sg wr => ∃ k : Nat, i = .int .i64 k ∧ k ≤ F.length + 2 ∧ Below p w wr ∧ RS F p D0 k sd sg wr) (fun i _ _ _ => s.size - (intOf i).toNat)
  case atStart => exact ⟨0, rfl, by omega, ((Below.refl p w).setCell (p := ⟨p, 802, none⟩) (Nat.le_refl _) _).setCell (p := ⟨p, 803, none⟩) (Nat.le_refl _) _, .inl ⟨rfl, rfl, rfl, (HH.out.setNg false).setTr false⟩⟩
  case round =>
    clear HH
    obtain ⟨k, rfl, hk, hb, hr⟩ := hrel
    have HB := Lib.hid hb
    clear hb
    rcases hr with ⟨rfl, rfl, rfl, hd⟩ | ⟨rfl, rfl, rfl, hd⟩ | ⟨j, rfl, hj, rfl, rfl, D, hD, hd⟩
    · have c1 := hd.fz
      have c2 := hd.nd'
      have c3 := hd.dp'
      have HD := Lib.hid hd
      clear hd
      go_wp2_with fail
      exact ⟨⟨1, rfl, by omega, HB.out.setCell (Nat.le_refl _) _, .inr (.inl ⟨rfl, rfl, rfl, HD.out.setDp _⟩)⟩, by simp [intOf]; omega⟩
    · have c1 := hd.fz
      have c2 := hd.nd'
      have c3 := hd.dp'
      have HD := Lib.hid hd
      clear hd
      go_wp2_with fail
      exact ⟨⟨2, rfl, by omega, HB.out.setCell (Nat.le_refl _) _, .inr (.inr ⟨0, rfl, by omega, rfl, rfl, D0, fun i hi => by omega, HD.out.setDp _⟩)⟩, by simp [intOf]; omega⟩
    · have c1 := hd.fz
      have c2 := hd.nd'
      have c3 := hd.dp'
      have HD := Lib.hid hd
      have HDD := Lib.hid hD
      clear hd hD
      by_cases hjn : j < F.length
      · have hcc := hF.at hjn
        have hc := byte_at HS.out (j + 2) (c := F[j]) (by
          unfold decText
          show (F ++ _)[j]? = _
          rw [List.getElem?_append_left hjn, List.getElem?_eq_getElem hjn])
        have hnz : j = 0 → F[j].toNat ≠ 48 := by
          rintro rfl
          exact hF0 _ (by rw [List.getElem?_eq_getElem hjn])
        have hgd : F.getD j 0 = F[j] := by rw [List.getD_eq_getElem?_getD, List.getElem?_eq_getElem hjn]; rfl
        have HGD := Lib.hid hgd
        clear hgd
        obtain ⟨c, hcv⟩ : ∃ c, F[j].toNat = c := ⟨_, rfl⟩
        rw [hcv] at hc hcc hnz
        have HCV := Lib.hid hcv
        clear hcv
        obtain ⟨hcl, hch⟩ := hcc
        have hlt2 : j + 2 < s.size := by omega
        have hc := hc hlt2
        have c4 := HD.out.dig (i := j) (by omega)
        by_cases h0 : j = 0
        · subst h0
          have hnz' := hnz rfl
          clear hnz
          have hne : ((c : Int) == 48) = false := by rw [beq_eq_false_iff_ne]; omega
          go_wp2_with fail
          go_region
          go_wp2_with fail
          exact ⟨⟨3, rfl, by omega, RS.below HB.out, RS.step HDD.out HD.out hjn (by omega) (by rw [HGD.out, HCV.out]) rfl⟩, by simp [intOf]; omega⟩
        · clear hnz
          by_cases h48 : c = 48
          · subst h48
            go_wp2_with fail
            go_region
            all_goals go_wp2_with fail
            exact ⟨⟨j + 3, int_eq (by omega), by omega, RS.below HB.out, RS.step HDD.out HD.out hjn (by omega) (by rw [HGD.out, HCV.out]; rfl) rfl⟩, by simp [intOf]; omega⟩
          · go_wp2_with fail
            go_region
            all_goals go_wp2_with fail
            exact ⟨⟨j + 3, int_eq (by omega), by omega, RS.below HB.out, RS.step HDD.out HD.out hjn (by omega) (by rw [HGD.out, HCV.out]) rfl⟩, by simp [intOf]; omega⟩
      · have hje : j = F.length := by omega
        subst hje
        have hc := byte_at HS.out (F.length + 2) (c := 101) (by
          unfold decText
          show (F ++ _)[F.length]? = _
          rw [List.getElem?_append_right (Nat.le_refl _)]; simp)
        have hGb : ∀ t, (ht : t < G.length) → ∀ h : F.length + 3 + (if eneg then 1 else 0) + t < s.size, (s[F.length + 3 + (if eneg then 1 else 0) + t]'h).toNat = G[t].toNat := by
          intro t ht
          refine byte_at HS.out _ (c := G[t]) ?_
          unfold decText
          rw [show F.length + 3 + (if eneg then 1 else 0) + t = (F.length + (1 + (if eneg then 1 else 0) + t)) + 2 from by omega]
          show (F ++ 101 :: ((if eneg then [45] else []) ++ G))[F.length + (1 + (if eneg then 1 else 0) + t)]? = _
          rw [List.getElem?_append_right (by omega), Nat.add_sub_cancel_left]
          cases eneg
          · rw [show 1 + (if false = true then 1 else 0) + t = t + 1 from by simp; omega]
            simp [ht]
          · rw [show 1 + (if true = true then 1 else 0) + t = t + 2 from by simp; omega]
            simp [ht]
        have hsgn : eneg = true → ∀ h : F.length + 3 < s.size, (s[F.length + 3]'h).toNat = 45 := by
          intro he
          refine byte_at HS.out _ (c := 45) ?_
          unfold decText
          show (F ++ _)[F.length + 1]? = _
          rw [List.getElem?_append_right (by omega), Nat.add_sub_cancel_left, he]; rfl
        have hg0 := hG.at hG0
        have hl1 : bits .or .u8 101 32 = 101 := by decide +kernel
        have hsz := HSZ.out
        have hfin : ∀ (v : Int) (wr' : World), Below p w wr' → DecB p D F.length v false false wr' → SetOut F p v w wr' := fun v wr' h1 h2 => ⟨h1, D, HDD.out, h2⟩
        have HF := Lib.hid hfin
        clear hfin HDD
        obtain ⟨n, hn⟩ : ∃ n, F.length = n := ⟨_, rfl⟩
        have HGB := Lib.hid hGb
        have HSG := Lib.hid hsgn
        have HSZ2 := Lib.hid hsz
        clear hGb hsgn hdl hsz HSZ
        cases eneg
        · have hsz : s.size = F.length + 3 + G.length := by simpa using HSZ2.out
          have hgb := HGB.out 0 hG0
          simp only [Bool.false_eq_true, if_false, Nat.add_zero] at hgb

          generalize G[0].toNat = g0 at *
          have hlt3 : F.length + 3 < s.size := by omega
          have hlt : F.length + 3 < s.size := by omega
          have HZ := Lib.hid hsz
          clear hsz HSG hn
          obtain ⟨hg1, hg2⟩ := hg0
          go_wp2_with fail
          refine (lower_any _ _).mono ?_
          rintro e w1 ⟨rfl, rfl⟩
          go_wp2_with fail
          go_loop [5, 9] (fun i e => ∃ t : Nat, t ≤ G.length ∧ i = .int .i64 (F.length + 3 + t : Nat) ∧ e = .int .i64 (dval (G.take t) : Nat)) (fun i _ => s.size - (intOf i).toNat)
          case atStart => exact ⟨0, Nat.zero_le _, int_eq (by omega), rfl⟩
          case round =>
            obtain ⟨t, ht, rfl, rfl⟩ := hrel
            by_cases htg : t < G.length
            · have hgt := hG.at htg
              have hgb := HGB.out t htg
              simp only [Bool.false_eq_true, if_false, Nat.add_zero, Nat.add_assoc] at hgb
              simp only [← Nat.add_assoc] at hgb
              have hst := dval_snoc (G.take t) G[t]
              rw [← take_succ_at htg] at hst
              have hb : dval (G.take t) < 10 ^ 3 := Nat.lt_of_lt_of_le (dval_lt (hG.take t)) (Nat.pow_le_pow_right (by omega) (by rw [List.length_take]; omega))
              have hdv : dv G[t] = G[t].toNat - 48 := rfl
              rw [hdv] at hst
              generalize G[t].toNat = g at *
              clear HV
              generalize dval (G.take t) = v at *
              have HST := Lib.hid hst
              have hlt : F.length + 3 + t < s.size := by have := HZ.out; omega
              clear hst hdv
              obtain ⟨hgt1, hgt2⟩ := hgt
              go_wp2_with fail
              exact ⟨⟨t + 1, by omega, int_eq (by omega), int_eq (by have := HST.out; omega)⟩, by simp [intOf]; omega⟩
            · have hte : t = G.length := by omega
              subst hte
              rw [List.take_length, HV.out]
              have hlt : ¬ F.length + 3 + G.length < s.size := by have := HZ.out; omega
              have hbn : ((F.length : Int) + 3 + (G.length : Int) != (s.size : Int)) = false := by rw [bne_eq_false_iff_eq]; have := HZ.out; omega
              go_wp2_with fail
              go_ret
              exact ⟨rfl, HF.out _ _ (HB.out.setCell (p := ⟨p, 801, none⟩) (Nat.le_refl _) _) (by simpa using HD.out.setDp _)⟩
        · have hsz : s.size = F.length + 4 + G.length := by simpa using HSZ2.out
          have hgb := HGB.out 0 hG0
          simp only [if_true, Nat.add_zero] at hgb
          have hsg := HSG.out rfl
          generalize G[0].toNat = g0 at *
          have hlt3 : F.length + 3 < s.size := by omega
          have hlt : F.length + 4 < s.size := by omega
          have HZ := Lib.hid hsz
          clear hsz HSG hn
          obtain ⟨hg1, hg2⟩ := hg0
          go_wp2_with fail
          refine (lower_any _ _).mono ?_
          rintro e w1 ⟨rfl, rfl⟩
          go_wp2_with fail
          go_loop [5, 9] (fun i e => ∃ t : Nat, t ≤ G.length ∧ i = .int .i64 (F.length + 4 + t : Nat) ∧ e = .int .i64 (dval (G.take t) : Nat)) (fun i _ => s.size - (intOf i).toNat)
          case atStart => exact ⟨0, Nat.zero_le _, int_eq (by omega), rfl⟩
          case round =>
            obtain ⟨t, ht, rfl, rfl⟩ := hrel
            by_cases htg : t < G.length
            · have hgt := hG.at htg
              have hgb := HGB.out t htg
              simp only [if_true, Nat.reduceAdd, Nat.add_assoc] at hgb
              simp only [← Nat.add_assoc] at hgb
              have hst := dval_snoc (G.take t) G[t]
              rw [← take_succ_at htg] at hst
              have hb : dval (G.take t) < 10 ^ 3 := Nat.lt_of_lt_of_le (dval_lt (hG.take t)) (Nat.pow_le_pow_right (by omega) (by rw [List.length_take]; omega))
              have hdv : dv G[t] = G[t].toNat - 48 := rfl
              rw [hdv] at hst
              generalize G[t].toNat = g at *
              clear HV
              generalize dval (G.take t) = v at *
              have HST := Lib.hid hst
              have hlt : F.length + 4 + t < s.size := by have := HZ.out; omega
              clear hst hdv
              obtain ⟨hgt1, hgt2⟩ := hgt
              go_wp2_with fail
              exact ⟨⟨t + 1, by omega, int_eq (by omega), int_eq (by have := HST.out; omega)⟩, by simp [intOf]; omega⟩
            · have hte : t = G.length := by omega
              subst hte
              rw [List.take_length, HV.out]
              have hlt : ¬ F.length + 4 + G.length < s.size := by have := HZ.out; omega
              have hbn : ((F.length : Int) + 4 + (G.length : Int) != (s.size : Int)) = false := by rw [bne_eq_false_iff_eq]; have := HZ.out; omega
              go_wp2_with fail
              go_ret
              exact ⟨rfl, HF.out _ _ (HB.out.setCell (p := ⟨p, 801, none⟩) (Nat.le_refl _) _) (by simpa using HD.out.setDp _)⟩
end Go.Proofs.YtpnfkipfjanmkaaGreatDoor
