/- DERIVED. WALK: tedderlaw08.ValueRises. -/
import Derived.Test.YtpnfkipfjanmkaaGreatDoorHWy
set_option linter.unusedVariables false
set_option linter.unusedSimpArgs false
namespace Go.Proofs.YtpnfkipfjanmkaaGreatDoor
open Go.RowKit Flt

def arr9 (K S : Nat → ByteArray) (X : Nat → Nat) : Value :=
  .agg #[.string (K 0), .float .f64 (X 0), .string (S 0), .string (K 1), .float .f64 (X 1), .string (S 1), .string (K 2), .float .f64 (X 2), .string (S 2)]
def obj9 (K S : Nat → ByteArray) (X : Nat → Nat) : Obj :=
  .cells #[.string (K 0), .float .f64 (X 0), .string (S 0), .string (K 1), .float .f64 (X 1), .string (S 1), .string (K 2), .float .f64 (X 2), .string (S 2)] 92

theorem vcells9 (K S : Nat → ByteArray) (X : Nat → Nat) (w : World) : VCells K S X w.heap.size (w.alloc (obj9 K S X)) := by
  intro i hi
  unfold obj9
  rcases (show i = 0 ∨ i = 1 ∨ i = 2 by omega) with rfl | rfl | rfl
  · exact ⟨by go_simp, by go_simp, by go_simp⟩
  · exact ⟨by go_simp, by go_simp, by go_simp⟩
  · exact ⟨by go_simp, by go_simp, by go_simp⟩

def pval (K S : Nat → ByteArray) (X : Nat → Nat) (i : Nat) : PVal := ofV (K i) (X i) (S i)
def kindV : PVal → ByteArray
  | .none => ⟨#[110, 111, 110, 101]⟩
  | .num _ => ⟨#[110, 117, 109]⟩
  | .str _ => ⟨#[115, 116, 114]⟩
  | .both _ _ => ⟨#[98, 111, 116, 104]⟩
def pnumV : PVal → Nat
  | .num x => x
  | .both x _ => x
  | _ => 0
def pstrV : PVal → ByteArray
  | .str s => s
  | .both _ s => s
  | _ => ⟨#[]⟩
theorem plainVV_eq (v : PVal) : plainVV v = .agg #[.string (kindV v), .float .f64 (pnumV v), .string (pstrV v)] := by cases v <;> rfl
theorem kind_str (v : PVal) : ((kindV v).toList == [115, 116, 114]) = isStrV v := by cases v <;> kernel_rfl
theorem VV_iface (v : PVal) : ∃ t x, VV v = .iface t x := by cases v <;> exact ⟨_, _, rfl⟩
def nanOk (x : Nat) : Bool := FloatKind.f64.format.order x x == some .eq
def cntU (K S : Nat → ByteArray) (X : Nat → Nat) : Nat → Nat
  | 0 => 0
  | i + 1 => cntU K S X i + (isStrV (pval K S X i)).toNat
def nanU (K S : Nat → ByteArray) (X : Nat → Nat) : Nat → Bool
  | 0 => false
  | i + 1 => nanU K S X i || !nanOk (pnumV (pval K S X i))
def vrow (E : Nat → Value) (i : Nat) : Nat → Value := fun j => if j < i then E j else .nilIface

theorem vrow0 (E : Nat → Value) (w : World) : World.rowIs (w.alloc (Obj.cells #[.nilIface, .nilIface, .nilIface] 93)) w.heap.size 93 3 (vrow E 0) := by
  exact World.rowIs_alloc w #[.nilIface, .nilIface, .nilIface] 93 (vrow E 0) (fun i hi => by
    have hi3 : i < 3 := hi
    rcases (show i = 0 ∨ i = 1 ∨ i = 2 by omega) with rfl | rfl | rfl <;> rfl)

theorem obj3 (k s : ByteArray) (x : Nat) (w : World) : (w.alloc (Obj.cells #[.string k, .float .f64 x, .string s] 24)).cell? ⟨w.heap.size, 0, none⟩ = some (.string k) ∧
    (w.alloc (Obj.cells #[.string k, .float .f64 x, .string s] 24)).cell? ⟨w.heap.size, 1, none⟩ = some (.float .f64 x) ∧ (w.alloc (Obj.cells #[.string k, .float .f64 x, .string s] 24)).cell? ⟨w.heap.size, 2, none⟩ = some (.string s) :=
  ⟨by go_simp, by go_simp, by go_simp⟩
theorem idx9 (K S : Nat → ByteArray) (X : Nat → Nat) {i : Nat} (hi : i < 3) (w : World) : Sem.run Tryz.prog (Instr.index 92 (.agg #[.string (K 0), .float .f64 (X 0), .string (S 0), .string (K 1), .float .f64 (X 1), .string (S 1), .string (K 2), .float .f64 (X 2), .string (S 2)]) (.int .i64 (i : Int))) w = .ok (.agg #[.string (K i), .float .f64 (X i), .string (S i)]) w := by
  rcases (show i = 0 ∨ i = 1 ∨ i = 2 by omega) with rfl | rfl | rfl <;> kernel_rfl

theorem cntU_le (K S : Nat → ByteArray) (X : Nat → Nat) (i : Nat) : cntU K S X i ≤ i := by
  induction i with
  | zero => exact Nat.le_refl _
  | succ n ih =>
    unfold cntU
    have := Bool.toNat_le (isStrV (pval K S X n))
    omega

/-- how the three compare, and that order goes on -/
theorem cmp_all {N : Nat} (K S : Nat → ByteArray) (X : Nat → Nat) (conv : ByteArray) (hn : cntU K S X 3 = 0 ∨ cntU K S X 3 = 3) (hb : nanU K S X 3 = false) :
    ∃ C : Nat → Nat → Int, (∀ i j, i < 3 → j < 3 → ∀ w, Vars N w → Calls Tryz.prog 62 #[VV (pval K S X i), VV (pval K S X j), .string conv] w (CmpOut (C i j) w)) ∧ (C 0 1 ≤ 0 → C 1 2 ≤ 0 → C 0 2 ≤ 0) := by
  have e : cntU K S X 3 = (isStrV (pval K S X 0)).toNat + (isStrV (pval K S X 1)).toNat + (isStrV (pval K S X 2)).toNat := by simp [cntU]
  have l0 := Bool.toNat_le (isStrV (pval K S X 0))
  have l1 := Bool.toNat_le (isStrV (pval K S X 1))
  have l2 := Bool.toNat_le (isStrV (pval K S X 2))
  rcases hn with hn | hn
  · have hs : ∀ i, i < 3 → isStrV (pval K S X i) = false := fun i hi => by
      rw [← Bool.toNat_eq_zero]
      rcases (show i = 0 ∨ i = 1 ∨ i = 2 by omega) with rfl | rfl | rfl <;> omega
    refine ⟨fun i j => cmpF (numberV (pval K S X i)) (numberV (pval K S X j)), fun i j hi hj w hV => compare_num _ _ conv w (hs i hi) (hs j hj) hV, ?_⟩
    have hne : numberV (pval K S X 1) = pnumV (pval K S X 1) := by
      have := hs 1 (by omega)
      cases h : pval K S X 1 with
      | str s => rw [h] at this; cases this
      | none => rfl
      | num x => rfl
      | both x s => rfl
    have h1 : nanOk (pnumV (pval K S X 1)) = true := by
      have e3 : nanU K S X 3 = (((false || !nanOk (pnumV (pval K S X 0))) || !nanOk (pnumV (pval K S X 1))) || !nanOk (pnumV (pval K S X 2))) := rfl
      rw [e3] at hb
      simp only [Bool.or_eq_false_iff, Bool.not_eq_false'] at hb
      exact hb.1.2
    rw [← hne] at h1
    exact fun a b => cmpF_trans (eq_of_beq h1) a b
  · have hs : ∀ i, i < 3 → isStrV (pval K S X i) = true := fun i hi => by
      rw [← Bool.toNat_eq_one]
      rcases (show i = 0 ∨ i = 1 ∨ i = 2 by omega) with rfl | rfl | rfl <;> omega
    have hnn : ∀ i, i < 3 → isNumV (pval K S X i) = false := fun i hi => by
      have := hs i hi
      cases h : pval K S X i with
      | str s => rfl
      | none => rw [h] at this; cases this
      | num x => rw [h] at this; cases this
      | both x s => rw [h] at this; cases this
    refine ⟨fun i j => cmpI (textV (pval K S X i)).data.toList (textV (pval K S X j)).data.toList, fun i j hi hj w _ => compare_text _ _ conv w (by rw [hs i hi]; rfl) (hnn i hi) (hnn j hj), ?_⟩
    exact fun a b => cmpI_trans a b

set_option maxHeartbeats 3200000 in
theorem rises_law {N : Nat} (K S : Nat → ByteArray) (X : Nat → Nat) (w : World) (hV : Vars N w) : Calls Tryz.prog 15 #[arr9 K S X] w (BoolOut true w) := by
  obtain ⟨w0, h0⟩ : ∃ w0, w.alloc (obj9 K S X) = w0 := ⟨_, rfl⟩
  have hvc := vcells9 K S X w
  have hb0 := (Below.refl w.heap.size w).alloc (Nat.le_refl _) (obj9 K S X)
  have hsz : (w.alloc (obj9 K S X)).heap.size = w.heap.size + 1 := Go.Deep.nblk_alloc w _
  rw [h0] at hvc hb0 hsz
  have HV := Lib.hid (hV.below hb0 hV.size)
  have HVC := Lib.hid hvc
  have HB0 := Lib.hid hb0
  have HSZ := Lib.hid hsz
  clear hV hvc hb0 hsz
  unfold obj9 at h0
  unfold arr9
  go_enter Tryz.func15, Tryz.ntmps15
  go_wp2_with fail
  clear h0
  refine (awake08 _ HV.out).mono ?_
  rintro e w1 ⟨rfl, hb⟩
  have HB := Lib.hid hb
  clear hb
  go_wp2_with fail
  refine (fit_any K S X w.heap.size w1 (by have := HB.out.size; have := HSZ.out; omega) (HVC.out.below HB.out (by have := HSZ.out; omega))).mono ?_
  rintro e w2 ⟨rfl, hb⟩
  have HB2 := Lib.hid (HB.out.trans (hb.mono HB.out.size))
  clear hb HB
  cases hf : fit3 K S
  · go_wp2_with fail
    go_ret
    exact ⟨rfl, HB0.out.trans (HB2.out.mono HB0.out.size)⟩
  · obtain ⟨w3, h3⟩ : ∃ w3, w2.alloc (Obj.cells #[.nilIface, .nilIface, .nilIface] 93) = w3 := ⟨_, rfl⟩
    have hb3 := HB2.out.alloc HB2.out.size (Obj.cells #[.nilIface, .nilIface, .nilIface] 93)
    have hr3 := vrow0 (fun i => VV (pval K S X i)) w2
    have hs3 : (w2.alloc (Obj.cells #[.nilIface, .nilIface, .nilIface] 93)).heap.size = w2.heap.size + 1 := Go.Deep.nblk_alloc w2 _
    rw [h3] at hb3 hr3 hs3
    have hlt : w.heap.size < w0.heap.size := by have := HSZ.out; omega
    have hvc := HVC.out.below hb3 hlt
    have a0 : w3.cell? ⟨w.heap.size, 0, none⟩ = _ := (hvc 0 (by omega)).1
    have a1 : w3.cell? ⟨w.heap.size, 1, none⟩ = _ := (hvc 0 (by omega)).2.1
    have a2 : w3.cell? ⟨w.heap.size, 2, none⟩ = _ := (hvc 0 (by omega)).2.2
    have a3 : w3.cell? ⟨w.heap.size, 3, none⟩ = _ := (hvc 1 (by omega)).1
    have a4 : w3.cell? ⟨w.heap.size, 4, none⟩ = _ := (hvc 1 (by omega)).2.1
    have a5 : w3.cell? ⟨w.heap.size, 5, none⟩ = _ := (hvc 1 (by omega)).2.2
    have a6 : w3.cell? ⟨w.heap.size, 6, none⟩ = _ := (hvc 2 (by omega)).1
    have a7 : w3.cell? ⟨w.heap.size, 7, none⟩ = _ := (hvc 2 (by omega)).2.1
    have a8 : w3.cell? ⟨w.heap.size, 8, none⟩ = _ := (hvc 2 (by omega)).2.2
    obtain ⟨q, hq⟩ : ∃ q, w2.heap.size = q := ⟨_, rfl⟩
    have hq0 : w0.heap.size ≤ q := hq ▸ HB2.out.size
    rw [hq] at hr3 hs3
    have HB3 := Lib.hid hb3
    have HR3 := Lib.hid hr3
    have HS3 := Lib.hid hs3
    clear hb3 hr3 hs3 hvc
    go_wp2_with fail
    clear h3 a0 a1 a2 a3 a4 a5 a6 a7 a8
    go_loopw [3, 4, 21] (fun nv bv iv wr => ∃ i : Nat, i ≤ 3 ∧ nv = .int .i64 (cntU K S X i : Nat) ∧ bv = .bool (nanU K S X i) ∧ iv = .int .i64 i ∧ Below w0.heap.size w0 wr ∧ q < wr.heap.size ∧ World.rowIs wr q 93 3 (vrow (fun i => VV (pval K S X i)) i)) (fun _ _ iv _ => 3 - (intOf iv).toNat)
    case atStart => exact ⟨0, by omega, rfl, rfl, rfl, HB3.out, by have := HS3.out; omega, HR3.out⟩
    case round =>
      obtain ⟨i, hi, rfl, rfl, rfl, hbw, hqr, hrow⟩ := hrel
      by_cases hlt : i < 3
      · obtain ⟨t, x, hE⟩ := VV_iface (pval K S X i)
        have hsi : (S i).size ≤ 780 := by
          unfold fit3 at hf
          simp only [Bool.and_eq_true] at hf
          have h1 : fit1 K S i = true := by rcases (show i = 0 ∨ i = 1 ∨ i = 2 by omega) with rfl | rfl | rfl; exact hf.1.1; exact hf.1.2; exact hf.2
          unfold fit1 at h1
          simp only [Bool.and_eq_true, decide_eq_true_eq] at h1
          omega
        have OF : Hid (∀ w, Vars N w → Calls Tryz.prog 21 #[.agg #[.string (K i), .float .f64 (X i), .string (S i)]] w (ValOut (.iface t x) w)) := fun w hV => by
          rw [← hE]; exact of_any _ _ _ w hsi hV
        have PL : Hid (∀ w, Calls Tryz.prog 28 #[.iface t x] w (ValOut (.agg #[.string (kindV (pval K S X i)), .float .f64 (pnumV (pval K S X i)), .string (pstrV (pval K S X i))]) w)) := fun w => by
          rw [← hE, ← plainVV_eq]; exact plain_any _ w
        have HK := Lib.hid (kind_str (pval K S X i))
        have hE' : Hid (VV (pval K S X i) = .iface t x) := hE
        have hcn : cntU K S X (i + 1) = cntU K S X i + (isStrV (pval K S X i)).toNat := rfl
        have hbn : nanU K S X (i + 1) = (nanU K S X i || !nanOk (pnumV (pval K S X i))) := rfl
        have hc3 := cntU_le K S X i
        clear hE
        obtain ⟨nc, hnc⟩ : ∃ nc : Nat, cntU K S X i = nc := ⟨_, rfl⟩
        obtain ⟨nb, hnb⟩ : ∃ nb, nanU K S X i = nb := ⟨_, rfl⟩
        obtain ⟨kv, hkv⟩ : ∃ kv, kindV (pval K S X i) = kv := ⟨_, rfl⟩
        obtain ⟨xv, hxv⟩ : ∃ xv, pnumV (pval K S X i) = xv := ⟨_, rfl⟩
        obtain ⟨sv, hsv⟩ : ∃ sv, pstrV (pval K S X i) = sv := ⟨_, rfl⟩
        obtain ⟨bv, hbv⟩ : ∃ bv, isStrV (pval K S X i) = bv := ⟨_, rfl⟩
        rw [hnc] at hcn hc3
        rw [hnb, hxv] at hbn
        rw [hbv] at hcn HK
        rw [hkv] at HK
        rw [hkv, hxv, hsv] at PL
        rw [hnc, hnb]
        have hcn' := Lib.hid hcn
        have hbn' := Lib.hid hbn
        clear hcn hbn hnc hnb hkv hxv hsv hbv
        have hidx := fun w => idx9 K S X hlt w
        obtain ⟨w4, h4⟩ : ∃ w4, wr.alloc (Obj.cells #[.string (K i), .float .f64 (X i), .string (S i)] 24) = w4 := ⟨_, rfl⟩
        have hb4 := hbw.alloc hbw.size (Obj.cells #[.string (K i), .float .f64 (X i), .string (S i)] 24)
        have hr4 := hrow.alloc (Obj.cells #[.string (K i), .float .f64 (X i), .string (S i)] 24)
        obtain ⟨c0, c1, c2⟩ := obj3 (K i) (S i) (X i) wr
        rw [h4] at hb4 hr4 c0 c1 c2
        have HB4 := Lib.hid hb4
        have HR4 := Lib.hid hr4
        clear hb4 hr4 hbw hrow hqr
        go_wp2_with fail
        clear h4 c0 c1 c2 hidx
        refine (OF.out _ (HV.out.below HB4.out HV.out.size)).mono ?_
        rintro e w5 ⟨rfl, hb⟩
        have hb5 := HB4.out.trans (hb.mono HB4.out.size)
        have hr5 := World.rowIs.of_block HR4.out (hb.block q HR4.out.lt)
        have hcell := hr5.cell hlt
        have hfz := hr5.frozen i
        obtain ⟨w6, h6⟩ : ∃ w6, w5.setCell ⟨q, i, none⟩ (.iface t x) = w6 := ⟨_, rfl⟩
        have hb6 := (Below.setCell hb5 (by exact hq0) (.iface t x) : Below _ _ (w5.setCell ⟨q, i, none⟩ _))
        have hr6 := (hr5.set i (.iface t x)).congr (g := vrow (fun i => VV (pval K S X i)) (i + 1)) (fun j hj => by
          unfold vrow
          by_cases hji : j = i
          · rw [if_pos hji, if_pos (by omega), hji]; exact hE'.out.symm
          · rw [if_neg hji]
            by_cases hjl : j < i
            · rw [if_pos hjl, if_pos (by omega)]
            · rw [if_neg hjl, if_neg (by omega)])
        rw [h6] at hb6 hr6
        have hc6 : w6.cell? ⟨q, i, none⟩ = some (.iface t x) := by
          rw [hr6.cell hlt]
          unfold vrow
          rw [if_pos (by omega)]
          exact congrArg some hE'.out
        have HB6 := Lib.hid hb6
        have HR6 := Lib.hid hr6
        clear hb6 hr6 hb5 hr5 hb
        go_wp2_with fail
        clear h6 hc6 hcell hfz
        refine (PL.out _).mono ?_
        rintro e w7 ⟨rfl, hb⟩
        have hb7 := HB6.out.trans (hb.mono HB6.out.size)
        have hr7 := World.rowIs.of_block HR6.out (hb.block q HR6.out.lt)
        obtain ⟨w8, h8⟩ : ∃ w8, w7.alloc (Obj.cells #[.string kv, .float .f64 xv, .string sv] 24) = w8 := ⟨_, rfl⟩
        have hb8 := hb7.alloc hb7.size (Obj.cells #[.string kv, .float .f64 xv, .string sv] 24)
        have hr8 := hr7.alloc (Obj.cells #[.string kv, .float .f64 xv, .string sv] 24)
        obtain ⟨c0, c1, c2⟩ := obj3 kv sv xv w7
        rw [h8] at hb8 hr8 c0 c1 c2
        have HB8 := Lib.hid hb8
        have HR8 := Lib.hid hr8
        clear hb8 hr8 hb7 hr7 hb
        have hk := HK.out
        cases bv
        · cases nb
          · go_wp2_with fail
            refine ⟨⟨i + 1, by omega, congrArg (Value.int .i64) (by rw [hcn'.out]; simp), congrArg Value.bool (by rw [hbn'.out]; rfl), int_eq (by omega), HB8.out, HR8.out.lt, HR8.out⟩, by simp [intOf]; omega⟩
          · go_wp2_with fail
            refine ⟨⟨i + 1, by omega, congrArg (Value.int .i64) (by rw [hcn'.out]; simp), congrArg Value.bool (by rw [hbn'.out]; rfl), int_eq (by omega), HB8.out, HR8.out.lt, HR8.out⟩, by simp [intOf]; omega⟩
        · cases nb
          · go_wp2_with fail
            refine ⟨⟨i + 1, by omega, congrArg (Value.int .i64) (by rw [hcn'.out]; simp), congrArg Value.bool (by rw [hbn'.out]; rfl), int_eq (by omega), HB8.out, HR8.out.lt, HR8.out⟩, by simp [intOf]; omega⟩
          · go_wp2_with fail
            refine ⟨⟨i + 1, by omega, congrArg (Value.int .i64) (by rw [hcn'.out]; simp), congrArg Value.bool (by rw [hbn'.out]; rfl), int_eq (by omega), HB8.out, HR8.out.lt, HR8.out⟩, by simp [intOf]; omega⟩
      · have hi3 : i = 3 := by omega
        subst hi3
        have hcc := Lib.hid (fun conv hn hb => cmp_all (N := N) K S X conv hn hb)
        have e0 : wr.cell? ⟨q, 0, none⟩ = some (VV (pval K S X 0)) := hrow.cell (by omega)
        have e1 : wr.cell? ⟨q, 1, none⟩ = some (VV (pval K S X 1)) := hrow.cell (by omega)
        have e2 : wr.cell? ⟨q, 2, none⟩ = some (VV (pval K S X 2)) := hrow.cell (by omega)
        have HBW := Lib.hid hbw
        have HROW := Lib.hid hrow
        have HQR := Lib.hid hqr
        clear hbw hrow hqr hlt hi
        obtain ⟨nc, hnc⟩ : ∃ nc : Nat, cntU K S X 3 = nc := ⟨_, rfl⟩
        obtain ⟨nb, hnb⟩ : ∃ nb, nanU K S X 3 = nb := ⟨_, rfl⟩
        rw [hnc, hnb] at hcc ⊢
        clear hnc hnb
        by_cases hx : (nc = 0 ∨ nc = 3) ∧ nb = false
        · obtain ⟨hx, rfl⟩ := hx
          obtain ⟨C, hC, hT⟩ := hcc.out ⟨#[37, 46, 54, 103]⟩ hx rfl
          have HC := Lib.hid hC
          have HT := Lib.hid hT
          clear hC hT hcc
          rcases hx with rfl | rfl
          · go_wp2_with fail
            refine (HC.out 0 1 (by omega) (by omega) _ (HV.out.below HBW.out HV.out.size)).mono ?_
            rintro e wa ⟨rfl, hb⟩
            have f0 := (hb.cell HQR.out).trans e0
            have f1 := (hb.cell HQR.out).trans e1
            have f2 := (hb.cell HQR.out).trans e2
            have HQa := Lib.hid (Nat.lt_of_lt_of_le HQR.out hb.size)
            have HBa := Lib.hid (HBW.out.trans (hb.mono HBW.out.size))
            clear e0 e1 e2 hb
            go_wp2_with fail
            refine (HC.out 1 2 (by omega) (by omega) _ (HV.out.below HBa.out HV.out.size)).mono ?_
            rintro e wb ⟨rfl, hb⟩
            have e0 := (hb.cell HQa.out).trans f0
            have e2 := (hb.cell HQa.out).trans f2
            have HBb := Lib.hid (HBa.out.trans (hb.mono HBa.out.size))
            clear f0 f1 f2 hb
            go_wp2_with fail
            refine (HC.out 0 2 (by omega) (by omega) _ (HV.out.below HBb.out HV.out.size)).mono ?_
            rintro e wc ⟨rfl, hb⟩
            have HBc := Lib.hid (HB0.out.trans ((HBb.out.trans (hb.mono HBb.out.size)).mono HB0.out.size))
            clear e0 e2 hb
            have HT' := HT.out
            generalize C 0 1 = c1 at *
            generalize C 1 2 = c2 at *
            generalize C 0 2 = c3 at *
            have HT'' := Lib.hid HT'
            clear HT' HT
            by_cases g1 : 0 < c1
            · go_wp2_with fail
              go_ret
              exact ⟨rfl, HBc.out⟩
            · by_cases g2 : 0 < c2
              · go_wp2_with fail
                go_ret
                exact ⟨rfl, HBc.out⟩
              · have g3 : c3 ≤ 0 := HT''.out (by omega) (by omega)
                go_wp2_with fail
                go_ret
                exact ⟨rfl, HBc.out⟩
          · go_wp2_with fail
            refine (HC.out 0 1 (by omega) (by omega) _ (HV.out.below HBW.out HV.out.size)).mono ?_
            rintro e wa ⟨rfl, hb⟩
            have f0 := (hb.cell HQR.out).trans e0
            have f1 := (hb.cell HQR.out).trans e1
            have f2 := (hb.cell HQR.out).trans e2
            have HQa := Lib.hid (Nat.lt_of_lt_of_le HQR.out hb.size)
            have HBa := Lib.hid (HBW.out.trans (hb.mono HBW.out.size))
            clear e0 e1 e2 hb
            go_wp2_with fail
            refine (HC.out 1 2 (by omega) (by omega) _ (HV.out.below HBa.out HV.out.size)).mono ?_
            rintro e wb ⟨rfl, hb⟩
            have e0 := (hb.cell HQa.out).trans f0
            have e2 := (hb.cell HQa.out).trans f2
            have HBb := Lib.hid (HBa.out.trans (hb.mono HBa.out.size))
            clear f0 f1 f2 hb
            go_wp2_with fail
            refine (HC.out 0 2 (by omega) (by omega) _ (HV.out.below HBb.out HV.out.size)).mono ?_
            rintro e wc ⟨rfl, hb⟩
            have HBc := Lib.hid (HB0.out.trans ((HBb.out.trans (hb.mono HBb.out.size)).mono HB0.out.size))
            clear e0 e2 hb
            have HT' := HT.out
            generalize C 0 1 = c1 at *
            generalize C 1 2 = c2 at *
            generalize C 0 2 = c3 at *
            have HT'' := Lib.hid HT'
            clear HT' HT
            by_cases g1 : 0 < c1
            · go_wp2_with fail
              go_ret
              exact ⟨rfl, HBc.out⟩
            · by_cases g2 : 0 < c2
              · go_wp2_with fail
                go_ret
                exact ⟨rfl, HBc.out⟩
              · have g3 : c3 ≤ 0 := HT''.out (by omega) (by omega)
                go_wp2_with fail
                go_ret
                exact ⟨rfl, HBc.out⟩
        · have hfin := Lib.hid (HB0.out.trans (HBW.out.mono HB0.out.size))
          clear hcc
          cases nb
          · have hn0 : nc ≠ 0 := fun h => hx ⟨.inl h, rfl⟩
            have hn3 : nc ≠ 3 := fun h => hx ⟨.inr h, rfl⟩
            clear hx
            go_wp2_with fail
            all_goals (go_ret; exact ⟨rfl, hfin.out⟩)
          · clear hx
            go_wp2_with fail
            all_goals (go_ret; exact ⟨rfl, hfin.out⟩)
end Go.Proofs.YtpnfkipfjanmkaaGreatDoor
