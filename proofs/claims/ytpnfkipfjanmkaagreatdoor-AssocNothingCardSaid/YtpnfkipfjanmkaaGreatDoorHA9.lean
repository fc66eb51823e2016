/- DERIVED. WALKS: cmp.Compare[string], value.Text at texts, value.Compare. DERIVED. WALKS: value.Compare. DERIVED. WALKS: tedderlaw08.awake. -/
import Derived.Test.YtpnfkipfjanmkaaGreatDoorHVb
set_option linter.unusedVariables false
set_option linter.unusedSimpArgs false
namespace Go.Proofs.YtpnfkipfjanmkaaGreatDoor
open Go.RowKit Flt Go.Joins

/-- how two texts compare -/
def cmpI (a b : List UInt8) : Int := if Op.bytesLess a b = true then -1 else if (!(a == b)) = true then 1 else 0

set_option maxHeartbeats 1600000 in
theorem isNaN_str (s : ByteArray) (w : World) : Calls Tryz.prog 124 #[.string s] w fun e w' => e = .returned (.bool false) ∧ w' = w := by
  go_enter Tryz.func124, Tryz.ntmps124
  go_wp2
  go_ret
  exact ⟨rfl, rfl⟩

set_option maxHeartbeats 1600000 in
theorem cmp_str (s t : ByteArray) (w : World) : Calls Tryz.prog 86 #[.string s, .string t] w fun e w' => e = .returned (.int .i64 (cmpI s.data.toList t.data.toList)) ∧ w' = w := by
  obtain ⟨r, hr⟩ : ∃ r, cmpI s.data.toList t.data.toList = r := ⟨_, rfl⟩
  rw [hr]
  rw [← Lib.toList_data, ← Lib.toList_data] at hr
  unfold cmpI at hr
  cases h1 : Op.bytesLess s.toList t.toList
  · rw [if_neg (by rw [h1]; decide)] at hr
    cases h2 : (!(s.toList == t.toList))
    · rw [if_neg (by rw [h2]; decide)] at hr
      subst hr
      go_enter Tryz.func86, Tryz.ntmps86
      go_wp2_with fail
      refine (isNaN_str _ _).mono ?_
      rintro e w' ⟨rfl, rfl⟩
      go_wp2_with fail
      refine (isNaN_str _ _).mono ?_
      rintro e w' ⟨rfl, rfl⟩
      go_wp2_with fail
      go_ret
      exact ⟨rfl, rfl⟩
    · rw [if_pos h2] at hr
      subst hr
      go_enter Tryz.func86, Tryz.ntmps86
      go_wp2_with fail
      refine (isNaN_str _ _).mono ?_
      rintro e w' ⟨rfl, rfl⟩
      go_wp2_with fail
      refine (isNaN_str _ _).mono ?_
      rintro e w' ⟨rfl, rfl⟩
      go_wp2_with fail
      go_ret
      exact ⟨rfl, rfl⟩
  · rw [if_pos h1] at hr
    subst hr
    go_enter Tryz.func86, Tryz.ntmps86
    go_wp2_with fail
    refine (isNaN_str _ _).mono ?_
    rintro e w' ⟨rfl, rfl⟩
    go_wp2_with fail
    refine (isNaN_str _ _).mono ?_
    rintro e w' ⟨rfl, rfl⟩
    go_wp2_with fail
    go_ret
    exact ⟨rfl, rfl⟩

/-- a value's text, where it is no number alone -/
def textV : PVal → ByteArray
  | .str s => s
  | .both _ s => s
  | _ => ⟨#[]⟩
def isNumV : PVal → Bool
  | .num _ => true
  | _ => false
def isStrV : PVal → Bool
  | .str _ => true
  | _ => false
def TextOut (s : ByteArray) (w : World) (e : Ending) (w' : World) : Prop := e = .returned (.tuple #[.string s, .bool true]) ∧ Below w.heap.size w w'

set_option maxHeartbeats 1600000 in
set_option maxRecDepth 100000 in
theorem text_any (v : PVal) (conv : ByteArray) (w : World) (h : isNumV v = false) : Calls Tryz.prog 113 #[VV v, .string conv] w (TextOut (textV v) w) := by
  cases v with
  | num x => cases h
  | none =>
    simp only [VV, textV]
    have t1 := ta108_112
    have t2 := ta108_113
    have t3 := ta108_115
    clear h
    go_enter Tryz.func113, Tryz.ntmps113
    go_wp2_with fail
    go_ret2
    exact ⟨rfl, Below.refl _ _⟩
  | str s =>
    simp only [VV, textV]
    have t2 := ta113_113
    clear h
    go_enter Tryz.func113, Tryz.ntmps113
    go_wp2_with fail
    go_ret2
    exact ⟨rfl, Below.refl _ _⟩
  | both x s =>
    simp only [VV, textV]
    have t2 := ta115_113
    have t3 := ta115_115
    clear h
    go_enter Tryz.func113, Tryz.ntmps113
    go_wp2_with fail
    go_ret2
    exact ⟨rfl, (Below.refl w.heap.size w).alloc (Nat.le_refl _) _⟩
end Go.Proofs.YtpnfkipfjanmkaaGreatDoor

namespace Go.Proofs.YtpnfkipfjanmkaaGreatDoor
open Go.RowKit Flt Go.Joins

theorem ta_str (v : PVal) : ∃ z, ∀ w, Sem.run Tryz.prog (Instr.typeAssert (VV v) 29 113 true) w = .ok (.tuple #[z, .bool (isStrV v)]) w := by
  cases v with
  | none => exact ⟨_, ta108_113 _⟩
  | num x => exact ⟨_, ta112_113 _⟩
  | str s => exact ⟨_, ta113_113 _⟩
  | both x s => exact ⟨_, ta115_113 _⟩

/-- how two numbers compare -/
def cmpF (x y : Nat) : Int := if FloatKind.f64.format.order x y = some .lt then -1 else if FloatKind.f64.format.order x y = some .gt then 1 else 0

def CmpOut (c : Int) (w : World) (e : Ending) (w' : World) : Prop := e = .returned (.tuple #[.int .i64 c, .bool true]) ∧ Below w.heap.size w w'

set_option maxHeartbeats 1600000 in
set_option maxRecDepth 100000 in
theorem compare_text (a b : PVal) (conv : ByteArray) (w : World) (h : (isStrV a || isStrV b) = true) (ha : isNumV a = false) (hb : isNumV b = false) :
    Calls Tryz.prog 62 #[VV a, VV b, .string conv] w (CmpOut (cmpI (textV a).data.toList (textV b).data.toList) w) := by
  obtain ⟨za, ta⟩ := ta_str a
  obtain ⟨zb, tb⟩ := ta_str b
  have HA := Lib.hid (fun w => text_any a conv w ha)
  have HB := Lib.hid (fun w => text_any b conv w hb)
  have HC := Lib.hid (fun w => cmp_str (textV a) (textV b) w)
  generalize isStrV a = sa at *
  generalize isStrV b = sb at *
  generalize textV a = s at *
  generalize textV b = t at *
  generalize VV a = va at *
  generalize VV b = vb at *
  generalize cmpI s.data.toList t.data.toList = r at *
  clear ha hb
  cases sa
  · have hsb : sb = true := by simpa using h
    subst hsb
    clear h
    go_enter Tryz.func62, Tryz.ntmps62
    go_wp2_with fail
    refine (HA.out _).mono ?_
    rintro e w2 ⟨rfl, hb2⟩
    have HB2 := Lib.hid hb2
    clear hb2
    go_wp2_with fail
    refine (HB.out _).mono ?_
    rintro e w3 ⟨rfl, hb3⟩
    have HB3 := Lib.hid (HB2.out.trans (hb3.mono HB2.out.size))
    clear hb3
    go_wp2_with fail
    refine (HC.out _).mono ?_
    rintro e w' ⟨rfl, rfl⟩
    go_wp2_with fail
    go_ret2
    exact ⟨rfl, HB3.out⟩
  · clear h
    go_enter Tryz.func62, Tryz.ntmps62
    go_wp2_with fail
    refine (HA.out _).mono ?_
    rintro e w2 ⟨rfl, hb2⟩
    have HB2 := Lib.hid hb2
    clear hb2
    go_wp2_with fail
    refine (HB.out _).mono ?_
    rintro e w3 ⟨rfl, hb3⟩
    have HB3 := Lib.hid (HB2.out.trans (hb3.mono HB2.out.size))
    clear hb3
    go_wp2_with fail
    refine (HC.out _).mono ?_
    rintro e w' ⟨rfl, rfl⟩
    go_wp2_with fail
    go_ret2
    exact ⟨rfl, HB3.out⟩

set_option maxHeartbeats 1600000 in
set_option maxRecDepth 100000 in
theorem compare_num {N : Nat} (a b : PVal) (conv : ByteArray) (w : World) (ha : isStrV a = false) (hb : isStrV b = false) (hV : Vars N w) :
    Calls Tryz.prog 62 #[VV a, VV b, .string conv] w (CmpOut (cmpF (numberV a) (numberV b)) w) := by
  obtain ⟨za, ta⟩ := ta_str a
  obtain ⟨zb, tb⟩ := ta_str b
  have hsa : sizeV a ≤ 780 := by cases a <;> simp [sizeV] <;> cases ha
  have hsb : sizeV b ≤ 780 := by cases b <;> simp [sizeV] <;> cases hb
  have HA := Lib.hid (fun w hV => number_any (N := N) a w hsa hV)
  have HB := Lib.hid (fun w hV => number_any (N := N) b w hsb hV)
  have HV := Lib.hid hV
  rw [ha] at ta
  rw [hb] at tb
  generalize numberV a = x at *
  generalize numberV b = y at *
  generalize VV a = va at *
  generalize VV b = vb at *
  obtain ⟨r, hr⟩ : ∃ r, cmpF x y = r := ⟨_, rfl⟩
  rw [hr]
  unfold cmpF at hr
  clear ha hb hsa hsb hV
  rcases ho : FloatKind.f64.format.order x y with _ | (_ | _ | _)
  all_goals
    rw [ho] at hr
    simp at hr
    subst hr
    go_enter Tryz.func62, Tryz.ntmps62
    go_wp2_with fail
    refine (HA.out _ HV.out).mono ?_
    rintro e w2 ⟨rfl, hb2⟩
    have HB2 := Lib.hid hb2
    clear hb2
    go_wp2_with fail
    refine (HB.out _ (HV.out.below HB2.out HV.out.size)).mono ?_
    rintro e w3 ⟨rfl, hb3⟩
    have HB3 := Lib.hid (HB2.out.trans (hb3.mono HB2.out.size))
    clear hb3
    go_wp2_with fail
    go_ret2
    exact ⟨rfl, HB3.out⟩
end Go.Proofs.YtpnfkipfjanmkaaGreatDoor

namespace Go.Proofs.YtpnfkipfjanmkaaGreatDoor
open Go.RowKit Flt Go.Joins

theorem out10 : outsideV ⟨#[49, 48]⟩ = .both 4621819117588971520 ⟨#[49, 48]⟩ := by kernel_rfl
theorem out9 : outsideV ⟨#[57]⟩ = .both 4621256167635550208 ⟨#[57]⟩ := by kernel_rfl
theorem cmp109 : cmpF 4621819117588971520 4621256167635550208 = 1 := by kernel_rfl
theorem cmpT : cmpI [49, 48] [57] = -1 := by kernel_rfl
theorem ord10 : FloatKind.f64.format.order 4621819117588971520 4621819117588971520 = some .eq := by kernel_rfl

theorem outside10 {N : Nat} (w : World) (hV : Vars N w) : Calls Tryz.prog 71 #[.string ⟨#[49, 48]⟩] w (ValOut (.iface 115 (.agg #[.float .f64 4621819117588971520, .string ⟨#[49, 48]⟩])) w) := by
  have h := outside_any ⟨#[49, 48]⟩ w (by decide) hV
  rw [out10] at h
  simpa only [VV] using h
theorem outside9 {N : Nat} (w : World) (hV : Vars N w) : Calls Tryz.prog 71 #[.string ⟨#[57]⟩] w (ValOut (.iface 115 (.agg #[.float .f64 4621256167635550208, .string ⟨#[57]⟩])) w) := by
  have h := outside_any ⟨#[57]⟩ w (by decide) hV
  rw [out9] at h
  simpa only [VV] using h
theorem ofStr10 {N : Nat} (w : World) (hV : Vars N w) : Calls Tryz.prog 21 #[.agg #[.string ⟨#[115, 116, 114]⟩, .float .f64 0, .string ⟨#[49, 48]⟩]] w (ValOut (.iface 113 (.string ⟨#[49, 48]⟩)) w) := by
  have h := of_any ⟨#[115, 116, 114]⟩ ⟨#[49, 48]⟩ 0 w (by decide) hV
  have e : ofV ⟨#[115, 116, 114]⟩ 0 ⟨#[49, 48]⟩ = .str ⟨#[49, 48]⟩ := by kernel_rfl
  rw [e] at h
  simpa only [VV] using h
theorem compare1 {N : Nat} (conv : ByteArray) (w : World) (hV : Vars N w) : Calls Tryz.prog 62 #[.iface 115 (.agg #[.float .f64 4621819117588971520, .string ⟨#[49, 48]⟩]), .iface 115 (.agg #[.float .f64 4621256167635550208, .string ⟨#[57]⟩]), .string conv] w (CmpOut 1 w) := by
  have h := compare_num (.both 4621819117588971520 ⟨#[49, 48]⟩) (.both 4621256167635550208 ⟨#[57]⟩) conv w rfl rfl hV
  simp only [numberV] at h
  rw [cmp109] at h
  simpa only [VV] using h
theorem compare2 (conv : ByteArray) (w : World) : Calls Tryz.prog 62 #[.iface 113 (.string ⟨#[49, 48]⟩), .iface 115 (.agg #[.float .f64 4621256167635550208, .string ⟨#[57]⟩]), .string conv] w (CmpOut (-1) w) := by
  have h := compare_text (.str ⟨#[49, 48]⟩) (.both 4621256167635550208 ⟨#[57]⟩) conv w rfl rfl rfl
  simp only [textV] at h
  rw [cmpT] at h
  simpa only [VV] using h
theorem number10 {N : Nat} (w : World) (hV : Vars N w) : Calls Tryz.prog 68 #[.iface 115 (.agg #[.float .f64 4621819117588971520, .string ⟨#[49, 48]⟩])] w (ValOut (.float .f64 4621819117588971520) w) := by
  have h := number_any (.both 4621819117588971520 ⟨#[49, 48]⟩) w (by decide) hV
  simpa only [VV, numberV] using h

set_option maxHeartbeats 1600000 in
set_option maxRecDepth 100000 in
theorem awake08 {N : Nat} (w : World) (hV : Vars N w) : Calls Tryz.prog 60 #[] w (BoolOut true w) := by
  have HV := Lib.hid hV
  have ho := ord10
  clear hV
  go_enter Tryz.func60, Tryz.ntmps60
  go_wp2_with fail
  refine (outside10 _ HV.out).mono ?_
  rintro e w1 ⟨rfl, hb⟩
  have HB := Lib.hid hb
  clear hb
  go_wp2_with fail
  refine (outside9 _ (HV.out.below HB.out HV.out.size)).mono ?_
  rintro e w2 ⟨rfl, hb⟩
  have HB := Lib.hid (HB.out.trans (hb.mono HB.out.size))
  clear hb
  go_wp2_with fail
  refine (compare1 _ _ (HV.out.below HB.out HV.out.size)).mono ?_
  rintro e w3 ⟨rfl, hb⟩
  have HB := Lib.hid (HB.out.trans (hb.mono HB.out.size))
  clear hb
  go_wp2_with fail
  refine (ofStr10 _ (HV.out.below HB.out HV.out.size)).mono ?_
  rintro e w4 ⟨rfl, hb⟩
  have HB := Lib.hid (HB.out.trans (hb.mono HB.out.size))
  clear hb
  go_wp2_with fail
  refine (outside9 _ (HV.out.below HB.out HV.out.size)).mono ?_
  rintro e w5 ⟨rfl, hb⟩
  have HB := Lib.hid (HB.out.trans (hb.mono HB.out.size))
  clear hb
  go_wp2_with fail
  refine (compare2 _ _).mono ?_
  rintro e w6 ⟨rfl, hb⟩
  have HB := Lib.hid (HB.out.trans (hb.mono HB.out.size))
  clear hb
  go_wp2_with fail
  refine (outside10 _ (HV.out.below HB.out HV.out.size)).mono ?_
  rintro e w7 ⟨rfl, hb⟩
  have HB := Lib.hid (HB.out.trans (hb.mono HB.out.size))
  clear hb
  go_wp2_with fail
  refine (number10 _ (HV.out.below HB.out HV.out.size)).mono ?_
  rintro e w8 ⟨rfl, hb⟩
  have HB := Lib.hid (HB.out.trans (hb.mono HB.out.size))
  clear hb
  go_wp2_with fail
  go_ret
  exact ⟨rfl, HB.out⟩
end Go.Proofs.YtpnfkipfjanmkaaGreatDoor
