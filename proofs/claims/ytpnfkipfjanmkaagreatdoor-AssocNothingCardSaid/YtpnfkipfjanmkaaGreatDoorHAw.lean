/- DERIVED. WALK: tedderlaw09.AssocNothing. -/
import Derived.Test.YtpnfkipfjanmkaaGreatDoorHAv
set_option linter.unusedVariables false
set_option linter.unusedSimpArgs false
namespace Go.Proofs.YtpnfkipfjanmkaaGreatDoor
open Go.RowKit Flt Go.Maps Go.Sort Go.Shelf

theorem box24 (k s : ByteArray) (x : Nat) (w : World) : (w.alloc (Obj.cells #[.string k, .float .f64 x, .string s] 24)).cell? ⟨w.heap.size, 0, none⟩ = some (.string k) ∧
    (w.alloc (Obj.cells #[.string k, .float .f64 x, .string s] 24)).cell? ⟨w.heap.size, 1, none⟩ = some (.float .f64 x) ∧ (w.alloc (Obj.cells #[.string k, .float .f64 x, .string s] 24)).cell? ⟨w.heap.size, 2, none⟩ = some (.string s) :=
  ⟨by go_simp, by go_simp, by go_simp⟩

theorem noneText : ((⟨#[110, 111, 110, 101]⟩ : ByteArray).toList == [110, 111, 110, 101]) = true := by kernel_rfl
theorem plainNone (w : World) : Calls Tryz.prog 28 #[.iface 108 (.agg #[])] w fun e w' => ∃ kn sn : ByteArray, (kn.toList == [110, 111, 110, 101]) = true ∧ e = .returned (.agg #[.string kn, .float .f64 0, .string sn]) ∧ Below w.heap.size w w' := by
  have h := plain_any .none w
  simp only [VV, plainVV] at h
  exact h.mono fun e w' ⟨h1, h2⟩ => ⟨_, _, noneText, h1, h2⟩
theorem field0 (a b c : Value) (w : World) : (Instr.field 24 (.agg #[a, b, c]) 0).run Tryz.prog w = .ok a w := by kernel_rfl
theorem one_get (x : List UInt8) (d z : DataW Value) : ((DataW.map []).put (.string x) d).atKey (.string x) z = d := by
  simp [DataW.put, DataW.atKey, DataW.insert, Lit.sameKey]
theorem one_has (x : List UInt8) (d : DataW Value) : Maps.has ((DataW.map []).put (.string x) d) (.string x) = true := by
  simp [DataW.put, Maps.has, DataW.insert, Lit.sameKey]

set_option maxHeartbeats 3200000 in
theorem nothing_law {N : Nat} (key k s : ByteArray) (x : Nat) (hk : key.size ≤ maxLen) (w : World) (hV : Vars N w) : Calls Tryz.prog 3 #[.string key, .agg #[.string k, .float .f64 x, .string s]] w (BoolOut true w) := by
  obtain ⟨w0, h0⟩ : ∃ w0, w.alloc (Obj.cells #[.string k, .float .f64 x, .string s] 24) = w0 := ⟨_, rfl⟩
  have hb0 := (Below.refl w.heap.size w).alloc (Nat.le_refl _) (Obj.cells #[.string k, .float .f64 x, .string s] 24)
  have hsz : (w.alloc (Obj.cells #[.string k, .float .f64 x, .string s] 24)).heap.size = w.heap.size + 1 := Go.Deep.nblk_alloc w _
  have hc := box24 k s x w
  rw [h0] at hb0 hsz hc
  have HV := Lib.hid (hV.below hb0 hV.size)
  have HB0 := Lib.hid hb0
  have hlt : w.heap.size < w0.heap.size := by omega
  have HC := Lib.hid hc
  have HK := Lib.hid hk
  have hfl := field0
  clear hV hb0 hsz hc hk
  go_enter Tryz.func3, Tryz.ntmps3
  go_wp2_with fail
  clear h0
  refine (awake09 _ HV.out).mono ?_
  rintro e w1 ⟨rfl, hb⟩
  have c0 := (hb.cell hlt).trans HC.out.1
  have c1 := (hb.cell hlt).trans HC.out.2.1
  have c2 := (hb.cell hlt).trans HC.out.2.2
  have HB := Lib.hid hb
  clear hb
  by_cases hs : s.size ≤ 600
  · have HOF := Lib.hid (fun w hV => of_any (N := N) k s x w (by omega) hV)
    obtain ⟨t, y, hE⟩ : ∃ t y, VV (ofV k x s) = .iface t y := by cases ofV k x s <;> exact ⟨_, _, rfl⟩
    rw [hE] at HOF
    clear hE
    go_wp2_with fail
    refine (HOF.out _ (HV.out.below HB.out HV.out.size)).mono ?_
    rintro e w2 ⟨rfl, hb⟩
    have HB2 := Lib.hid (HB.out.trans (hb.mono HB.out.size))
    clear hb HB c0 c1 c2
    go_wp2_with fail
    refine (put_nil key _ _).mono ?_
    rintro e w' ⟨rfl, rfl⟩
    go_wp2_with fail
    refine (delete_nil key _).mono ?_
    rintro e w' ⟨rfl, rfl⟩
    go_wp2_with fail
    refine (clear_nil _).mono ?_
    rintro e w' ⟨rfl, rfl⟩
    go_wp2_with fail
    refine (copy_nil _).mono ?_
    rintro e w3 ⟨p, b, rfl, hA, hp, hbb, hb⟩
    have HB3 := Lib.hid (HB2.out.trans (hb.mono HB2.out.size))
    have HA := Lib.hid hA
    have HPB := Lib.hid (show w0.heap.size ≤ p ∧ w0.heap.size ≤ b from ⟨Nat.le_trans HB2.out.size hp, Nat.le_trans HB2.out.size hbb⟩)
    clear hA hb hp hbb
    go_wp2_with fail
    refine (put_none p b 0 _ key _ w0.heap.size HA.out (by decide) HK.out HPB.out).mono ?_
    rintro e w4 ⟨rfl, hA, hb⟩
    have HB4 := Lib.hid (HB3.out.trans hb)
    have HA4 := Lib.hid hA
    clear hA hb HA HB3 HB2
    go_wp2_with fail
    refine (len_nil _).mono ?_
    rintro e w' ⟨rfl, rfl⟩
    go_wp2_with fail
    refine (keys_nil _).mono ?_
    rintro e w' ⟨rfl, rfl⟩
    go_wp2_with fail
    refine (has_nil key _).mono ?_
    rintro e w' ⟨rfl, rfl⟩
    go_wp2_with fail
    refine (get_nil key _).mono ?_
    rintro e w' ⟨rfl, rfl⟩
    go_wp2_with fail
    refine (plainNone _).mono ?_
    rintro e w5 ⟨kn, sn, hkn, rfl, hb⟩
    have HB5 := Lib.hid (HB4.out.trans (hb.mono HB4.out.size))
    have HA5 := Lib.hid (HA4.out.below hb)
    clear hb
    go_wp2_with fail
    refine (has_any p b 1 _ key _ HA5.out HK.out).mono ?_
    rintro e w' ⟨rfl, rfl⟩
    rw [one_has]
    go_wp2_with fail
    refine (get_hit p b 1 _ key (.iface 108 (.agg #[])) _ HA5.out HK.out (one_has _ _) (one_get _ _ _)).mono ?_
    rintro e w' ⟨rfl, rfl⟩
    go_wp2_with fail
    refine (plainNone _).mono ?_
    rintro e w6 ⟨kn2, sn2, hkn2, rfl, hb⟩
    have HB6 := Lib.hid (HB0.out.trans ((HB5.out.trans (hb.mono HB5.out.size)).mono HB0.out.size))
    clear hb
    go_wp2_with fail
    go_ret
    exact ⟨rfl, HB6.out⟩
  · go_wp2_with fail
    go_ret
    exact ⟨rfl, HB0.out.trans (HB.out.mono HB0.out.size)⟩
end Go.Proofs.YtpnfkipfjanmkaaGreatDoor
