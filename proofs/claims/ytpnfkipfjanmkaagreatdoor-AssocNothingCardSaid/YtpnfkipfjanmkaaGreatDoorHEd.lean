/- DERIVED. WALKS: strconv.ParseFloat at the texts that dec.nearest makes. -/
import Derived.Test.YtpnfkipfjanmkaaGreatDoorHA7
import Derived.Test.YtpnfkipfjanmkaaGreatDoorHSp
import Derived.WalkSmall
import Derived.Lib.ItoaNum
import Derived.Lib.LaidTab
import Derived.KernelRfl
set_option linter.unusedVariables false
set_option linter.unusedSimpArgs false
namespace Go.Proofs.YtpnfkipfjanmkaaGreatDoor
open Go.RowKit Flt

/-- What the walks read of the package-level variables. -/
structure Vars (N : Nat) (w : World) : Prop where
  tabs : Tabs N w
  cheats : Cheats N w
  rng : ∃ ev, w.cell? ⟨8, 0, none⟩ = some ev ∧ (ev = .nilIface ∨ ∃ te pe, ev = .iface te pe)
  most : ∃ m, w.cell? ⟨1, 0, none⟩ = some (.int .i64 m)
  itab : Lib.TabIs Tryz.prog w "internal/strconv.uint64pow10" .u64 Lib.pow10Tab

theorem Vars.below {N B : Nat} {w w' : World} (h : Vars N w) (hb : Below B w w') (hB : N ≤ B) : Vars N w' := by
  have h18 := h.tabs.n18
  obtain ⟨ev, h1, h2⟩ := h.rng
  obtain ⟨m, h3⟩ := h.most
  exact {
    tabs := h.tabs.below hb hB
    cheats := h.cheats.below hb hB (by omega)
    rng := ⟨ev, by rw [hb.cell (by show 8 < B; omega)]; exact h1, h2⟩
    most := ⟨m, by rw [hb.cell (by show 1 < B; omega)]; exact h3⟩
    itab := var?_below hb (show Tryz.prog.globalNamed "internal/strconv.uint64pow10" = some 2 by kernel_rfl) (by omega) h.itab }
theorem Vars.size {N : Nat} {w : World} (h : Vars N w) : N ≤ w.heap.size := h.tabs.size

def PfxOut (R : Nat) (w : World) (e : Ending) (w' : World) : Prop := ∃ err, FErr err ∧ e = .returned (.tuple #[.float .f64 R, err]) ∧ Below w.heap.size w w'
def PfOut (R : Nat) (w : World) (e : Ending) (w' : World) : Prop := ∃ err, e = .returned (.tuple #[.float .f64 R, err]) ∧ Below w.heap.size w w'

set_option maxHeartbeats 800000 in
theorem pfx_any {N : Nat} (s : ByteArray) (w : World) (F G : List UInt8) (eneg : Bool) (hs : s.data.toList = decText F G eneg) (h : Figures F G) (hV : Vars N w) :
    Calls Tryz.prog 255 #[.string s, .int .i64 64] w (AtofOut (rdec F (texp G eneg)) s.size w) := by
  have H := Lib.hid (atof_any s w F G eneg hs h hV.tabs hV.cheats)
  clear hs h hV
  go_enter Tryz.func255, Tryz.ntmps255
  go_wp2_with fail
  refine H.out.mono ?_
  rintro e w1 ⟨err, HE, rfl, hb⟩
  have HB := Lib.hid hb
  have HEE := Lib.hid HE
  clear hb HE
  go_wp2_with fail
  go_ret3
  exact ⟨err, HEE.out, rfl, HB.out⟩

set_option maxHeartbeats 800000 in
theorem pf1_any {N : Nat} (s : ByteArray) (w : World) (F G : List UInt8) (eneg : Bool) (hs : s.data.toList = decText F G eneg) (h : Figures F G) (hV : Vars N w) :
    Calls Tryz.prog 206 #[.string s, .int .i64 64] w (PfxOut (rdec F (texp G eneg)) w) := by
  have H := Lib.hid (pfx_any s w F G eneg hs h hV)
  clear hs h hV
  go_enter Tryz.func206, Tryz.ntmps206
  go_wp2_with fail
  refine H.out.mono ?_
  rintro e w1 ⟨err, HE, rfl, hb⟩
  have HB := Lib.hid hb
  have HEE := Lib.hid HE
  clear hb HE
  go_wp2_with fail
  go_ret2
  exact ⟨err, HEE.out, rfl, HB.out⟩

set_option maxHeartbeats 800000 in
theorem pf_any {N : Nat} (s : ByteArray) (w : World) (F G : List UInt8) (eneg : Bool) (hs : s.data.toList = decText F G eneg) (h : Figures F G) (hV : Vars N w) :
    Calls Tryz.prog 148 #[.string s, .int .i64 64] w (PfOut (rdec F (texp G eneg)) w) := by
  have hsl : s.size ≤ 281474976710656 := by
    have hsz : s.size = (decText F G eneg).length := by rw [← hs]; simp
    have := h.len
    have := h.glen
    rw [hsz]; unfold decText; cases eneg <;> simp <;> omega
  have H := Lib.hid (pf1_any s w F G eneg hs h hV)
  have HV := Lib.hid hV
  clear hs h hV
  go_enter Tryz.func148, Tryz.ntmps148
  go_wp2_with fail
  refine H.out.mono ?_
  rintro e w1 ⟨err, HE, rfl, hb⟩
  have HB := Lib.hid hb
  clear hb
  rcases HE with rfl | rfl
  · go_wp2_with fail
    go_ret2
    exact ⟨_, rfl, HB.out⟩
  · go_wp2_with fail
    obtain ⟨ev, he1, he2⟩ := (HV.out.below HB.out HV.out.size).rng
    refine (Tryz.strconv_toError_range _ _ _ _ ev _ hsl he1 he2).mono ?_
    rintro e w2 ⟨n, rfl, hn, _, hb2⟩
    have HB2 := Lib.hid (HB.out.trans (hb2.mono HB.out.size))
    clear he1 he2 hn hb2
    go_wp2_with fail
    go_ret2
    exact ⟨_, rfl, HB2.out⟩
end Go.Proofs.YtpnfkipfjanmkaaGreatDoor
