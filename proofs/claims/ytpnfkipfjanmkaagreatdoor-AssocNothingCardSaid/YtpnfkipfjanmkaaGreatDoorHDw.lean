/- DERIVED. The decimal's block, cell by cell. -/
import Derived.Test.YtpnfkipfjanmkaaGreatDoorHWd
import Derived.Deep.OwnRows
import Derived.Deep.QuietTactic
import Derived.BigQuiet
set_option linter.unusedVariables false
set_option linter.unusedSimpArgs false
namespace Go.Proofs.YtpnfkipfjanmkaaGreatDoor
open Go.RowKit

def dcells (D : Nat → Int) (nd dp : Int) (ng tr : Bool) : Nat → Value := fun j => if j < 800 then .int .u8 (D j) else if j = 800 then .int .i64 nd else if j = 801 then .int .i64 dp else if j = 802 then .bool ng else .bool tr

/-- Block p is the decimal. -/
def DecB (p : Nat) (D : Nat → Int) (nd dp : Int) (ng tr : Bool) (w : World) : Prop := w.rowIs p 306 804 (dcells D nd dp ng tr)

namespace DecB
variable {p : Nat} {D : Nat → Int} {nd dp : Int} {ng tr : Bool} {w : World}
theorem dig (h : DecB p D nd dp ng tr w) {i : Nat} (hi : i < 800) : w.cell? ⟨p, i, none⟩ = some (.int .u8 (D i)) := by
  rw [h.cell (by omega)]; simp [dcells, hi]
theorem nd' (h : DecB p D nd dp ng tr w) : w.cell? ⟨p, 800, none⟩ = some (.int .i64 nd) := h.cell (by omega)
theorem dp' (h : DecB p D nd dp ng tr w) : w.cell? ⟨p, 801, none⟩ = some (.int .i64 dp) := h.cell (by omega)
theorem ng' (h : DecB p D nd dp ng tr w) : w.cell? ⟨p, 802, none⟩ = some (.bool ng) := h.cell (by omega)
theorem tr' (h : DecB p D nd dp ng tr w) : w.cell? ⟨p, 803, none⟩ = some (.bool tr) := h.cell (by omega)
theorem fz (h : DecB p D nd dp ng tr w) (i : Nat) : w.frozen? ⟨p, i, none⟩ = false := h.frozen i
theorem drewN (h : DecB p D nd dp ng tr w) (n : Nat) : DecB p D nd dp ng tr (w.drewN n) := h
theorem setNd (h : DecB p D nd dp ng tr w) (v : Int) : DecB p D v dp ng tr (w.setCell ⟨p, 800, none⟩ (.int .i64 v)) :=
  (World.rowIs.set h _ _).congr fun i hi => by
    by_cases e : i = 800
    · subst e; rfl
    · rw [if_neg e]; simp [dcells, e]
theorem setDp (h : DecB p D nd dp ng tr w) (v : Int) : DecB p D nd v ng tr (w.setCell ⟨p, 801, none⟩ (.int .i64 v)) :=
  (World.rowIs.set h _ _).congr fun i hi => by
    by_cases e : i = 801
    · subst e; rfl
    · rw [if_neg e]; simp [dcells, e]
theorem setNg (h : DecB p D nd dp ng tr w) (v : Bool) : DecB p D nd dp v tr (w.setCell ⟨p, 802, none⟩ (.bool v)) :=
  (World.rowIs.set h _ _).congr fun i hi => by
    by_cases e : i = 802
    · subst e; rfl
    · rw [if_neg e]; simp [dcells, e]
theorem setTr (h : DecB p D nd dp ng tr w) (v : Bool) : DecB p D nd dp ng v (w.setCell ⟨p, 803, none⟩ (.bool v)) :=
  (World.rowIs.set h _ _).congr fun i hi => by
    by_cases e : i = 803
    · subst e; rfl
    · rw [if_neg e]
      have h1 : i < 803 := by omega
      unfold dcells
      by_cases a : i < 800
      · rw [if_pos a, if_pos a]
      · rw [if_neg a, if_neg a]
        by_cases b : i = 800
        · rw [if_pos b, if_pos b]
        · rw [if_neg b, if_neg b]
          by_cases c : i = 801
          · rw [if_pos c, if_pos c]
          · rw [if_neg c, if_neg c, if_pos (by omega), if_pos (by omega)]
theorem setDig (h : DecB p D nd dp ng tr w) {k : Nat} (hk : k < 800) (v : Int) : DecB p (fun j => if j = k then v else D j) nd dp ng tr (w.setCell ⟨p, k, none⟩ (.int .u8 v)) :=
  (World.rowIs.set h _ _).congr fun i hi => by
    by_cases e : i = k
    · subst e; simp [dcells, hk]
    · rw [if_neg e]; simp [dcells, e]
end DecB

theorem below_drewN {B : Nat} {a w : World} (h : Below B a w) (n : Nat) : Below B a (w.drewN n) := ⟨h.os, h.tape, h.output, h.size, h.block⟩

def trimN (D : Nat → Int) : Nat → Nat
  | 0 => 0
  | n + 1 => if D n = 48 then trimN D n else n + 1

def decNd (p : Nat) (w : World) : Nat := match w.cell? ⟨p, 800, none⟩ with | some v => (intOf v).toNat | none => 0
theorem DecB.ndOf {p : Nat} {D : Nat → Int} {nd dp : Int} {ng tr : Bool} {w : World} (h : DecB p D nd dp ng tr w) : decNd p w = nd.toNat := by
  unfold decNd; rw [h.nd']; rfl


set_option maxHeartbeats 1600000 in
theorem dtrim_any (p n : Nat) (D : Nat → Int) (dp : Int) (ng tr : Bool) (w : World) (h : DecB p D n dp ng tr w) (hn : n ≤ 800) :
    Calls Tryz.prog 311 #[.pointer (some ⟨p, 0, none⟩)] w fun e w' => e = .returned (.tuple #[]) ∧ Below p w w' ∧ DecB p D (trimN D n : Nat) (if trimN D n = 0 then 0 else dp) ng tr w' := by
  obtain ⟨t, ht⟩ : ∃ t, trimN D n = t := ⟨_, rfl⟩
  rw [ht]
  obtain ⟨q, hq⟩ : ∃ q, (if t = 0 then 0 else dp) = q := ⟨_, rfl⟩
  rw [hq]
  have HH := Lib.hid h
  have HT := Lib.hid ht
  have HQ := Lib.hid hq
  clear h ht hq
  go_enter Tryz.func311, Tryz.ntmps311
  go_wp2_with fail
  go_loopw [] (fun wr => ∃ m : Nat, m ≤ n ∧ trimN D m = t ∧ Below p w wr ∧ DecB p D m dp ng tr wr) (fun wr => decNd p wr)
  case atStart => exact ⟨n, Nat.le_refl _, HT.out, Below.refl _ _, HH.out⟩
  case round =>
    obtain ⟨m, hm, htm, hb, hd⟩ := hrel
    have h0 := hd.nd'
    have h1 := hd.fz
    have h2 := hd.dp'
    have HM := Lib.hid htm
    have HB := Lib.hid hb
    have HD := Lib.hid hd
    clear htm hb
    rcases m with _ | k
    · clear hd
      have ht0 : 0 = t := HM.out
      subst ht0
      have hq0 : q = 0 := HQ.out.symm.trans (if_pos rfl)
      subst hq0
      go_wp2_with fail
      go_quiet (fail)
      all_goals go_wp2_with fail
      ((try simp only [Exit.inBlock, Exit.then]); first | refine bodyPost_end (results_none rfl _ _ _) rfl ?_ | refine bodyPost_ret (results_none rfl _ _ _) rfl ?_)
      exact ⟨rfl, (below_drewN HB.out _).setCell (Nat.le_refl _) _, (HD.out.drewN _).setDp 0⟩
    · have hc := hd.dig (i := k) (by omega)
      clear hd
      have hcast : ((k + 1 : Nat) : Int) = (k : Int) + 1 := by omega
      rw [hcast] at h0
      have hp : decide ((0 : Int) < (k : Int) + 1) = true := by rw [decide_eq_true_eq]; omega
      have hs1 : (k : Int) + 1 - 1 = k := by omega
      by_cases h48 : D k = 48
      · rw [h48] at hc
        go_wp2_with fail
        go_quiet (fail)
        all_goals go_wp2_with fail
        have HD' := (HD.out.drewN nq).setNd k
        refine ⟨⟨k, by omega, ?_, (below_drewN HB.out _).setCell (Nat.le_refl _) _, HD'⟩, ?_⟩
        · rw [← HM.out]; show _ = (if D k = 48 then _ else _); rw [if_pos h48]
        · rw [HD'.ndOf, HD.out.ndOf]; omega
      · have hne : (D k == 48) = false := by rw [beq_eq_false_iff_ne]; exact h48
        go_wp2_with fail
        go_quiet (fail)
        all_goals go_wp2_with fail
        ((try simp only [Exit.inBlock, Exit.then]); first | refine bodyPost_end (results_none rfl _ _ _) rfl ?_ | refine bodyPost_ret (results_none rfl _ _ _) rfl ?_)
        have ht1 : k + 1 = t := by rw [← HM.out]; show _ = (if D k = 48 then _ else _); rw [if_neg h48]
        have hq1 : dp = q := by rw [← HQ.out, if_neg (by omega)]
        subst hq1
        rw [← ht1]
        exact ⟨rfl, below_drewN HB.out _, HD.out.drewN _⟩

end Go.Proofs.YtpnfkipfjanmkaaGreatDoor
