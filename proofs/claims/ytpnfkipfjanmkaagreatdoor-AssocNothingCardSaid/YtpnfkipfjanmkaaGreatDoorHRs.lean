/- DERIVED. SHAPES: a struct of a text, a float and a text (type 24), as the form reads it. -/
import Derived.Test.YtpnfkipfjanmkaaGreatDoorHFr
import Derived.Deep.Strs
set_option linter.unusedVariables false
set_option linter.unusedSimpArgs false
namespace Go.Proofs.YtpnfkipfjanmkaaGreatDoor.S24
open Go.RowKit Flt Go.Lib Go.ChangeShapes Go.WideShapes Go.ChangeAt

theorem cells24 : Tryz.prog.cellsOf 24 = 3 := by kernel_rfl
theorem cells9 : Tryz.prog.cellsOf 9 = 1 := by kernel_rfl
theorem cells22 : Tryz.prog.cellsOf 22 = 1 := by kernel_rfl
theorem list3 {α : Type} (l : List α) (h : l.length = 3) : ∃ a b c, l = [a, b, c] := by
  match l, h with
  | [a, b, c], _ => exact ⟨a, b, c, rfl⟩
section
variable {H : Type} {enc : TypeId × Value → H} {w : World} {base : Nat} {spare : Nat → Bool} {held : Bool}

theorem trod_float {t : TypeId} {k : FloatKind} {fuel : Nat} {cs : List Value} {x : DataW H × List MemPlace} (ht : Tryz.prog.underlying t = some (.float k)) (h : DataW.trod enc Tryz.prog w base spare held fuel t cs = some x) :
    ∃ n, cs = [.float k n] ∧ x = (.lit (.float k n), []) ∧ (Lit.float k n).wf = true := by
  cases fuel with
  | zero => simp [DataW.trod] at h
  | succ n =>
    unfold DataW.trod at h
    rw [ht] at h
    split at h <;> simp_all

theorem struct24 {n : Nat} {a b c : Value} {x : DataW H × List MemPlace} (h : DataW.trod enc Tryz.prog w base spare held n 24 [a, b, c] = some x) :
    ∃ k f s, a = .string k ∧ b = .float .f64 f ∧ c = .string s ∧ x = (.agg [.lit (.string k.data.toList), .lit (.float .f64 f), .lit (.string s.data.toList)], []) ∧ k.size ≤ maxLen ∧ s.size ≤ maxLen ∧ (Lit.float .f64 f).wf = true := by
  obtain ⟨y0, y1, y2, m, hx, _, h0, h1, h2⟩ := Go.Deep.trod_struct3 Tryz.underlying24 h
  rw [cells9] at h0 h2
  rw [cells22] at h1
  obtain ⟨k, e0, rfl, hk⟩ := DataW.trod_string Tryz.underlying9 h0
  obtain ⟨f, e1, rfl, hf⟩ := trod_float Tryz.underlying22 h1
  obtain ⟨s, e2, rfl, hs⟩ := DataW.trod_string Tryz.underlying9 h2
  simp at e0 e1 e2
  exact ⟨k, f, s, e0, e1, e2, hx, hk, hs, hf⟩

theorem struct24_mk {k s : ByteArray} {f n : Nat} (hk : k.size ≤ maxLen) (hs : s.size ≤ maxLen) (hf : (Lit.float .f64 f).wf = true) :
    DataW.trod enc Tryz.prog w base spare held (n + 2) 24 [.string k, .float .f64 f, .string s] = some (.agg [.lit (.string k.data.toList), .lit (.float .f64 f), .lit (.string s.data.toList)], []) := by
  have := Go.Deep.trod_struct3_mk (enc := enc) (w := w) (base := base) (spare := spare) (held := held) (n := n + 1) (cs := [.string k, .float .f64 f, .string s]) (y0 := (.lit (.string k.data.toList), [])) (y1 := (.lit (.float .f64 f), [])) (y2 := (.lit (.string s.data.toList), [])) Tryz.underlying24 (by rw [cells24]; rfl)
    (by rw [cells9]; simp [DataW.trod, Tryz.underlying9, hk]) (by rw [cells22]; simp [DataW.trod, Tryz.underlying22, hf]) (by rw [cells9]; simp [DataW.trod, Tryz.underlying9, hs])
  exact this


set_option maxRecDepth 100000 in
/-- the argument, opened, and shut again in whatever world -/
theorem open24 {W : World} {r : Reach} {b0 : Nat} {v : Value} {d : DataW H} {ps : List MemPlace} (hv : Value.okWide Tryz.prog W r b0 24 v) (h : DataW.Trod enc Tryz.prog w base spare held 24 v d ps) :
    ∃ k x s, v = .agg #[.string k, .float .f64 x, .string s] ∧ ps = [] ∧ ∀ (w' : World) (base' : Nat) (sp : Nat → Bool) (hd : Bool), DataW.Trod enc Tryz.prog w' base' sp hd 24 (.agg #[.string k, .float .f64 x, .string s]) d [] := by
  have h1 := okWide_struct (P := Tryz.prog) (t := 24) Tryz.underlying24 hv
  clear hv
  rw [cells24] at h1
  obtain ⟨cs, hv, hsz⟩ := h1
  subst hv
  obtain ⟨l⟩ := cs
  obtain ⟨c0, c1, c2, rfl⟩ := list3 l hsz
  obtain ⟨fuel, hf⟩ := h
  obtain ⟨k, f, s, rfl, rfl, rfl, hx, hk, hs, hw⟩ := struct24 hf
  simp only [Prod.mk.injEq] at hx
  obtain ⟨rfl, rfl⟩ := hx
  exact ⟨k, f, s, rfl, rfl, fun w' base' sp hd => ⟨2, struct24_mk (n := 0) hk hs hw⟩⟩
end
end Go.Proofs.YtpnfkipfjanmkaaGreatDoor.S24
