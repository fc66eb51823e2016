/- DERIVED. SHAPES: an array of three structs as the form reads it. -/
import Derived.Test.YtpnfkipfjanmkaaGreatDoorHWz
import Derived.Test.YtpnfkipfjanmkaaGreatDoorHFr
set_option linter.unusedVariables false
set_option linter.unusedSimpArgs false
namespace Go.Proofs.YtpnfkipfjanmkaaGreatDoor.Rises
open Go.RowKit Flt Go.Lib Go.ChangeShapes Go.WideShapes Go.ChangeAt

theorem cells92 : Tryz.prog.cellsOf 92 = 9 := by kernel_rfl
theorem cells24 : Tryz.prog.cellsOf 24 = 3 := by kernel_rfl
theorem cells9 : Tryz.prog.cellsOf 9 = 1 := by kernel_rfl
theorem cells22 : Tryz.prog.cellsOf 22 = 1 := by kernel_rfl

theorem list9 {α : Type} (l : List α) (h : l.length = 9) : ∃ a b c d e f g i j, l = [a, b, c, d, e, f, g, i, j] := by
  match l, h with
  | [a, b, c, d, e, f, g, i, j], _ => exact ⟨a, b, c, d, e, f, g, i, j, rfl⟩

section
variable {H : Type} {enc : TypeId × Value → H} {w : World} {base : Nat} {spare : Nat → Bool} {held : Bool}

theorem trod_float {t : TypeId} {k : FloatKind} {fuel : Nat} {cs : List Value} {x : DataW H × List MemPlace} (ht : Tryz.prog.underlying t = some (.float k)) (h : DataW.trod enc Tryz.prog w base spare held fuel t cs = some x) :
    ∃ n, cs = [.float k n] ∧ x = (.lit (.float k n), []) ∧ (Lit.float k n).wf = true := by
  cases fuel with
  | zero => simp [DataW.trod] at h
  | succ n =>
    unfold DataW.trod at h
    rw [ht] at h
    split at h <;> simp_all

theorem struct24 {n : Nat} {a b c : Value} {x : DataW H × List MemPlace} (h : DataW.trod enc Tryz.prog w base spare held n 24 [a, b, c] = some x) :
    ∃ k f s, a = .string k ∧ b = .float .f64 f ∧ c = .string s ∧ x = (.agg [.lit (.string k.data.toList), .lit (.float .f64 f), .lit (.string s.data.toList)], []) ∧ k.size ≤ maxLen ∧ s.size ≤ maxLen ∧ (Lit.float .f64 f).wf = true := by
  obtain ⟨y0, y1, y2, m, hx, _, h0, h1, h2⟩ := Go.Deep.trod_struct3 Tryz.underlying24 h
  rw [cells9] at h0 h2
  rw [cells22] at h1
  obtain ⟨k, e0, rfl, hk⟩ := DataW.trod_string Tryz.underlying9 h0
  obtain ⟨f, e1, rfl, hf⟩ := trod_float Tryz.underlying22 h1
  obtain ⟨s, e2, rfl, hs⟩ := DataW.trod_string Tryz.underlying9 h2
  simp at e0 e1 e2
  exact ⟨k, f, s, e0, e1, e2, hx, hk, hs, hf⟩

theorem struct24_mk {k s : ByteArray} {f n : Nat} (hk : k.size ≤ maxLen) (hs : s.size ≤ maxLen) (hf : (Lit.float .f64 f).wf = true) :
    DataW.trod enc Tryz.prog w base spare held (n + 2) 24 [.string k, .float .f64 f, .string s] = some (.agg [.lit (.string k.data.toList), .lit (.float .f64 f), .lit (.string s.data.toList)], []) := by
  have := Go.Deep.trod_struct3_mk (enc := enc) (w := w) (base := base) (spare := spare) (held := held) (n := n + 1) (cs := [.string k, .float .f64 f, .string s]) (y0 := (.lit (.string k.data.toList), [])) (y1 := (.lit (.float .f64 f), [])) (y2 := (.lit (.string s.data.toList), [])) Tryz.underlying24 (by rw [cells24]; rfl)
    (by rw [cells9]; simp [DataW.trod, Tryz.underlying9, hk]) (by rw [cells22]; simp [DataW.trod, Tryz.underlying22, hf]) (by rw [cells9]; simp [DataW.trod, Tryz.underlying9, hs])
  exact this

theorem array33 {P : Program} {t e : TypeId} (ht : P.underlying t = some (.array 3 e)) (hce : P.cellsOf e = 3) {fuel : Nat} {c0 c1 c2 c3 c4 c5 c6 c7 c8 : Value} {x : DataW H × List MemPlace} (h : DataW.trod enc P w base spare held fuel t [c0, c1, c2, c3, c4, c5, c6, c7, c8] = some x) :
    ∃ y0 y1 y2 n, x = (.agg [y0.1, y1.1, y2.1], y0.2 ++ (y1.2 ++ y2.2)) ∧ DataW.trod enc P w base spare held n e [c0, c1, c2] = some y0 ∧ DataW.trod enc P w base spare held n e [c3, c4, c5] = some y1 ∧ DataW.trod enc P w base spare held n e [c6, c7, c8] = some y2 := by
  cases fuel with
  | zero => simp [DataW.trod] at h
  | succ n =>
    unfold DataW.trod at h
    rw [ht] at h
    have r3 : List.range 3 = [0, 1, 2] := rfl
    simp [r3, hce] at h
    obtain ⟨_, h⟩ := h
    cases h0 : DataW.trod enc P w base spare held n e [c0, c1, c2] with
    | none => simp [h0] at h
    | some y0 =>
      cases h1 : DataW.trod enc P w base spare held n e [c3, c4, c5] with
      | none => simp [h0, h1] at h
      | some y1 =>
        cases h2 : DataW.trod enc P w base spare held n e [c6, c7, c8] with
        | none => simp [h0, h1, h2] at h
        | some y2 =>
          simp [h0, h1, h2] at h
          exact ⟨y0, y1, y2, n, h.symm, h0, h1, h2⟩

def K3 (a b c : ByteArray) : Nat → ByteArray | 0 => a | 1 => b | _ => c
def X3 (a b c : Nat) : Nat → Nat | 0 => a | 1 => b | _ => c
def d3 (k : ByteArray) (f : Nat) (s : ByteArray) : DataW H := .agg [.lit (.string k.data.toList), .lit (.float .f64 f), .lit (.string s.data.toList)]

theorem array33_mk {P : Program} {t e : TypeId} (ht : P.underlying t = some (.array 3 e)) (hce : P.cellsOf e = 3) (hct : P.cellsOf t = 9) {c0 c1 c2 c3 c4 c5 c6 c7 c8 : Value} {d0 d1 d2 : DataW H} {n : Nat}
    (e0 : DataW.trod enc P w base spare held n e [c0, c1, c2] = some (d0, [])) (e1 : DataW.trod enc P w base spare held n e [c3, c4, c5] = some (d1, [])) (e2 : DataW.trod enc P w base spare held n e [c6, c7, c8] = some (d2, [])) :
    DataW.trod enc P w base spare held (n + 1) t [c0, c1, c2, c3, c4, c5, c6, c7, c8] = some (.agg [d0, d1, d2], []) := by
  have r3 : List.range 3 = [0, 1, 2] := rfl
  unfold DataW.trod
  rw [ht]
  simp [r3, hce, hct, e0, e1, e2]

theorem array92_mk {k0 k1 k2 s0 s1 s2 : ByteArray} {f0 f1 f2 n : Nat} (h0 : k0.size ≤ maxLen ∧ s0.size ≤ maxLen ∧ (Lit.float .f64 f0).wf = true) (h1 : k1.size ≤ maxLen ∧ s1.size ≤ maxLen ∧ (Lit.float .f64 f1).wf = true) (h2 : k2.size ≤ maxLen ∧ s2.size ≤ maxLen ∧ (Lit.float .f64 f2).wf = true) :
    DataW.trod enc Tryz.prog w base spare held (n + 3) 92 [.string k0, .float .f64 f0, .string s0, .string k1, .float .f64 f1, .string s1, .string k2, .float .f64 f2, .string s2] = some (.agg [d3 k0 f0 s0, d3 k1 f1 s1, d3 k2 f2 s2], []) :=
  array33_mk Tryz.underlying92 cells24 cells92 (struct24_mk h0.1 h0.2.1 h0.2.2) (struct24_mk h1.1 h1.2.1 h1.2.2) (struct24_mk h2.1 h2.2.1 h2.2.2)

theorem okWide_array {P : Program} {W : World} {r : Reach} {b0 : Nat} {t e : TypeId} {n : Nat} {v : Value} (ht : P.underlying t = some (.array n e)) (h : Value.okWide P W r b0 t v) : ∃ cs, v = .agg cs ∧ cs.size = P.cellsOf t := by
  obtain ⟨cs, h1, h2, _⟩ : ∃ cs, v = .agg cs ∧ cs.size = P.cellsOf t ∧ Row.okWide P W r b0 t cs := by
    simpa [Value.okWide, ht] using h
  exact ⟨cs, h1, h2⟩

set_option maxRecDepth 100000 in
/-- the argument, opened, and shut again in whatever world -/
theorem open92 {W : World} {r : Reach} {b0 : Nat} {v : Value} {d : DataW H} {ps : List MemPlace} (hv : Value.okWide Tryz.prog W r b0 92 v) (h : DataW.Trod enc Tryz.prog w base spare held 92 v d ps) :
    ∃ K S X, v = arr9 K S X ∧ ps = [] ∧ ∀ (w' : World) (base' : Nat) (sp : Nat → Bool) (hd : Bool), DataW.Trod enc Tryz.prog w' base' sp hd 92 (arr9 K S X) d [] := by
  have h1 := okWide_array (P := Tryz.prog) (t := 92) (n := 3) (e := 24) Tryz.underlying92 hv
  clear hv
  rw [cells92] at h1
  obtain ⟨cs, hv, hsz⟩ := h1
  subst hv
  obtain ⟨l⟩ := cs
  obtain ⟨c0, c1, c2, c3, c4, c5, c6, c7, c8, rfl⟩ := list9 l hsz
  obtain ⟨fuel, hf⟩ := h
  obtain ⟨y0, y1, y2, n, hx, e0, e1, e2⟩ := array33 Tryz.underlying92 cells24 hf
  obtain ⟨k0, f0, s0, rfl, rfl, rfl, rfl, w0⟩ := struct24 e0
  obtain ⟨k1, f1, s1, rfl, rfl, rfl, rfl, w1⟩ := struct24 e1
  obtain ⟨k2, f2, s2, rfl, rfl, rfl, rfl, w2⟩ := struct24 e2
  simp only [Prod.mk.injEq] at hx
  obtain ⟨rfl, rfl⟩ := hx
  exact ⟨K3 k0 k1 k2, K3 s0 s1 s2, X3 f0 f1 f2, rfl, rfl, fun w' base' sp hd => ⟨3, array92_mk (n := 0) ⟨w0.1, w0.2.1, w0.2.2⟩ ⟨w1.1, w1.2.1, w1.2.2⟩ ⟨w2.1, w2.2.1, w2.2.2⟩⟩⟩
end
end Go.Proofs.YtpnfkipfjanmkaaGreatDoor.Rises
