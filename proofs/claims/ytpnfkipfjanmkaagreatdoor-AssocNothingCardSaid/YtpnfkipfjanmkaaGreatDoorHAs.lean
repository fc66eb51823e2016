/- DERIVED. WALKS: assoc's methods, at no array and at an array of the walk's own. -/
import Derived.Test.YtpnfkipfjanmkaaGreatDoorHA9
import Derived.Maps.OwnSet
import Derived.Maps.OwnIn
set_option linter.unusedVariables false
set_option linter.unusedSimpArgs false
namespace Go.Proofs.YtpnfkipfjanmkaaGreatDoor
open Go.RowKit Flt Go.Maps

/-- how an element reads: as itself -/
def hR (v : Value) : Option (DataW Value × List MemPlace) := some (.held v, [])
theorem key9 : Keyed Tryz.prog 9 := string_keyed Tryz.underlying9
theorem zero29 (w : World) : (zeroValue 29).run Tryz.prog w = .ok .nilIface w := by kernel_rfl
theorem key_str (s : ByteArray) (h : s.size ≤ maxLen) : keyOf Tryz.prog 9 (.string s) = some (.string s.data.toList) := by
  unfold keyOf mapKey
  rw [Tryz.underlying9]
  simp [h]

/-- block p: an array whose keys and values are D -/
structure Arr (p b n : Nat) (D : DataW Value) (w : World) : Prop where
  cell : w.cell? ⟨p, 0, none⟩ = some (.map (some b))
  map : w.ownsMap Tryz.prog 9 hR b n D
  ne : p ≠ b
  lt : p < w.heap.size

theorem Arr.below {p b n : Nat} {D : DataW Value} {w w' : World} (h : Arr p b n D w) (hb : Below w.heap.size w w') : Arr p b n D w' := {
  cell := (hb.cell h.lt).trans h.cell
  map := by
    have hl := h.map.lt
    obtain ⟨es, clock, h1, h2⟩ := h.map
    exact ⟨es, clock, (hb.block b hl).trans h1, h2⟩
  ne := h.ne
  lt := Nat.lt_of_lt_of_le h.lt hb.size }

theorem put_nil (key : ByteArray) (v : Value) (w : World) : Calls Tryz.prog 20 #[.pointer none, .string key, v] w fun e w' => e = .returned (.tuple #[]) ∧ w' = w := by
  go_enter Tryz.func20, Tryz.ntmps20
  go_wp2_with fail
  ((try simp only [Exit.inBlock, Exit.then]); first | refine bodyPost_end (results_none rfl _ _ _) rfl ?_ | refine bodyPost_ret (results_none rfl _ _ _) rfl ?_)
  exact ⟨rfl, rfl⟩
theorem delete_nil (key : ByteArray) (w : World) : Calls Tryz.prog 22 #[.pointer none, .string key] w fun e w' => e = .returned (.tuple #[]) ∧ w' = w := by
  go_enter Tryz.func22, Tryz.ntmps22
  go_wp2_with fail
  ((try simp only [Exit.inBlock, Exit.then]); first | refine bodyPost_end (results_none rfl _ _ _) rfl ?_ | refine bodyPost_ret (results_none rfl _ _ _) rfl ?_)
  exact ⟨rfl, rfl⟩
theorem len_nil (w : World) : Calls Tryz.prog 25 #[.pointer none] w fun e w' => e = .returned (.int .i64 0) ∧ w' = w := by
  go_enter Tryz.func25, Tryz.ntmps25
  go_wp2_with fail
  go_ret
  exact ⟨rfl, rfl⟩
theorem make109 (w : World) : (Instr.makeMap 109 none).run Tryz.prog w = .ok (.map (some w.heap.size)) (w.alloc (.map #[] 0))  := run_makeMap 109 w
theorem new_any (w : World) : Calls Tryz.prog 30 #[] w fun e w' => ∃ p b, e = .returned (.pointer (some ⟨p, 0, none⟩)) ∧ Arr p b 0 (.map []) w' ∧ w.heap.size ≤ p ∧ w.heap.size ≤ b ∧ Below w.heap.size w w' := by
  have hm := make109 w
  obtain ⟨w1, h1⟩ : ∃ w1, w.alloc (.map #[] 0) = w1 := ⟨_, rfl⟩
  rw [h1] at hm
  go_enter Tryz.func30, Tryz.ntmps30
  go_wp2_with fail
  go_ret
  have hs1 : w1.heap.size = w.heap.size + 1 := by rw [← h1]; exact Go.Deep.nblk_alloc w _
  have hb1 : Below w.heap.size w w1 := by rw [← h1]; exact (Below.refl _ _).alloc (Nat.le_refl _) _
  have hm1 : w1.ownsMap Tryz.prog 9 hR w.heap.size 0 (.map []) := by rw [← h1]; exact World.ownsMap_made w Tryz.prog 9 hR
  refine ⟨w1.heap.size, w.heap.size, rfl, ⟨by go_simp, hm1.alloc _, by omega, by rw [Go.Deep.nblk_alloc]; omega⟩, by omega, Nat.le_refl _, hb1.alloc hb1.size _⟩

theorem below_grown {B b : Nat} {w w' : World} (h : w.grownBy w' (some b)) (hb : B ≤ b) (hw : B ≤ w.heap.size) : Below B w w' :=
  ⟨h.os, h.tape, h.output, h.size, fun k hk => h.block k (by omega) (by intro hh; cases hh; omega)⟩

/-- Put, of a value that is there -/
theorem put_any (p b n : Nat) (D : DataW Value) (key : ByteArray) (t : TypeId) (x : Value) (w : World) (B : Nat) (hA : Arr p b n D w) (hn : n < maxLen) (hk : key.size ≤ maxLen) (hB : B ≤ p ∧ B ≤ b) :
    Calls Tryz.prog 20 #[.pointer (some ⟨p, 0, none⟩), .string key, .iface t x] w fun e w' => e = .returned (.tuple #[]) ∧ Arr p b (n + 1) (D.put (.string key.data.toList) (.held (.iface t x))) w' ∧ Below B w w' := by
  obtain ⟨w1, hrun, hm, hg⟩ := hA.map.update key9 Tryz.underlying109 hn (key_str key hk) (show hR (.iface t x) = some (.held (.iface t x), []) from rfl)
  have hc := hA.cell
  have hA' : Arr p b (n + 1) (D.put (.string key.data.toList) (.held (.iface t x))) w1 :=
    ⟨(World.cell?_of_block (hg.block p hA.lt (by intro h; cases h; exact hA.ne rfl))).trans hA.cell, hm, hA.ne, Nat.lt_of_lt_of_le hA.lt hg.size⟩
  have hb : Below B w w1 := below_grown hg hB.2 (by have := hA.lt; omega)
  have HA := Lib.hid hA'
  have HB := Lib.hid hb
  clear hm hg hA' hb hA hn hk hB
  go_enter Tryz.func20, Tryz.ntmps20
  go_wp2_with fail
  ((try simp only [Exit.inBlock, Exit.then]); first | refine bodyPost_end (results_none rfl _ _ _) rfl ?_ | refine bodyPost_ret (results_none rfl _ _ _) rfl ?_)
  exact ⟨rfl, HA.out, HB.out⟩
/-- .. of nothing: 'none' is put -/
theorem put_none (p b n : Nat) (D : DataW Value) (key : ByteArray) (w : World) (B : Nat) (hA : Arr p b n D w) (hn : n < maxLen) (hk : key.size ≤ maxLen) (hB : B ≤ p ∧ B ≤ b) :
    Calls Tryz.prog 20 #[.pointer (some ⟨p, 0, none⟩), .string key, .nilIface] w fun e w' => e = .returned (.tuple #[]) ∧ Arr p b (n + 1) (D.put (.string key.data.toList) (.held (.iface 108 (.agg #[])))) w' ∧ Below B w w' := by
  obtain ⟨w1, hrun, hm, hg⟩ := hA.map.update key9 Tryz.underlying109 hn (key_str key hk) (show hR (.iface 108 (.agg #[])) = some (.held (.iface 108 (.agg #[])), []) from rfl)
  have hc := hA.cell
  have hA' : Arr p b (n + 1) (D.put (.string key.data.toList) (.held (.iface 108 (.agg #[])))) w1 :=
    ⟨(World.cell?_of_block (hg.block p hA.lt (by intro h; cases h; exact hA.ne rfl))).trans hA.cell, hm, hA.ne, Nat.lt_of_lt_of_le hA.lt hg.size⟩
  have hb : Below B w w1 := below_grown hg hB.2 (by have := hA.lt; omega)
  have HA := Lib.hid hA'
  have HB := Lib.hid hb
  clear hm hg hA' hb hA hn hk hB
  go_enter Tryz.func20, Tryz.ntmps20
  go_wp2_with fail
  ((try simp only [Exit.inBlock, Exit.then]); first | refine bodyPost_end (results_none rfl _ _ _) rfl ?_ | refine bodyPost_ret (results_none rfl _ _ _) rfl ?_)
  exact ⟨rfl, HA.out, HB.out⟩
theorem has_any (p b n : Nat) (D : DataW Value) (key : ByteArray) (w : World) (hA : Arr p b n D w) (hk : key.size ≤ maxLen) :
    Calls Tryz.prog 27 #[.pointer (some ⟨p, 0, none⟩), .string key] w fun e w' => e = .returned (.bool (Maps.has D (.string key.data.toList))) ∧ w' = w := by
  obtain ⟨v, ps, hrun, hv⟩ := hA.map.look_ok key9 Tryz.underlying109 (zero29 w) (show hR .nilIface = some (.held .nilIface, []) from rfl) (key_str key hk)
  have hc := hA.cell
  clear hv hA hk
  generalize Maps.has D (.string key.data.toList) = r at *
  go_enter Tryz.func27, Tryz.ntmps27
  go_wp2_with fail
  go_ret
  exact ⟨rfl, rfl⟩
theorem get_hit (p b n : Nat) (D : DataW Value) (key : ByteArray) (u : Value) (w : World) (hA : Arr p b n D w) (hk : key.size ≤ maxLen) (hh : Maps.has D (.string key.data.toList) = true) (hd : D.atKey (.string key.data.toList) (.held .nilIface) = .held u) :
    Calls Tryz.prog 29 #[.pointer (some ⟨p, 0, none⟩), .string key] w fun e w' => e = .returned u ∧ w' = w := by
  obtain ⟨v, ps, hrun, hv⟩ := hA.map.look_ok key9 Tryz.underlying109 (zero29 w) (show hR .nilIface = some (.held .nilIface, []) from rfl) (key_str key hk)
  have hvu : v = u := by
    rw [hd] at hv
    exact DataW.held.inj (Prod.mk.inj (Option.some.inj hv)).1
  subst hvu
  have hc := hA.cell
  rw [hh] at hrun
  clear hv hA hk hh hd
  go_enter Tryz.func29, Tryz.ntmps29
  go_wp2_with fail
  go_ret
  exact ⟨rfl, rfl⟩
theorem get_nil (key : ByteArray) (w : World) : Calls Tryz.prog 29 #[.pointer none, .string key] w fun e w' => e = .returned (.iface 108 (.agg #[])) ∧ w' = w := by
  go_enter Tryz.func29, Tryz.ntmps29
  go_wp2_with fail
  go_ret
  exact ⟨rfl, rfl⟩
theorem has_nil (key : ByteArray) (w : World) : Calls Tryz.prog 27 #[.pointer none, .string key] w fun e w' => e = .returned (.bool false) ∧ w' = w := by
  go_enter Tryz.func27, Tryz.ntmps27
  go_wp2_with fail
  go_ret
  exact ⟨rfl, rfl⟩
theorem keys_nil (w : World) : Calls Tryz.prog 26 #[.pointer none] w fun e w' => e = .returned (.slice none 0 0) ∧ w' = w := by
  go_enter Tryz.func26, Tryz.ntmps26
  go_wp2_with fail
  go_ret
  exact ⟨rfl, rfl⟩
theorem clear_nil (w : World) : Calls Tryz.prog 23 #[.pointer none] w fun e w' => e = .returned (.tuple #[]) ∧ w' = w := by
  go_enter Tryz.func23, Tryz.ntmps23
  go_wp2_with fail
  ((try simp only [Exit.inBlock, Exit.then]); first | refine bodyPost_end (results_none rfl _ _ _) rfl ?_ | refine bodyPost_ret (results_none rfl _ _ _) rfl ?_)
  exact ⟨rfl, rfl⟩
theorem len_any (p b n : Nat) (D : DataW Value) (w : World) (hA : Arr p b n D w) : Calls Tryz.prog 25 #[.pointer (some ⟨p, 0, none⟩)] w fun e w' => e = .returned (.int .i64 (Maps.size D)) ∧ w' = w := by
  have hrun := fun ty => hA.map.len Tryz.underlying109 ty
  have hc := hA.cell
  generalize Maps.size D = r at *
  clear hA
  go_enter Tryz.func25, Tryz.ntmps25
  go_wp2_with fail
  go_ret
  exact ⟨rfl, rfl⟩
theorem copy_nil (w : World) : Calls Tryz.prog 24 #[.pointer none] w fun e w' => ∃ p b, e = .returned (.pointer (some ⟨p, 0, none⟩)) ∧ Arr p b 0 (.map []) w' ∧ w.heap.size ≤ p ∧ w.heap.size ≤ b ∧ Below w.heap.size w w' := by
  have HN := Lib.hid (new_any w)
  go_enter Tryz.func24, Tryz.ntmps24
  go_wp2_with fail
  refine HN.out.mono ?_
  rintro e w1 ⟨p, b, rfl, h1, h2, h3, h4⟩
  have H := Lib.hid (And.intro h1 (And.intro h2 (And.intro h3 h4)))
  clear h1 h2 h3 h4
  go_wp2_with fail
  go_ret
  exact ⟨p, b, rfl, H.out⟩
end Go.Proofs.YtpnfkipfjanmkaaGreatDoor
