/- DERIVED. WALKS: value.Number, Outside, True, Plain. -/
import Derived.Test.YtpnfkipfjanmkaaGreatDoorHVa
set_option linter.unusedVariables false
set_option linter.unusedSimpArgs false
namespace Go.Proofs.YtpnfkipfjanmkaaGreatDoor
open Go.RowKit Flt Go.Joins

def numberV : PVal → Nat
  | .none => 0
  | .num x => x
  | .str s => preV s.data.toList
  | .both x _ => x
def sizeV : PVal → Nat
  | .str s => s.size
  | _ => 0

theorem ta108_112 (x : Value) (w : World) : Sem.run Tryz.prog (Instr.typeAssert (.iface 108 x) 29 112 true) w = .ok (.tuple #[.float .f64 0, .bool false]) w := by kernel_rfl
theorem ta108_113 (x : Value) (w : World) : Sem.run Tryz.prog (Instr.typeAssert (.iface 108 x) 29 113 true) w = .ok (.tuple #[.string ⟨#[]⟩, .bool false]) w := by kernel_rfl
theorem ta108_115 (x : Value) (w : World) : Sem.run Tryz.prog (Instr.typeAssert (.iface 108 x) 29 115 true) w = .ok (.tuple #[.agg #[.float .f64 0, .string ⟨#[]⟩], .bool false]) w := by kernel_rfl
theorem ta112_112 (x : Value) (w : World) : Sem.run Tryz.prog (Instr.typeAssert (.iface 112 x) 29 112 true) w = .ok (.tuple #[x, .bool true]) w := by kernel_rfl
theorem ta112_113 (x : Value) (w : World) : Sem.run Tryz.prog (Instr.typeAssert (.iface 112 x) 29 113 true) w = .ok (.tuple #[.string ⟨#[]⟩, .bool false]) w := by kernel_rfl
theorem ta112_115 (x : Value) (w : World) : Sem.run Tryz.prog (Instr.typeAssert (.iface 112 x) 29 115 true) w = .ok (.tuple #[.agg #[.float .f64 0, .string ⟨#[]⟩], .bool false]) w := by kernel_rfl
theorem ta113_112 (x : Value) (w : World) : Sem.run Tryz.prog (Instr.typeAssert (.iface 113 x) 29 112 true) w = .ok (.tuple #[.float .f64 0, .bool false]) w := by kernel_rfl
theorem ta113_113 (x : Value) (w : World) : Sem.run Tryz.prog (Instr.typeAssert (.iface 113 x) 29 113 true) w = .ok (.tuple #[x, .bool true]) w := by kernel_rfl
theorem ta113_115 (x : Value) (w : World) : Sem.run Tryz.prog (Instr.typeAssert (.iface 113 x) 29 115 true) w = .ok (.tuple #[.agg #[.float .f64 0, .string ⟨#[]⟩], .bool false]) w := by kernel_rfl
theorem ta115_112 (x : Value) (w : World) : Sem.run Tryz.prog (Instr.typeAssert (.iface 115 x) 29 112 true) w = .ok (.tuple #[.float .f64 0, .bool false]) w := by kernel_rfl
theorem ta115_113 (x : Value) (w : World) : Sem.run Tryz.prog (Instr.typeAssert (.iface 115 x) 29 113 true) w = .ok (.tuple #[.string ⟨#[]⟩, .bool false]) w := by kernel_rfl
theorem ta115_115 (x : Value) (w : World) : Sem.run Tryz.prog (Instr.typeAssert (.iface 115 x) 29 115 true) w = .ok (.tuple #[x, .bool true]) w := by kernel_rfl
theorem mp108 (x : Value) (w : World) : Sem.run Tryz.prog (method 509 108 x "tedder/value.plain") w = .ok (363, x) w := by kernel_rfl
theorem mp112 (x : Value) (w : World) : Sem.run Tryz.prog (method 509 112 x "tedder/value.plain") w = .ok (364, x) w := by kernel_rfl
theorem mp113 (x : Value) (w : World) : Sem.run Tryz.prog (method 509 113 x "tedder/value.plain") w = .ok (365, x) w := by kernel_rfl
theorem mp115 (x : Value) (w : World) : Sem.run Tryz.prog (method 509 115 x "tedder/value.plain") w = .ok (366, x) w := by kernel_rfl
set_option maxHeartbeats 1600000 in
set_option maxRecDepth 100000 in
theorem number_any {N : Nat} (v : PVal) (w : World) (hl : sizeV v ≤ 780) (hV : Vars N w) : Calls Tryz.prog 68 #[VV v] w (ValOut (.float .f64 (numberV v)) w) := by
  cases v with
  | none =>
    simp only [VV, numberV]
    clear hl hV
    have t1 := ta108_112
    have t2 := ta108_113
    have t3 := ta108_115
    go_enter Tryz.func68, Tryz.ntmps68
    go_wp2_with fail
    go_ret
    exact ⟨rfl, Below.refl _ _⟩
  | num x =>
    simp only [VV, numberV]
    clear hl hV
    have t1 := ta112_112
    go_enter Tryz.func68, Tryz.ntmps68
    go_wp2_with fail
    go_ret
    exact ⟨rfl, Below.refl _ _⟩
  | both x s =>
    simp only [VV, numberV]
    clear hl hV
    have t1 := ta115_112
    have t3 := ta115_115
    go_enter Tryz.func68, Tryz.ntmps68
    go_wp2_with fail
    go_ret
    exact ⟨rfl, (Below.refl w.heap.size w).alloc (Nat.le_refl _) _⟩
  | str s =>
    simp only [VV, numberV]
    have HP := Lib.hid (dprefix_any s w hl hV)
    obtain ⟨v, hv⟩ : ∃ v, preV s.data.toList = v := ⟨_, rfl⟩
    unfold PreOut at HP
    rw [hv] at HP ⊢
    clear hl hV hv
    have t1 := ta113_112
    have t2 := ta113_113
    have t3 := ta113_115
    go_enter Tryz.func68, Tryz.ntmps68
    go_wp2_with fail
    refine HP.out.mono ?_
    rintro e w2 ⟨rfl, hb2⟩
    have HB2 := Lib.hid hb2
    clear hb2
    go_wp2_with fail
    go_ret
    exact ⟨rfl, HB2.out⟩

/-- a text from outside -/
def outsideV (s : ByteArray) : PVal := if looksL s.data.toList = true then .both (preV s.data.toList) s else .str s

set_option maxHeartbeats 1600000 in
set_option maxRecDepth 100000 in
theorem outside_any {N : Nat} (s : ByteArray) (w : World) (hl : s.size ≤ 780) (hV : Vars N w) : Calls Tryz.prog 71 #[.string s] w (ValOut (VV (outsideV s)) w) := by
  have HL := Lib.hid (looks_any s w hl hV)
  have HP := Lib.hid (fun w hV => dprefix_any (N := N) s w hl hV)
  have HV := Lib.hid hV
  unfold outsideV
  unfold PreOut at HP
  obtain ⟨v, hv⟩ : ∃ v, preV s.data.toList = v := ⟨_, rfl⟩
  rw [hv] at HP ⊢
  obtain ⟨b, hb⟩ : ∃ b, looksL s.data.toList = b := ⟨_, rfl⟩
  rw [hb] at HL ⊢
  clear hl hV hv hb
  cases b
  · rw [if_neg (by decide)]
    simp only [VV]
    go_enter Tryz.func71, Tryz.ntmps71
    go_wp2_with fail
    refine HL.out.mono ?_
    rintro e w2 ⟨rfl, hb2⟩
    have HB2 := Lib.hid hb2
    clear hb2
    go_wp2_with fail
    go_ret
    exact ⟨rfl, HB2.out⟩
  · rw [if_pos rfl]
    simp only [VV]
    go_enter Tryz.func71, Tryz.ntmps71
    go_wp2_with fail
    refine HL.out.mono ?_
    rintro e w2 ⟨rfl, hb2⟩
    have HB2 := Lib.hid hb2
    clear hb2
    go_wp2_with fail
    refine (HP.out _ (HV.out.below HB2.out HV.out.size)).mono ?_
    rintro e w3 ⟨rfl, hb3⟩
    have HB3 := Lib.hid (HB2.out.trans (hb3.mono HB2.out.size))
    clear hb3
    go_wp2_with fail
    go_ret
    exact ⟨rfl, HB3.out⟩

/-- a value told plainly -/
def plainVV : PVal → Value
  | .none => .agg #[.string ⟨#[110, 111, 110, 101]⟩, .float .f64 0, .string ⟨#[]⟩]
  | .num x => .agg #[.string ⟨#[110, 117, 109]⟩, .float .f64 x, .string ⟨#[]⟩]
  | .str s => .agg #[.string ⟨#[115, 116, 114]⟩, .float .f64 0, .string s]
  | .both x s => .agg #[.string ⟨#[98, 111, 116, 104]⟩, .float .f64 x, .string s]

set_option maxHeartbeats 1600000 in
set_option maxRecDepth 100000 in
theorem plain363 (w : World) : Calls Tryz.prog 363 #[.agg #[]] w (ValOut (.agg #[.string ⟨#[110, 111, 110, 101]⟩, .float .f64 0, .string ⟨#[]⟩]) w) := by
  go_enter Tryz.func363, Tryz.ntmps363
  go_wp2_with fail
  exact bodyPost_ret (v := .agg #[.string ⟨#[110, 111, 110, 101]⟩, .float .f64 0, .string ⟨#[]⟩]) (by simp [results, Tryz.results363, go_sem]) rfl ⟨rfl, by
    first
    | exact ((Below.refl w.heap.size w).alloc (Nat.le_refl _) _)
    | exact (((Below.refl w.heap.size w).alloc (Nat.le_refl _) _).alloc (by simp) _)
⟩

set_option maxHeartbeats 1600000 in
set_option maxRecDepth 100000 in
theorem plain364 (x : Nat) (w : World) : Calls Tryz.prog 364 #[.float .f64 x] w (ValOut (.agg #[.string ⟨#[110, 117, 109]⟩, .float .f64 x, .string ⟨#[]⟩]) w) := by
  go_enter Tryz.func364, Tryz.ntmps364
  go_wp2_with fail
  exact bodyPost_ret (v := .agg #[.string ⟨#[110, 117, 109]⟩, .float .f64 x, .string ⟨#[]⟩]) (by simp [results, Tryz.results364, go_sem]) rfl ⟨rfl, by
    first
    | exact ((Below.refl w.heap.size w).alloc (Nat.le_refl _) _)
    | exact (((Below.refl w.heap.size w).alloc (Nat.le_refl _) _).alloc (by simp) _)
⟩

set_option maxHeartbeats 1600000 in
set_option maxRecDepth 100000 in
theorem plain365 (s : ByteArray) (w : World) : Calls Tryz.prog 365 #[.string s] w (ValOut (.agg #[.string ⟨#[115, 116, 114]⟩, .float .f64 0, .string s]) w) := by
  go_enter Tryz.func365, Tryz.ntmps365
  go_wp2_with fail
  exact bodyPost_ret (v := .agg #[.string ⟨#[115, 116, 114]⟩, .float .f64 0, .string s]) (by simp [results, Tryz.results365, go_sem]) rfl ⟨rfl, by
    first
    | exact ((Below.refl w.heap.size w).alloc (Nat.le_refl _) _)
    | exact (((Below.refl w.heap.size w).alloc (Nat.le_refl _) _).alloc (by simp) _)
⟩

set_option maxHeartbeats 1600000 in
set_option maxRecDepth 100000 in
theorem plain366 (x : Nat) (s : ByteArray) (w : World) : Calls Tryz.prog 366 #[.agg #[.float .f64 x, .string s]] w (ValOut (.agg #[.string ⟨#[98, 111, 116, 104]⟩, .float .f64 x, .string s]) w) := by
  go_enter Tryz.func366, Tryz.ntmps366
  go_wp2_with fail
  exact bodyPost_ret (v := .agg #[.string ⟨#[98, 111, 116, 104]⟩, .float .f64 x, .string s]) (by simp [results, Tryz.results366, go_sem]) rfl ⟨rfl, by
    first
    | exact ((Below.refl w.heap.size w).alloc (Nat.le_refl _) _)
    | exact (((Below.refl w.heap.size w).alloc (Nat.le_refl _) _).alloc (by simp) _)
⟩

set_option maxHeartbeats 1600000 in
set_option maxRecDepth 100000 in
theorem plain_any (v : PVal) (w : World) : Calls Tryz.prog 28 #[VV v] w (ValOut (plainVV v) w) := by
  cases v with
  | none =>
    simp only [VV, plainVV]
    have m := mp108
    have hc := fun w => plain363 w
    have HC := Lib.hid hc
    clear hc
    go_enter Tryz.func28, Tryz.ntmps28
    go_wp2_with fail
    refine (HC.out _).mono ?_
    rintro e w2 ⟨rfl, hb⟩
    have hsz : w.heap.size < w2.heap.size := by
      have := hb.size
      rw [Go.Deep.nblk_alloc] at this; omega
    have HB := Lib.hid (((Below.refl w.heap.size w).alloc (Nat.le_refl _) (.cells #[Value.string ⟨#[]⟩, Value.float .f64 0, Value.string ⟨#[]⟩] 24)).trans (hb.mono (by rw [Go.Deep.nblk_alloc]; omega)))
    have hlt : w.heap.size < (w.alloc (.cells #[Value.string ⟨#[]⟩, Value.float .f64 0, Value.string ⟨#[]⟩] 24)).heap.size := by rw [Go.Deep.nblk_alloc]; omega
    have c0 : w2.cell? ⟨w.heap.size, 0, none⟩ = some (.string ⟨#[]⟩) := by rw [hb.cell (p := ⟨w.heap.size, 0, none⟩) hlt]; go_simp
    have c1 : w2.cell? ⟨w.heap.size, 1, none⟩ = some (.float .f64 0) := by rw [hb.cell (p := ⟨w.heap.size, 1, none⟩) hlt]; go_simp
    have c2 : w2.cell? ⟨w.heap.size, 2, none⟩ = some (.string ⟨#[]⟩) := by rw [hb.cell (p := ⟨w.heap.size, 2, none⟩) hlt]; go_simp
    have f0 : w2.frozen? ⟨w.heap.size, 0, none⟩ = false := by rw [hb.frozen (p := ⟨w.heap.size, 0, none⟩) hlt]; go_simp
    have f1 : w2.frozen? ⟨w.heap.size, 1, none⟩ = false := by rw [hb.frozen (p := ⟨w.heap.size, 1, none⟩) hlt]; go_simp
    have f2 : w2.frozen? ⟨w.heap.size, 2, none⟩ = false := by rw [hb.frozen (p := ⟨w.heap.size, 2, none⟩) hlt]; go_simp
    clear hb
    go_wp2_with fail
    exact bodyPost_ret (v := .agg #[.string ⟨#[110, 111, 110, 101]⟩, .float .f64 0, .string ⟨#[]⟩]) (by simp [results, Tryz.results28, go_sem, c0, c1, c2]) rfl ⟨rfl, ((HB.out.setCell (p := ⟨w.heap.size, 0, none⟩) (Nat.le_refl _) _).setCell (p := ⟨w.heap.size, 1, none⟩) (Nat.le_refl _) _).setCell (p := ⟨w.heap.size, 2, none⟩) (Nat.le_refl _) _⟩
  | num x =>
    simp only [VV, plainVV]
    have m := mp112
    have hc := fun w => plain364 x w
    have HC := Lib.hid hc
    clear hc
    go_enter Tryz.func28, Tryz.ntmps28
    go_wp2_with fail
    refine (HC.out _).mono ?_
    rintro e w2 ⟨rfl, hb⟩
    have hsz : w.heap.size < w2.heap.size := by
      have := hb.size
      rw [Go.Deep.nblk_alloc] at this; omega
    have HB := Lib.hid (((Below.refl w.heap.size w).alloc (Nat.le_refl _) (.cells #[Value.string ⟨#[]⟩, Value.float .f64 0, Value.string ⟨#[]⟩] 24)).trans (hb.mono (by rw [Go.Deep.nblk_alloc]; omega)))
    have hlt : w.heap.size < (w.alloc (.cells #[Value.string ⟨#[]⟩, Value.float .f64 0, Value.string ⟨#[]⟩] 24)).heap.size := by rw [Go.Deep.nblk_alloc]; omega
    have c0 : w2.cell? ⟨w.heap.size, 0, none⟩ = some (.string ⟨#[]⟩) := by rw [hb.cell (p := ⟨w.heap.size, 0, none⟩) hlt]; go_simp
    have c1 : w2.cell? ⟨w.heap.size, 1, none⟩ = some (.float .f64 0) := by rw [hb.cell (p := ⟨w.heap.size, 1, none⟩) hlt]; go_simp
    have c2 : w2.cell? ⟨w.heap.size, 2, none⟩ = some (.string ⟨#[]⟩) := by rw [hb.cell (p := ⟨w.heap.size, 2, none⟩) hlt]; go_simp
    have f0 : w2.frozen? ⟨w.heap.size, 0, none⟩ = false := by rw [hb.frozen (p := ⟨w.heap.size, 0, none⟩) hlt]; go_simp
    have f1 : w2.frozen? ⟨w.heap.size, 1, none⟩ = false := by rw [hb.frozen (p := ⟨w.heap.size, 1, none⟩) hlt]; go_simp
    have f2 : w2.frozen? ⟨w.heap.size, 2, none⟩ = false := by rw [hb.frozen (p := ⟨w.heap.size, 2, none⟩) hlt]; go_simp
    clear hb
    go_wp2_with fail
    exact bodyPost_ret (v := .agg #[.string ⟨#[110, 117, 109]⟩, .float .f64 x, .string ⟨#[]⟩]) (by simp [results, Tryz.results28, go_sem, c0, c1, c2]) rfl ⟨rfl, ((HB.out.setCell (p := ⟨w.heap.size, 0, none⟩) (Nat.le_refl _) _).setCell (p := ⟨w.heap.size, 1, none⟩) (Nat.le_refl _) _).setCell (p := ⟨w.heap.size, 2, none⟩) (Nat.le_refl _) _⟩
  | both x s =>
    simp only [VV, plainVV]
    have m := mp115
    have hc := fun w => plain366 x s w
    have HC := Lib.hid hc
    clear hc
    go_enter Tryz.func28, Tryz.ntmps28
    go_wp2_with fail
    refine (HC.out _).mono ?_
    rintro e w2 ⟨rfl, hb⟩
    have hsz : w.heap.size < w2.heap.size := by
      have := hb.size
      rw [Go.Deep.nblk_alloc] at this; omega
    have HB := Lib.hid (((Below.refl w.heap.size w).alloc (Nat.le_refl _) (.cells #[Value.string ⟨#[]⟩, Value.float .f64 0, Value.string ⟨#[]⟩] 24)).trans (hb.mono (by rw [Go.Deep.nblk_alloc]; omega)))
    have hlt : w.heap.size < (w.alloc (.cells #[Value.string ⟨#[]⟩, Value.float .f64 0, Value.string ⟨#[]⟩] 24)).heap.size := by rw [Go.Deep.nblk_alloc]; omega
    have c0 : w2.cell? ⟨w.heap.size, 0, none⟩ = some (.string ⟨#[]⟩) := by rw [hb.cell (p := ⟨w.heap.size, 0, none⟩) hlt]; go_simp
    have c1 : w2.cell? ⟨w.heap.size, 1, none⟩ = some (.float .f64 0) := by rw [hb.cell (p := ⟨w.heap.size, 1, none⟩) hlt]; go_simp
    have c2 : w2.cell? ⟨w.heap.size, 2, none⟩ = some (.string ⟨#[]⟩) := by rw [hb.cell (p := ⟨w.heap.size, 2, none⟩) hlt]; go_simp
    have f0 : w2.frozen? ⟨w.heap.size, 0, none⟩ = false := by rw [hb.frozen (p := ⟨w.heap.size, 0, none⟩) hlt]; go_simp
    have f1 : w2.frozen? ⟨w.heap.size, 1, none⟩ = false := by rw [hb.frozen (p := ⟨w.heap.size, 1, none⟩) hlt]; go_simp
    have f2 : w2.frozen? ⟨w.heap.size, 2, none⟩ = false := by rw [hb.frozen (p := ⟨w.heap.size, 2, none⟩) hlt]; go_simp
    clear hb
    go_wp2_with fail
    exact bodyPost_ret (v := .agg #[.string ⟨#[98, 111, 116, 104]⟩, .float .f64 x, .string s]) (by simp [results, Tryz.results28, go_sem, c0, c1, c2]) rfl ⟨rfl, ((HB.out.setCell (p := ⟨w.heap.size, 0, none⟩) (Nat.le_refl _) _).setCell (p := ⟨w.heap.size, 1, none⟩) (Nat.le_refl _) _).setCell (p := ⟨w.heap.size, 2, none⟩) (Nat.le_refl _) _⟩
  | str s =>
    simp only [VV, plainVV]
    have m := mp113
    have hc := fun w => plain365 s w
    have HC := Lib.hid hc
    clear hc
    go_enter Tryz.func28, Tryz.ntmps28
    go_wp2_with fail
    refine (HC.out _).mono ?_
    rintro e w2 ⟨rfl, hb⟩
    have hsz : w.heap.size < w2.heap.size := by
      have := hb.size
      rw [Go.Deep.nblk_alloc] at this; omega
    have HB := Lib.hid (((Below.refl w.heap.size w).alloc (Nat.le_refl _) (.cells #[Value.string ⟨#[]⟩, Value.float .f64 0, Value.string ⟨#[]⟩] 24)).trans (hb.mono (by rw [Go.Deep.nblk_alloc]; omega)))
    have hlt : w.heap.size < (w.alloc (.cells #[Value.string ⟨#[]⟩, Value.float .f64 0, Value.string ⟨#[]⟩] 24)).heap.size := by rw [Go.Deep.nblk_alloc]; omega
    have c0 : w2.cell? ⟨w.heap.size, 0, none⟩ = some (.string ⟨#[]⟩) := by rw [hb.cell (p := ⟨w.heap.size, 0, none⟩) hlt]; go_simp
    have c1 : w2.cell? ⟨w.heap.size, 1, none⟩ = some (.float .f64 0) := by rw [hb.cell (p := ⟨w.heap.size, 1, none⟩) hlt]; go_simp
    have c2 : w2.cell? ⟨w.heap.size, 2, none⟩ = some (.string ⟨#[]⟩) := by rw [hb.cell (p := ⟨w.heap.size, 2, none⟩) hlt]; go_simp
    have f0 : w2.frozen? ⟨w.heap.size, 0, none⟩ = false := by rw [hb.frozen (p := ⟨w.heap.size, 0, none⟩) hlt]; go_simp
    have f1 : w2.frozen? ⟨w.heap.size, 1, none⟩ = false := by rw [hb.frozen (p := ⟨w.heap.size, 1, none⟩) hlt]; go_simp
    have f2 : w2.frozen? ⟨w.heap.size, 2, none⟩ = false := by rw [hb.frozen (p := ⟨w.heap.size, 2, none⟩) hlt]; go_simp
    clear hb
    go_wp2_with fail
    exact bodyPost_ret (v := .agg #[.string ⟨#[115, 116, 114]⟩, .float .f64 0, .string s]) (by simp [results, Tryz.results28, go_sem, c0, c1, c2]) rfl ⟨rfl, ((HB.out.setCell (p := ⟨w.heap.size, 0, none⟩) (Nat.le_refl _) _).setCell (p := ⟨w.heap.size, 1, none⟩) (Nat.le_refl _) _).setCell (p := ⟨w.heap.size, 2, none⟩) (Nat.le_refl _) _⟩
end Go.Proofs.YtpnfkipfjanmkaaGreatDoor
