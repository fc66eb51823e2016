/- DERIVED. FROM WHAT THE ROWS LIST ('laid') TO WHAT THE WALKS READ OF THE LIBRARY's TABLES. -/
import Derived.Test.YtpnfkipfjanmkaaGreatDoorRows
import Derived.Test.YtpnfkipfjanmkaaGreatDoorHEd
import Derived.Lib.LaidU8
import Derived.OpenShut
import Derived.Deep.Slices
import Derived.Shelf.Vars
import Derived.LaidLaws
set_option linter.unusedVariables false
set_option linter.unusedSimpArgs false
namespace Go.Proofs.YtpnfkipfjanmkaaGreatDoor
open Go.RowKit Flt Go.Lib Go.Deep Go.ChangeShapes Go.WideShapes

section
variable {W : World} {fuel : Nat} {sp : Nat → Bool}
noncomputable abbrev rd (W : World) (sp : Nat → Bool) (fuel : Nat) (t : TypeId) (cs : List Value) : Option (DataW Unit × List MemPlace) := DataW.trod (fun _ => ()) Tryz.prog W 0 sp false fuel t cs

theorem rd_int {t : TypeId} {k : IntKind} {cs : List Value} {x : DataW Unit × List MemPlace} {n : Int} (ht : Tryz.prog.underlying t = some (.int k)) (h : rd W sp fuel t cs = some x) (hx : x.1 = .lit (.int k n)) : cs = [.int k n] := by
  obtain ⟨m, h1, h2, _⟩ := DataW.trod_int ht h
  subst h2
  cases hx
  exact h1
theorem rd_string {t : TypeId} {cs : List Value} {x : DataW Unit × List MemPlace} {l : List UInt8} (ht : Tryz.prog.underlying t = some .string) (h : rd W sp fuel t cs = some x) (hx : x.1 = .lit (.string l)) : cs = [.string ⟨l.toArray⟩] := by
  obtain ⟨s, h1, h2, _⟩ := DataW.trod_string ht h
  subst h2
  have : s.data.toList = l := by cases hx; rfl
  rw [h1, ← this]

theorem take_one {cs : List Value} {i : Nat} {v : Value} (h : (cs.drop i).take 1 = [v]) : cs[i]? = some v := by
  have := congrArg (·[0]?) h
  simpa [List.getElem?_take, List.getElem?_drop] using this

theorem getElem_map_fst {xs : List (DataW Unit × List MemPlace)} {l : List (DataW Unit)} (h : xs.map (·.1) = l) {i : Nat} {d : DataW Unit} (hi : l[i]? = some d) : ∃ x, xs[i]? = some x ∧ x.1 = d := by
  rw [← h, List.getElem?_map] at hi
  cases hx : xs[i]? with
  | none => rw [hx] at hi; cases hi
  | some x => rw [hx] at hi; exact ⟨x, rfl, Option.some.inj hi⟩
end

theorem gInfo : Tryz.prog.globalNamed "internal/strconv.float64info" = some 10 := by kernel_rfl
theorem gOpt : Tryz.prog.globalNamed "internal/strconv.optimize" = some 3 := by kernel_rfl
theorem gTab : Tryz.prog.globalNamed "internal/strconv.pow10Tab" = some 13 := by kernel_rfl
theorem gCheat : Tryz.prog.globalNamed "internal/strconv.leftcheats" = some 14 := by kernel_rfl
theorem gPow : Tryz.prog.globalNamed "internal/strconv.powtab" = some 16 := by kernel_rfl
theorem gF64 : Tryz.prog.globalNamed "internal/strconv.float64pow10" = some 17 := by kernel_rfl
theorem gU64 : Tryz.prog.globalNamed "internal/strconv.uint64pow10" = some 2 := by kernel_rfl
theorem gErr : Tryz.prog.globalNamed "strconv.ErrRange" = some 8 := by kernel_rfl
theorem tInfo : (Tryz.prog.globals[10]?).map (·.type) = some 368 := by kernel_rfl
theorem tOpt : (Tryz.prog.globals[3]?).map (·.type) = some 4 := by kernel_rfl
theorem tTab : (Tryz.prog.globals[13]?).map (·.type) = some 383 := by kernel_rfl
theorem tCheat : (Tryz.prog.globals[14]?).map (·.type) = some 387 := by kernel_rfl
theorem tPow : (Tryz.prog.globals[16]?).map (·.type) = some 171 := by kernel_rfl
theorem tF64 : (Tryz.prog.globals[17]?).map (·.type) = some 395 := by kernel_rfl
theorem tU64 : (Tryz.prog.globals[2]?).map (·.type) = some 292 := by kernel_rfl
theorem tErr : (Tryz.prog.globals[8]?).map (·.type) = some 157 := by kernel_rfl

/-- one variable's reading, at its number and type -/
theorem reads_at {W : World} {n : String} {d : DataW Unit} {g : Nat} {t : TypeId} (hg : Tryz.prog.globalNamed n = some g) (ht : (Tryz.prog.globals[g]?).map (·.type) = some t) (h : VarReads Tryz.prog W n d) :
    ∃ (cs : Array Value) (fuel : Nat) (p : List MemPlace), (∀ i, W.cell? ⟨g, i, none⟩ = cs.toList[i]?) ∧ W.var? Tryz.prog n = some cs ∧ rd W (fun _ => true) fuel t cs.toList = some (d, p) := by
  obtain ⟨g', t', cs, fuel, p, hg', ht', hv, hd⟩ := h
  obtain rfl := Option.some.inj (hg.symm.trans hg')
  obtain rfl := Option.some.inj (ht.symm.trans ht')
  exact ⟨cs, fuel, p, fun i => by rw [World.var?_cell hg hv i]; simp, hv, hd⟩

theorem c78 : Tryz.prog.cellsOf 78 = 1 := by kernel_rfl
theorem c85 : Tryz.prog.cellsOf 85 = 1 := by kernel_rfl
theorem c3 : Tryz.prog.cellsOf 3 = 1 := by kernel_rfl
theorem c9 : Tryz.prog.cellsOf 9 = 1 := by kernel_rfl
theorem c22 : Tryz.prog.cellsOf 22 = 1 := by kernel_rfl
theorem c382 : Tryz.prog.cellsOf 382 = 2 := by kernel_rfl
theorem c386 : Tryz.prog.cellsOf 386 = 2 := by kernel_rfl
theorem c292 : Tryz.prog.cellsOf 292 = 20 := by kernel_rfl

theorem info_cells {W : World} (h : VarReads Tryz.prog W "internal/strconv.float64info" Rows.laid_internal_strconv_float64info) :
    W.cell? ⟨10, 0, none⟩ = some (.int .u64 52) ∧ W.cell? ⟨10, 1, none⟩ = some (.int .u64 11) ∧ W.cell? ⟨10, 2, none⟩ = some (.int .i64 (-1023)) := by
  obtain ⟨cs, fuel, p, hc, _, hd⟩ := reads_at gInfo tInfo h
  obtain ⟨xs, n, _, hx, _, _, hf⟩ := DataW.trod_struct Tryz.underlying368 hd
  have hxs : xs.map (·.1) = [.lit (.int .u64 52), .lit (.int .u64 11), .lit (.int .i64 (-1023))] := by
    have := congrArg Prod.fst hx
    simp only [Rows.laid_internal_strconv_float64info] at this
    injection this with h1
    exact h1.symm
  refine ⟨?_, ?_, ?_⟩
  · obtain ⟨x, h1, h2⟩ := getElem_map_fst hxs (i := 0) rfl
    have h3 : rd W (fun _ => true) n 85 ((cs.toList.drop 0).take (Tryz.prog.cellsOf 85)) = xs[0]? := hf 0 _ rfl
    rw [h1, c85] at h3
    rw [hc]; exact take_one (rd_int Tryz.underlying85 h3 h2)
  · obtain ⟨x, h1, h2⟩ := getElem_map_fst hxs (i := 1) rfl
    have h3 : rd W (fun _ => true) n 85 ((cs.toList.drop 1).take (Tryz.prog.cellsOf 85)) = xs[1]? := hf 1 _ rfl
    rw [h1, c85] at h3
    rw [hc]; exact take_one (rd_int Tryz.underlying85 h3 h2)
  · obtain ⟨x, h1, h2⟩ := getElem_map_fst hxs (i := 2) rfl
    have h3 : rd W (fun _ => true) n 3 ((cs.toList.drop 2).take (Tryz.prog.cellsOf 3)) = xs[2]? := hf 2 _ rfl
    rw [h1, c3] at h3
    rw [hc]; exact take_one (rd_int Tryz.underlying3 h3 h2)

theorem opt_cell {W : World} (h : VarReads Tryz.prog W "internal/strconv.optimize" Rows.laid_internal_strconv_optimize) : W.cell? ⟨3, 0, none⟩ = some (.bool true) := by
  obtain ⟨cs, fuel, p, hc, _, hd⟩ := reads_at gOpt tOpt h
  obtain ⟨b, h1, h2⟩ := DataW.trod_bool Tryz.underlying4 hd
  have : b = true := by
    have := congrArg Prod.fst h2
    simp only [Rows.laid_internal_strconv_optimize] at this
    cases this; rfl
  subst this
  rw [hc, h1]; rfl

theorem u64_tab {W : World} (h : VarReads Tryz.prog W "internal/strconv.uint64pow10" Rows.laid_internal_strconv_uint64pow10) : TabIs Tryz.prog W "internal/strconv.uint64pow10" .u64 pow10Tab := by
  obtain ⟨cs, fuel, p, hc, hv, hd⟩ := reads_at gU64 tU64 h
  have hd2 : rd W (fun _ => true) fuel 292 cs.toList = some (tabData .u64 pow10Tab, p) := by
    rw [hd]; congr 1
  unfold TabIs
  rw [hv, ← cells_of_tab Tryz.underlying292 Tryz.underlying78 c78 c292 hd2]

theorem tab_rows : Pinned.pow10Rows = (List.range 696).map fun (i : Nat) => (phi ((i : Int) - 348), plo ((i : Int) - 348)) := by kernel_rfl

theorem tab_data : Rows.laid_internal_strconv_pow10Tab = .agg ((List.range 696).map fun (i : Nat) => (.agg [.lit (.int .u64 (phi ((i : Int) - 348) : Nat)), .lit (.int .u64 (plo ((i : Int) - 348) : Nat))] : DataW Unit)) := by
  unfold Rows.laid_internal_strconv_pow10Tab Pinned.pow10Tab
  rw [tab_rows, List.map_map]
  rfl

theorem tab_cells {W : World} (h : VarReads Tryz.prog W "internal/strconv.pow10Tab" Rows.laid_internal_strconv_pow10Tab) (i : Nat) (hi : i < 696) :
    W.cell? ⟨13, 2 * i, none⟩ = some (.int .u64 (phi ((i : Int) - 348))) ∧ W.cell? ⟨13, 2 * i + 1, none⟩ = some (.int .u64 (plo ((i : Int) - 348))) := by
  obtain ⟨d, hd0⟩ : ∃ d, Rows.laid_internal_strconv_pow10Tab = d := ⟨_, rfl⟩
  have hd1 := hd0.symm.trans tab_data
  rw [hd0] at h
  clear hd0
  obtain ⟨cs, fuel, p, hc, _, hd⟩ := reads_at gTab tTab h
  obtain ⟨xs, n, _, hx, _, _, hf⟩ := DataW.trod_array Tryz.underlying383 hd
  have hxs : xs.map (·.1) = (List.range 696).map fun (i : Nat) => (.agg [.lit (.int .u64 (phi ((i : Int) - 348) : Nat)), .lit (.int .u64 (plo ((i : Int) - 348) : Nat))] : DataW Unit) := by
    exact DataW.agg.inj ((congrArg Prod.fst hx).symm.trans hd1)
  obtain ⟨x, h1, h2⟩ := getElem_map_fst hxs (i := i) (by rw [List.getElem?_map, List.getElem?_range hi]; rfl)
  have h3 := hf i hi
  rw [h1, c382] at h3
  obtain ⟨ys, m, _, hy, _, _, hg⟩ := DataW.trod_struct Tryz.underlying382 h3
  have hys : ys.map (·.1) = [.lit (.int .u64 (phi ((i : Int) - 348) : Nat)), .lit (.int .u64 (plo ((i : Int) - 348) : Nat))] := by
    rw [hy] at h2
    injection h2
  have e : i * 2 = 2 * i := Nat.mul_comm _ _
  constructor
  · obtain ⟨y, k1, k2⟩ := getElem_map_fst hys (i := 0) rfl
    have k3 : rd W (fun _ => true) m 78 ((((cs.toList.drop (i * 2)).take 2).drop 0).take (Tryz.prog.cellsOf 78)) = ys[0]? := hg 0 _ rfl
    rw [k1, c78, List.drop_zero, List.take_take] at k3
    rw [hc, ← e]
    exact take_one (rd_int Tryz.underlying78 k3 k2)
  · obtain ⟨y, k1, k2⟩ := getElem_map_fst hys (i := 1) rfl
    have k3 : rd W (fun _ => true) m 78 ((((cs.toList.drop (i * 2)).take 2).drop 1).take (Tryz.prog.cellsOf 78)) = ys[1]? := hg 1 _ rfl
    rw [k1, c78] at k3
    have k4 := take_one (rd_int Tryz.underlying78 k3 k2)
    rw [List.getElem?_take, if_pos (by decide), List.getElem?_drop] at k4
    rw [hc, ← e]
    exact k4

theorem block_lt {W : World} {a : Addr} {v : Value} (h : W.cell? a = some v) : a.block < W.heap.size := by
  unfold World.cell? at h
  cases hb : W.heap[a.block]? with
  | none => rw [hb] at h; cases h
  | some o => exact (Array.getElem?_eq_some_iff.1 hb).1

theorem pow_cells {W : World} (h : VarReads Tryz.prog W "internal/strconv.powtab" Rows.laid_internal_strconv_powtab) : TabSl W.heap.size W 16 9 fun i => .int .i64 (powtab.getD i 0 : Nat) := by
  obtain ⟨cs, fuel, p, hc, _, hd⟩ := reads_at gPow tPow h
  have hdat : Rows.laid_internal_strconv_powtab = (.slice ((List.range 9).map fun (i : Nat) => (.lit (.int .i64 (powtab.getD i 0 : Nat)) : DataW Unit)) [] : DataW Unit) := by kernel_rfl
  rcases open_slice1 Tryz.underlying171 c3 hd with ⟨_, hx⟩ | ⟨a, len, cap, m, n, V, D, Pl, hcs, _, hl, _, hm, hx, hel⟩
  · have := hdat.symm.trans (congrArg Prod.fst hx); cases this
  · have hx1 := hdat.symm.trans (congrArg Prod.fst hx)
    injection hx1 with h1 h2
    have hlen : len = 9 := by have := congrArg List.length h1; simpa using this.symm
    have hcap : m - len = 0 := by have := congrArg List.length h2; simpa using this.symm
    have hm2 : m = cap := by rw [hm]; rfl
    have h9 : m = 9 := by omega
    have hV : ∀ i, i < 9 → V i = .int .i64 (powtab.getD i 0 : Nat) := by
      intro i hi
      obtain ⟨_, h4⟩ := hel i (by omega)
      have h5 : D i = .lit (.int .i64 (powtab.getD i 0 : Nat)) := by
        have := congrArg (·[i]?) h1
        rw [hlen] at this
        simp only [List.getElem?_map, List.getElem?_range hi, Option.map_some] at this
        exact (Option.some.inj this).symm
      have := rd_int (W := W) (sp := fun _ => true) Tryz.underlying3 h4 h5
      exact (List.cons.inj this).1
    have h0 := (hel 0 (by omega)).1
    obtain ⟨b, off, spot⟩ := a
    have hspot : spot = none := by simpa [Addr.add] using World.cell?_spot h0
    subst hspot
    refine ⟨b, off, ?_, ?_, fun i hi => ?_⟩
    · rw [hc, hcs, hlen, show cap = 9 by omega]; rfl
    · have := block_lt h0
      simpa [Addr.add] using this
    · have := (hel i (by omega)).1
      rw [hV i hi, add_plain] at this
      exact this

theorem rd_float {W : World} {sp : Nat → Bool} {fuel : Nat} {t : TypeId} {k : FloatKind} {cs : List Value} {x : DataW Unit × List MemPlace} {n : Nat} (ht : Tryz.prog.underlying t = some (.float k)) (h : rd W sp fuel t cs = some x) (hx : x.1 = .lit (.float k n)) : cs = [.float k n] := by
  cases fuel with
  | zero => simp [rd, DataW.trod] at h
  | succ m =>
    unfold rd DataW.trod at h
    rw [ht] at h
    split at h <;> simp_all
    obtain ⟨_, rfl⟩ := h
    cases hx
    rfl

theorem f64_cells {W : World} (h : VarReads Tryz.prog W "internal/strconv.float64pow10" Rows.laid_internal_strconv_float64pow10) : TabSl W.heap.size W 17 23 fun i => .float .f64 (rn (10 ^ i * Flt.one) 1) := by
  obtain ⟨cs, fuel, p, hc, _, hd⟩ := reads_at gF64 tF64 h
  have hdat : Rows.laid_internal_strconv_float64pow10 = (.slice ((List.range 23).map fun (i : Nat) => (.lit (.float .f64 (rn (10 ^ i * Flt.one) 1)) : DataW Unit)) [] : DataW Unit) := by kernel_rfl
  rcases open_slice1 Tryz.underlying395 c22 hd with ⟨_, hx⟩ | ⟨a, len, cap, m, n, V, D, Pl, hcs, _, hl, _, hm, hx, hel⟩
  · have := hdat.symm.trans (congrArg Prod.fst hx); cases this
  · have hx1 := hdat.symm.trans (congrArg Prod.fst hx)
    clear hdat hd hx h
    generalize hF : (fun (i : Nat) => rn (10 ^ i * Flt.one) 1) = F at *
    have hF2 : ∀ i : Nat, rn (10 ^ i * Flt.one) 1 = F i := fun i => by rw [← hF]
    simp only [hF2] at hx1 ⊢
    clear hF hF2
    injection hx1 with h1 h2
    have hlen : len = 23 := by have := congrArg List.length h1; simpa using this.symm
    have hcap : m - len = 0 := by have := congrArg List.length h2; simpa using this.symm
    have hm2 : m = cap := by rw [hm]; rfl
    have h9 : m = 23 := by omega
    have hV : ∀ i, i < 23 → V i = .float .f64 (F i) := by
      intro i hi
      obtain ⟨_, h4⟩ := hel i (by omega)
      have h5 : D i = .lit (.float .f64 (F i)) := by
        have := congrArg (·[i]?) h1
        rw [hlen] at this
        simp only [List.getElem?_map, List.getElem?_range hi, Option.map_some] at this
        exact (Option.some.inj this).symm
      have := rd_float (W := W) (sp := fun _ => true) Tryz.underlying22 h4 h5
      exact (List.cons.inj this).1
    have h0 := (hel 0 (by omega)).1
    obtain ⟨b, off, spot⟩ := a
    have hspot : spot = none := by simpa [Addr.add] using World.cell?_spot h0
    subst hspot
    refine ⟨b, off, ?_, ?_, fun i hi => ?_⟩
    · rw [hc, hcs, hlen, show cap = 23 by omega]; rfl
    · have := block_lt h0
      simpa [Addr.add] using this
    · have := (hel i (by omega)).1
      rw [hV i hi, add_plain] at this
      exact this

theorem cheat_data : Rows.laid_internal_strconv_leftcheats = (.slice ((List.range 61).map fun (k : Nat) => (.agg [.lit (.int .i64 (cutDelta k : Nat)), .lit (.string (cutB k).data.toList)] : DataW Unit)) [] : DataW Unit) := by kernel_rfl

theorem cheat_cells {W : World} (h : VarReads Tryz.prog W "internal/strconv.leftcheats" Rows.laid_internal_strconv_leftcheats) : Cheats W.heap.size W := by
  obtain ⟨cs, fuel, p, hc, _, hd⟩ := reads_at gCheat tCheat h
  rcases open_slice Tryz.underlying387 hd with ⟨_, hx⟩ | ⟨a, len, cap, m, n, D, Pl, hcs, _, hl, _, hm, hx, hel⟩
  · have := cheat_data.symm.trans (congrArg Prod.fst hx); cases this
  · have hx1 := cheat_data.symm.trans (congrArg Prod.fst hx)
    injection hx1 with h1 h2
    have hlen : len = 61 := by have := congrArg List.length h1; simpa using this.symm
    have hcap : m - len = 0 := by have := congrArg List.length h2; simpa using this.symm
    have hm2 : m = cap := by rw [hm]; rfl
    have h9 : m = 61 := by omega
    have hel2 : ∀ i, i < 61 → W.cell? (a.add (i * 2)) = some (.int .i64 (cutDelta i : Nat)) ∧ W.cell? ((a.add (i * 2)).add 1) = some (.string (cutB i)) := by
      intro i hi
      obtain ⟨cs', h3, h4⟩ := hel i (by omega)
      rw [c386] at h3
      obtain ⟨_, hcl, hat⟩ := World.cells?_some h3
      have h5 : D i = .agg [.lit (.int .i64 (cutDelta i : Nat)), .lit (.string (cutB i).data.toList)] := by
        have := congrArg (·[i]?) h1
        rw [hlen] at this
        simp only [List.getElem?_map, List.getElem?_range hi, Option.map_some] at this
        exact (Option.some.inj this).symm
      obtain ⟨ys, k, _, hy, _, _, hg⟩ := DataW.trod_struct Tryz.underlying386 h4
      have hys : ys.map (·.1) = [.lit (.int .i64 (cutDelta i : Nat)), .lit (.string (cutB i).data.toList)] := by
        have := h5.symm.trans (congrArg Prod.fst hy)
        injection this with h6
        exact h6.symm
      constructor
      · obtain ⟨y, k1, k2⟩ := getElem_map_fst hys (i := 0) rfl
        have k3 : rd W (fun _ => true) k 3 ((cs'.drop 0).take (Tryz.prog.cellsOf 3)) = ys[0]? := hg 0 _ rfl
        rw [k1, c3] at k3
        have := hat 0 (by omega)
        rw [take_one (rd_int Tryz.underlying3 k3 k2)] at this
        simpa [Addr.add] using this
      · obtain ⟨y, k1, k2⟩ := getElem_map_fst hys (i := 1) rfl
        have k3 : rd W (fun _ => true) k 9 ((cs'.drop 1).take (Tryz.prog.cellsOf 9)) = ys[1]? := hg 1 _ rfl
        rw [k1, c9] at k3
        have := hat 1 (by omega)
        rw [take_one (rd_string Tryz.underlying9 k3 k2)] at this
        exact this
    have h0 := (hel2 0 (by omega)).1
    obtain ⟨b, off, spot⟩ := a
    have hspot : spot = none := by simpa [Addr.add] using World.cell?_spot h0
    subst hspot
    refine ⟨b, off, ?_, ?_, fun i hi => ?_⟩
    · rw [hc, hcs, hlen, show cap = 61 by omega]; rfl
    · have := block_lt h0
      simpa [Addr.add] using this
    · have := hel2 i hi
      rw [add_plain] at this
      refine ⟨this.1, ?_⟩
      have h7 := this.2
      rw [add_plain] at h7
      exact h7

theorem err_cell {W : World} (h : VarReads Tryz.prog W "strconv.ErrRange" Rows.laid_strconv_ErrRange) : ∃ ev, W.cell? ⟨8, 0, none⟩ = some ev ∧ (ev = .nilIface ∨ ∃ te pe, ev = .iface te pe) := by
  obtain ⟨cs, fuel, p, hc, _, hd⟩ := reads_at gErr tErr h
  obtain ⟨f1, u, v, hcs, _, _⟩ := iface_of_trod Tryz.underlying157 hd
  exact ⟨.iface u v, by rw [hc, hcs]; rfl, .inr ⟨u, v, rfl⟩⟩

theorem most_cell {W : World} (h : W.ShapedOpen Tryz.prog) : ∃ m, W.cell? ⟨1, 0, none⟩ = some (.int .i64 m) :=
  cell_of_shapedOpen_int (t := 3) (zero := #[.int .i64 0]) h (Nat.le_of_ble_eq_true (by kernel_rfl)) (by kernel_rfl) rfl (by kernel_rfl) (by kernel_rfl) Tryz.underlying3
end Go.Proofs.YtpnfkipfjanmkaaGreatDoor
