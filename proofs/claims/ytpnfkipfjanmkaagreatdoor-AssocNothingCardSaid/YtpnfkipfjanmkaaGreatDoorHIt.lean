/- DERIVED. The shelf's contracts on slices.Sorted(maps.Keys(m)) at this seat, plain (a shelf tool's print). -/
import Derived.Shelf.SlIter.Nil
import Derived.Shelf.SortM.Plain
import Derived.Shelf.SortM.SortNone
import Derived.Ground.GgzProg
import Derived.Ground.SlgmProg
import Derived.Test.YtpnfkipfjanmkaaGreatDoorProg
set_option linter.unusedVariables false
set_option linter.unusedSimpArgs false
namespace Go.Proofs.YtpnfkipfjanmkaaGreatDoor
open Go.RowKit Go.Maps Go.Sort Go.Shelf
def Tryz.keys77_ren : Go.Shelf.Ren := ⟨fun | 7 => 77 | 10 => 118 | n => n, fun | 23 => 109 | 26 => 9 | 3 => 29 | 28 => 119 | 0 => 0 | 27 => 118 | 33 => 36 | 4 => 4 | n => n, fun | n => n⟩
theorem Tryz.keys77 : Go.Proofs.SlLaysZ.n7 Tryz.prog Tryz.keys77_ren := {
  mixed := by kernel_rfl
  f7 := ⟨Tryz.f77.name, by decide, Tryz.func77.trans (congrArg some (by kernel_rfl))⟩
  f10 := ⟨Tryz.f118.name, by decide, Tryz.func118.trans (congrArg some (by kernel_rfl))⟩
  t0 := Tryz.underlying0
  a0 := Tryz.isAgg0
  z0 := Tryz.sizeOf0
  v0 := Tryz.zeroValue0
  t4 := Tryz.underlying4
  a4 := Tryz.isAgg4
  z4 := Tryz.sizeOf4
  v4 := Tryz.zeroValue4
  t23 := Tryz.underlying109
  a23 := Tryz.isAgg109
  z23 := Tryz.sizeOf109
  v23 := Tryz.zeroValue109
  t26 := Tryz.underlying9
  a26 := Tryz.isAgg9
  z26 := Tryz.sizeOf9
  v26 := Tryz.zeroValue9
  t27 := Tryz.underlying118
  a27 := Tryz.isAgg118
  z27 := Tryz.sizeOf118
  v27 := Tryz.zeroValue118
  t28 := Tryz.underlying119
  a28 := Tryz.isAgg119
  z28 := Tryz.sizeOf119
  v28 := Tryz.zeroValue119
  t33 := Tryz.underlying36
  a33 := Tryz.isAgg36
  z33 := Tryz.sizeOf36
  v33 := Tryz.zeroValue36 }
def Tryz.sorted76_ren : Go.Shelf.Ren := ⟨fun | 6 => 76 | 8 => 116 | 9 => 117 | 11 => 174 | 13 => 123 | 12 => 175 | 23 => 187 | 24 => 188 | 14 => 229 | 15 => 230 | 16 => 231 | 17 => 232 | 18 => 233 | 19 => 234 | 20 => 235 | 21 => 236 | 22 => 237 | 25 => 284 | 26 => 239 | 27 => 240 | 28 => 285 | 29 => 286 | 30 => 124 | 31 => 325 | n => n, fun | 26 => 9 | 28 => 119 | 24 => 34 | 0 => 0 | 3 => 3 | 37 => 85 | 48 => 233 | 50 => 78 | 4 => 4 | 40 => 227 | 39 => 226 | 45 => 88 | 5 => 5 | 9 => 9 | 51 => 274 | 55 => 278 | 57 => 317 | 58 => 263 | 33 => 36 | n => n, fun | n => n⟩
theorem Tryz.sorted76 : Go.Proofs.SlLaysZ.n6 Tryz.prog Tryz.sorted76_ren := {
  mixed := by kernel_rfl
  f6 := ⟨Tryz.f76.name, by decide, Tryz.func76.trans (congrArg some (by kernel_rfl))⟩
  f8 := ⟨Tryz.f116.name, by decide, Tryz.func116.trans (congrArg some (by kernel_rfl))⟩
  f11 := ⟨Tryz.f174.name, by decide, Tryz.func174.trans (congrArg some (by kernel_rfl))⟩
  t0 := Tryz.underlying0
  a0 := Tryz.isAgg0
  z0 := Tryz.sizeOf0
  v0 := Tryz.zeroValue0
  t24 := Tryz.underlying34
  a24 := Tryz.isAgg34
  z24 := Tryz.sizeOf34
  v24 := Tryz.zeroValue34
  t26 := Tryz.underlying9
  a26 := Tryz.isAgg9
  z26 := Tryz.sizeOf9
  v26 := Tryz.zeroValue9
  t28 := Tryz.underlying119
  a28 := Tryz.isAgg119
  z28 := Tryz.sizeOf119
  v28 := Tryz.zeroValue119
  i26 := by kernel_rfl }
def Tryz.sort117_ren : Go.Shelf.Ren := ⟨fun | 6 => 117 | 8 => 123 | 9 => 175 | 19 => 187 | 20 => 188 | 21 => 229 | 22 => 230 | 23 => 231 | 24 => 232 | 25 => 233 | 26 => 234 | 27 => 235 | 28 => 236 | 29 => 237 | 36 => 284 | 31 => 239 | 32 => 240 | 37 => 285 | 38 => 286 | 39 => 124 | 41 => 325 | n => n, fun | 27 => 34 | 29 => 9 | 3 => 3 | 32 => 85 | 26 => 34 | 0 => 0 | 44 => 233 | 46 => 78 | 4 => 4 | 36 => 227 | 35 => 226 | 41 => 88 | 5 => 5 | 9 => 9 | 53 => 274 | 57 => 278 | 63 => 317 | 64 => 263 | n => n, fun | n => n⟩
theorem Tryz.sort117 : Go.Proofs.SlLaysM.n6 Tryz.prog Tryz.sort117_ren := {
  mixed := by kernel_rfl
  f6 := ⟨Tryz.f117.name, by decide, Tryz.func117.trans (congrArg some (by kernel_rfl))⟩
  f8 := Tryz.func123.trans (congrArg some (by kernel_rfl))
  f9 := ⟨Tryz.f175.name, by decide, Tryz.func175.trans (congrArg some (by kernel_rfl))⟩
  f19 := Tryz.func187.trans (congrArg some (by kernel_rfl))
  f20 := Tryz.func188.trans (congrArg some (by kernel_rfl))
  f21 := ⟨Tryz.f229.name, by decide, Tryz.func229.trans (congrArg some (by kernel_rfl))⟩
  f22 := ⟨Tryz.f230.name, by decide, Tryz.func230.trans (congrArg some (by kernel_rfl))⟩
  f23 := ⟨Tryz.f231.name, by decide, Tryz.func231.trans (congrArg some (by kernel_rfl))⟩
  f24 := ⟨Tryz.f232.name, by decide, Tryz.func232.trans (congrArg some (by kernel_rfl))⟩
  f25 := ⟨Tryz.f233.name, by decide, Tryz.func233.trans (congrArg some (by kernel_rfl))⟩
  f26 := ⟨Tryz.f234.name, by decide, Tryz.func234.trans (congrArg some (by kernel_rfl))⟩
  f27 := ⟨Tryz.f235.name, by decide, Tryz.func235.trans (congrArg some (by kernel_rfl))⟩
  f28 := ⟨Tryz.f236.name, by decide, Tryz.func236.trans (congrArg some (by kernel_rfl))⟩
  f29 := ⟨Tryz.f237.name, by decide, Tryz.func237.trans (congrArg some (by kernel_rfl))⟩
  f31 := Tryz.func239.trans (congrArg some (by kernel_rfl))
  f32 := Tryz.func240.trans (congrArg some (by kernel_rfl))
  f36 := ⟨Tryz.f284.name, by decide, Tryz.func284.trans (congrArg some (by kernel_rfl))⟩
  f37 := ⟨Tryz.f285.name, by decide, Tryz.func285.trans (congrArg some (by kernel_rfl))⟩
  f38 := ⟨Tryz.f286.name, by decide, Tryz.func286.trans (congrArg some (by kernel_rfl))⟩
  f39 := ⟨Tryz.f124.name, by decide, Tryz.func124.trans (congrArg some (by kernel_rfl))⟩
  f41 := ⟨Tryz.f325.name, by decide, Tryz.func325.trans (congrArg some (by kernel_rfl))⟩
  t0 := Tryz.underlying0
  a0 := Tryz.isAgg0
  z0 := Tryz.sizeOf0
  v0 := Tryz.zeroValue0
  t3 := Tryz.underlying3
  a3 := Tryz.isAgg3
  z3 := Tryz.sizeOf3
  v3 := Tryz.zeroValue3
  t4 := Tryz.underlying4
  a4 := Tryz.isAgg4
  z4 := Tryz.sizeOf4
  v4 := Tryz.zeroValue4
  t5 := Tryz.underlying5
  a5 := Tryz.isAgg5
  z5 := Tryz.sizeOf5
  v5 := Tryz.zeroValue5
  t9 := Tryz.underlying9
  a9 := Tryz.isAgg9
  z9 := Tryz.sizeOf9
  v9 := Tryz.zeroValue9
  t26 := Tryz.underlying34
  a26 := Tryz.isAgg34
  z26 := Tryz.sizeOf34
  v26 := Tryz.zeroValue34
  t27 := Tryz.underlying34
  a27 := Tryz.isAgg34
  z27 := Tryz.sizeOf34
  v27 := Tryz.zeroValue34
  t29 := Tryz.underlying9
  a29 := Tryz.isAgg9
  z29 := Tryz.sizeOf9
  v29 := Tryz.zeroValue9
  t32 := Tryz.underlying85
  a32 := Tryz.isAgg85
  z32 := Tryz.sizeOf85
  v32 := Tryz.zeroValue85
  t35 := Tryz.underlying226
  a35 := Tryz.isAgg226
  z35 := Tryz.sizeOf226
  v35 := Tryz.zeroValue226
  t36 := Tryz.underlying227
  a36 := Tryz.isAgg227
  z36 := Tryz.sizeOf227
  v36 := Tryz.zeroValue227
  t41 := Tryz.underlying88
  a41 := Tryz.isAgg88
  z41 := Tryz.sizeOf88
  v41 := Tryz.zeroValue88
  t44 := Tryz.underlying233
  a44 := Tryz.isAgg233
  z44 := Tryz.sizeOf233
  v44 := Tryz.zeroValue233
  t46 := Tryz.underlying78
  a46 := Tryz.isAgg78
  z46 := Tryz.sizeOf78
  v46 := Tryz.zeroValue78
  t53 := Tryz.underlying274
  a53 := Tryz.isAgg274
  z53 := Tryz.sizeOf274
  v53 := Tryz.zeroValue274
  t57 := Tryz.underlying278
  a57 := Tryz.isAgg278
  z57 := Tryz.sizeOf278
  v57 := Tryz.zeroValue278
  t63 := Tryz.underlying317
  a63 := Tryz.isAgg317
  z63 := Tryz.sizeOf317
  v63 := Tryz.zeroValue317
  t64 := Tryz.underlying263
  a64 := Tryz.isAgg263
  z64 := Tryz.sizeOf263
  v64 := Tryz.zeroValue263 }

/-- slices.Sort's two contracts at this dump, at the fence that asks nothing. -/
theorem Tryz.sorts76 (m : Nat) : AnyZ.SortsIn Tryz.prog Tryz.sorted76_ren Fence.wide m :=
  ⟨fun blk off cap ss W hH hblk hsz => callsIn_wide.2 (AnyM.slices_Sort_string Tryz.sort117 blk off cap ss W hH hblk hsz),
   fun p cap W => callsIn_wide.2 (AnyM.slices_Sort_string_none Tryz.sort117 p cap W)⟩

/-- **maps.Keys[map[string]tedder/value.Value,string,tedder/value.Value], at whatever map, the nil one too:** a function value over ONE NEW BLOCK, which holds the map. -/
theorem Tryz.maps_Keys_77 (mb : Option Nat) (W : World) : CallsIn Fence.wide 5 Tryz.prog 77 #[.map mb] W fun e w' => e = .returned (.func (.func 118) #[] #[.pointer (some ⟨W.heap.size, 0, none⟩)]) ∧ w' = W.alloc (.cells #[.map mb] 109) :=
  AnyZ.keys_in Tryz.keys77 Fence.wide 5 trivial rfl mb W

set_option maxHeartbeats 1000000 in
/-- **slices.Sorted[string] AT WHAT maps.Keys[map[string]tedder/value.Value,string,tedder/value.Value] HANDED BACK FOR A MAP THAT IS NOT nil** ('w': the world AHEAD of maps.Keys' call): A NEW SLICE THAT HOLDS THE MAP's KEYS, SORTED; nil just where it has none; nothing that lay before has turned. -/
theorem Tryz.slices_Sorted_keys_76_77 {H : Type} (b nn : Nat) (D0 : DataW H) (R : Value → Option (DataW H × List MemPlace)) (w : World) (hown : w.ownsMap Tryz.prog 9 R b nn D0) (hmax : Maps.size D0 ≤ maxLen) (hbytes : Maps.size D0 * 16 ≤ 140737488355328) :
    CallsIn Fence.wide 5 Tryz.prog 76 #[.func (.func 118) #[] #[.pointer (some ⟨w.heap.size, 0, none⟩)]] (w.alloc (.cells #[.map (some b)] 109)) fun e w' => ∃ (v : Value) (ss : List (List UInt8)), e = .returned v ∧ ss.Perm (strKeys D0) ∧
      w'.ownsRow (w.alloc (.cells #[.map (some b)] 109)).heap.size 9 1 v ss.length ((ss.mergeSort (fun x y => decide (x ≤ y))).map encStr) ∧ (v = .slice none 0 0 ↔ ss = []) ∧ Below (w.alloc (.cells #[.map (some b)] 109)).heap.size (w.alloc (.cells #[.map (some b)] 109)) w' := by
  have hbl := hown.lt
  have hseq : SeqGives Fence.wide 2 Tryz.prog 118 #[.pointer (some ⟨w.heap.size, 0, none⟩)] encStr (fun ss => ss.Perm (strKeys D0)) (Maps.size D0) (w.alloc (.cells #[.map (some b)] 109)) :=
    AnyZ.keys_gives (ρ := Tryz.keys77_ren) { Tryz.keys77 with } Fence.wide _ trivial rfl (by omega) w.heap.size b nn D0 _ (by simp) (by simp) (by
      obtain ⟨es, clock, hb, Ft, hs, hD⟩ := hown
      exact ⟨es, clock, (Below.heap_alloc _ _ b hbl).trans hb, Ft, hs, hD⟩)
  exact AnyZ.sorted_in Tryz.sorted76 Fence.wide 5 trivial trivial trivial trivial rfl (by omega) (Tryz.sorts76 _) (enters_of Tryz.func117 (by kernel_rfl) rfl) 118 #[.pointer (some ⟨w.heap.size, 0, none⟩)] trivial (enters_of Tryz.func118 (by kernel_rfl) rfl) _ _ hmax hbytes _ hseq

set_option maxHeartbeats 1000000 in
/-- **.. AND FOR THE nil MAP: nil.** -/
theorem Tryz.slices_Sorted_keys_nil_76_77 (w : World) :
    CallsIn Fence.wide 5 Tryz.prog 76 #[.func (.func 118) #[] #[.pointer (some ⟨w.heap.size, 0, none⟩)]] (w.alloc (.cells #[.map none] 109)) fun e w' => ∃ (v : Value) (ss : List (List UInt8)), e = .returned v ∧ ss = [] ∧
      w'.ownsRow (w.alloc (.cells #[.map none] 109)).heap.size 9 1 v ss.length ((ss.mergeSort (fun x y => decide (x ≤ y))).map encStr) ∧ (v = .slice none 0 0 ↔ ss = []) ∧ Below (w.alloc (.cells #[.map none] 109)).heap.size (w.alloc (.cells #[.map none] 109)) w' := by
  have hseq : SeqGives Fence.wide 2 Tryz.prog 118 #[.pointer (some ⟨w.heap.size, 0, none⟩)] encStr (fun ss : List (List UInt8) => ss = []) 0 (w.alloc (.cells #[.map none] 109)) :=
    AnyZ.keys_gives_nil (ρ := Tryz.keys77_ren) { Tryz.keys77 with } Fence.wide _ trivial rfl w.heap.size _ (by simp) (by simp)
  exact AnyZ.sorted_in Tryz.sorted76 Fence.wide 5 trivial trivial trivial trivial rfl (by omega) (Tryz.sorts76 _) (enters_of Tryz.func117 (by kernel_rfl) rfl) 118 #[.pointer (some ⟨w.heap.size, 0, none⟩)] trivial (enters_of Tryz.func118 (by kernel_rfl) rfl) _ 0 (Nat.zero_le _) (by omega) _ hseq

end Go.Proofs.YtpnfkipfjanmkaaGreatDoor
