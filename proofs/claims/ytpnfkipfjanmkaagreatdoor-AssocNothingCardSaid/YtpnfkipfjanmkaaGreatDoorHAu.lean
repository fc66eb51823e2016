/- DERIVED. PLAIN: the two keys of law09's awake. -/
import Derived.Test.YtpnfkipfjanmkaaGreatDoorHAt
set_option linter.unusedVariables false
set_option linter.unusedSimpArgs false
namespace Go.Proofs.YtpnfkipfjanmkaaGreatDoor
open Go.RowKit Flt Go.Maps Go.Sort Go.Shelf

theorem sort2 {ss : List (List UInt8)} (h : ss.Perm [[97], [98]]) : ss.length = 2 ∧ ss.mergeSort (fun x y => decide (x ≤ y)) = [[97], [98]] := by
  have hl : ss.length = 2 := h.length_eq
  refine ⟨hl, ?_⟩
  match ss, hl, h with
  | [x, y], _, h =>
    have hx : x ∈ [[97], [98]] := h.mem_iff.1 (by simp)
    have hy : y ∈ [[97], [98]] := h.mem_iff.1 (by simp)
    have ha : [97] ∈ [x, y] := h.mem_iff.2 (by simp)
    have hb : [98] ∈ [x, y] := h.mem_iff.2 (by simp)
    simp only [List.mem_cons, List.not_mem_nil, or_false] at hx hy ha hb
    rcases hx with rfl | rfl <;> rcases hy with rfl | rfl
    · simp at hb
    · simp [List.mergeSort, List.merge, List.MergeSort.Internal.splitInTwo]; try decide
    · simp [List.mergeSort, List.merge, List.MergeSort.Internal.splitInTwo]; try decide
    · simp at ha

def D2 (u v : Value) : DataW Value := ((DataW.map []).put (.string [98]) (.held u)).put (.string [97]) (.held v)
theorem D2_keys (u v : Value) : strKeys (D2 u v) = [[97], [98]] := by rfl
theorem D2_size (u v : Value) : Maps.size (D2 u v) = 2 := by rfl
theorem D2_has (u v : Value) : Maps.has (D2 u v) (.string [98]) = true := by rfl
theorem D2_get (u v z : Value) : (D2 u v).atKey (.string [98]) (.held z) = .held u := by rfl

theorem keys_two (p b n : Nat) (u v : Value) (w : World) (hA : Arr p b n (D2 u v) w) : Calls Tryz.prog 26 #[.pointer (some ⟨p, 0, none⟩)] w fun e w' => ∃ g cap, e = .returned (.slice (some ⟨g, 0, none⟩) 2 cap) ∧
    w'.cell? ⟨g, 0, none⟩ = some (.string ⟨#[97]⟩) ∧ w'.cell? ⟨g, 1, none⟩ = some (.string ⟨#[98]⟩) ∧ g < w'.heap.size ∧ Below w.heap.size w w' := by
  refine (keys_any p b n (D2 u v) w hA (by rw [D2_size]; decide) (by rw [D2_size]; decide)).mono ?_
  rintro e w' ⟨x, ss, rfl, hS, hrow, hnil, hb⟩
  rw [D2_keys] at hS
  obtain ⟨hl, hs⟩ := sort2 hS
  rw [hs, hl] at hrow
  obtain ⟨_, h | ⟨g, cap, cur, rfl, _, hg, h2, hm, hc, hx⟩⟩ := hrow
  · exact absurd h.2 (by decide)
  · have e0 : cur.toList[0]? = some (.string ⟨#[97]⟩) := by
      have := congrArg (fun l : List Value => l[0]?) hx
      simpa [encStr, List.getElem?_take] using this
    have e1 : cur.toList[1]? = some (.string ⟨#[98]⟩) := by
      have := congrArg (fun l : List Value => l[1]?) hx
      simpa [encStr, List.getElem?_take] using this
    have hlt : g < w'.heap.size := (Array.getElem?_eq_some_iff.1 hg).1
    rw [Array.getElem?_toList] at e0 e1
    refine ⟨g, cap, rfl, ?_, ?_, hlt, hb⟩
    · simp [World.cell?, hg, e0]
    · simp [World.cell?, hg, e1]
end Go.Proofs.YtpnfkipfjanmkaaGreatDoor
