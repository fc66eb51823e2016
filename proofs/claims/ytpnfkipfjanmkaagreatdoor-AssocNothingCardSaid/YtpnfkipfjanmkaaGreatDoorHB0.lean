/- DERIVED. THE ROW's CLOSED FACTS, LIMB BY LIMB: in one the kernel's memory does not hold them. DERIVED. THE ROW's CLOSED FACTS, LIMB BY LIMB: in one the kernel's memory does not hold them. -/
import Derived.Test.YtpnfkipfjanmkaaGreatDoorRows
import Derived.JoinedOf
set_option linter.unusedVariables false
set_option linter.unusedSimpArgs false
namespace Go.Proofs.YtpnfkipfjanmkaaGreatDoor
open Go
theorem joined_of {P : Program} {f : FuncId} {fn : Func} {s : ChangeSpec} {c : OpenClaim} (hP1 : laidOutB P = true) (hP2 : mapsRowed P = true) (hP3 : (P.stops == []) = true) (hP4 : (P.stopKnobs == []) = true) (hP5 : P.stopsHeard = true) (hP6 : P.mayEnter = true)
    (h1 : c.wf (OpenSpec.ofChange s) = true) (h2 : fn.params.all (P.readableRec ·) = true) (h3 : namedTie P c.named s.vars = true) (h4 : (c.stops == []) = true) (h5 : (c.knobs == []) = true)
    (h6 : (c.inPlace == P.inPlace f) = true) (h7 : (c.unfollowed == P.unfollowed f) = true) (h8 : (c.recurses == P.recurses f) = true) (h9 : (c.named == P.varsNamed f) = true)
    (h10 : (c.maps == (fn.params.toList ++ s.plain.varTypes P).any (P.mapsRec ·)) = true) (h11 : (c.ifaces == (fn.params.toList ++ s.plain.varTypes P).any (P.ifacesRec ·)) = true) (h12 : (c.mapsOut == P.mapsAmong fn.resultTypes.toList) = true)
    (h13 : (c.loops == (fn.params.toList ++ s.plain.varTypes P).any (P.loopsFrom ·)) = true) (h14 : (c.wideKeys == (fn.params.toList ++ s.plain.varTypes P ++ fn.resultTypes.toList).any (P.wideKeysFrom ·)) = true)
    (h15 : s.vars.all (P.varReadable ·) = true) (h16 : fn.resultTypes.all (fun t => P.readableRec t && decide (t < P.types.size)) = true) (h17 : (c.ifacesOut == fn.resultTypes.toList.any (P.ifacesRec ·)) = true) (h18 : (c.loopsOut == fn.resultTypes.toList.any (P.loopsFrom ·)) = true)
    (h19 : (c.plainKeys == P.plainKeys) = true) (h20 : c.shortTexts.isNone = true) (h21 : (c.lifted == P.liftsFinal) = true) (h22 : (P.make == some c.make) = true)
    (h23 : (c.kinds == (if c.domain.isEmpty then [] else fn.params.toList.map fun t => match P.underlying t with | some (.int k) => some k | _ => none)) = true) (h24 : (c.pinned == c.pinnedBy) = true)
    (h25 : (c.veiled == (fn.params.toList ++ s.plain.varTypes P ++ fn.resultTypes.toList).any (P.veiledRec ·)) = true) (h26 : c.veiledFits P fn.params.toList (fn.params.toList ++ s.plain.varTypes P ++ fn.resultTypes.toList) = true) : joinedFacts P f fn s c = true := by
  unfold joinedFacts
  simp only [Bool.and_eq_true]
  exact ⟨⟨⟨⟨⟨⟨⟨⟨⟨⟨⟨⟨⟨⟨⟨⟨⟨⟨⟨⟨⟨⟨⟨⟨⟨⟨⟨⟨⟨⟨⟨h1, hP1⟩, hP2⟩, h2⟩, h3⟩, h4⟩, hP3⟩, h5⟩, hP4⟩, h6⟩, h7⟩, h8⟩, h9⟩, h10⟩, h11⟩, h12⟩, h13⟩, h14⟩, h15⟩, h16⟩, h17⟩, h18⟩, h19⟩, h20⟩, hP5⟩, hP6⟩, h21⟩, h22⟩, h23⟩, h24⟩, h25⟩, h26⟩
end Go.Proofs.YtpnfkipfjanmkaaGreatDoor

namespace Go.Proofs.YtpnfkipfjanmkaaGreatDoor
open Go

theorem jP1 : laidOutB Tryz.prog = true := by kernel_rfl
theorem jP2 : mapsRowed Tryz.prog = true := by kernel_rfl
theorem jP3 : (Tryz.prog.stops == []) = true := by kernel_rfl
theorem jP4 : (Tryz.prog.stopKnobs == []) = true := by kernel_rfl
theorem jP5 : Tryz.prog.stopsHeard = true := by kernel_rfl
theorem jP6 : Tryz.prog.mayEnter = true := by kernel_rfl
theorem jPk : (false == Tryz.prog.plainKeys) = true := by kernel_rfl
theorem jPl : (false == Tryz.prog.liftsFinal) = true := by kernel_rfl

end Go.Proofs.YtpnfkipfjanmkaaGreatDoor
