/-
  FleetNil's row: what it says of the program itself, joined.
-/
import Derived.Test.YtogecpdhhlccaaaGreatDoorNilFactD
import Derived.Test.YtogecpdhhlccaaaGreatDoorNilFactE
namespace Go.Proofs.YtogecpdhhlccaaaGreatDoor
open Go Go.AM
set_option maxRecDepth 100000

theorem closed_of {P : Program} {f : FuncId} {fn : Func} {s : ChangeSpec} {c : OpenClaim}
    (h1 : c.wf (OpenSpec.ofChange s) = true) (h2 : laidOutB P = true) (h3 : mapsRowed P = true) (h4 : fn.params.all (P.readableRec ·) = true) (h5 : namedTie P c.named s.vars = true)
    (h6 : ((c.stops == []) && (P.stops == []) && (c.knobs == []) && (P.stopKnobs == [])) = true) (h7 : (c.inPlace == P.inPlace f) = true) (h8 : (c.unfollowed == P.unfollowed f) = true) (h9 : (c.recurses == P.recurses f) = true) (h10 : (c.named == P.varsNamed f) = true)
    (h11 : ((c.maps == (fn.params.toList ++ s.plain.varTypes P).any (P.mapsRec ·)) && (c.ifaces == (fn.params.toList ++ s.plain.varTypes P).any (P.ifacesRec ·)) && (c.mapsOut == P.mapsAmong fn.resultTypes.toList)) = true)
    (h12 : ((c.loops == (fn.params.toList ++ s.plain.varTypes P).any (P.loopsFrom ·)) && (c.wideKeys == (fn.params.toList ++ s.plain.varTypes P ++ fn.resultTypes.toList).any (P.wideKeysFrom ·))) = true)
    (h13 : (s.vars.all (P.varReadable ·) && fn.resultTypes.all (fun t => P.readableRec t && decide (t < P.types.size)) && (c.ifacesOut == fn.resultTypes.toList.any (P.ifacesRec ·)) && (c.loopsOut == fn.resultTypes.toList.any (P.loopsFrom ·)) && (c.plainKeys == P.plainKeys) && c.shortTexts.isNone) = true)
    (h14 : P.stopsHeard = true) (h15 : P.mayEnter = true) (h16 : (c.lifted == P.liftsFinal) = true) (h17 : (P.make == some c.make) = true)
    (hk : c.kinds = []) (hd : c.domain = []) (hp : (c.pinned == c.pinnedBy) = true)
    (h19 : ((c.veiled == (fn.params.toList ++ s.plain.varTypes P ++ fn.resultTypes.toList).any (P.veiledRec ·)) && c.veiledFits P fn.params.toList (fn.params.toList ++ s.plain.varTypes P ++ fn.resultTypes.toList)) = true) :
    joinedFacts P f fn s c = true := by
  unfold joinedFacts
  simp only [Bool.and_eq_true] at *
  simp only [List.isEmpty_nil, if_true, *, true_and, and_true]
  rfl

theorem nil_closed : joinedFacts Tryz.prog 3 Tryz.f3 Rows.fleetNilSpec Rows.fleetNilRow = true :=
  closed_of nf1 nf2 nf3 nf4 nf5 nf6 nf7 nf8 nf9 nf10 nf11 nf12 nf13 nf14 nf15 nf16 nf17 rfl rfl rfl nf19
end Go.Proofs.YtogecpdhhlccaaaGreatDoor
