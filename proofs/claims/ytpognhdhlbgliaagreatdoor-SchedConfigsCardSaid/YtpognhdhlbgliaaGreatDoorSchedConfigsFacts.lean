/- The closed facts of the row and the card of SchedConfigs, each by the kernel, a theorem each. -/
import Derived.Test.YtpognhdhlbgliaaGreatDoorTie
import Derived.Test.YtpognhdhlbgliaaGreatDoorCards
import Derived.JoinedOf
import Derived.SevenTiedAt
import Derived.KernelRfl
namespace Go.Proofs.YtpognhdhlbgliaaGreatDoor
namespace SchedConfigsF
open Go

theorem and2 {a b : Bool} (ha : a = true) (hb : b = true) : (a && b) = true := by rw [ha, hb]; rfl
theorem k1 : (fun (s : ChangeSpec) (c : OpenClaim) => (c.wf (OpenSpec.ofChange s) : Bool)) Rows.schedConfigsSpec Rows.schedConfigsRow = true := by kernel_rfl
theorem k2 : (fun (P : Program) => (laidOutB P : Bool)) Tryz.pinned.checked.prog = true := by kernel_rfl
theorem k3 : (fun (P : Program) => (mapsRowed P : Bool)) Tryz.pinned.checked.prog = true := by kernel_rfl
theorem k4 : (fun (P : Program) (fn : Func) => (fn.params.all (P.readableRec ·) : Bool)) Tryz.pinned.checked.prog Tryz.f3 = true := by kernel_rfl
theorem k5 : (fun (P : Program) (s : ChangeSpec) (c : OpenClaim) => (namedTie P c.named s.vars : Bool)) Tryz.pinned.checked.prog Rows.schedConfigsSpec Rows.schedConfigsRow = true := by kernel_rfl
theorem k6 : (fun (c : OpenClaim) => ((c.stops == []) : Bool)) Rows.schedConfigsRow = true := by kernel_rfl
theorem k7 : (fun (P : Program) => ((P.stops == []) : Bool)) Tryz.pinned.checked.prog = true := by kernel_rfl
theorem k8 : (fun (c : OpenClaim) => ((c.knobs == []) : Bool)) Rows.schedConfigsRow = true := by kernel_rfl
theorem k9 : (fun (P : Program) => ((P.stopKnobs == []) : Bool)) Tryz.pinned.checked.prog = true := by kernel_rfl
theorem k10 : (fun (P : Program) (f : FuncId) (c : OpenClaim) => ((c.inPlace == P.inPlace f) : Bool)) Tryz.pinned.checked.prog 3 Rows.schedConfigsRow = true := by kernel_rfl
theorem k11 : (fun (P : Program) (f : FuncId) (c : OpenClaim) => ((c.unfollowed == P.unfollowed f) : Bool)) Tryz.pinned.checked.prog 3 Rows.schedConfigsRow = true := by kernel_rfl
theorem k12 : (fun (P : Program) (f : FuncId) (c : OpenClaim) => ((c.recurses == P.recurses f) : Bool)) Tryz.pinned.checked.prog 3 Rows.schedConfigsRow = true := by kernel_rfl
theorem k13 : (fun (P : Program) (f : FuncId) (c : OpenClaim) => ((c.named == P.varsNamed f) : Bool)) Tryz.pinned.checked.prog 3 Rows.schedConfigsRow = true := by kernel_rfl
theorem k14 : (fun (P : Program) (fn : Func) (s : ChangeSpec) (c : OpenClaim) => ((c.maps == (fn.params.toList ++ s.plain.varTypes P).any (P.mapsRec ·)) : Bool)) Tryz.pinned.checked.prog Tryz.f3 Rows.schedConfigsSpec Rows.schedConfigsRow = true := by kernel_rfl
theorem k15 : (fun (P : Program) (fn : Func) (s : ChangeSpec) (c : OpenClaim) => ((c.ifaces == (fn.params.toList ++ s.plain.varTypes P).any (P.ifacesRec ·)) : Bool)) Tryz.pinned.checked.prog Tryz.f3 Rows.schedConfigsSpec Rows.schedConfigsRow = true := by kernel_rfl
theorem k16 : (fun (P : Program) (fn : Func) (c : OpenClaim) => ((c.mapsOut == P.mapsAmong fn.resultTypes.toList) : Bool)) Tryz.pinned.checked.prog Tryz.f3 Rows.schedConfigsRow = true := by kernel_rfl
theorem k17 : (fun (P : Program) (fn : Func) (s : ChangeSpec) (c : OpenClaim) => ((c.loops == (fn.params.toList ++ s.plain.varTypes P).any (P.loopsFrom ·)) : Bool)) Tryz.pinned.checked.prog Tryz.f3 Rows.schedConfigsSpec Rows.schedConfigsRow = true := by kernel_rfl
theorem k18 : (fun (P : Program) (fn : Func) (s : ChangeSpec) (c : OpenClaim) => ((c.wideKeys == (fn.params.toList ++ s.plain.varTypes P ++ fn.resultTypes.toList).any (P.wideKeysFrom ·)) : Bool)) Tryz.pinned.checked.prog Tryz.f3 Rows.schedConfigsSpec Rows.schedConfigsRow = true := by kernel_rfl
theorem k19 : (fun (P : Program) (s : ChangeSpec) => (s.vars.all (P.varReadable ·) : Bool)) Tryz.pinned.checked.prog Rows.schedConfigsSpec = true := by kernel_rfl
theorem k20 : (fun (P : Program) (fn : Func) => (fn.resultTypes.all (fun t => P.readableRec t && decide (t < P.types.size)) : Bool)) Tryz.pinned.checked.prog Tryz.f3 = true := by kernel_rfl
theorem k21 : (fun (P : Program) (fn : Func) (c : OpenClaim) => ((c.ifacesOut == fn.resultTypes.toList.any (P.ifacesRec ·)) : Bool)) Tryz.pinned.checked.prog Tryz.f3 Rows.schedConfigsRow = true := by kernel_rfl
theorem k22 : (fun (P : Program) (fn : Func) (c : OpenClaim) => ((c.loopsOut == fn.resultTypes.toList.any (P.loopsFrom ·)) : Bool)) Tryz.pinned.checked.prog Tryz.f3 Rows.schedConfigsRow = true := by kernel_rfl
theorem k23 : (fun (P : Program) (c : OpenClaim) => ((c.plainKeys == P.plainKeys) : Bool)) Tryz.pinned.checked.prog Rows.schedConfigsRow = true := by kernel_rfl
theorem k24 : (fun (c : OpenClaim) => (c.shortTexts.isNone : Bool)) Rows.schedConfigsRow = true := by kernel_rfl
theorem k25 : (fun (P : Program) => (P.stopsHeard : Bool)) Tryz.pinned.checked.prog = true := by kernel_rfl
theorem k26 : (fun (P : Program) => (P.mayEnter : Bool)) Tryz.pinned.checked.prog = true := by kernel_rfl
theorem k27 : (fun (P : Program) (c : OpenClaim) => ((c.lifted == P.liftsFinal) : Bool)) Tryz.pinned.checked.prog Rows.schedConfigsRow = true := by kernel_rfl
theorem k28 : (fun (P : Program) (c : OpenClaim) => ((P.make == some c.make) : Bool)) Tryz.pinned.checked.prog Rows.schedConfigsRow = true := by kernel_rfl
theorem k29 : (fun (P : Program) (fn : Func) (c : OpenClaim) => ((c.kinds == (if c.domain.isEmpty then [] else fn.params.toList.map fun t => match P.underlying t with | some (.int k) => some k | _ => none)) : Bool)) Tryz.pinned.checked.prog Tryz.f3 Rows.schedConfigsRow = true := by kernel_rfl
theorem k30 : (fun (c : OpenClaim) => ((c.pinned == c.pinnedBy) : Bool)) Rows.schedConfigsRow = true := by kernel_rfl
theorem k31 : (fun (P : Program) (fn : Func) (s : ChangeSpec) (c : OpenClaim) => ((c.veiled == (fn.params.toList ++ s.plain.varTypes P ++ fn.resultTypes.toList).any (P.veiledRec ·)) : Bool)) Tryz.pinned.checked.prog Tryz.f3 Rows.schedConfigsSpec Rows.schedConfigsRow = true := by kernel_rfl
theorem k32 : (fun (P : Program) (fn : Func) (s : ChangeSpec) (c : OpenClaim) => (c.veiledFits P fn.params.toList (fn.params.toList ++ s.plain.varTypes P ++ fn.resultTypes.toList) : Bool)) Tryz.pinned.checked.prog Tryz.f3 Rows.schedConfigsSpec Rows.schedConfigsRow = true := by kernel_rfl
set_option maxRecDepth 1000000 in
theorem closed : joinedFacts Tryz.pinned.checked.prog 3 Tryz.f3 Rows.schedConfigsSpec Rows.schedConfigsRow = true := by
  unfold joinedFacts
  exact (and2 (and2 (and2 (and2 (and2 (and2 (and2 (and2 (and2 (and2 (and2 (and2 (and2 (and2 (and2 (and2 (and2 (and2 (and2 (and2 (and2 (and2 (and2 (and2 (and2 (and2 (and2 (and2 (and2 (and2 (and2 k1 k2) k3) k4) k5) k6) k7) k8) k9) k10) k11) k12) k13) k14) k15) k16) k17) k18) k19) k20) k21) k22) k23) k24) k25) k26) k27) k28) k29) k30) k31) k32)
theorem named : Tryz.pinned.checked.prog.funcNamed Rows.schedConfigsRow.func = some 3 := by kernel_rfl
theorem inst : Tryz.f3.isInstance Tryz.pinned.checked.prog Rows.schedConfigsRow.origin Rows.schedConfigsRow.targs := of_decide_eq_true (by kernel_rfl)
theorem wrap : Tryz.f3.isWrapper Tryz.pinned.checked.prog Rows.schedConfigsRow.wrapper Rows.schedConfigsRow.mainSum := by
  unfold Func.isWrapper
  first | (rw [if_pos (by decide +kernel)]; kernel_rfl) | (rw [if_neg (by decide +kernel)]; exact ⟨rfl, rfl⟩)
theorem wfText : Rows.schedConfigsRow.wfByText (OpenSpec.ofChange Rows.schedConfigsSpec) = true := by kernel_rfl
theorem mainIs : Tryz.pinned.checked.prog.mainIs = some (Rows.schedConfigsCard.stood.harness.1, Rows.schedConfigsCard.stood.harness.2.toList) := by kernel_rfl
theorem looks : false = Tryz.pinned.checked.prog.looks [] := by kernel_rfl
theorem goes : false = Rows.schedConfigsRow.goesBy Tryz.pinned.checked.prog := by kernel_rfl

end SchedConfigsF
end Go.Proofs.YtpognhdhlbgliaaGreatDoor
