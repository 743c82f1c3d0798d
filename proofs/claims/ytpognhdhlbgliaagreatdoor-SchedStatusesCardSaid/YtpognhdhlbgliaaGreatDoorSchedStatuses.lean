/- SchedStatuses answers true for every input, and its arguments read as they read before; the package-level variables as the row lists them. -/
import Derived.Test.YtpognhdhlbgliaaGreatDoorLkStatuses
import Derived.Test.YtpognhdhlbgliaaGreatDoorSchedStatusesFacts
import Derived.Lay
import Derived.SevenTiedAt
import Derived.DataShut
import Derived.ChangeSame
namespace Go.Proofs.YtpognhdhlbgliaaGreatDoor
namespace SchedStatusesP
open Go Go.Lk Go.ChangeShapes Go.WideShapes Go.ChangeAt Go.RowKit

theorem own : ownKnob Tryz.prog.godebug = none := by kernel_rfl

theorem rng {n : Int} (h : (Lit.int .i64 n).wf = true) : -9223372036854775808 ≤ n ∧ n ≤ 9223372036854775807 := (Lit.wf_int_iff .i64 n).1 h

theorem walk (a0 : Int) (h0 : -9223372036854775808 ≤ a0 ∧ a0 ≤ 9223372036854775807) (w : World) (hs : w.ShapedOpen Tryz.prog) :
    Calls Tryz.prog 6 #[.int .i64 a0] w fun e w' => e = .returned (.bool true) ∧ Below w.heap.size w w' :=
  statuses h0 (enters_of Tryz.func6 (by kernel_rfl) rfl _ _) hs

abbrev X : World → Array Value → Prop := fun w _ => laidMetH Tryz.prog Rows.schedStatusesRow.laid w

set_option maxRecDepth 100000 in
theorem lifted (os : Os) (started : os.Started) (H : Type) (enc : TypeId × Value → H) :
    ReturnsInHanded {} Tryz.checked os 6 .any (fun w args => (Rows.schedStatusesSpec.pre enc Tryz.prog Tryz.f6 Rows.schedStatusesRow.domain false w args ∧ X w args) ∧ sizedMet enc Tryz.prog Tryz.f6 (OpenSpec.ofChange Rows.schedStatusesSpec) false w args)
      (Rows.schedStatusesSpec.post enc Tryz.prog Tryz.f6 false true false false) := by
  refine handed_laid (C := Tryz.checked) (X := X) (fun _ _ _ hh h => h.of_heap hh) own started (by kernel_rfl) Tryz.func6
    (ChangeSpec.witness_shaped (enc := enc) (C := Tryz.checked) (os := os) (X := X) false (World.laidAll Tryz.prog os Rows.schedStatusesRow.laid) #[.int .i64 0] 8 (World.laidAll_os _ _ _)
      (World.shaped_of_ZipB (by kernel_rfl) (by kernel_rfl)) (by kernel_rfl) (by kernel_rfl) (by kernel_rfl)
      (by show laidMetH _ _ _; rw [MakeChecks.laidMetH_plain _ _ _ (by kernel_rfl)]; exact laidMet_laidAll _ (by kernel_rfl) (by kernel_rfl))) ?_
  intro W base args ds gs before hval0 hW _ _ _ hs
  have hval : ∀ (j : Nat) t v, Tryz.f6.params[j]? = some t → args[j]? = some v → Value.okWide Tryz.prog W .any base t v := hval0
  have hW' := hW
  obtain ⟨p, q, hA0, hV, rfl, hfz, hnd⟩ := hW
  have hA : DataW.TrodAll enc Tryz.prog W 0 (fun _ => true) true Tryz.f6.params.toList args.toList ds p := hA0
  rw [Tryz.params6] at hA hval
  obtain ⟨v0, vs0, d0, ds0, p0, q0, hargs, rfl, rfl, t0, r0⟩ := trodAll_cons hA
  obtain ⟨rfl, rfl, rfl⟩ := trodAll_nil r0
  obtain rfl : args = #[v0] := by cases args; simp_all
  obtain ⟨rfl, rfl⟩ := trodVars_none hV
  obtain ⟨a0, rfl, rfl, rfl, w0⟩ := open_int Tryz.underlying3 (hval 0 3 v0 rfl rfl) t0
  clear hA0 hval0
  simp only [List.append_nil] at hW'
  refine (walk a0 (rng w0) W hs).mono fun e W' ⟨he, hg⟩ => ?_
  subst he
  exact ⟨_, rfl, post_below (pa := []) (pv := []) hW' (fun _ _ _ => (trodAll_cons_mk (shut_bool Tryz.underlying4 _) trodAll_mk0)) (fun sp _ => (trodAll_cons_mk (shut_int Tryz.underlying3 w0) trodAll_mk0)) (fun _ _ => rfl) rfl
    hg (ok_one (by kernel_rfl) rfl (okWide_bool_mk Tryz.underlying4 _))⟩

theorem over : Rows.SchedStatusesSaid :=
  OpenClaim.holds_of_wide 6 Tryz.f6 rfl rfl rfl rfl rfl rfl rfl ⟨rfl, rfl, rfl, rfl, rfl⟩ rfl rfl rfl rfl rfl SchedStatusesF.named Tryz.func6 SchedStatusesF.closed SchedStatusesF.inst SchedStatusesF.wrap
    (fun os started H enc _ => lifted os started H enc)

end SchedStatusesP

/-- The tied card of SchedStatuses. -/
theorem schedStatuses_proved : Rows.SchedStatusesCardSaid :=
  Claim7.holds_tied_plain_at .later [] Rows.schedStatusesCard.laidKinds true Rows.schedStatusesCard.stood.harness false SchedStatusesP.over (fun _ h => by cases h) SchedStatusesF.wfText (fun _ h => by cases h) schedStatuses_row_tie rfl ⟨rfl, rfl⟩ SchedStatusesF.mainIs rfl
    (fun f fn hf hfn => by
      obtain rfl : f = 6 := Option.some.inj (SchedStatusesF.named.symm.trans hf) |>.symm
      obtain rfl : fn = Tryz.f6 := (Option.some.inj (Tryz.func6.symm.trans hfn)).symm
      exact ⟨SchedStatusesF.looks, fun j t ht => by
        rw [Tryz.params6] at ht
        have hm : t ∈ [3] := by have := Array.mem_of_getElem? ht; simp at this; simp [this]
        have hall : ([3].all fun u => !Tryz.prog.wantsStandIn u) = true := by kernel_rfl
        exact (show Tryz.prog.wantsStandIn t = false by simpa using List.all_eq_true.1 hall t hm)⟩)
    SchedStatusesF.goes

end Go.Proofs.YtpognhdhlbgliaaGreatDoor
