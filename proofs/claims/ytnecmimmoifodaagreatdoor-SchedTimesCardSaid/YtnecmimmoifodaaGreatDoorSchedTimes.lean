/- SchedTimes answers true for every input, and its arguments read as they read before; the package-level variables as the row lists them. -/
import Derived.Test.YtnecmimmoifodaaGreatDoorLkTimes
import Derived.Test.YtnecmimmoifodaaGreatDoorSchedTimesFacts
import Derived.Lay
import Derived.SevenTiedAt
import Derived.DataShut
import Derived.ChangeSame
namespace Go.Proofs.YtnecmimmoifodaaGreatDoor
namespace SchedTimesP
open Go Go.Lk Go.ChangeShapes Go.WideShapes Go.ChangeAt Go.RowKit

theorem own : ownKnob Tryz.prog.godebug = none := by kernel_rfl

theorem rng {n : Int} (h : (Lit.int .i64 n).wf = true) : -9223372036854775808 ≤ n ∧ n ≤ 9223372036854775807 := (Lit.wf_int_iff .i64 n).1 h

theorem walk (a0 : Int) (a1 : Int) (a2 : Int) (h0 : -9223372036854775808 ≤ a0 ∧ a0 ≤ 9223372036854775807) (h1 : -9223372036854775808 ≤ a1 ∧ a1 ≤ 9223372036854775807) (h2 : -9223372036854775808 ≤ a2 ∧ a2 ≤ 9223372036854775807) (w : World) (hs : w.ShapedOpen Tryz.prog) :
    Calls Tryz.prog 3 #[.int .i64 a0, .int .i64 a1, .int .i64 a2] w fun e w' => e = .returned (.bool true) ∧ Below w.heap.size w w' :=
  times h0 h1 h2 (enters_of Tryz.func3 (by kernel_rfl) rfl _ _) hs

abbrev X : World → Array Value → Prop := fun w _ => laidMetH Tryz.prog Rows.schedTimesRow.laid w

set_option maxRecDepth 100000 in
theorem lifted (os : Os) (started : os.Started) (H : Type) (enc : TypeId × Value → H) :
    ReturnsInHanded {} Tryz.checked os 3 .any (fun w args => (Rows.schedTimesSpec.pre enc Tryz.prog Tryz.f3 Rows.schedTimesRow.domain false w args ∧ X w args) ∧ sizedMet enc Tryz.prog Tryz.f3 (OpenSpec.ofChange Rows.schedTimesSpec) false w args)
      (Rows.schedTimesSpec.post enc Tryz.prog Tryz.f3 false true false false) := by
  refine handed_laid (C := Tryz.checked) (X := X) (fun _ _ _ hh h => h.of_heap hh) own started (by kernel_rfl) Tryz.func3
    (ChangeSpec.witness_shaped (enc := enc) (C := Tryz.checked) (os := os) (X := X) false (World.laidAll Tryz.prog os Rows.schedTimesRow.laid) #[.int .i64 0, .int .i64 0, .int .i64 0] 8 (World.laidAll_os _ _ _)
      (World.shaped_of_ZipB (by kernel_rfl) (by kernel_rfl)) (by kernel_rfl) (by kernel_rfl) (by kernel_rfl)
      (by show laidMetH _ _ _; rw [MakeChecks.laidMetH_plain _ _ _ (by kernel_rfl)]; exact laidMet_laidAll _ (by kernel_rfl) (by kernel_rfl))) ?_
  intro W base args ds gs before hval0 hW _ _ _ hs
  have hval : ∀ (j : Nat) t v, Tryz.f3.params[j]? = some t → args[j]? = some v → Value.okWide Tryz.prog W .any base t v := hval0
  have hW' := hW
  obtain ⟨p, q, hA0, hV, rfl, hfz, hnd⟩ := hW
  have hA : DataW.TrodAll enc Tryz.prog W 0 (fun _ => true) true Tryz.f3.params.toList args.toList ds p := hA0
  rw [Tryz.params3] at hA hval
  obtain ⟨v0, vs0, d0, ds0, p0, q0, hargs, rfl, rfl, t0, r0⟩ := trodAll_cons hA
  obtain ⟨v1, vs1, d1, ds1, p1, q1, rfl, rfl, rfl, t1, r1⟩ := trodAll_cons r0
  obtain ⟨v2, vs2, d2, ds2, p2, q2, rfl, rfl, rfl, t2, r2⟩ := trodAll_cons r1
  obtain ⟨rfl, rfl, rfl⟩ := trodAll_nil r2
  obtain rfl : args = #[v0, v1, v2] := by cases args; simp_all
  obtain ⟨rfl, rfl⟩ := trodVars_none hV
  obtain ⟨a0, rfl, rfl, rfl, w0⟩ := open_int Tryz.underlying3 (hval 0 3 v0 rfl rfl) t0
  obtain ⟨a1, rfl, rfl, rfl, w1⟩ := open_int Tryz.underlying3 (hval 1 3 v1 rfl rfl) t1
  obtain ⟨a2, rfl, rfl, rfl, w2⟩ := open_int Tryz.underlying3 (hval 2 3 v2 rfl rfl) t2
  clear hA0 hval0
  simp only [List.append_nil] at hW'
  refine (walk a0 a1 a2 (rng w0) (rng w1) (rng w2) W hs).mono fun e W' ⟨he, hg⟩ => ?_
  subst he
  exact ⟨_, rfl, post_below (pa := []) (pv := []) hW' (fun _ _ _ => (trodAll_cons_mk (shut_bool Tryz.underlying4 _) trodAll_mk0)) (fun sp _ => (trodAll_cons_mk (shut_int Tryz.underlying3 w0) (trodAll_cons_mk (shut_int Tryz.underlying3 w1) (trodAll_cons_mk (shut_int Tryz.underlying3 w2) trodAll_mk0)))) (fun _ _ => rfl) rfl
    hg (ok_one (by kernel_rfl) rfl (okWide_bool_mk Tryz.underlying4 _))⟩

theorem over : Rows.SchedTimesSaid :=
  OpenClaim.holds_of_wide 3 Tryz.f3 rfl rfl rfl rfl rfl rfl rfl ⟨rfl, rfl, rfl, rfl, rfl⟩ rfl rfl rfl rfl rfl SchedTimesF.named Tryz.func3 SchedTimesF.closed SchedTimesF.inst SchedTimesF.wrap
    (fun os started H enc _ => lifted os started H enc)

end SchedTimesP

/-- The tied card of SchedTimes. -/
theorem schedTimes_proved : Rows.SchedTimesCardSaid :=
  Claim7.holds_tied_plain_at .later [] Rows.schedTimesCard.laidKinds true Rows.schedTimesCard.stood.harness false SchedTimesP.over (fun _ h => by cases h) SchedTimesF.wfText (fun _ h => by cases h) schedTimes_row_tie rfl ⟨rfl, rfl⟩ SchedTimesF.mainIs rfl
    (fun f fn hf hfn => by
      obtain rfl : f = 3 := Option.some.inj (SchedTimesF.named.symm.trans hf) |>.symm
      obtain rfl : fn = Tryz.f3 := (Option.some.inj (Tryz.func3.symm.trans hfn)).symm
      exact ⟨SchedTimesF.looks, fun j t ht => by
        rw [Tryz.params3] at ht
        have hm : t ∈ [3, 3, 3] := by simpa using Array.mem_of_getElem? ht
        have hall : ([3, 3, 3].all fun u => !Tryz.prog.wantsStandIn u) = true := by kernel_rfl
        exact (show Tryz.prog.wantsStandIn t = false by simpa using List.all_eq_true.1 hall t hm)⟩)
    SchedTimesF.goes

end Go.Proofs.YtnecmimmoifodaaGreatDoor
