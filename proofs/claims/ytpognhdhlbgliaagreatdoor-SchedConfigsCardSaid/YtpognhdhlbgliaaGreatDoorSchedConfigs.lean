/- SchedConfigs answers true for every input, and its arguments read as they read before; the package-level variables as the row lists them. -/
import Derived.Test.YtpognhdhlbgliaaGreatDoorLkConfigs
import Derived.Test.YtpognhdhlbgliaaGreatDoorSchedConfigsFacts
import Derived.Test.YtpognhdhlbgliaaGreatDoorLkStruct
import Derived.Lay
import Derived.SevenTiedAt
import Derived.DataShut
import Derived.ChangeSame
namespace Go.Proofs.YtpognhdhlbgliaaGreatDoor
namespace SchedConfigsP
open Go Go.Lk Go.ChangeShapes Go.WideShapes Go.ChangeAt Go.RowKit

theorem own : ownKnob Tryz.prog.godebug = none := by kernel_rfl

theorem rng {n : Int} (h : (Lit.int .i64 n).wf = true) : -9223372036854775808 ≤ n ∧ n ≤ 9223372036854775807 := (Lit.wf_int_iff .i64 n).1 h

theorem rngU {n : Int} (h : (Lit.int .u64 n).wf = true) : 0 ≤ n ∧ n ≤ 18446744073709551615 := (Lit.wf_int_iff .u64 n).1 h

noncomputable def confF (i : Nat) : Field := match Tryz.prog.underlying 24 with
  | some (.struct fs) => fs.getD i default
  | _ => default

theorem confU : Tryz.prog.underlying 24 = some (.struct #[confF 0, confF 1, confF 2, confF 3, confF 4, confF 5, confF 6]) := by kernel_rfl
theorem confOne : Deep.oneCellFields Tryz.prog #[confF 0, confF 1, confF 2, confF 3, confF 4, confF 5, confF 6] = true := by kernel_rfl
theorem confC : Tryz.prog.cellsOf 24 = 7 := by kernel_rfl
theorem conf0 : Tryz.prog.underlying (confF 0).type = some (.int .i64) := by kernel_rfl
theorem conf1 : Tryz.prog.underlying (confF 1).type = some (.int .u64) := by kernel_rfl
theorem conf2 : Tryz.prog.underlying (confF 2).type = some (.int .i64) := by kernel_rfl
theorem conf3 : Tryz.prog.underlying (confF 3).type = some (.int .i64) := by kernel_rfl
theorem conf4 : Tryz.prog.underlying (confF 4).type = some (.int .u64) := by kernel_rfl
theorem conf5 : Tryz.prog.underlying (confF 5).type = some (.int .i64) := by kernel_rfl
theorem conf6 : Tryz.prog.underlying (confF 6).type = some (.int .u64) := by kernel_rfl

theorem walk (a0_0 a0_1 a0_2 a0_3 a0_4 a0_5 a0_6 : Int) (h0_0 : -9223372036854775808 ≤ a0_0 ∧ a0_0 ≤ 9223372036854775807) (h0_1 : 0 ≤ a0_1 ∧ a0_1 ≤ 18446744073709551615) (h0_2 : -9223372036854775808 ≤ a0_2 ∧ a0_2 ≤ 9223372036854775807) (h0_3 : -9223372036854775808 ≤ a0_3 ∧ a0_3 ≤ 9223372036854775807) (h0_4 : 0 ≤ a0_4 ∧ a0_4 ≤ 18446744073709551615) (h0_5 : -9223372036854775808 ≤ a0_5 ∧ a0_5 ≤ 9223372036854775807) (h0_6 : 0 ≤ a0_6 ∧ a0_6 ≤ 18446744073709551615) (w : World) (hs : w.ShapedOpen Tryz.prog) :
    Calls Tryz.prog 3 #[.agg #[.int .i64 a0_0, .int .u64 a0_1, .int .i64 a0_2, .int .i64 a0_3, .int .u64 a0_4, .int .i64 a0_5, .int .u64 a0_6]] w fun e w' => e = .returned (.bool true) ∧ Below w.heap.size w w' :=
  configs h0_0 h0_1 h0_2 h0_3 h0_4 h0_5 h0_6 (enters_of Tryz.func3 (by kernel_rfl) rfl _ _) hs

abbrev X : World → Array Value → Prop := fun w _ => laidMetH Tryz.prog Rows.schedConfigsRow.laid w

set_option maxRecDepth 100000 in
theorem lifted (os : Os) (started : os.Started) (H : Type) (enc : TypeId × Value → H) :
    ReturnsInHanded {} Tryz.checked os 3 .any (fun w args => (Rows.schedConfigsSpec.pre enc Tryz.prog Tryz.f3 Rows.schedConfigsRow.domain false w args ∧ X w args) ∧ sizedMet enc Tryz.prog Tryz.f3 (OpenSpec.ofChange Rows.schedConfigsSpec) false w args)
      (Rows.schedConfigsSpec.post enc Tryz.prog Tryz.f3 false true false false) := by
  refine handed_laid (C := Tryz.checked) (X := X) (fun _ _ _ hh h => h.of_heap hh) own started (by kernel_rfl) Tryz.func3
    (ChangeSpec.witness_shaped (enc := enc) (C := Tryz.checked) (os := os) (X := X) false (World.laidAll Tryz.prog os Rows.schedConfigsRow.laid) #[.agg #[.int .i64 0, .int .u64 0, .int .i64 0, .int .i64 0, .int .u64 0, .int .i64 0, .int .u64 0]] 8 (World.laidAll_os _ _ _)
      (World.shaped_of_ZipB (by kernel_rfl) (by kernel_rfl)) (by kernel_rfl) (by kernel_rfl) (by kernel_rfl)
      (by show laidMetH _ _ _; rw [MakeChecks.laidMetH_plain _ _ _ (by kernel_rfl)]; exact laidMet_laidAll _ (by kernel_rfl) (by kernel_rfl))) ?_
  intro W base args ds gs before hval0 hW _ _ _ hs
  have hval : ∀ (j : Nat) t v, Tryz.f3.params[j]? = some t → args[j]? = some v → Value.okWide Tryz.prog W .any base t v := hval0
  have hW' := hW
  obtain ⟨p, q, hA0, hV, rfl, hfz, hnd⟩ := hW
  have hA : DataW.TrodAll enc Tryz.prog W 0 (fun _ => true) true Tryz.f3.params.toList args.toList ds p := hA0
  rw [Tryz.params3] at hA hval
  obtain ⟨v0, vs0, d0, ds0, p0, q0, hargs, rfl, rfl, t0, r0⟩ := trodAll_cons hA
  obtain ⟨rfl, rfl, rfl⟩ := trodAll_nil r0
  obtain rfl : args = #[v0] := by cases args; simp_all
  obtain ⟨rfl, rfl⟩ := trodVars_none hV
  obtain ⟨u0_0, u0_1, u0_2, u0_3, u0_4, u0_5, u0_6, y0_0, y0_1, y0_2, y0_3, y0_4, y0_5, y0_6, nn0, rfl, rfl, rfl, e0_0, e0_1, e0_2, e0_3, e0_4, e0_5, e0_6⟩ := open_agg7 confU confOne confC (hval 0 24 v0 rfl rfl) t0
  obtain ⟨a0_0, z0_0, rfl, w0_0⟩ := DataW.trod_int conf0 e0_0
  obtain rfl : u0_0 = _ := by simpa using z0_0
  obtain ⟨a0_1, z0_1, rfl, w0_1⟩ := DataW.trod_int conf1 e0_1
  obtain rfl : u0_1 = _ := by simpa using z0_1
  obtain ⟨a0_2, z0_2, rfl, w0_2⟩ := DataW.trod_int conf2 e0_2
  obtain rfl : u0_2 = _ := by simpa using z0_2
  obtain ⟨a0_3, z0_3, rfl, w0_3⟩ := DataW.trod_int conf3 e0_3
  obtain rfl : u0_3 = _ := by simpa using z0_3
  obtain ⟨a0_4, z0_4, rfl, w0_4⟩ := DataW.trod_int conf4 e0_4
  obtain rfl : u0_4 = _ := by simpa using z0_4
  obtain ⟨a0_5, z0_5, rfl, w0_5⟩ := DataW.trod_int conf5 e0_5
  obtain rfl : u0_5 = _ := by simpa using z0_5
  obtain ⟨a0_6, z0_6, rfl, w0_6⟩ := DataW.trod_int conf6 e0_6
  obtain rfl : u0_6 = _ := by simpa using z0_6
  clear hA0 hval0
  simp only [List.append_nil] at hW'
  refine (walk a0_0 a0_1 a0_2 a0_3 a0_4 a0_5 a0_6 (rng w0_0) (rngU w0_1) (rng w0_2) (rng w0_3) (rngU w0_4) (rng w0_5) (rngU w0_6) W hs).mono fun e W' ⟨he, hg⟩ => ?_
  subst he
  exact ⟨_, rfl, post_below (pa := []) (pv := []) hW' (fun _ _ _ => (trodAll_cons_mk (shut_bool Tryz.underlying4 _) trodAll_mk0)) (fun sp _ => (trodAll_cons_mk (shut_agg7 confU confOne confC (Joins.field_of_Trod (shut_int conf0 w0_0) rfl) (Joins.field_of_Trod (shut_int conf1 w0_1) rfl) (Joins.field_of_Trod (shut_int conf2 w0_2) rfl) (Joins.field_of_Trod (shut_int conf3 w0_3) rfl) (Joins.field_of_Trod (shut_int conf4 w0_4) rfl) (Joins.field_of_Trod (shut_int conf5 w0_5) rfl) (Joins.field_of_Trod (shut_int conf6 w0_6) rfl)) trodAll_mk0)) (fun _ _ => rfl) rfl
    hg (ok_one (by kernel_rfl) rfl (okWide_bool_mk Tryz.underlying4 _))⟩

theorem over : Rows.SchedConfigsSaid :=
  OpenClaim.holds_of_wide 3 Tryz.f3 rfl rfl rfl rfl rfl rfl rfl ⟨rfl, rfl, rfl, rfl, rfl⟩ rfl rfl rfl rfl rfl SchedConfigsF.named Tryz.func3 SchedConfigsF.closed SchedConfigsF.inst SchedConfigsF.wrap
    (fun os started H enc _ => lifted os started H enc)

end SchedConfigsP

/-- The tied card of SchedConfigs. -/
theorem schedConfigs_proved : Rows.SchedConfigsCardSaid :=
  Claim7.holds_tied_plain_at .later [] Rows.schedConfigsCard.laidKinds true Rows.schedConfigsCard.stood.harness false SchedConfigsP.over (fun _ h => by cases h) SchedConfigsF.wfText (fun _ h => by cases h) schedConfigs_row_tie rfl ⟨rfl, rfl⟩ SchedConfigsF.mainIs rfl
    (fun f fn hf hfn => by
      obtain rfl : f = 3 := Option.some.inj (SchedConfigsF.named.symm.trans hf) |>.symm
      obtain rfl : fn = Tryz.f3 := (Option.some.inj (Tryz.func3.symm.trans hfn)).symm
      exact ⟨SchedConfigsF.looks, fun j t ht => by
        rw [Tryz.params3] at ht
        have hm : t ∈ [24] := by simpa using Array.mem_of_getElem? ht
        have hall : ([24].all fun u => !Tryz.prog.wantsStandIn u) = true := by kernel_rfl
        exact (show Tryz.prog.wantsStandIn t = false by simpa using List.all_eq_true.1 hall t hm)⟩)
    SchedConfigsF.goes

end Go.Proofs.YtpognhdhlbgliaaGreatDoor
