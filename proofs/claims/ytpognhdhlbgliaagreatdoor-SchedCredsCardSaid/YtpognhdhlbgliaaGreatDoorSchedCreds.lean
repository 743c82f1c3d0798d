/- SchedCreds answers true for every input, and its arguments read as they read before: proved for all sixteen inputs; the package-level variables as the row lists them. -/
import Derived.Test.YtpognhdhlbgliaaGreatDoorLkCreds
import Derived.Test.YtpognhdhlbgliaaGreatDoorLkWalk
import Derived.Test.YtpognhdhlbgliaaGreatDoorSchedCredsFacts
import Derived.Lay
import Derived.SevenTiedAt
namespace Go.Proofs.YtpognhdhlbgliaaGreatDoor
namespace Creds
open Go Go.Lk Go.ChangeShapes Go.WideShapes Go.ChangeAt Go.RowKit

theorem own : ownKnob Tryz.prog.godebug = none := by kernel_rfl

theorem walk (a b c d : Bool) (w : World) (hs : w.ShapedOpen Tryz.prog) :
    Calls Tryz.prog 5 #[.bool a, .bool b, .bool c, .bool d] w fun e w' => e = .returned (.bool true) ∧ Below w.heap.size w w' :=
  call_true spec3_ok (args := [.bool a, .bool b, .bool c, .bool d]) (LRel.noAddr_self (by rfl)) (creds a b c d) (enters_of Tryz.func5 (by kernel_rfl) rfl _ _) hs

abbrev X : World → Array Value → Prop := fun w _ => laidMetH Tryz.prog Rows.schedCredsRow.laid w

set_option maxRecDepth 100000 in
theorem lifted (os : Os) (started : os.Started) (H : Type) (enc : TypeId × Value → H) :
    ReturnsInHanded {} Tryz.checked os 5 .any (fun w args => (Rows.schedCredsSpec.pre enc Tryz.prog Tryz.f5 Rows.schedCredsRow.domain false w args ∧ X w args) ∧ sizedMet enc Tryz.prog Tryz.f5 (OpenSpec.ofChange Rows.schedCredsSpec) false w args)
      (Rows.schedCredsSpec.post enc Tryz.prog Tryz.f5 false true false false) := by
  refine handed_laid (C := Tryz.checked) (X := X) (fun _ _ _ hh h => h.of_heap hh) own started (by kernel_rfl) Tryz.func5
    (ChangeSpec.witness_shaped (enc := enc) (C := Tryz.checked) (os := os) (X := X) false (World.laidAll Tryz.prog os Rows.schedCredsRow.laid) #[.bool false, .bool false, .bool false, .bool false] 8 (World.laidAll_os _ _ _)
      (World.shaped_of_ZipB (by kernel_rfl) (by kernel_rfl)) (by kernel_rfl) (by kernel_rfl) (by kernel_rfl)
      (by show laidMetH _ _ _; rw [MakeChecks.laidMetH_plain _ _ _ (by kernel_rfl)]; exact laidMet_laidAll _ (by kernel_rfl) (by kernel_rfl))) ?_
  intro W base args ds gs before hval0 hW _ _ _ hs
  have hval : ∀ (j : Nat) t v, Tryz.f5.params[j]? = some t → args[j]? = some v → Value.okWide Tryz.prog W .any base t v := hval0
  have hW' := hW
  obtain ⟨p, q, hA0, hV, rfl, hfz, hnd⟩ := hW
  have hA : DataW.TrodAll enc Tryz.prog W 0 (fun _ => true) true Tryz.f5.params.toList args.toList ds p := hA0
  rw [Tryz.params5] at hA hval
  obtain ⟨v0, vs0, d0, ds0, p0, q0, hargs, rfl, rfl, h0, r0⟩ := trodAll_cons hA
  obtain ⟨v1, vs1, d1, ds1, p1, q1, rfl, rfl, rfl, h1, r1⟩ := trodAll_cons r0
  obtain ⟨v2, vs2, d2, ds2, p2, q2, rfl, rfl, rfl, h2, r2⟩ := trodAll_cons r1
  obtain ⟨v3, vs3, d3, ds3, p3, q3, rfl, rfl, rfl, h3, r3⟩ := trodAll_cons r2
  obtain ⟨rfl, rfl, rfl⟩ := trodAll_nil r3
  obtain rfl : args = #[v0, v1, v2, v3] := by cases args; simp_all
  obtain ⟨rfl, rfl⟩ := trodVars_none hV
  obtain ⟨a0, rfl, rfl, rfl⟩ := open_bool Tryz.underlying4 (hval 0 4 v0 rfl rfl) h0
  obtain ⟨a1, rfl, rfl, rfl⟩ := open_bool Tryz.underlying4 (hval 1 4 v1 rfl rfl) h1
  obtain ⟨a2, rfl, rfl, rfl⟩ := open_bool Tryz.underlying4 (hval 2 4 v2 rfl rfl) h2
  obtain ⟨a3, rfl, rfl, rfl⟩ := open_bool Tryz.underlying4 (hval 3 4 v3 rfl rfl) h3
  clear hA0 hval0
  simp only [List.append_nil] at hW'
  refine (walk a0 a1 a2 a3 W hs).mono fun e W' ⟨he, hg⟩ => ?_
  subst he
  exact ⟨_, rfl, post_below (pa := []) (pv := []) hW' (fun _ _ _ => (trodAll_cons_mk (shut_bool Tryz.underlying4 _) trodAll_mk0)) (fun sp _ => (trodAll_cons_mk (shut_bool Tryz.underlying4 _) (trodAll_cons_mk (shut_bool Tryz.underlying4 _) (trodAll_cons_mk (shut_bool Tryz.underlying4 _) (trodAll_cons_mk (shut_bool Tryz.underlying4 _) trodAll_mk0))))) (fun _ _ => rfl) rfl
    hg (ok_one (by kernel_rfl) rfl (okWide_bool_mk Tryz.underlying4 _))⟩

theorem over : Rows.SchedCredsSaid :=
  OpenClaim.holds_of_wide 5 Tryz.f5 rfl rfl rfl rfl rfl rfl rfl ⟨rfl, rfl, rfl, rfl, rfl⟩ rfl rfl rfl rfl rfl SchedCredsF.named Tryz.func5 SchedCredsF.closed SchedCredsF.inst SchedCredsF.wrap
    (fun os started H enc _ => lifted os started H enc)

end Creds

/-- The tied card of SchedCreds. -/
theorem schedCreds_proved : Rows.SchedCredsCardSaid :=
  Claim7.holds_tied_plain_at .later [] Rows.schedCredsCard.laidKinds true Rows.schedCredsCard.stood.harness false Creds.over (fun _ h => by cases h) SchedCredsF.wfText (fun _ h => by cases h) schedCreds_row_tie rfl ⟨rfl, rfl⟩ SchedCredsF.mainIs rfl
    (fun f fn hf hfn => by
      obtain rfl : f = 5 := Option.some.inj (SchedCredsF.named.symm.trans hf) |>.symm
      obtain rfl : fn = Tryz.f5 := (Option.some.inj (Tryz.func5.symm.trans hfn)).symm
      exact ⟨SchedCredsF.looks, fun j t ht => by
        rw [Tryz.params5] at ht
        have hm : t ∈ [4] := by simpa using Array.mem_of_getElem? ht
        have hall : ([4].all fun u => !Tryz.prog.wantsStandIn u) = true := by kernel_rfl
        exact (show Tryz.prog.wantsStandIn t = false by simpa using List.all_eq_true.1 hall t hm)⟩)
    SchedCredsF.goes

end Go.Proofs.YtpognhdhlbgliaaGreatDoor
