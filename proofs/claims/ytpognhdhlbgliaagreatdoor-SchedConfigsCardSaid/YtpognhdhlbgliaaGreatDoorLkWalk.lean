/- A call of plain arguments that the tables and the tree answer with true. -/
import Derived.Test.YtpognhdhlbgliaaGreatDoorLkTabs
import Derived.Test.YtpognhdhlbgliaaGreatDoorLkRow
import Derived.Shelf.Vars
namespace Go.Lk
open Go.Proofs Go.RowKit

theorem CallTo.calls {P : Program} {f : FuncId} {args : Array Value} {w : World} {R : Value → World → Prop} (he : (callFunc f args).run P w = .ok (.enter f args) w)
    (h : CallTo P (callFunc f args) w R) : Calls P f args w fun e w' => ∃ v', e = .returned v' ∧ R v' w' := by
  rcases h with ⟨v', w', h1, h2⟩ | ⟨g, bs, h1, h2⟩
  · rw [he] at h1; cases h1
  · rw [he] at h1; cases h1; exact h2

theorem gl_of_cell [Fc] {w : World} {m : Int} (h : w.cell? ⟨0, 0, none⟩ = some (.int .i64 m)) : ∀ g, Gl.dom g → ∃ o, w.heap[g]? = some o ∧ Gl.ok g o := by
  intro g hg
  have hg : g = 0 := hg
  subst hg
  unfold World.cell? at h
  split at h
  · rename_i c t fr hb
    refine ⟨_, hb, m, c, t, fr, rfl, ?_⟩
    simpa using h
  · cases h

theorem max_cell {w : World} (h : w.ShapedOpen Tryz.prog) : ∃ m, w.cell? ⟨0, 0, none⟩ = some (.int .i64 m) :=
  cell_of_shapedOpen_int (zero := #[.int .i64 0]) (t := 3) h (of_decide_eq_true (by kernel_rfl)) (by kernel_rfl) rfl (by kernel_rfl) (by kernel_rfl) Tryz.underlying3

theorem call_true [Fc] {l : SpecL} (hl : SpecLOK Tryz.prog l) {k : Nat} {f : FuncId} {args : List Value} {args' : Array Value} (ha : LRel Tryz.prog (fun _ => none) args args'.toList) (h : isT (run l k f args H0) = true)
    {w : World} (he : (callFunc f args').run Tryz.prog w = .ok (.enter f args') w) (hs : w.ShapedOpen Tryz.prog) :
    Calls Tryz.prog f args' w fun e w' => e = .returned (.bool true) ∧ Below w.heap.size w w' := by
  obtain ⟨H', h⟩ := isT_some h
  obtain ⟨m, hm⟩ := max_cell hs
  have hr : HRel Tryz.prog (fun _ => none) H0 w := hrel_empty (gl_of_cell hm)
  have := run_sound hl k f (fun _ => none) H0 w args args' hr ha _ _ h
  refine (CallTo.calls he this).mono fun e w' ⟨v', he, ι', hv, hst⟩ => ?_
  cases hv
  exact ⟨he, below_of_empty hst⟩

end Go.Lk
