/- Runs with tokens: bounds as lists. -/
import Derived.Test.YtpognhdhlbgliaaGreatDoorLkLow
import Derived.Test.YtpognhdhlbgliaaGreatDoorLkWalk
namespace Go.Lk
open Go.Proofs Go.RowKit

def leL : List Int → List Int → Prop
  | [], [] => True
  | a :: l, b :: m => a ≤ b ∧ leL l m
  | _, _ => False

theorem leL_getD : ∀ {a b : List Int}, leL a b → ∀ j, a.getD j 0 ≤ b.getD j 0
  | [], [], _, j => by simp
  | a :: l, b :: m, h, 0 => by simpa using h.1
  | a :: l, b :: m, h, j + 1 => by simpa using leL_getD h.2 j
  | [], b :: m, h, _ => h.elim
  | a :: l, [], h, _ => h.elim

/-- Facts by lists. -/
def fxL (lo hi : List Int) (plus : List (Nat × Nat × Nat × Nat)) (minus : List (Int × Nat × Nat × Nat)) (diff : List (Nat × Nat × Int × Int)) : Fx := ⟨fun j => lo.getD j 0, fun j => hi.getD j 0, plus, minus, diff⟩

theorem fxL_ok {lo hi b : List Int} {plus : List (Nat × Nat × Nat × Nat)} {minus : List (Int × Nat × Nat × Nat)} {diff : List (Nat × Nat × Int × Int)} (h1 : leL lo b) (h2 : leL b hi)
    (h3 : ∀ e ∈ plus, b.getD e.1 0 + b.getD e.2.1 0 = b.getD e.2.2.1 0 + e.2.2.2) (h4 : ∀ e ∈ minus, e.1 - b.getD e.2.1 0 = b.getD e.2.2.1 0 + e.2.2.2)
    (h5 : ∀ e ∈ diff, e.2.2.1 ≤ b.getD e.1 0 - b.getD e.2.1 0 ∧ b.getD e.1 0 - b.getD e.2.1 0 ≤ e.2.2.2) : (fxL lo hi plus minus diff).Ok fun j => b.getD j 0 :=
  ⟨leL_getD h1, leL_getD h2, h3, h4, h5⟩

/-- Whether a law answers true, in a run with tokens. -/
noncomputable def tst [Fc] (low : LowT) (f : FuncId) (args : List Value) : Bool := isT (run ((19, fLow low) :: spec3) 60 f args H0)

theorem tok_arg [Fc] {P : Program} {ι : Emb} (j : Nat) (x : Int) (h : Fc.b j = x) : VRel P ι (.complex .f64 (2 * j) 0) (.int .i64 x) := by
  have := VRel.conc_self (P := P) (ι := ι) (v := .complex .f64 (2 * j) 0) (by rfl)
  have e : conc (.complex .f64 (2 * j) 0) = .int .i64 x := by
    show Value.int (kdT (2 * j)) (Fc.b (2 * j / 2) + ((0 : Nat) : Int)) = _
    have h1 : 2 * j / 2 = j := by omega
    have h2 : 2 * j % 2 = 0 := by omega
    rw [h1, h]; simp [kdT, h2]
  rwa [e] at this

/-- What a token at an offset is. -/
theorem conc_tok [Fc] (j c : Nat) (x : Int) (h : Fc.b j + c = x) : conc (.complex .f64 (2 * j) c) = .int .i64 x := by
  show Value.int (kdT (2 * j)) (Fc.b (2 * j / 2) + (c : Int)) = _
  have h1 : 2 * j / 2 = j := by omega
  have h2 : 2 * j % 2 = 0 := by omega
  rw [h1, h]; simp [kdT, h2]

theorem tst_walk [Fc] {low : LowT} (hl : LowOK low) {f : FuncId} {args : List Value} {args' : Array Value} (ha : LRel Tryz.prog (fun _ => none) args args'.toList) (h : tst low f args = true)
    {w : World} (he : (callFunc f args').run Tryz.prog w = .ok (.enter f args') w) (hs : w.ShapedOpen Tryz.prog) :
    Calls Tryz.prog f args' w fun e w' => e = .returned (.bool true) ∧ Below w.heap.size w w' :=
  call_true (.cons (fun _ hC => fLow_sound hl hC) spec3_ok) ha h he hs

end Go.Lk
