/- SchedGates: every input, the ticks as a token. -/
import Derived.Test.YtpognhdhlbgliaaGreatDoorLkRegime
namespace Go.Lk
open Go.Proofs Go.RowKit

abbrev fxGates : Fx := fxL [-9223372036854775808, 0, 18446744073709550616] [9223372036854775807, 999, 18446744073709551615] [] [(18446744073709551615, 1, 2, 0)] []

theorem gate0 (b : Nat → Int) (ok : fxGates.Ok b) : @tst ⟨_, b, ok⟩ [(0, 1000, .complex .f64 2 0)] 4 [.bool true, .complex .f64 0 0, .bool true] = true := by kernel_rfl
theorem gate1 (b : Nat → Int) (ok : fxGates.Ok b) : @tst ⟨_, b, ok⟩ [(0, 1000, .complex .f64 2 0)] 4 [.bool true, .complex .f64 0 0, .bool false] = true := by kernel_rfl
theorem gate2 (b : Nat → Int) (ok : fxGates.Ok b) : @tst ⟨_, b, ok⟩ [(0, 1000, .complex .f64 2 0)] 4 [.bool false, .complex .f64 0 0, .bool true] = true := by kernel_rfl
theorem gate3 (b : Nat → Int) (ok : fxGates.Ok b) : @tst ⟨_, b, ok⟩ [(0, 1000, .complex .f64 2 0)] 4 [.bool false, .complex .f64 0 0, .bool false] = true := by kernel_rfl

theorem gate : ∀ (a c : Bool) (b : Nat → Int) (ok : fxGates.Ok b), @tst ⟨_, b, ok⟩ [(0, 1000, .complex .f64 2 0)] 4 [.bool a, .complex .f64 0 0, .bool c] = true
  | true, true => gate0
  | true, false => gate1
  | false, true => gate2
  | false, false => gate3

theorem gates {a c : Bool} {x : Int} (hx : -9223372036854775808 ≤ x ∧ x ≤ 9223372036854775807) {w : World}
    (he : (callFunc 4 #[.bool a, .int .i64 x, .bool c]).run Tryz.prog w = .ok (.enter 4 #[.bool a, .int .i64 x, .bool c]) w) (hs : w.ShapedOpen Tryz.prog) :
    Calls Tryz.prog 4 #[.bool a, .int .i64 x, .bool c] w fun e w' => e = .returned (.bool true) ∧ Below w.heap.size w w' := by
  have h1 := lowZ_ge (x := x) (n := 1000) (by omega) (by omega)
  have h2 : lowZ x 1000 ≤ 999 := by have := lowZ_lt (x := x) (n := 1000) (by omega) (by omega); omega
  generalize ht : lowZ x 1000 = t at h1 h2
  have e1 : leL [-9223372036854775808, 0, 18446744073709550616] [x, t, 18446744073709551615 - t] := ⟨hx.1, h1, by omega, trivial⟩
  have e2 : leL [x, t, 18446744073709551615 - t] [9223372036854775807, 999, 18446744073709551615] := ⟨hx.2, h2, by omega, trivial⟩
  have ok : fxGates.Ok fun j => [x, t, 18446744073709551615 - t].getD j 0 := fxL_ok e1 e2 (by simp) (by simp) (by simp)
  letI : Fc := ⟨_, _, ok⟩
  have c1 : conc (.complex .f64 2 0) = .int .i64 (lowZ (Fc.b (0 / 2)) 1000) := conc_tok 1 0 _ (by show t + ((0 : Nat) : Int) = lowZ x 1000; rw [ht]; simp)
  exact tst_walk (.cons rfl rfl c1 low1000 .nil) (LRel.cons (.bool a) (LRel.cons (tok_arg 0 x rfl) (LRel.cons (.bool c) LRel.nil))) (gate a c _ ok) he hs

end Go.Lk
