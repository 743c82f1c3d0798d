/- SchedStatuses: every input, by six regimes. -/
import Derived.Test.YtpognhdhlbgliaaGreatDoorLkRegime
namespace Go.Lk
open Go.Proofs Go.RowKit

theorem stat1 (b : Nat → Int) (ok : (fxL [-9223372036854775808] [199] [] [] []).Ok b) : @tst ⟨_, b, ok⟩ [(0, 4, .int .i64 0)] 6 [.complex .f64 0 0] = true := by kernel_rfl
theorem stat2 (b : Nat → Int) (ok : (fxL [200] [599] [] [] []).Ok b) : @tst ⟨_, b, ok⟩ [(0, 4, .int .i64 0)] 6 [.complex .f64 0 0] = true := by kernel_rfl
theorem stat3 (b : Nat → Int) (ok : (fxL [600] [9223372036854775807] [] [] []).Ok b) : @tst ⟨_, b, ok⟩ [(0, 4, .int .i64 0)] 6 [.complex .f64 0 0] = true := by kernel_rfl
theorem stat4 (b : Nat → Int) (ok : (fxL [-9223372036854775808, 0, 1] [9223372036854775807, 9, 3] [] [] []).Ok b) : @tst ⟨_, b, ok⟩ [(0, 4, .complex .f64 4 0), (0, 420, .complex .f64 2 0)] 6 [.complex .f64 0 0] = true := by kernel_rfl
theorem stat5 (b : Nat → Int) (ok : (fxL [-9223372036854775808, 10, 1] [9223372036854775807, 409, 3] [] [] []).Ok b) : @tst ⟨_, b, ok⟩ [(0, 4, .complex .f64 4 0), (0, 420, .complex .f64 2 0)] 6 [.complex .f64 0 0] = true := by kernel_rfl
theorem stat6 (b : Nat → Int) (ok : (fxL [-9223372036854775808, 410, 1] [9223372036854775807, 419, 3] [] [] []).Ok b) : @tst ⟨_, b, ok⟩ [(0, 4, .complex .f64 4 0), (0, 420, .complex .f64 2 0)] 6 [.complex .f64 0 0] = true := by kernel_rfl

section
variable {x : Int} (hx : -9223372036854775808 ≤ x ∧ x ≤ 9223372036854775807) {w : World}
  (he : (callFunc 6 #[.int .i64 x]).run Tryz.prog w = .ok (.enter 6 #[.int .i64 x]) w) (hs : w.ShapedOpen Tryz.prog)
include hx he hs

omit hx in
theorem statusA {lo hi : Int} (h0 : lowZ x 4 = 0) (h1 : lo ≤ x) (h2 : x ≤ hi)
    (hr : ∀ (b : Nat → Int) (ok : (fxL [lo] [hi] [] [] []).Ok b), @tst ⟨_, b, ok⟩ [(0, 4, .int .i64 0)] 6 [.complex .f64 0 0] = true) :
    Calls Tryz.prog 6 #[.int .i64 x] w fun e w' => e = .returned (.bool true) ∧ Below w.heap.size w w' := by
  have ok : (fxL [lo] [hi] [] [] []).Ok fun j => [x].getD j 0 := fxL_ok ⟨h1, trivial⟩ ⟨h2, trivial⟩ (by simp) (by simp) (by simp)
  letI : Fc := ⟨_, _, ok⟩
  exact tst_walk (.cons rfl rfl (by rw [show Fc.b (0 / 2) = x from rfl, h0]; rfl) low4 .nil) (LRel.cons (tok_arg 0 x rfl) LRel.nil) (hr _ ok) he hs

theorem statusB {lo hi : Int} (h0 : 1 ≤ lowZ x 4) (h1 : lo ≤ lowZ x 420) (h2 : lowZ x 420 ≤ hi)
    (hr : ∀ (b : Nat → Int) (ok : (fxL [-9223372036854775808, lo, 1] [9223372036854775807, hi, 3] [] [] []).Ok b), @tst ⟨_, b, ok⟩ [(0, 4, .complex .f64 4 0), (0, 420, .complex .f64 2 0)] 6 [.complex .f64 0 0] = true) :
    Calls Tryz.prog 6 #[.int .i64 x] w fun e w' => e = .returned (.bool true) ∧ Below w.heap.size w w' := by
  have h4 : lowZ x 4 ≤ 3 := by have := lowZ_lt (x := x) (n := 4) (by omega) (by omega); omega
  have e1 : leL [-9223372036854775808, lo, 1] [x, lowZ x 420, lowZ x 4] := ⟨hx.1, h1, h0, trivial⟩
  have e2 : leL [x, lowZ x 420, lowZ x 4] [9223372036854775807, hi, 3] := ⟨hx.2, h2, h4, trivial⟩
  have ok : (fxL [-9223372036854775808, lo, 1] [9223372036854775807, hi, 3] [] [] []).Ok fun j => [x, lowZ x 420, lowZ x 4].getD j 0 :=
    fxL_ok e1 e2 (by simp) (by simp) (by simp)
  letI : Fc := ⟨_, _, ok⟩
  have c1 : conc (.complex .f64 4 0) = .int .i64 (lowZ (Fc.b (0 / 2)) 4) := conc_tok 2 0 _ (by show lowZ x 4 + ((0 : Nat) : Int) = lowZ x 4; simp)
  have c2 : conc (.complex .f64 2 0) = .int .i64 (lowZ (Fc.b (0 / 2)) 420) := conc_tok 1 0 _ (by show lowZ x 420 + ((0 : Nat) : Int) = lowZ x 420; simp)
  exact tst_walk (.cons rfl rfl c1 low4 (.cons rfl rfl c2 low420 .nil)) (LRel.cons (tok_arg 0 x rfl) LRel.nil) (hr _ ok) he hs

theorem statuses : Calls Tryz.prog 6 #[.int .i64 x] w fun e w' => e = .returned (.bool true) ∧ Below w.heap.size w w' := by
  have h1 := lowZ_ge (x := x) (n := 4) (by omega) (by omega)
  have h2 := lowZ_ge (x := x) (n := 420) (by omega) (by omega)
  have h3 := lowZ_lt (x := x) (n := 420) (by omega) (by omega)
  by_cases h0 : lowZ x 4 = 0
  · by_cases ha : x ≤ 199
    · exact statusA he hs h0 hx.1 ha stat1
    · by_cases hb : x ≤ 599
      · exact statusA he hs h0 (by omega) hb stat2
      · exact statusA he hs h0 (by omega) hx.2 stat3
  · by_cases ha : lowZ x 420 ≤ 9
    · exact statusB hx he hs (by omega) h2 ha stat4
    · by_cases hb : lowZ x 420 ≤ 409
      · exact statusB hx he hs (by omega) (by omega) hb stat5
      · exact statusB hx he hs (by omega) (by omega) (by omega) stat6
end

end Go.Lk
