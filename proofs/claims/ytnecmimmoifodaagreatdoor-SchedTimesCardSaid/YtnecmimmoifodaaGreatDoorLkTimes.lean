/- SchedTimes: every input, by eight regimes. -/
import Derived.Test.YtnecmimmoifodaaGreatDoorLkRegime
namespace Go.Lk
open Go.Proofs Go.RowKit

abbrev fxTzero : Fx := fxL [-9223372036854775808, -9223372036854775808, -9223372036854775808, 0, 0, 0, 0, 18446744073709548616, 0, 18446744073709548017, 18446744073709548017] [9223372036854775807, 9223372036854775807, 9223372036854775807, 599, 599, 999, 1598, 18446744073709549615, 1598, 18446744073709549615, 18446744073709549615] [(5, 3, 6, 0), (5, 4, 8, 0)] [(18446744073709551615, 5, 7, 2000), (18446744073709551615, 6, 9, 2000), (18446744073709551615, 8, 10, 2000)] []
theorem time_zero0 (b : Nat → Int) (ok : fxTzero.Ok b) : @tst ⟨_, b, ok⟩ [(0, 601, .int .i64 0), (2, 600, .complex .f64 6 0), (4, 1000, .complex .f64 10 0), (4, 2, .int .i64 0)] 3 [.complex .f64 0 0, .complex .f64 2 0, .complex .f64 4 0] = true := by kernel_rfl
theorem time_zero1 (b : Nat → Int) (ok : fxTzero.Ok b) : @tst ⟨_, b, ok⟩ [(0, 601, .int .i64 0), (2, 600, .complex .f64 6 0), (4, 1000, .complex .f64 10 0), (4, 2, .int .i64 1)] 3 [.complex .f64 0 0, .complex .f64 2 0, .complex .f64 4 0] = true := by kernel_rfl
abbrev fxTlt : Fx := fxL [-9223372036854775808, -9223372036854775808, -9223372036854775808, 0, 0, 0, 0, 18446744073709548616, 0, 18446744073709548017, 18446744073709548017] [9223372036854775807, 9223372036854775807, 9223372036854775807, 599, 599, 999, 1598, 18446744073709549615, 1598, 18446744073709549615, 18446744073709549615] [(5, 3, 6, 0), (5, 4, 8, 0)] [(18446744073709551615, 5, 7, 2000), (18446744073709551615, 6, 9, 2000), (18446744073709551615, 8, 10, 2000)] [(3, 4, 1, 600), (4, 3, -600, -1)]
theorem time_lt0 (b : Nat → Int) (ok : fxTlt.Ok b) : @tst ⟨_, b, ok⟩ [(0, 601, .complex .f64 8 1), (2, 600, .complex .f64 6 0), (4, 1000, .complex .f64 10 0), (4, 2, .int .i64 0)] 3 [.complex .f64 0 0, .complex .f64 2 0, .complex .f64 4 0] = true := by kernel_rfl
theorem time_lt1 (b : Nat → Int) (ok : fxTlt.Ok b) : @tst ⟨_, b, ok⟩ [(0, 601, .complex .f64 8 1), (2, 600, .complex .f64 6 0), (4, 1000, .complex .f64 10 0), (4, 2, .int .i64 1)] 3 [.complex .f64 0 0, .complex .f64 2 0, .complex .f64 4 0] = true := by kernel_rfl
abbrev fxTeq : Fx := fxL [-9223372036854775808, -9223372036854775808, -9223372036854775808, 0, 0, 0, 0, 18446744073709548616, 0, 18446744073709548017, 18446744073709548017] [9223372036854775807, 9223372036854775807, 9223372036854775807, 599, 599, 999, 1598, 18446744073709549615, 1598, 18446744073709549615, 18446744073709549615] [(5, 3, 6, 0), (5, 4, 8, 0)] [(18446744073709551615, 5, 7, 2000), (18446744073709551615, 6, 9, 2000), (18446744073709551615, 8, 10, 2000)] []
theorem time_eq0 (b : Nat → Int) (ok : fxTeq.Ok b) : @tst ⟨_, b, ok⟩ [(0, 601, .complex .f64 6 1), (2, 600, .complex .f64 6 0), (4, 1000, .complex .f64 10 0), (4, 2, .int .i64 0)] 3 [.complex .f64 0 0, .complex .f64 2 0, .complex .f64 4 0] = true := by kernel_rfl
theorem time_eq1 (b : Nat → Int) (ok : fxTeq.Ok b) : @tst ⟨_, b, ok⟩ [(0, 601, .complex .f64 6 1), (2, 600, .complex .f64 6 0), (4, 1000, .complex .f64 10 0), (4, 2, .int .i64 1)] 3 [.complex .f64 0 0, .complex .f64 2 0, .complex .f64 4 0] = true := by kernel_rfl
abbrev fxTgt : Fx := fxL [-9223372036854775808, -9223372036854775808, -9223372036854775808, 0, 0, 0, 0, 18446744073709548616, 0, 18446744073709548017, 18446744073709548017] [9223372036854775807, 9223372036854775807, 9223372036854775807, 599, 599, 999, 1598, 18446744073709549615, 1598, 18446744073709549615, 18446744073709549615] [(5, 3, 6, 0), (5, 4, 8, 0)] [(18446744073709551615, 5, 7, 2000), (18446744073709551615, 6, 9, 2000), (18446744073709551615, 8, 10, 2000)] [(3, 4, -600, -1), (4, 3, 1, 600)]
theorem time_gt0 (b : Nat → Int) (ok : fxTgt.Ok b) : @tst ⟨_, b, ok⟩ [(0, 601, .complex .f64 8 1), (2, 600, .complex .f64 6 0), (4, 1000, .complex .f64 10 0), (4, 2, .int .i64 0)] 3 [.complex .f64 0 0, .complex .f64 2 0, .complex .f64 4 0] = true := by kernel_rfl
theorem time_gt1 (b : Nat → Int) (ok : fxTgt.Ok b) : @tst ⟨_, b, ok⟩ [(0, 601, .complex .f64 8 1), (2, 600, .complex .f64 6 0), (4, 1000, .complex .f64 10 0), (4, 2, .int .i64 1)] 3 [.complex .f64 0 0, .complex .f64 2 0, .complex .f64 4 0] = true := by kernel_rfl

theorem times_leL {x y z m q a : Int} (hx : -9223372036854775808 ≤ x ∧ x ≤ 9223372036854775807) (hy : -9223372036854775808 ≤ y ∧ y ≤ 9223372036854775807) (hz : -9223372036854775808 ≤ z ∧ z ≤ 9223372036854775807)
    (hm : 0 ≤ m ∧ m ≤ 599) (hq : 0 ≤ q ∧ q ≤ 599) (ha : 0 ≤ a ∧ a ≤ 999) : leL [-9223372036854775808, -9223372036854775808, -9223372036854775808, 0, 0, 0, 0, 18446744073709548616, 0, 18446744073709548017, 18446744073709548017] [x, y, z, m, q, a, a + m, 18446744073709549615 - a, a + q, 18446744073709549615 - (a + m), 18446744073709549615 - (a + q)] ∧ leL [x, y, z, m, q, a, a + m, 18446744073709549615 - a, a + q, 18446744073709549615 - (a + m), 18446744073709549615 - (a + q)] [9223372036854775807, 9223372036854775807, 9223372036854775807, 599, 599, 999, 1598, 18446744073709549615, 1598, 18446744073709549615, 18446744073709549615] :=
  ⟨⟨hx.1, hy.1, hz.1, hm.1, hq.1, ha.1, by omega, by omega, by omega, by omega, by omega, trivial⟩, ⟨hx.2, hy.2, hz.2, hm.2, hq.2, ha.2, by omega, by omega, by omega, by omega, by omega, trivial⟩⟩

theorem times_plus {x y z m q a : Int} : ∀ e ∈ ([(5, 3, 6, 0), (5, 4, 8, 0)] : List (Nat × Nat × Nat × Nat)), [x, y, z, m, q, a, a + m, 18446744073709549615 - a, a + q, 18446744073709549615 - (a + m), 18446744073709549615 - (a + q)].getD e.1 0 + [x, y, z, m, q, a, a + m, 18446744073709549615 - a, a + q, 18446744073709549615 - (a + m), 18446744073709549615 - (a + q)].getD e.2.1 0 = [x, y, z, m, q, a, a + m, 18446744073709549615 - a, a + q, 18446744073709549615 - (a + m), 18446744073709549615 - (a + q)].getD e.2.2.1 0 + e.2.2.2 := by
  intro e he
  simp only [List.mem_cons, List.not_mem_nil, or_false] at he
  rcases he with rfl | rfl <;> simp
theorem times_minus {x y z m q a : Int} : ∀ e ∈ ([(18446744073709551615, 5, 7, 2000), (18446744073709551615, 6, 9, 2000), (18446744073709551615, 8, 10, 2000)] : List (Int × Nat × Nat × Nat)), e.1 - [x, y, z, m, q, a, a + m, 18446744073709549615 - a, a + q, 18446744073709549615 - (a + m), 18446744073709549615 - (a + q)].getD e.2.1 0 = [x, y, z, m, q, a, a + m, 18446744073709549615 - a, a + q, 18446744073709549615 - (a + m), 18446744073709549615 - (a + q)].getD e.2.2.1 0 + e.2.2.2 := by
  intro e he
  simp only [List.mem_cons, List.not_mem_nil, or_false] at he
  rcases he with rfl | rfl | rfl <;> simp <;> omega

theorem times_zero0 {x y z : Int} (hx : -9223372036854775808 ≤ x ∧ x ≤ 9223372036854775807) (hy : -9223372036854775808 ≤ y ∧ y ≤ 9223372036854775807) (hz : -9223372036854775808 ≤ z ∧ z ≤ 9223372036854775807) (h0 : lowZ x 601 = 0) (hp : lowZ z 2 = 0) {w : World}
    (he : (callFunc 3 #[.int .i64 x, .int .i64 y, .int .i64 z]).run Tryz.prog w = .ok (.enter 3 #[.int .i64 x, .int .i64 y, .int .i64 z]) w) (hs : w.ShapedOpen Tryz.prog) :
    Calls Tryz.prog 3 #[.int .i64 x, .int .i64 y, .int .i64 z] w fun e w' => e = .returned (.bool true) ∧ Below w.heap.size w w' := by
  have h6 := lowZ_lt (x := x) (n := 601) (by omega) (by omega)
  have h7 := lowZ_ge (x := y) (n := 600) (by omega) (by omega)
  have h8 := lowZ_lt (x := y) (n := 600) (by omega) (by omega)
  have h9 := lowZ_ge (x := z) (n := 1000) (by omega) (by omega)
  have h10 := lowZ_lt (x := z) (n := 1000) (by omega) (by omega)
  obtain ⟨m, hm⟩ : ∃ m, lowZ y 600 = m := ⟨_, rfl⟩
  obtain ⟨a, ha⟩ : ∃ a, lowZ z 1000 = a := ⟨_, rfl⟩
  obtain ⟨q, hq⟩ : ∃ q, 0 = q := ⟨_, rfl⟩
  rw [hm] at h7 h8
  rw [ha] at h9 h10
  have hl := times_leL (m := m) (q := q) (a := a) hx hy hz ⟨by omega, by omega⟩ ⟨by omega, by omega⟩ ⟨by omega, by omega⟩
  have hd : ∀ e ∈ ([] : List (Nat × Nat × Int × Int)), e.2.2.1 ≤ [x, y, z, m, q, a, a + m, 18446744073709549615 - a, a + q, 18446744073709549615 - (a + m), 18446744073709549615 - (a + q)].getD e.1 0 - [x, y, z, m, q, a, a + m, 18446744073709549615 - a, a + q, 18446744073709549615 - (a + m), 18446744073709549615 - (a + q)].getD e.2.1 0 ∧ [x, y, z, m, q, a, a + m, 18446744073709549615 - a, a + q, 18446744073709549615 - (a + m), 18446744073709549615 - (a + q)].getD e.1 0 - [x, y, z, m, q, a, a + m, 18446744073709549615 - a, a + q, 18446744073709549615 - (a + m), 18446744073709549615 - (a + q)].getD e.2.1 0 ≤ e.2.2.2 := by simp
  have ok : fxTzero.Ok fun j => [x, y, z, m, q, a, a + m, 18446744073709549615 - a, a + q, 18446744073709549615 - (a + m), 18446744073709549615 - (a + q)].getD j 0 := fxL_ok hl.1 hl.2 times_plus times_minus hd
  letI : Fc := ⟨_, _, ok⟩
  have c1 : conc (.int .i64 0) = .int .i64 (lowZ (Fc.b (0 / 2)) 601) := by rw [show Fc.b (0 / 2) = x from rfl, h0]; rfl
  have c2 : conc (.complex .f64 6 0) = .int .i64 (lowZ (Fc.b (2 / 2)) 600) := conc_tok 3 0 _ (by show m + ((0 : Nat) : Int) = lowZ y 600; rw [hm]; simp)
  have c3 : conc (.complex .f64 10 0) = .int .i64 (lowZ (Fc.b (4 / 2)) 1000) := conc_tok 5 0 _ (by show a + ((0 : Nat) : Int) = lowZ z 1000; rw [ha]; simp)
  have c4 : conc (.int .i64 0) = .int .i64 (lowZ (Fc.b (4 / 2)) 2) := by rw [show Fc.b (4 / 2) = z from rfl, hp]; rfl
  exact tst_walk (.cons rfl rfl c1 low601 (.cons rfl rfl c2 low600 (.cons rfl rfl c3 low1000 (.cons rfl rfl c4 low2 .nil)))) (LRel.cons (tok_arg 0 x rfl) (LRel.cons (tok_arg 1 y rfl) (LRel.cons (tok_arg 2 z rfl) LRel.nil))) (time_zero0 _ ok) he hs

theorem times_zero1 {x y z : Int} (hx : -9223372036854775808 ≤ x ∧ x ≤ 9223372036854775807) (hy : -9223372036854775808 ≤ y ∧ y ≤ 9223372036854775807) (hz : -9223372036854775808 ≤ z ∧ z ≤ 9223372036854775807) (h0 : lowZ x 601 = 0) (hp : lowZ z 2 = 1) {w : World}
    (he : (callFunc 3 #[.int .i64 x, .int .i64 y, .int .i64 z]).run Tryz.prog w = .ok (.enter 3 #[.int .i64 x, .int .i64 y, .int .i64 z]) w) (hs : w.ShapedOpen Tryz.prog) :
    Calls Tryz.prog 3 #[.int .i64 x, .int .i64 y, .int .i64 z] w fun e w' => e = .returned (.bool true) ∧ Below w.heap.size w w' := by
  have h6 := lowZ_lt (x := x) (n := 601) (by omega) (by omega)
  have h7 := lowZ_ge (x := y) (n := 600) (by omega) (by omega)
  have h8 := lowZ_lt (x := y) (n := 600) (by omega) (by omega)
  have h9 := lowZ_ge (x := z) (n := 1000) (by omega) (by omega)
  have h10 := lowZ_lt (x := z) (n := 1000) (by omega) (by omega)
  obtain ⟨m, hm⟩ : ∃ m, lowZ y 600 = m := ⟨_, rfl⟩
  obtain ⟨a, ha⟩ : ∃ a, lowZ z 1000 = a := ⟨_, rfl⟩
  obtain ⟨q, hq⟩ : ∃ q, 0 = q := ⟨_, rfl⟩
  rw [hm] at h7 h8
  rw [ha] at h9 h10
  have hl := times_leL (m := m) (q := q) (a := a) hx hy hz ⟨by omega, by omega⟩ ⟨by omega, by omega⟩ ⟨by omega, by omega⟩
  have hd : ∀ e ∈ ([] : List (Nat × Nat × Int × Int)), e.2.2.1 ≤ [x, y, z, m, q, a, a + m, 18446744073709549615 - a, a + q, 18446744073709549615 - (a + m), 18446744073709549615 - (a + q)].getD e.1 0 - [x, y, z, m, q, a, a + m, 18446744073709549615 - a, a + q, 18446744073709549615 - (a + m), 18446744073709549615 - (a + q)].getD e.2.1 0 ∧ [x, y, z, m, q, a, a + m, 18446744073709549615 - a, a + q, 18446744073709549615 - (a + m), 18446744073709549615 - (a + q)].getD e.1 0 - [x, y, z, m, q, a, a + m, 18446744073709549615 - a, a + q, 18446744073709549615 - (a + m), 18446744073709549615 - (a + q)].getD e.2.1 0 ≤ e.2.2.2 := by simp
  have ok : fxTzero.Ok fun j => [x, y, z, m, q, a, a + m, 18446744073709549615 - a, a + q, 18446744073709549615 - (a + m), 18446744073709549615 - (a + q)].getD j 0 := fxL_ok hl.1 hl.2 times_plus times_minus hd
  letI : Fc := ⟨_, _, ok⟩
  have c1 : conc (.int .i64 0) = .int .i64 (lowZ (Fc.b (0 / 2)) 601) := by rw [show Fc.b (0 / 2) = x from rfl, h0]; rfl
  have c2 : conc (.complex .f64 6 0) = .int .i64 (lowZ (Fc.b (2 / 2)) 600) := conc_tok 3 0 _ (by show m + ((0 : Nat) : Int) = lowZ y 600; rw [hm]; simp)
  have c3 : conc (.complex .f64 10 0) = .int .i64 (lowZ (Fc.b (4 / 2)) 1000) := conc_tok 5 0 _ (by show a + ((0 : Nat) : Int) = lowZ z 1000; rw [ha]; simp)
  have c4 : conc (.int .i64 1) = .int .i64 (lowZ (Fc.b (4 / 2)) 2) := by rw [show Fc.b (4 / 2) = z from rfl, hp]; rfl
  exact tst_walk (.cons rfl rfl c1 low601 (.cons rfl rfl c2 low600 (.cons rfl rfl c3 low1000 (.cons rfl rfl c4 low2 .nil)))) (LRel.cons (tok_arg 0 x rfl) (LRel.cons (tok_arg 1 y rfl) (LRel.cons (tok_arg 2 z rfl) LRel.nil))) (time_zero1 _ ok) he hs

theorem times_lt0 {x y z : Int} (hx : -9223372036854775808 ≤ x ∧ x ≤ 9223372036854775807) (hy : -9223372036854775808 ≤ y ∧ y ≤ 9223372036854775807) (hz : -9223372036854775808 ≤ z ∧ z ≤ 9223372036854775807) (h0 : 1 ≤ lowZ x 601) (h1 : lowZ x 601 ≤ lowZ y 600) (hp : lowZ z 2 = 0) {w : World}
    (he : (callFunc 3 #[.int .i64 x, .int .i64 y, .int .i64 z]).run Tryz.prog w = .ok (.enter 3 #[.int .i64 x, .int .i64 y, .int .i64 z]) w) (hs : w.ShapedOpen Tryz.prog) :
    Calls Tryz.prog 3 #[.int .i64 x, .int .i64 y, .int .i64 z] w fun e w' => e = .returned (.bool true) ∧ Below w.heap.size w w' := by
  have h6 := lowZ_lt (x := x) (n := 601) (by omega) (by omega)
  have h7 := lowZ_ge (x := y) (n := 600) (by omega) (by omega)
  have h8 := lowZ_lt (x := y) (n := 600) (by omega) (by omega)
  have h9 := lowZ_ge (x := z) (n := 1000) (by omega) (by omega)
  have h10 := lowZ_lt (x := z) (n := 1000) (by omega) (by omega)
  obtain ⟨m, hm⟩ : ∃ m, lowZ y 600 = m := ⟨_, rfl⟩
  obtain ⟨a, ha⟩ : ∃ a, lowZ z 1000 = a := ⟨_, rfl⟩
  obtain ⟨q, hq⟩ : ∃ q, lowZ x 601 - 1 = q := ⟨_, rfl⟩
  rw [hm] at h7 h8
  rw [ha] at h9 h10
  rw [hm] at h1
  have hl := times_leL (m := m) (q := q) (a := a) hx hy hz ⟨by omega, by omega⟩ ⟨by omega, by omega⟩ ⟨by omega, by omega⟩
  have hd : ∀ e ∈ ([(3, 4, 1, 600), (4, 3, -600, -1)] : List (Nat × Nat × Int × Int)), e.2.2.1 ≤ [x, y, z, m, q, a, a + m, 18446744073709549615 - a, a + q, 18446744073709549615 - (a + m), 18446744073709549615 - (a + q)].getD e.1 0 - [x, y, z, m, q, a, a + m, 18446744073709549615 - a, a + q, 18446744073709549615 - (a + m), 18446744073709549615 - (a + q)].getD e.2.1 0 ∧ [x, y, z, m, q, a, a + m, 18446744073709549615 - a, a + q, 18446744073709549615 - (a + m), 18446744073709549615 - (a + q)].getD e.1 0 - [x, y, z, m, q, a, a + m, 18446744073709549615 - a, a + q, 18446744073709549615 - (a + m), 18446744073709549615 - (a + q)].getD e.2.1 0 ≤ e.2.2.2 := by
    intro e he
    simp only [List.mem_cons, List.not_mem_nil, or_false] at he
    rcases he with rfl | rfl <;> simp <;> omega
  have ok : fxTlt.Ok fun j => [x, y, z, m, q, a, a + m, 18446744073709549615 - a, a + q, 18446744073709549615 - (a + m), 18446744073709549615 - (a + q)].getD j 0 := fxL_ok hl.1 hl.2 times_plus times_minus hd
  letI : Fc := ⟨_, _, ok⟩
  have c1 : conc (.complex .f64 8 1) = .int .i64 (lowZ (Fc.b (0 / 2)) 601) := conc_tok 4 1 _ (by show q + ((1 : Nat) : Int) = lowZ x 601; omega)
  have c2 : conc (.complex .f64 6 0) = .int .i64 (lowZ (Fc.b (2 / 2)) 600) := conc_tok 3 0 _ (by show m + ((0 : Nat) : Int) = lowZ y 600; rw [hm]; simp)
  have c3 : conc (.complex .f64 10 0) = .int .i64 (lowZ (Fc.b (4 / 2)) 1000) := conc_tok 5 0 _ (by show a + ((0 : Nat) : Int) = lowZ z 1000; rw [ha]; simp)
  have c4 : conc (.int .i64 0) = .int .i64 (lowZ (Fc.b (4 / 2)) 2) := by rw [show Fc.b (4 / 2) = z from rfl, hp]; rfl
  exact tst_walk (.cons rfl rfl c1 low601 (.cons rfl rfl c2 low600 (.cons rfl rfl c3 low1000 (.cons rfl rfl c4 low2 .nil)))) (LRel.cons (tok_arg 0 x rfl) (LRel.cons (tok_arg 1 y rfl) (LRel.cons (tok_arg 2 z rfl) LRel.nil))) (time_lt0 _ ok) he hs

theorem times_lt1 {x y z : Int} (hx : -9223372036854775808 ≤ x ∧ x ≤ 9223372036854775807) (hy : -9223372036854775808 ≤ y ∧ y ≤ 9223372036854775807) (hz : -9223372036854775808 ≤ z ∧ z ≤ 9223372036854775807) (h0 : 1 ≤ lowZ x 601) (h1 : lowZ x 601 ≤ lowZ y 600) (hp : lowZ z 2 = 1) {w : World}
    (he : (callFunc 3 #[.int .i64 x, .int .i64 y, .int .i64 z]).run Tryz.prog w = .ok (.enter 3 #[.int .i64 x, .int .i64 y, .int .i64 z]) w) (hs : w.ShapedOpen Tryz.prog) :
    Calls Tryz.prog 3 #[.int .i64 x, .int .i64 y, .int .i64 z] w fun e w' => e = .returned (.bool true) ∧ Below w.heap.size w w' := by
  have h6 := lowZ_lt (x := x) (n := 601) (by omega) (by omega)
  have h7 := lowZ_ge (x := y) (n := 600) (by omega) (by omega)
  have h8 := lowZ_lt (x := y) (n := 600) (by omega) (by omega)
  have h9 := lowZ_ge (x := z) (n := 1000) (by omega) (by omega)
  have h10 := lowZ_lt (x := z) (n := 1000) (by omega) (by omega)
  obtain ⟨m, hm⟩ : ∃ m, lowZ y 600 = m := ⟨_, rfl⟩
  obtain ⟨a, ha⟩ : ∃ a, lowZ z 1000 = a := ⟨_, rfl⟩
  obtain ⟨q, hq⟩ : ∃ q, lowZ x 601 - 1 = q := ⟨_, rfl⟩
  rw [hm] at h7 h8
  rw [ha] at h9 h10
  rw [hm] at h1
  have hl := times_leL (m := m) (q := q) (a := a) hx hy hz ⟨by omega, by omega⟩ ⟨by omega, by omega⟩ ⟨by omega, by omega⟩
  have hd : ∀ e ∈ ([(3, 4, 1, 600), (4, 3, -600, -1)] : List (Nat × Nat × Int × Int)), e.2.2.1 ≤ [x, y, z, m, q, a, a + m, 18446744073709549615 - a, a + q, 18446744073709549615 - (a + m), 18446744073709549615 - (a + q)].getD e.1 0 - [x, y, z, m, q, a, a + m, 18446744073709549615 - a, a + q, 18446744073709549615 - (a + m), 18446744073709549615 - (a + q)].getD e.2.1 0 ∧ [x, y, z, m, q, a, a + m, 18446744073709549615 - a, a + q, 18446744073709549615 - (a + m), 18446744073709549615 - (a + q)].getD e.1 0 - [x, y, z, m, q, a, a + m, 18446744073709549615 - a, a + q, 18446744073709549615 - (a + m), 18446744073709549615 - (a + q)].getD e.2.1 0 ≤ e.2.2.2 := by
    intro e he
    simp only [List.mem_cons, List.not_mem_nil, or_false] at he
    rcases he with rfl | rfl <;> simp <;> omega
  have ok : fxTlt.Ok fun j => [x, y, z, m, q, a, a + m, 18446744073709549615 - a, a + q, 18446744073709549615 - (a + m), 18446744073709549615 - (a + q)].getD j 0 := fxL_ok hl.1 hl.2 times_plus times_minus hd
  letI : Fc := ⟨_, _, ok⟩
  have c1 : conc (.complex .f64 8 1) = .int .i64 (lowZ (Fc.b (0 / 2)) 601) := conc_tok 4 1 _ (by show q + ((1 : Nat) : Int) = lowZ x 601; omega)
  have c2 : conc (.complex .f64 6 0) = .int .i64 (lowZ (Fc.b (2 / 2)) 600) := conc_tok 3 0 _ (by show m + ((0 : Nat) : Int) = lowZ y 600; rw [hm]; simp)
  have c3 : conc (.complex .f64 10 0) = .int .i64 (lowZ (Fc.b (4 / 2)) 1000) := conc_tok 5 0 _ (by show a + ((0 : Nat) : Int) = lowZ z 1000; rw [ha]; simp)
  have c4 : conc (.int .i64 1) = .int .i64 (lowZ (Fc.b (4 / 2)) 2) := by rw [show Fc.b (4 / 2) = z from rfl, hp]; rfl
  exact tst_walk (.cons rfl rfl c1 low601 (.cons rfl rfl c2 low600 (.cons rfl rfl c3 low1000 (.cons rfl rfl c4 low2 .nil)))) (LRel.cons (tok_arg 0 x rfl) (LRel.cons (tok_arg 1 y rfl) (LRel.cons (tok_arg 2 z rfl) LRel.nil))) (time_lt1 _ ok) he hs

theorem times_eq0 {x y z : Int} (hx : -9223372036854775808 ≤ x ∧ x ≤ 9223372036854775807) (hy : -9223372036854775808 ≤ y ∧ y ≤ 9223372036854775807) (hz : -9223372036854775808 ≤ z ∧ z ≤ 9223372036854775807) (h0 : lowZ x 601 = lowZ y 600 + 1) (hp : lowZ z 2 = 0) {w : World}
    (he : (callFunc 3 #[.int .i64 x, .int .i64 y, .int .i64 z]).run Tryz.prog w = .ok (.enter 3 #[.int .i64 x, .int .i64 y, .int .i64 z]) w) (hs : w.ShapedOpen Tryz.prog) :
    Calls Tryz.prog 3 #[.int .i64 x, .int .i64 y, .int .i64 z] w fun e w' => e = .returned (.bool true) ∧ Below w.heap.size w w' := by
  have h6 := lowZ_lt (x := x) (n := 601) (by omega) (by omega)
  have h7 := lowZ_ge (x := y) (n := 600) (by omega) (by omega)
  have h8 := lowZ_lt (x := y) (n := 600) (by omega) (by omega)
  have h9 := lowZ_ge (x := z) (n := 1000) (by omega) (by omega)
  have h10 := lowZ_lt (x := z) (n := 1000) (by omega) (by omega)
  obtain ⟨m, hm⟩ : ∃ m, lowZ y 600 = m := ⟨_, rfl⟩
  obtain ⟨a, ha⟩ : ∃ a, lowZ z 1000 = a := ⟨_, rfl⟩
  obtain ⟨q, hq⟩ : ∃ q, 0 = q := ⟨_, rfl⟩
  rw [hm] at h7 h8
  rw [ha] at h9 h10
  rw [hm] at h0
  have hl := times_leL (m := m) (q := q) (a := a) hx hy hz ⟨by omega, by omega⟩ ⟨by omega, by omega⟩ ⟨by omega, by omega⟩
  have hd : ∀ e ∈ ([] : List (Nat × Nat × Int × Int)), e.2.2.1 ≤ [x, y, z, m, q, a, a + m, 18446744073709549615 - a, a + q, 18446744073709549615 - (a + m), 18446744073709549615 - (a + q)].getD e.1 0 - [x, y, z, m, q, a, a + m, 18446744073709549615 - a, a + q, 18446744073709549615 - (a + m), 18446744073709549615 - (a + q)].getD e.2.1 0 ∧ [x, y, z, m, q, a, a + m, 18446744073709549615 - a, a + q, 18446744073709549615 - (a + m), 18446744073709549615 - (a + q)].getD e.1 0 - [x, y, z, m, q, a, a + m, 18446744073709549615 - a, a + q, 18446744073709549615 - (a + m), 18446744073709549615 - (a + q)].getD e.2.1 0 ≤ e.2.2.2 := by simp
  have ok : fxTeq.Ok fun j => [x, y, z, m, q, a, a + m, 18446744073709549615 - a, a + q, 18446744073709549615 - (a + m), 18446744073709549615 - (a + q)].getD j 0 := fxL_ok hl.1 hl.2 times_plus times_minus hd
  letI : Fc := ⟨_, _, ok⟩
  have c1 : conc (.complex .f64 6 1) = .int .i64 (lowZ (Fc.b (0 / 2)) 601) := conc_tok 3 1 _ (by show m + ((1 : Nat) : Int) = lowZ x 601; rw [h0]; simp)
  have c2 : conc (.complex .f64 6 0) = .int .i64 (lowZ (Fc.b (2 / 2)) 600) := conc_tok 3 0 _ (by show m + ((0 : Nat) : Int) = lowZ y 600; rw [hm]; simp)
  have c3 : conc (.complex .f64 10 0) = .int .i64 (lowZ (Fc.b (4 / 2)) 1000) := conc_tok 5 0 _ (by show a + ((0 : Nat) : Int) = lowZ z 1000; rw [ha]; simp)
  have c4 : conc (.int .i64 0) = .int .i64 (lowZ (Fc.b (4 / 2)) 2) := by rw [show Fc.b (4 / 2) = z from rfl, hp]; rfl
  exact tst_walk (.cons rfl rfl c1 low601 (.cons rfl rfl c2 low600 (.cons rfl rfl c3 low1000 (.cons rfl rfl c4 low2 .nil)))) (LRel.cons (tok_arg 0 x rfl) (LRel.cons (tok_arg 1 y rfl) (LRel.cons (tok_arg 2 z rfl) LRel.nil))) (time_eq0 _ ok) he hs

theorem times_eq1 {x y z : Int} (hx : -9223372036854775808 ≤ x ∧ x ≤ 9223372036854775807) (hy : -9223372036854775808 ≤ y ∧ y ≤ 9223372036854775807) (hz : -9223372036854775808 ≤ z ∧ z ≤ 9223372036854775807) (h0 : lowZ x 601 = lowZ y 600 + 1) (hp : lowZ z 2 = 1) {w : World}
    (he : (callFunc 3 #[.int .i64 x, .int .i64 y, .int .i64 z]).run Tryz.prog w = .ok (.enter 3 #[.int .i64 x, .int .i64 y, .int .i64 z]) w) (hs : w.ShapedOpen Tryz.prog) :
    Calls Tryz.prog 3 #[.int .i64 x, .int .i64 y, .int .i64 z] w fun e w' => e = .returned (.bool true) ∧ Below w.heap.size w w' := by
  have h6 := lowZ_lt (x := x) (n := 601) (by omega) (by omega)
  have h7 := lowZ_ge (x := y) (n := 600) (by omega) (by omega)
  have h8 := lowZ_lt (x := y) (n := 600) (by omega) (by omega)
  have h9 := lowZ_ge (x := z) (n := 1000) (by omega) (by omega)
  have h10 := lowZ_lt (x := z) (n := 1000) (by omega) (by omega)
  obtain ⟨m, hm⟩ : ∃ m, lowZ y 600 = m := ⟨_, rfl⟩
  obtain ⟨a, ha⟩ : ∃ a, lowZ z 1000 = a := ⟨_, rfl⟩
  obtain ⟨q, hq⟩ : ∃ q, 0 = q := ⟨_, rfl⟩
  rw [hm] at h7 h8
  rw [ha] at h9 h10
  rw [hm] at h0
  have hl := times_leL (m := m) (q := q) (a := a) hx hy hz ⟨by omega, by omega⟩ ⟨by omega, by omega⟩ ⟨by omega, by omega⟩
  have hd : ∀ e ∈ ([] : List (Nat × Nat × Int × Int)), e.2.2.1 ≤ [x, y, z, m, q, a, a + m, 18446744073709549615 - a, a + q, 18446744073709549615 - (a + m), 18446744073709549615 - (a + q)].getD e.1 0 - [x, y, z, m, q, a, a + m, 18446744073709549615 - a, a + q, 18446744073709549615 - (a + m), 18446744073709549615 - (a + q)].getD e.2.1 0 ∧ [x, y, z, m, q, a, a + m, 18446744073709549615 - a, a + q, 18446744073709549615 - (a + m), 18446744073709549615 - (a + q)].getD e.1 0 - [x, y, z, m, q, a, a + m, 18446744073709549615 - a, a + q, 18446744073709549615 - (a + m), 18446744073709549615 - (a + q)].getD e.2.1 0 ≤ e.2.2.2 := by simp
  have ok : fxTeq.Ok fun j => [x, y, z, m, q, a, a + m, 18446744073709549615 - a, a + q, 18446744073709549615 - (a + m), 18446744073709549615 - (a + q)].getD j 0 := fxL_ok hl.1 hl.2 times_plus times_minus hd
  letI : Fc := ⟨_, _, ok⟩
  have c1 : conc (.complex .f64 6 1) = .int .i64 (lowZ (Fc.b (0 / 2)) 601) := conc_tok 3 1 _ (by show m + ((1 : Nat) : Int) = lowZ x 601; rw [h0]; simp)
  have c2 : conc (.complex .f64 6 0) = .int .i64 (lowZ (Fc.b (2 / 2)) 600) := conc_tok 3 0 _ (by show m + ((0 : Nat) : Int) = lowZ y 600; rw [hm]; simp)
  have c3 : conc (.complex .f64 10 0) = .int .i64 (lowZ (Fc.b (4 / 2)) 1000) := conc_tok 5 0 _ (by show a + ((0 : Nat) : Int) = lowZ z 1000; rw [ha]; simp)
  have c4 : conc (.int .i64 1) = .int .i64 (lowZ (Fc.b (4 / 2)) 2) := by rw [show Fc.b (4 / 2) = z from rfl, hp]; rfl
  exact tst_walk (.cons rfl rfl c1 low601 (.cons rfl rfl c2 low600 (.cons rfl rfl c3 low1000 (.cons rfl rfl c4 low2 .nil)))) (LRel.cons (tok_arg 0 x rfl) (LRel.cons (tok_arg 1 y rfl) (LRel.cons (tok_arg 2 z rfl) LRel.nil))) (time_eq1 _ ok) he hs

theorem times_gt0 {x y z : Int} (hx : -9223372036854775808 ≤ x ∧ x ≤ 9223372036854775807) (hy : -9223372036854775808 ≤ y ∧ y ≤ 9223372036854775807) (hz : -9223372036854775808 ≤ z ∧ z ≤ 9223372036854775807) (h0 : lowZ y 600 + 2 ≤ lowZ x 601) (hp : lowZ z 2 = 0) {w : World}
    (he : (callFunc 3 #[.int .i64 x, .int .i64 y, .int .i64 z]).run Tryz.prog w = .ok (.enter 3 #[.int .i64 x, .int .i64 y, .int .i64 z]) w) (hs : w.ShapedOpen Tryz.prog) :
    Calls Tryz.prog 3 #[.int .i64 x, .int .i64 y, .int .i64 z] w fun e w' => e = .returned (.bool true) ∧ Below w.heap.size w w' := by
  have h6 := lowZ_lt (x := x) (n := 601) (by omega) (by omega)
  have h7 := lowZ_ge (x := y) (n := 600) (by omega) (by omega)
  have h8 := lowZ_lt (x := y) (n := 600) (by omega) (by omega)
  have h9 := lowZ_ge (x := z) (n := 1000) (by omega) (by omega)
  have h10 := lowZ_lt (x := z) (n := 1000) (by omega) (by omega)
  obtain ⟨m, hm⟩ : ∃ m, lowZ y 600 = m := ⟨_, rfl⟩
  obtain ⟨a, ha⟩ : ∃ a, lowZ z 1000 = a := ⟨_, rfl⟩
  obtain ⟨q, hq⟩ : ∃ q, lowZ x 601 - 1 = q := ⟨_, rfl⟩
  rw [hm] at h7 h8
  rw [ha] at h9 h10
  rw [hm] at h0
  have hl := times_leL (m := m) (q := q) (a := a) hx hy hz ⟨by omega, by omega⟩ ⟨by omega, by omega⟩ ⟨by omega, by omega⟩
  have hd : ∀ e ∈ ([(3, 4, -600, -1), (4, 3, 1, 600)] : List (Nat × Nat × Int × Int)), e.2.2.1 ≤ [x, y, z, m, q, a, a + m, 18446744073709549615 - a, a + q, 18446744073709549615 - (a + m), 18446744073709549615 - (a + q)].getD e.1 0 - [x, y, z, m, q, a, a + m, 18446744073709549615 - a, a + q, 18446744073709549615 - (a + m), 18446744073709549615 - (a + q)].getD e.2.1 0 ∧ [x, y, z, m, q, a, a + m, 18446744073709549615 - a, a + q, 18446744073709549615 - (a + m), 18446744073709549615 - (a + q)].getD e.1 0 - [x, y, z, m, q, a, a + m, 18446744073709549615 - a, a + q, 18446744073709549615 - (a + m), 18446744073709549615 - (a + q)].getD e.2.1 0 ≤ e.2.2.2 := by
    intro e he
    simp only [List.mem_cons, List.not_mem_nil, or_false] at he
    rcases he with rfl | rfl <;> simp <;> omega
  have ok : fxTgt.Ok fun j => [x, y, z, m, q, a, a + m, 18446744073709549615 - a, a + q, 18446744073709549615 - (a + m), 18446744073709549615 - (a + q)].getD j 0 := fxL_ok hl.1 hl.2 times_plus times_minus hd
  letI : Fc := ⟨_, _, ok⟩
  have c1 : conc (.complex .f64 8 1) = .int .i64 (lowZ (Fc.b (0 / 2)) 601) := conc_tok 4 1 _ (by show q + ((1 : Nat) : Int) = lowZ x 601; omega)
  have c2 : conc (.complex .f64 6 0) = .int .i64 (lowZ (Fc.b (2 / 2)) 600) := conc_tok 3 0 _ (by show m + ((0 : Nat) : Int) = lowZ y 600; rw [hm]; simp)
  have c3 : conc (.complex .f64 10 0) = .int .i64 (lowZ (Fc.b (4 / 2)) 1000) := conc_tok 5 0 _ (by show a + ((0 : Nat) : Int) = lowZ z 1000; rw [ha]; simp)
  have c4 : conc (.int .i64 0) = .int .i64 (lowZ (Fc.b (4 / 2)) 2) := by rw [show Fc.b (4 / 2) = z from rfl, hp]; rfl
  exact tst_walk (.cons rfl rfl c1 low601 (.cons rfl rfl c2 low600 (.cons rfl rfl c3 low1000 (.cons rfl rfl c4 low2 .nil)))) (LRel.cons (tok_arg 0 x rfl) (LRel.cons (tok_arg 1 y rfl) (LRel.cons (tok_arg 2 z rfl) LRel.nil))) (time_gt0 _ ok) he hs

theorem times_gt1 {x y z : Int} (hx : -9223372036854775808 ≤ x ∧ x ≤ 9223372036854775807) (hy : -9223372036854775808 ≤ y ∧ y ≤ 9223372036854775807) (hz : -9223372036854775808 ≤ z ∧ z ≤ 9223372036854775807) (h0 : lowZ y 600 + 2 ≤ lowZ x 601) (hp : lowZ z 2 = 1) {w : World}
    (he : (callFunc 3 #[.int .i64 x, .int .i64 y, .int .i64 z]).run Tryz.prog w = .ok (.enter 3 #[.int .i64 x, .int .i64 y, .int .i64 z]) w) (hs : w.ShapedOpen Tryz.prog) :
    Calls Tryz.prog 3 #[.int .i64 x, .int .i64 y, .int .i64 z] w fun e w' => e = .returned (.bool true) ∧ Below w.heap.size w w' := by
  have h6 := lowZ_lt (x := x) (n := 601) (by omega) (by omega)
  have h7 := lowZ_ge (x := y) (n := 600) (by omega) (by omega)
  have h8 := lowZ_lt (x := y) (n := 600) (by omega) (by omega)
  have h9 := lowZ_ge (x := z) (n := 1000) (by omega) (by omega)
  have h10 := lowZ_lt (x := z) (n := 1000) (by omega) (by omega)
  obtain ⟨m, hm⟩ : ∃ m, lowZ y 600 = m := ⟨_, rfl⟩
  obtain ⟨a, ha⟩ : ∃ a, lowZ z 1000 = a := ⟨_, rfl⟩
  obtain ⟨q, hq⟩ : ∃ q, lowZ x 601 - 1 = q := ⟨_, rfl⟩
  rw [hm] at h7 h8
  rw [ha] at h9 h10
  rw [hm] at h0
  have hl := times_leL (m := m) (q := q) (a := a) hx hy hz ⟨by omega, by omega⟩ ⟨by omega, by omega⟩ ⟨by omega, by omega⟩
  have hd : ∀ e ∈ ([(3, 4, -600, -1), (4, 3, 1, 600)] : List (Nat × Nat × Int × Int)), e.2.2.1 ≤ [x, y, z, m, q, a, a + m, 18446744073709549615 - a, a + q, 18446744073709549615 - (a + m), 18446744073709549615 - (a + q)].getD e.1 0 - [x, y, z, m, q, a, a + m, 18446744073709549615 - a, a + q, 18446744073709549615 - (a + m), 18446744073709549615 - (a + q)].getD e.2.1 0 ∧ [x, y, z, m, q, a, a + m, 18446744073709549615 - a, a + q, 18446744073709549615 - (a + m), 18446744073709549615 - (a + q)].getD e.1 0 - [x, y, z, m, q, a, a + m, 18446744073709549615 - a, a + q, 18446744073709549615 - (a + m), 18446744073709549615 - (a + q)].getD e.2.1 0 ≤ e.2.2.2 := by
    intro e he
    simp only [List.mem_cons, List.not_mem_nil, or_false] at he
    rcases he with rfl | rfl <;> simp <;> omega
  have ok : fxTgt.Ok fun j => [x, y, z, m, q, a, a + m, 18446744073709549615 - a, a + q, 18446744073709549615 - (a + m), 18446744073709549615 - (a + q)].getD j 0 := fxL_ok hl.1 hl.2 times_plus times_minus hd
  letI : Fc := ⟨_, _, ok⟩
  have c1 : conc (.complex .f64 8 1) = .int .i64 (lowZ (Fc.b (0 / 2)) 601) := conc_tok 4 1 _ (by show q + ((1 : Nat) : Int) = lowZ x 601; omega)
  have c2 : conc (.complex .f64 6 0) = .int .i64 (lowZ (Fc.b (2 / 2)) 600) := conc_tok 3 0 _ (by show m + ((0 : Nat) : Int) = lowZ y 600; rw [hm]; simp)
  have c3 : conc (.complex .f64 10 0) = .int .i64 (lowZ (Fc.b (4 / 2)) 1000) := conc_tok 5 0 _ (by show a + ((0 : Nat) : Int) = lowZ z 1000; rw [ha]; simp)
  have c4 : conc (.int .i64 1) = .int .i64 (lowZ (Fc.b (4 / 2)) 2) := by rw [show Fc.b (4 / 2) = z from rfl, hp]; rfl
  exact tst_walk (.cons rfl rfl c1 low601 (.cons rfl rfl c2 low600 (.cons rfl rfl c3 low1000 (.cons rfl rfl c4 low2 .nil)))) (LRel.cons (tok_arg 0 x rfl) (LRel.cons (tok_arg 1 y rfl) (LRel.cons (tok_arg 2 z rfl) LRel.nil))) (time_gt1 _ ok) he hs

theorem times {x y z : Int} (hx : -9223372036854775808 ≤ x ∧ x ≤ 9223372036854775807) (hy : -9223372036854775808 ≤ y ∧ y ≤ 9223372036854775807) (hz : -9223372036854775808 ≤ z ∧ z ≤ 9223372036854775807) {w : World}
    (he : (callFunc 3 #[.int .i64 x, .int .i64 y, .int .i64 z]).run Tryz.prog w = .ok (.enter 3 #[.int .i64 x, .int .i64 y, .int .i64 z]) w) (hs : w.ShapedOpen Tryz.prog) :
    Calls Tryz.prog 3 #[.int .i64 x, .int .i64 y, .int .i64 z] w fun e w' => e = .returned (.bool true) ∧ Below w.heap.size w w' := by
  have h5 := lowZ_ge (x := x) (n := 601) (by omega) (by omega)
  have h7 := lowZ_ge (x := y) (n := 600) (by omega) (by omega)
  have h9 := lowZ_ge (x := z) (n := 2) (by omega) (by omega)
  have h10 := lowZ_lt (x := z) (n := 2) (by omega) (by omega)
  rcases (show lowZ z 2 = 0 ∨ lowZ z 2 = 1 by omega) with hp | hp
  all_goals rcases (show lowZ x 601 = 0 ∨ (1 ≤ lowZ x 601 ∧ lowZ x 601 ≤ lowZ y 600) ∨ lowZ x 601 = lowZ y 600 + 1 ∨ lowZ y 600 + 2 ≤ lowZ x 601 by omega) with h | ⟨h, h'⟩ | h | h
  · exact times_zero0 hx hy hz h hp he hs
  · exact times_lt0 hx hy hz h h' hp he hs
  · exact times_eq0 hx hy hz h hp he hs
  · exact times_gt0 hx hy hz h hp he hs
  · exact times_zero1 hx hy hz h hp he hs
  · exact times_lt1 hx hy hz h h' hp he hs
  · exact times_eq1 hx hy hz h hp he hs
  · exact times_gt1 hx hy hz h hp he hs

end Go.Lk
