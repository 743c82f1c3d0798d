/- The statements' helper Low at numbers that are not known. -/
import Derived.Test.YtpognhdhlbgliaaGreatDoorLkTabs
namespace Go.Lk
open Go.Proofs

/-- What Low comes to. -/
def lowZ (x n : Int) : Int := IntKind.i64.wrap ((IntKind.u64.wrap x).tmod (IntKind.u64.wrap n))

theorem lowZ_eq {x n : Int} (h0 : 0 < n) (h1 : n ≤ 9223372036854775807) : lowZ x n = x % 18446744073709551616 % n := by
  unfold lowZ
  have hn : IntKind.u64.wrap n = n := IntWalk.u64_in n ⟨by omega, by omega⟩
  rw [hn, IntKind.wrap_u64]
  have hx : 0 ≤ x % 18446744073709551616 := Int.emod_nonneg _ (by omega)
  rw [Int.tmod_eq_emod_of_nonneg hx]
  have h2 := Int.emod_nonneg (x % 18446744073709551616) (show n ≠ 0 by omega)
  have h3 := Int.emod_lt_of_pos (x % 18446744073709551616) h0
  exact IntWalk.i64_in _ ⟨by omega, by omega⟩

theorem lowZ_ge {x n : Int} (h0 : 0 < n) (h1 : n ≤ 9223372036854775807) : 0 ≤ lowZ x n := by
  rw [lowZ_eq h0 h1]; exact Int.emod_nonneg _ (by omega)
theorem lowZ_lt {x n : Int} (h0 : 0 < n) (h1 : n ≤ 9223372036854775807) : lowZ x n < n := by
  rw [lowZ_eq h0 h1]; exact Int.emod_lt_of_pos _ h0

/-- The code of Low, at a divisor. -/
def LowAt [Fc] (n : Int) : Prop := ∀ (C : Calc) (x : Int) (H : Hp), bodyOf Tryz.prog 19 C [.int .i64 x, .int .i64 n] H = some (.int .i64 (lowZ x n), H)

/-- What Low comes to at tokens (the token's number, the divisor, the answer). -/
abbrev LowT := List (Nat × Int × Value)

def lowGet : LowT → Nat → Int → Option Value
  | [], _, _ => none
  | (a, b, v) :: l, i, n => match Nat.beq a i, decide (b = n) with
    | true, true => some v
    | _, _ => lowGet l i n

theorem lowGet_some : ∀ {l : LowT} {i : Nat} {n : Int} {v : Value}, lowGet l i n = some v → (i, n, v) ∈ l
  | [], i, n, v, h => by simp [lowGet] at h
  | (a, b, u) :: l, i, n, v, h => by
    unfold lowGet at h
    split at h
    · rename_i h1 h2
      simp at h; subst h
      rw [Nat.eq_of_beq_eq_true h1, of_decide_eq_true h2]; exact List.mem_cons_self
    · exact List.mem_cons_of_mem _ (lowGet_some h)

def LowOK [Fc] (l : LowT) : Prop := ∀ e ∈ l, kdT e.1 = .i64 ∧ scalT e.2.2 = true ∧ conc e.2.2 = .int .i64 (lowZ (Fc.b (e.1 / 2)) e.2.1) ∧ LowAt e.2.1

theorem LowOK.nil [Fc] : LowOK [] := fun _ h => (List.not_mem_nil h).elim
theorem LowOK.cons [Fc] {i : Nat} {n : Int} {v : Value} {l : LowT} (h1 : kdT i = .i64) (h2 : scalT v = true) (h3 : conc v = .int .i64 (lowZ (Fc.b (i / 2)) n)) (h4 : LowAt n) (hl : LowOK l) : LowOK ((i, n, v) :: l) := by
  intro e he
  rcases List.mem_cons.1 he with rfl | he
  · exact ⟨h1, h2, h3, h4⟩
  · exact hl e he

/-- At a token. -/
def lowV (l : LowT) (i c : Nat) (k : IntKind) (n : Int) : Option Value := match Nat.beq c 0 with
  | true => match decide (k = .i64) with
    | true => lowGet l i n
    | false => none
  | false => none

def lowArgs : List Value → Option (Nat × Nat × IntKind × Int)
  | [.complex _ i c, .int k n] => some (i, c, k, n)
  | _ => none

theorem lowArgs_some {l : List Value} {i c : Nat} {k : IntKind} {n : Int} (h : lowArgs l = some (i, c, k, n)) : ∃ fk, l = [.complex fk i c, .int k n] := by
  unfold lowArgs at h
  split at h
  · simp at h; obtain ⟨rfl, rfl, rfl, rfl⟩ := h; exact ⟨_, rfl⟩
  · simp at h

noncomputable def fLow [Fc] (l : LowT) (C : Calc) (args : List Value) : M Value := match lowArgs args with
  | some (i, c, k, n) => M.lift (lowV l i c k n)
  | none => bodyOf Tryz.prog 19 C args

theorem fLow_sound [Fc] {l : LowT} (hl : LowOK l) {C : Calc} (hC : CSound Tryz.prog C) : FSound Tryz.prog 19 (fLow l C) := by
  have hB := bodyOf_sound (f := 19) hC mixed (by kernel_rfl)
  intro ι H w args args' hr hargs v H' h
  unfold fLow at h
  cases hq : lowArgs args with
  | some q =>
    obtain ⟨i, c, k, n⟩ := q
    obtain ⟨fk, rfl⟩ := lowArgs_some hq
    simp only [hq] at h
    obtain ⟨hu, hH⟩ := M.lift_some h
    clear h
    subst hH
    unfold lowV at hu
    split at hu
    · rename_i hc
      split at hu
      rotate_left
      · simp at hu
      rename_i hk
      have hc := Nat.eq_of_beq_eq_true hc; subst hc
      have hk := of_decide_eq_true hk; subst hk
      obtain ⟨h1, h2, h3, h4⟩ := hl _ (lowGet_some hu)
      simp only at h1 h2 h3 h4
      obtain ⟨x', y', rfl, hx, hy⟩ := hargs.inv2
      cases hx
      cases hy
      have e : Tk.kd (i : Nat) = IntKind.i64 := h1
      have e2 : Tv.val i 0 = Fc.b (i / 2) := by show Fc.b (i / 2) + ((0 : Nat) : Int) = _; simp
      rw [e, e2]
      refine (hB ι H' w _ #[.int .i64 (Fc.b (i / 2)), .int .i64 n] hr (LRel.cons (.int _ _) (LRel.cons (.int _ _) LRel.nil)) _ _ (h4 C (Fc.b (i / 2)) H')).mono fun v' w' ⟨ι', hv, hst⟩ => ⟨ι', ?_, hst⟩
      cases hv
      rw [← h3]; exact VRel.conc_self h2
    · simp at hu
  | none =>
    simp only [hq] at h
    exact hB ι H w args args' hr hargs v H' h

theorem low2 [Fc] : LowAt 2 := fun C x H => by kernel_rfl
theorem low4 [Fc] : LowAt 4 := fun C x H => by kernel_rfl
theorem low420 [Fc] : LowAt 420 := fun C x H => by kernel_rfl
theorem low600 [Fc] : LowAt 600 := fun C x H => by kernel_rfl
theorem low601 [Fc] : LowAt 601 := fun C x H => by kernel_rfl
theorem low1000 [Fc] : LowAt 1000 := fun C x H => by kernel_rfl

end Go.Lk
