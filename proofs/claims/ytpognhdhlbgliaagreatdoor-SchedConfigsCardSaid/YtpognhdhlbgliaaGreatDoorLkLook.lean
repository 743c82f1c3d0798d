/- The functions whose code is taken as it is. -/
import Derived.Test.YtpognhdhlbgliaaGreatDoorLkSpec2
namespace Go.Lk
open Go.Proofs

def bitsL : Nat := 3232850415320885175179495175733333366571151868507095779324109747158100082832510227306549491448936133572029332788040695804

theorem looked : Looked Tryz.prog bitsL 590 = true := by kernel_rfl

theorem bitsL_lt : bitsL < 2 ^ 590 := Nat.le_of_ble_eq_true (by kernel_rfl)

theorem mixed : Tryz.prog.follows .mixedOrders = true := by kernel_rfl

noncomputable abbrev run [Fc] (l : SpecL) (k : Nat) : Calc := callK Tryz.prog (asL l) bitsL k

theorem run_sound [Fc] {l : SpecL} (h : SpecLOK Tryz.prog l) (k : Nat) : CSound Tryz.prog (run l k) := callK_sound h.ok mixed bitsL_lt looked k

def isT : Option (Value × Hp) → Bool
  | some (.bool true, _) => true
  | _ => false

theorem isT_some {o : Option (Value × Hp)} (h : isT o = true) : ∃ H', o = some (.bool true, H') := by
  unfold isT at h
  split at h
  · exact ⟨_, rfl⟩
  · cases h

def eqV2 (a b : Value) : Bool := match a, b with
  | .tuple x, .tuple y => eqL x.toList y.toList
  | a, b => eqV a b

theorem eqV2_eq [Fc] {a b : Value} (h : eqV2 a b = true) : a = b := by
  unfold eqV2 at h
  split at h
  · congr 1; exact Array.toList_inj.1 (eqL_eq h)
  · exact eqV_eq h

def memoB (m : List Value → M Value) (tab : List (List Value × Value)) : Bool := tab.all fun p => p.1.all noAddr && noA2 p.2 && match m p.1 H0 with
  | some (v, _) => eqV2 v p.2
  | none => false

theorem memoB_ok [Fc] {m : List Value → M Value} {tab : List (List Value × Value)} (h : memoB m tab = true) : MemoOK m tab := by
  intro p hp
  have := List.all_eq_true.1 h p hp
  simp only [Bool.and_eq_true] at this
  obtain ⟨⟨h1, h2⟩, h3⟩ := this
  cases hm : m p.1 H0 with
  | none => simp [hm] at h3
  | some r =>
    obtain ⟨v, H'⟩ := r
    simp only [hm] at h3
    exact ⟨h1, h2, H', by rw [eqV2_eq h3]⟩

end Go.Lk
