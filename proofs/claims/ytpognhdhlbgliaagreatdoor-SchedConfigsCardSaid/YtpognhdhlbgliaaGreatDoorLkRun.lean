/- The call tree of a program, as an abstract function. -/
import Derived.Test.YtpognhdhlbgliaaGreatDoorLkExt
namespace Go.Lk

/-- A function that is not taken from its body. -/
abbrev Spec := FuncId → Option (Calc → List Value → M Value)

/-- Function f is one whose code the semantics may take. -/
def okFn (P : Program) (f : FuncId) : Bool := match P.funcs[f]? with
  | some fn => match fn.body with
    | some c => codeOK P fn.ntmps c && !(fn.name == "runtime.NumGoroutine")
    | none => false
  | none => false

/-- The functions that have been looked at, as bits. -/
def Looked (P : Program) (L : Nat) (n : Nat) : Bool := (List.range n).all fun f => match Nat.testBit L f with
  | true => okFn P f
  | false => true

def callK [Tk] (P : Program) (S : Spec) (L : Nat) : Nat → Calc
  | 0 => fun _ _ => M.fail
  | k + 1 => fun f args => match S f with
    | some m => m (callK P S L k) args
    | none => match Nat.testBit L f with
      | true => match P.funcs[f]? with
        | some fn => denF P (callK P S L k) fn args
        | none => M.fail
      | false => M.fail

section
variable {P : Program}
def SpecOK [Gl] (P : Program) (S : Spec) : Prop := ∀ f m, S f = some m → ∀ C, CSound P C → FSound P f (m C)

theorem fail_sound [Gl] {f : FuncId} : FSound P f fun _ => M.fail := fun ι H w args args' _ _ v H' h => by simp [M.fail] at h

/-- A function's code. -/
def bodyOf [Tk] (P : Program) (f : FuncId) (C : Calc) (args : List Value) : M Value := match P.funcs[f]? with
  | some fn => denF P C fn args
  | none => M.fail

theorem bodyOf_sound [Gl] {f : FuncId} {C : Calc} (hC : CSound P C) (hm : P.follows .mixedOrders = true) (ho : okFn P f = true) : FSound P f (bodyOf P f C) := by
  unfold okFn at ho
  cases hf : P.funcs[f]? with
  | none => simp [hf] at ho
  | some fn =>
    simp only [hf] at ho
    have e : bodyOf P f C = denF P C fn := by funext args; simp only [bodyOf, hf]
    rw [e]
    cases hb : fn.body with
    | none => simp [hb] at ho
    | some c =>
      simp only [hb, Bool.and_eq_true, Bool.not_eq_true'] at ho
      exact (denF_sound hC hm hf hb ho.1).fsound fn hf (by simp [hb]) ho.2

theorem callK_sound [Gl] {S : Spec} (hS : SpecOK P S) (hm : P.follows .mixedOrders = true) {L n : Nat} (hn : L < 2 ^ n) (hL : Looked P L n = true) : ∀ k, CSound P (callK P S L k)
  | 0 => fun f => fail_sound
  | k + 1 => fun f => by
    have hk := callK_sound hS hm hn hL k
    cases hs : S f with
    | some m =>
      have e : callK P S L (k + 1) f = m (callK P S L k) := by funext args; simp only [callK, hs]
      rw [e]; exact hS f m hs _ hk
    | none =>
      cases ht : Nat.testBit L f with
      | false =>
        have e : callK P S L (k + 1) f = fun _ => M.fail := by funext args; simp only [callK, hs, ht]
        rw [e]; exact fail_sound
      | true =>
        have hfn : f < n := by
          rcases Nat.lt_or_ge f n with h | h
          · exact h
          · have := Nat.testBit_lt_two_pow (Nat.lt_of_lt_of_le hn (Nat.pow_le_pow_right (by omega) h))
            rw [this] at ht; cases ht
        have ho := List.all_eq_true.1 hL f (List.mem_range.2 hfn)
        simp only [ht] at ho
        unfold okFn at ho
        cases hf : P.funcs[f]? with
        | none => simp [hf] at ho
        | some fn =>
          simp only [hf] at ho
          have e : callK P S L (k + 1) f = denF P (callK P S L k) fn := by funext args; simp only [callK, hs, ht, hf]
          rw [e]
          cases hb : fn.body with
          | none => simp [hb] at ho
          | some c =>
            simp only [hb, Bool.and_eq_true, Bool.not_eq_true'] at ho
            exact (denF_sound hk hm hf hb ho.1).fsound fn hf (by simp [hb]) ho.2
end

end Go.Lk
