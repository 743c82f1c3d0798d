/- The abstract heap of the deterministic semantics, and its state monad. -/
import Derived.Orders
import Derived.KernelRfl
namespace Go.Lk

inductive Tree (α : Type) where
  | leaf
  | node (l : Tree α) (v : Option α) (r : Tree α)

def Tree.get {α : Type} : Tree α → List Bool → Option α
  | .leaf, _ => none
  | .node _ v _, [] => v
  | .node l _ r, b :: bs => match b with
    | true => r.get bs
    | false => l.get bs

def Tree.put {α : Type} (v : Option α) : List Bool → Tree α → Tree α
  | [], .leaf => .node .leaf v .leaf
  | [], .node l _ r => .node l v r
  | b :: bs, .leaf => match b with
    | true => .node .leaf none (Tree.put v bs .leaf)
    | false => .node (Tree.put v bs .leaf) none .leaf
  | b :: bs, .node l x r => match b with
    | true => .node l x (Tree.put v bs r)
    | false => .node (Tree.put v bs l) x r

theorem Tree.get_leaf {α : Type} (bs : List Bool) : (Tree.leaf : Tree α).get bs = none := by
  cases bs <;> rfl

theorem Tree.get_put {α : Type} (v : Option α) : ∀ (bs bs' : List Bool) (t : Tree α),
    (t.put v bs).get bs' = if bs' = bs then v else t.get bs' := by
  intro bs
  induction bs with
  | nil =>
    intro bs' t
    cases bs' with
    | nil => cases t <;> simp [Tree.put, Tree.get]
    | cons b' bs' => cases t <;> cases b' <;> simp [Tree.put, Tree.get]
  | cons b bs ih =>
    intro bs' t
    cases bs' with
    | nil => cases t <;> cases b <;> simp [Tree.put, Tree.get]
    | cons b' bs' => cases t <;> cases b <;> cases b' <;> simp [Tree.put, Tree.get, ih]

def bitsF : Nat → Nat → List Bool
  | 0, _ => []
  | f + 1, n => match Nat.beq n 0 with
    | true => []
    | false => Nat.beq (n % 2) 1 :: bitsF f (n / 2)

def bits (n : Nat) : List Bool := bitsF n n

def bitsVal : List Bool → Nat
  | [] => 0
  | b :: bs => (if b then 1 else 0) + 2 * bitsVal bs

theorem bitsVal_bitsF : ∀ (f n : Nat), n ≤ f → bitsVal (bitsF f n) = n := by
  intro f
  induction f with
  | zero => intro n h; have : n = 0 := by omega
            subst this; rfl
  | succ f ih =>
    intro n h
    unfold bitsF
    split
    · rename_i hb; have := Nat.eq_of_beq_eq_true hb; subst this; rfl
    · rename_i hb
      have h0 : n ≠ 0 := Nat.ne_of_beq_eq_false hb
      simp only [bitsVal]
      rw [ih (n / 2) (by omega)]
      cases hm : Nat.beq (n % 2) 1 with
      | true => have := Nat.eq_of_beq_eq_true hm; simp; omega
      | false => have := Nat.ne_of_beq_eq_false hm; simp; omega

theorem bits_inj {n m : Nat} (h : bits n = bits m) : n = m := by
  have h1 := bitsVal_bitsF n n (Nat.le_refl _)
  have h2 := bitsVal_bitsF m m (Nat.le_refl _)
  unfold bits at h; rw [h] at h1; omega

/-- A block of the abstract heap: a row of cells, or a map. -/
inductive Blk where
  | row (ro : Bool) (elem : TypeId) (cells : List Value)
  | map (ents : List (Value × Value))

def Blk.ro : Blk → Bool
  | .row r _ _ => r
  | .map _ => false

structure Hp where
  next : Nat
  tab : Tree Blk

def Hp.get (H : Hp) (b : Nat) : Option Blk := H.tab.get (bits b)
def Hp.set (H : Hp) (b : Nat) (x : Blk) : Hp := { H with tab := H.tab.put (some x) (bits b) }
def Hp.del (H : Hp) (b : Nat) : Hp := { H with tab := H.tab.put none (bits b) }
def Hp.bump (H : Hp) (n : Nat) : Hp := { H with next := H.next + n }

theorem Hp.get_set (H : Hp) (b c : Nat) (x : Blk) : (H.set b x).get c = if c = b then some x else H.get c := by
  simp only [Hp.get, Hp.set, Tree.get_put]
  by_cases h : c = b
  · simp [h]
  · rw [if_neg (fun e => h (bits_inj e)), if_neg h]
theorem Hp.get_del (H : Hp) (b c : Nat) : (H.del b).get c = if c = b then none else H.get c := by
  simp only [Hp.get, Hp.del, Tree.get_put]
  by_cases h : c = b
  · simp [h]
  · rw [if_neg (fun e => h (bits_inj e)), if_neg h]
@[simp] theorem Hp.get_set_same (H : Hp) (b : Nat) (x : Blk) : (H.set b x).get b = some x := by simp [Hp.get_set]
theorem Hp.get_set_ne (H : Hp) {b c : Nat} (x : Blk) (h : c ≠ b) : (H.set b x).get c = H.get c := by simp [Hp.get_set, h]
@[simp] theorem Hp.get_del_same (H : Hp) (b : Nat) : (H.del b).get b = none := by simp [Hp.get_del]
theorem Hp.get_del_ne (H : Hp) {b c : Nat} (h : c ≠ b) : (H.del b).get c = H.get c := by simp [Hp.get_del, h]
@[simp] theorem Hp.get_bump (H : Hp) (n c : Nat) : (H.bump n).get c = H.get c := rfl
@[simp] theorem Hp.next_set (H : Hp) (b : Nat) (x : Blk) : (H.set b x).next = H.next := rfl
@[simp] theorem Hp.next_del (H : Hp) (b : Nat) : (H.del b).next = H.next := rfl
@[simp] theorem Hp.next_bump (H : Hp) (n : Nat) : (H.bump n).next = H.next + n := rfl

/-- The state monad over the abstract heap: 'none': not followed. -/
def M (α : Type) := Hp → Option (α × Hp)
def M.fail {α : Type} : M α := fun _ => none
def M.ret {α : Type} (a : α) : M α := fun H => some (a, H)
def M.bind {α β : Type} (m : M α) (k : α → M β) : M β := fun H => match m H with
  | none => none
  | some (a, H') => k a H'
def M.lift {α : Type} (o : Option α) : M α := fun H => match o with
  | none => none
  | some a => some (a, H)
/-- Reads the heap alone. -/
def M.look {α : Type} (f : Hp → Option α) : M α := fun H => match f H with
  | none => none
  | some a => some (a, H)

theorem M.bind_some {α β : Type} {m : M α} {k : α → M β} {H : Hp} {r : β × Hp} (h : M.bind m k H = some r) :
    ∃ a H', m H = some (a, H') ∧ k a H' = some r := by
  unfold M.bind at h
  split at h
  · simp at h
  · rename_i a H' hm; exact ⟨a, H', hm, h⟩

theorem M.lift_some {α : Type} {o : Option α} {H : Hp} {a : α} {H' : Hp} (h : M.lift o H = some (a, H')) : o = some a ∧ H' = H := by
  unfold M.lift at h
  split at h
  · simp at h
  · simp at h; simp [h]

theorem M.look_some {α : Type} {f : Hp → Option α} {H : Hp} {a : α} {H' : Hp} (h : M.look f H = some (a, H')) : f H = some a ∧ H' = H := by
  unfold M.look at h
  split at h
  · simp at h
  · rename_i b hb; simp at h; obtain ⟨rfl, rfl⟩ := h; exact ⟨hb, rfl⟩

/-- Rounds of a loop, up to a bound. -/
def iterM {γ : Type} (bad : γ) (step : γ → γ) : Nat → γ
  | 0 => bad
  | n + 1 => step (iterM bad step n)

def iterE {α β : Type} (bad : α → β) (step : (α → β) → α → β) : Nat → α → β
  | 0, e => bad e
  | n + 1, e => step (fun e => iterE bad step n e) e

theorem iterE_eq {α β : Type} (bad : α → β) (step : (α → β) → α → β) : ∀ n, iterE bad step n = iterM bad step n
  | 0 => rfl
  | n + 1 => by
    funext e
    show step (fun e => iterE bad step n e) e = step (iterM bad step n) e
    rw [← iterE_eq bad step n]

theorem iter_rel {γ δ : Type} {R : γ → δ → Prop} {bad : γ} {bad' : δ} {s : γ → γ} {s' : δ → δ} (h0 : R bad bad')
    (hs : ∀ f g, R f g → R (s f) (s' g)) : ∀ n, R (iterM bad s n) (iterM bad' s' n)
  | 0 => h0
  | n + 1 => hs _ _ (iter_rel h0 hs n)

end Go.Lk
