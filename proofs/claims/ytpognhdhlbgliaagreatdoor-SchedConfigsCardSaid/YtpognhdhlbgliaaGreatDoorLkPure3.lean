/- The operations that touch no memory, all together. -/
import Derived.Test.YtpognhdhlbgliaaGreatDoorLkPure2
namespace Go.Lk
variable {P : Program} {ι : Emb} {w : World}

theorem eqGuard_ok {op : BinOp} {t : TypeId} {xo yo : Operand} {a b : Value} (h : eqGuardP P op t a b = true) : (eqGuard op t xo yo a b).run P w = .ok () w := by
  unfold eqGuard
  cases op <;> simp
  all_goals
    cases a <;> cases b <;> simp [eqGuardP] at h ⊢
    rw [h]; simp

theorem eqGuard_scal {op : BinOp} {t : TypeId} {xo yo : Operand} {a b : Value} (ha : ∀ c, a ≠ .agg c) (hn : a ≠ .nilIface) : (eqGuard op t xo yo a b).run P w = .ok () w := by
  refine eqGuard_ok ?_
  cases a <;> first | rfl | (exact absurd rfl hn) | (exact absurd rfl (ha _))

theorem eqOp_some {op : BinOp} {r : Option Bool} {v : Value} (h : eqOp op r = some v) : ∃ b, r = some b ∧ ((op = .eql ∧ v = .bool b) ∨ (op = .neq ∧ v = .bool (!b))) := by
  unfold eqOp at h
  split at h <;> simp at h
  · exact ⟨_, rfl, .inl ⟨rfl, h.symm⟩⟩
  · exact ⟨_, rfl, .inr ⟨rfl, h.symm⟩⟩

/-- From what the model says of two values being equal. -/
theorem eqOp_run {op : BinOp} {t : TypeId} {x y : Value} {r : Option Bool} {v : Value} (h : eqOp op r = some v)
    (hx : (∃ a, x = .pointer a) ∨ (∃ a l c, x = .slice a l c) ∨ (∃ a, x = .map a) ∨ x = .nilFunc ∨ ∃ f a c, x = .func f a c)
    (hy : (∃ a, y = .pointer a) ∨ (∃ a l c, y = .slice a l c) ∨ (∃ a, y = .map a) ∨ y = .nilFunc ∨ ∃ f a c, y = .func f a c)
    (he : ∀ b, r = some b → (Op.equal t x y).run P w = .ok b w) : (Go.binOp op t x y).run P w = .ok v w := by
  obtain ⟨b, hb, hv⟩ := eqOp_some h
  have hr := he b hb
  rcases hv with ⟨rfl, rfl⟩ | ⟨rfl, rfl⟩ <;>
    rcases hx with ⟨a, rfl⟩ | ⟨a, l, c, rfl⟩ | ⟨a, rfl⟩ | rfl | ⟨f, a, c, rfl⟩ <;>
    rcases hy with ⟨a', rfl⟩ | ⟨a', l', c', rfl⟩ | ⟨a', rfl⟩ | rfl | ⟨f', a', c', rfl⟩ <;> simp [Go.binOp, hr]

theorem isPtrD_some {d : Option TypeDesc} {e : TypeId} (h : isPtrD d = some e) : d = some (.pointer e) := by
  unfold isPtrD at h
  split at h <;> simp at h
  subst h; rfl

theorem addr_beq (b o o' : Nat) : ((⟨b, o, none⟩ : Addr) == ⟨b, o', none⟩) = Nat.beq o o' := by
  cases hh : Nat.beq o o' with
  | true => have := Nat.eq_of_beq_eq_true hh; subst this; simp
  | false => have := Nat.ne_of_beq_eq_false hh; simp [this]

theorem equalIn_ptr [Gl] (d : Nat) {t e : TypeId} {i : TypeInfo} {a b a' b' : Option Addr} {r : Bool} (ht : P.underlying t = some (.pointer e)) (hi : P.info? e = some i) (hs : i.size ≠ 0)
    (ha : VRel P ι (.pointer a) (.pointer a')) (hb : VRel P ι (.pointer b) (.pointer b')) (h : binPtr a b = some r) : (Op.equalIn (d + 1) t (.pointer a') (.pointer b')).run P w = .ok r w := by
  simp only [Op.equalIn]
  cases ha with
  | nilPtr =>
    cases hb with
    | nilPtr => simp [binPtr] at h; subst h; simp [run_underlying ht]
    | ptr _ _ _ _ => simp [binPtr] at h; subst h; simp [run_underlying ht]
  | ptr b1 o1 p1 h1 m1 =>
    cases hb with
    | nilPtr => simp [binPtr] at h; subst h; simp [run_underlying ht]
    | ptr b2 o2 p2 h2 m2 =>
      simp only [binPtr] at h
      cases hbe : Nat.beq b1 b2 with
      | false => simp [hbe] at h
      | true =>
        have := Nat.eq_of_beq_eq_true hbe; subst this
        rw [h1] at h2; cases h2
        simp only [hbe] at h
        simp at h; subst h
        simp only [Sem.run_bind, run_underlying ht, Result.andThen_ok, run_sz hi, ne_eq, hs, not_false_eq_true, if_true, sameAddr, beq_self_eq_true, Sem.run_pure, addr_beq]
        congr 1
        cases hh : Nat.beq o1 o2 with
        | true => have := Nat.eq_of_beq_eq_true hh; subst this; exact Nat.beq_refl _
        | false =>
          have := Nat.ne_of_beq_eq_false hh
          cases hk : Nat.beq (p1.sh + o1) (p1.sh + o2) with
          | false => rfl
          | true => have := Nat.eq_of_beq_eq_true hk; omega

theorem equalIn_slice (d : Nat) {t e : TypeId} {a b : Option Addr} {l c l' c' : Nat} {r : Bool} (ht : P.underlying t = some (.slice e)) (h : nilEq a.isNone b.isNone = some r) :
    (Op.equalIn (d + 1) t (.slice a l c) (.slice b l' c')).run P w = .ok r w := by
  simp only [Op.equalIn, Sem.run_bind, run_underlying ht, Result.andThen_ok]
  cases a <;> cases b <;> simp [nilEq] at h <;> subst h <;> simp

theorem equalIn_map (d : Nat) {t k e : TypeId} {a b : Option Nat} {r : Bool} (ht : P.underlying t = some (.map k e)) (h : nilEq a.isNone b.isNone = some r) :
    (Op.equalIn (d + 1) t (.map a) (.map b)).run P w = .ok r w := by
  simp only [Op.equalIn, Sem.run_bind, run_underlying ht, Result.andThen_ok]
  cases a <;> cases b <;> simp [nilEq] at h <;> subst h <;> simp

theorem equalIn_func (d : Nat) {t : TypeId} {ps rs : Array TypeId} {va : Bool} {f : Fn} {a c : Array Value} (ht : P.underlying t = some (.func ps rs va)) :
    (Op.equalIn (d + 1) t .nilFunc (.func f a c)).run P w = .ok false w ∧ (Op.equalIn (d + 1) t (.func f a c) .nilFunc).run P w = .ok false w := by
  constructor <;> simp [Op.equalIn, run_underlying ht]

theorem scalO_some {o : Option Value} {v : Value} (h : scalO o = some v) : o = some v ∧ scal v = true := by
  unfold scalO at h
  split at h
  · split at h
    · simp at h; subst h; exact ⟨rfl, by assumption⟩
    · simp at h
  · simp at h

theorem cellsOf_info {P : Program} {e : TypeId} {i : TypeInfo} (hi : P.info? e = some i) : P.cellsOf e = i.size := by simp [Program.cellsOf, hi]

theorem binP_ok [Gl] {op : BinOp} {t : TypeId} {xo yo : Operand} {x y x' y' v : Value} (hx : VRel P ι x x') (hy : VRel P ι y y') (h : binP P op t x y = some v) :
    ∃ v', (do eqGuard op t xo yo x' y'; Go.binOp op t x' y').run P w = .ok v' w ∧ VRel P ι v v' := by
  unfold binP at h
  split at h
  · rename_i a b
    split at h
    · rename_i e he
      split at h
      · rename_i hc hs
        have ht := isPtrD_some he
        obtain ⟨i, hi⟩ := Option.isSome_iff_exists.1 hs
        have hsz : i.size ≠ 0 := by rw [← cellsOf_info hi]; exact Nat.ne_of_beq_eq_false hc
        have hx' : ∃ a', x' = .pointer a' := by cases hx <;> exact ⟨_, rfl⟩
        have hy' : ∃ b', y' = .pointer b' := by cases hy <;> exact ⟨_, rfl⟩
        obtain ⟨a', rfl⟩ := hx'
        obtain ⟨b', rfl⟩ := hy'
        have hr := eqOp_run (w := w) (t := t) (x := .pointer a') (y := .pointer b') h (.inl ⟨_, rfl⟩) (.inl ⟨_, rfl⟩) (fun r hr => equalIn_ptr 9999 ht hi hsz hx hy hr)
        obtain ⟨r, _, hv⟩ := eqOp_some h
        refine ⟨v, ?_, ?_⟩
        · rw [Sem.run_bind, eqGuard_scal (by simp) (by simp)]; exact hr
        · rcases hv with ⟨_, rfl⟩ | ⟨_, rfl⟩ <;> exact .bool _
      · simp at h
    · simp at h
  · rename_i a l c b l2 c2
    split at h
    · rename_i hs
      have ht : ∃ e, P.underlying t = some (.slice e) := by
        unfold isSliceD at hs
        split at hs
        · rename_i e he; exact ⟨e, he⟩
        · simp at hs
      obtain ⟨e, ht⟩ := ht
      obtain ⟨r, hr0, hv⟩ := eqOp_some h
      refine ⟨v, ?_, by rcases hv with ⟨_, rfl⟩ | ⟨_, rfl⟩ <;> exact .bool _⟩
      have hx' : ∃ a' l' c', x' = .slice a' l' c' ∧ a'.isNone = a.isNone := by cases hx <;> exact ⟨_, _, _, rfl, rfl⟩
      have hy' : ∃ a' l' c', y' = .slice a' l' c' ∧ a'.isNone = b.isNone := by cases hy <;> exact ⟨_, _, _, rfl, rfl⟩
      obtain ⟨a', l', c', rfl, ea⟩ := hx'
      obtain ⟨b', m', d', rfl, eb⟩ := hy'
      rw [Sem.run_bind, eqGuard_scal (by simp) (by simp)]
      refine eqOp_run (t := t) h (.inr (.inl ⟨_, _, _, rfl⟩)) (.inr (.inl ⟨_, _, _, rfl⟩)) (fun r hr => ?_)
      rw [← ea, ← eb] at hr
      exact equalIn_slice 9999 ht hr
    · simp at h
  · rename_i a b
    split at h
    · rename_i hs
      have ht : ∃ k e, P.underlying t = some (.map k e) := by
        unfold isMapD at hs
        split at hs
        · rename_i k e he; exact ⟨k, e, he⟩
        · simp at hs
      obtain ⟨k, e, ht⟩ := ht
      obtain ⟨r, hr0, hv⟩ := eqOp_some h
      refine ⟨v, ?_, by rcases hv with ⟨_, rfl⟩ | ⟨_, rfl⟩ <;> exact .bool _⟩
      have hx' : ∃ a', x' = .map a' ∧ a'.isNone = a.isNone := by cases hx <;> exact ⟨_, rfl, rfl⟩
      have hy' : ∃ a', y' = .map a' ∧ a'.isNone = b.isNone := by cases hy <;> exact ⟨_, rfl, rfl⟩
      obtain ⟨a', rfl, ea⟩ := hx'
      obtain ⟨b', rfl, eb⟩ := hy'
      rw [Sem.run_bind, eqGuard_scal (by simp) (by simp)]
      refine eqOp_run (t := t) h (.inr (.inr (.inl ⟨_, rfl⟩))) (.inr (.inr (.inl ⟨_, rfl⟩))) (fun r hr => ?_)
      rw [← ea, ← eb] at hr
      exact equalIn_map 9999 ht hr
    · simp at h
  · rename_i f a c
    split at h
    · rename_i hs
      have ht : ∃ ps rs va, P.underlying t = some (.func ps rs va) := by
        unfold isFuncD at hs
        split at hs
        · rename_i ps rs va he; exact ⟨ps, rs, va, he⟩
        · simp at hs
      obtain ⟨ps, rs, va, ht⟩ := ht
      obtain ⟨r, hr0, hv⟩ := eqOp_some h
      refine ⟨v, ?_, by rcases hv with ⟨_, rfl⟩ | ⟨_, rfl⟩ <;> exact .bool _⟩
      cases hx
      have hy' : ∃ f a c, y' = .func f a c := by cases hy <;> exact ⟨_, _, _, rfl⟩
      obtain ⟨f', a', c', rfl⟩ := hy'
      rw [Sem.run_bind, eqGuard_scal (by simp) (by simp)]
      refine eqOp_run (t := t) h (.inr (.inr (.inr (.inl rfl)))) (.inr (.inr (.inr (.inr ⟨_, _, _, rfl⟩)))) (fun r hr => ?_)
      simp at hr; subst hr
      exact (equalIn_func 9999 ht).1
    · simp at h
  · rename_i f a c
    split at h
    · rename_i hs
      have ht : ∃ ps rs va, P.underlying t = some (.func ps rs va) := by
        unfold isFuncD at hs
        split at hs
        · rename_i ps rs va he; exact ⟨ps, rs, va, he⟩
        · simp at hs
      obtain ⟨ps, rs, va, ht⟩ := ht
      obtain ⟨r, hr0, hv⟩ := eqOp_some h
      refine ⟨v, ?_, by rcases hv with ⟨_, rfl⟩ | ⟨_, rfl⟩ <;> exact .bool _⟩
      cases hy
      have hx' : ∃ f a c, x' = .func f a c := by cases hx <;> exact ⟨_, _, _, rfl⟩
      obtain ⟨f', a', c', rfl⟩ := hx'
      rw [Sem.run_bind, eqGuard_scal (by simp) (by simp)]
      refine eqOp_run (t := t) h (.inr (.inr (.inr (.inr ⟨_, _, _, rfl⟩)))) (.inr (.inr (.inr (.inl rfl)))) (fun r hr => ?_)
      simp at hr; subst hr
      exact (equalIn_func 9999 ht).2
    · simp at h
  · split at h
    · rename_i h1 h2 h3
      have := hx.noAddr_eq h1; subst this
      have := hy.noAddr_eq h2; subst this
      obtain ⟨h, hsc⟩ := scalO_some h
      have hr := evalPure_run (w := w) _ h
      exact ⟨v, by rw [Sem.run_bind, eqGuard_ok h3]; exact hr, VRel.scal_self hsc⟩
    · simp at h

end Go.Lk
