/- One operation, whatever its kind; a region that runs in the order of its text. -/
import Derived.Test.YtpognhdhlbgliaaGreatDoorLkEff2
namespace Go.Lk
variable {P : Program}
/-- The slots of an activation. -/
structure ActRel [Gl] (P : Program) (ι : Emb) (n : Nat) (env : Env) (a : Act) : Prop where
  size : a.tmps.size = n
  defers : a.defers = []
  vals : ∀ t, VRel P ι (env t) (a.tmps.getD t undef)

theorem ActRel.mono [Gl] {ι ι' : Emb} (he : Ext ι ι') {n : Nat} {env : Env} {a : Act} (h : ActRel P ι n env a) : ActRel P ι' n env a :=
  ⟨h.size, h.defers, fun t => (h.vals t).mono he⟩

theorem ActRel.rho [Gl] {ι : Emb} {n : Nat} {env : Env} {a : Act} (h : ActRel P ι n env a) : RhoRel P ι okOpd (rhoE env) a.eval := by
  intro x hx
  cases x with
  | tmp t => exact h.vals t
  | const v => exact VRel.noAddr_self hx
  | global g => simp [okOpd] at hx
  | func f => exact .func f _ _ _ _ rfl (fun i v v' h => by simp at h) rfl (fun i v v' h => by simp at h)

theorem ActRel.put [Gl] {ι : Emb} {n : Nat} {env : Env} {a : Act} (h : ActRel P ι n env a) {d : Option Tmp} (hd : ∀ t, d = some t → t < n) {v v' : Value} (hv : VRel P ι v v') :
    ActRel P ι n (updO env d v) (a.put d v') := by
  cases d with
  | none => exact h
  | some d =>
    refine ⟨by simp [Act.put, h.size], h.defers, fun t => ?_⟩
    simp only [updO, upd, Act.put]
    cases hb : Nat.beq t d with
    | true =>
      have := Nat.eq_of_beq_eq_true hb; subst this
      have : t < a.tmps.size := by rw [h.size]; exact hd t rfl
      simp [Array.getD, this]; exact hv
    | false =>
      have hne := Nat.ne_of_beq_eq_false hb
      have hg : (a.tmps.setIfInBounds d v').getD t undef = a.tmps.getD t undef := by
        simp only [Array.getD_eq_getD_getElem?]
        rw [Array.getElem?_setIfInBounds_ne (fun e => hne e.symm)]
      rw [hg]; exact h.vals t

/-- What a call's semantics comes to. -/
def CallTo (P : Program) (s : Sem Next) (w : World) (R : Value → World → Prop) : Prop :=
  (∃ v' w', s.run P w = .ok (.value v') w' ∧ R v' w') ∨
  (∃ f args, s.run P w = .ok (.enter f args) w ∧ Calls P f args w fun e w' => ∃ v', e = .returned v' ∧ R v' w')

/-- What one abstract function stands for. -/
def FSound [Gl] (P : Program) (f : FuncId) (m : List Value → M Value) : Prop :=
  ∀ (ι : Emb) (H : Hp) (w : World) (args : List Value) (args' : Array Value), HRel P ι H w → LRel P ι args args'.toList → ∀ v H', m args H = some (v, H') →
    CallTo P (callFunc f args') w fun v' w' => ∃ ι', VRel P ι' v v' ∧ Stp P ι ι' H H' w w'

def CSound [Gl] (P : Program) (C : Calc) : Prop := ∀ f, FSound P f (C f)

/-- An abstract function for a function with a body. -/
def MSound [Gl] (P : Program) (f : FuncId) (m : List Value → M Value) : Prop :=
  ∀ (ι : Emb) (H : Hp) (w : World) (args : List Value) (args' : Array Value), HRel P ι H w → LRel P ι args args'.toList → ∀ v H', m args H = some (v, H') →
    Calls P f args' w fun e w' => ∃ v' , e = .returned v' ∧ ∃ ι', VRel P ι' v v' ∧ Stp P ι ι' H H' w w'

theorem MSound.fsound [Gl] {f : FuncId} {m : List Value → M Value} (h : MSound P f m) (fn : Func) (hf : P.funcs[f]? = some fn) (hb : fn.body.isSome = true) (hn : (fn.name == "runtime.NumGoroutine") = false) : FSound P f m := by
  intro ι H w args args' hr hl v H' hm
  refine .inr ⟨f, args', ?_, h ι H w args args' hr hl v H' hm⟩
  have : fn.body.isNone = false := by cases hb' : fn.body <;> simp_all
  simp only [callFunc, Sem.run_bind, run_program, Result.andThen_ok, hf, hn, this]
  rfl

theorem callF_some {C : Calc} {f : FuncId} {args : List Value} {H : Hp} {r : Value × Hp} (h : callF P C f args H = some r) : C f args H = some r := by
  unfold callF at h
  cases hf : P.funcs[f]? with
  | none => simp [hf, M.fail] at h
  | some fn => simpa [hf] using h

theorem callOp_ok [Gl] {S : Operand → Bool} {C : Calc} (hC : CSound P C) {ι : Emb} {H H' : Hp} {w : World} (hr : HRel P ι H w) {o : Oper} {ρ ρ' : Operand → Value} {v : Value} (hρ : RhoRel P ι S ρ ρ') (hok : ∀ x ∈ o.op.operands.toList, S x = true)
    (hfun : ∀ f, ρ (.func f) = .func (.func f) #[] #[] ∧ ρ' (.func f) = .func (.func f) #[] #[]) (h : callOp P C o.op ρ H = some (v, H')) :
    CallTo P (execOp ρ' o) w fun v' w' => ∃ ι', VRel P ι' v v' ∧ Stp P ι ι' H H' w w' := by
  obtain ⟨dst, op, ty, pos, after, guard⟩ := o
  cases op <;> try (simp [callOp, M.fail] at h; done)
  rename_i c
  obtain ⟨callee, args, ats⟩ := c
  cases callee <;> try (simp [callOp, M.fail] at h; done)
  rename_i fo
  have hl : LRel P ι (args.toList.map ρ) (args.map ρ').toList := by
    have := hρ.list args.toList (fun x hx => hok x (by simp [Op.operands, Call.operands]; exact .inr (by simpa using hx)))
    simpa using this
  have hfo : S fo = true := hok fo (by simp [Op.operands, Call.operands])
  have key : ∃ f a c a' c', ρ fo = .func (.func f) a c ∧ ρ' fo = .func (.func f) a' c' ∧ LRel P ι a.toList a'.toList ∧ LRel P ι c.toList c'.toList ∧ C f (a.toList ++ args.toList.map ρ ++ c.toList) H = some (v, H') := by
    have hv : VRel P ι (ρ fo) (ρ' fo) := hρ fo hfo
    cases fo with
    | func f =>
      simp only [callOp] at h
      exact ⟨f, #[], #[], #[], #[], (hfun f).1, (hfun f).2, LRel.nil, LRel.nil, by simpa using callF_some h⟩
    | tmp t =>
      simp only [callOp] at h
      cases hft : ρ (.tmp t) <;> simp [hft, callV, M.fail] at h
      rename_i fn a c
      cases fn <;> simp [M.fail] at h
      rename_i f
      rw [hft] at hv
      generalize hg : ρ' (.tmp t) = u at hv
      cases hv with
      | func _ _ a' _ c' h1 h2 h3 h4 => exact ⟨f, a, c, a', c', rfl, rfl, LRel.arr h1 h2, LRel.arr h3 h4, by simpa using callF_some h⟩
    | const t =>
      simp only [callOp] at h
      cases hft : ρ (.const t) <;> simp [hft, callV, M.fail] at h
      rename_i fn a c
      cases fn <;> simp [M.fail] at h
      rename_i f
      rw [hft] at hv
      generalize hg : ρ' (.const t) = u at hv
      cases hv with
      | func _ _ a' _ c' h1 h2 h3 h4 => exact ⟨f, a, c, a', c', rfl, rfl, LRel.arr h1 h2, LRel.arr h3 h4, by simpa using callF_some h⟩
    | global t =>
      simp only [callOp] at h
      cases hft : ρ (.global t) <;> simp [hft, callV, M.fail] at h
      rename_i fn a c
      cases fn <;> simp [M.fail] at h
      rename_i f
      rw [hft] at hv
      generalize hg : ρ' (.global t) = u at hv
      cases hv with
      | func _ _ a' _ c' h1 h2 h3 h4 => exact ⟨f, a, c, a', c', rfl, rfl, LRel.arr h1 h2, LRel.arr h3 h4, by simpa using callF_some h⟩
  obtain ⟨f, a, c, a', c', h1, h2, h3, h4, h5⟩ := key
  have hrun : execOp ρ' ⟨dst, .call ⟨.value fo, args, ats⟩, ty, pos, after, guard⟩ = (callFunc f (a' ++ args.map ρ' ++ c')) := by
    simp only [execOp, resolve, h2, Deferred.ofValue]
    rfl
  rw [hrun]
  exact hC f ι H w _ _ hr (by simpa using (h3.append hl).append h4) v H' h5

/-- Static: an operation's operands and slots. -/
def okOp (n : Nat) (o : Oper) : Bool :=
  o.op.operands.toList.all okOpd && (match o.dst with
    | some d => Nat.blt d n
    | none => true)

theorem okOp_some {n : Nat} {o : Oper} (h : okOp n o = true) : (∀ x ∈ o.op.operands.toList, okOpd x = true) ∧ ∀ t, o.dst = some t → t < n := by
  simp only [okOp, Bool.and_eq_true] at h
  refine ⟨List.all_eq_true.1 h.1, fun t ht => ?_⟩
  have := h.2
  rw [ht] at this
  exact Nat.le_of_ble_eq_true this

theorem conv_eff {o : Op} (hk : kdOf P o = .eff) : ∀ s d x, o = .convert s d x → P.underlying s = some .string := by
  intro s d x e
  subst e
  simp only [kdOf] at hk
  cases hs : P.underlying s with
  | none => simp [hs] at hk
  | some sd =>
    cases sd <;> try (simp [hs] at hk; done)
    · rfl
    · cases hd : P.underlying d with
      | none => simp [hs, hd] at hk
      | some dd => cases dd <;> simp [hs, hd] at hk

theorem hfunE {env : Env} {a : Act} (f : FuncId) : rhoE env (.func f) = .func (.func f) #[] #[] ∧ a.eval (.func f) = .func (.func f) #[] #[] := ⟨rfl, rfl⟩

/-- One operation (not one whose block has a number laid by). -/
theorem op_wp [Gl] {C : Calc} (hC : CSound P C) {ι : Emb} {n : Nat} {env : Env} {a : Act} {H H' : Hp} {w : World} {o : Oper} {v : Value} (hr : HRel P ι H w) (ha : ActRel P ι n env a) (hok : okOp n o = true)
    (h : denOp P C o.op (rhoE env) H = some (v, H')) {next : Act → World → Prop} {Q : Exit → Act → World → Prop}
    (hn : ∀ v' w' ι', VRel P ι' v v' → Stp P ι ι' H H' w w' → next (a.put o.dst v') w') : o.wp P a w next Q := by
  obtain ⟨hok, hdst⟩ := okOp_some hok
  have hρ := ha.rho
  unfold Oper.wp
  unfold denOp at h
  cases hk : kdOf P o.op with
  | pure =>
    simp only [hk] at h
    obtain ⟨h2, e⟩ := M.lift_some h
    subst e
    obtain ⟨v', hrun, hv⟩ := pureOp_ok (w := w) hρ hok h2
    rw [hrun]; exact hn v' w ι hv (Stp.refl hr)
  | read =>
    simp only [hk] at h
    obtain ⟨h2, e⟩ := M.look_some h
    subst e
    obtain ⟨v', hrun, hv⟩ := readOp_ok hr hρ hok h2
    rw [hrun]; exact hn v' w ι hv (Stp.refl hr)
  | alloc =>
    simp only [hk] at h
    cases hal : allocOp P o.op (rhoE env) with
    | none => simp [hal, allocM, M.fail] at h
    | some r =>
      obtain ⟨t, cs, f⟩ := r
      simp [hal, allocM, newB] at h
      obtain ⟨rfl, rfl⟩ := h
      obtain ⟨c, v', hal'⟩ := allocOp_ok (w := w) hρ hok hal
      rw [hal'.run]
      refine hn v' _ _ (hal'.val _ H.next _ (ins_same _ _ _) rfl rfl rfl rfl rfl) (stp_new hr (fun i u hu => ?_) (grew_alloc w _) (by intro i _; omega) (by intro _ i; omega))
      obtain ⟨u', hu', hru⟩ := hal'.rel.get hu
      exact ⟨u', by simpa using hu', hru⟩
  | eff =>
    simp only [hk] at h
    obtain ⟨v', w', ι', hrun, hv, hst⟩ := effOp_ok hr hρ hok (conv_eff hk) h
    rcases hrun with hrun | ⟨hrun, rfl⟩
    · rw [hrun]; exact hn v' w' ι' hv hst
    · rw [hrun]; exact hn undefV w' ι' hv hst
  | call =>
    simp only [hk] at h
    rcases callOp_ok hC hr hρ hok hfunE h with ⟨v', w', hrun, ι', hv, hst⟩ | ⟨f, args, hrun, hcalls⟩
    · rw [hrun]; exact hn v' w' ι' hv hst
    · rw [hrun]
      refine Calls.mono hcalls ?_
      rintro e w'' ⟨v', rfl, ι', hv, hst⟩
      exact hn v' w'' ι' hv hst

/-- A guard is seen alike on both sides. -/
theorem guard_seen [Gl] {ι : Emb} {n : Nat} {env : Env} {a : Act} {ops : Array Oper} {o : Oper} {m : M Value} {H H' : Hp} {v : Value} (ha : ActRel P ι n env a)
    (h : guarded ops.toList o env m H = some (v, H')) :
    (Region.wanted o (yielded ops a.tmps) = true ∧ m H = some (v, H')) ∨ (Region.wanted o (yielded ops a.tmps) = false ∧ v = undefV ∧ H' = H) := by
  unfold guarded at h
  cases hg : o.guard with
  | none => simp only [hg] at h; exact .inl ⟨by simp [Region.wanted, hg], h⟩
  | some gw =>
    obtain ⟨g, want⟩ := gw
    simp only [hg] at h
    have hda : dstAt ops.toList g = (ops[g]?).bind (·.dst) := by
      simp only [dstAt]; rw [Array.getElem?_toList]; cases ops[g]? <;> rfl
    rw [hda] at h
    cases hd : (ops[g]?).bind (·.dst) with
    | none =>
      simp [hd, M.ret] at h
      obtain ⟨rfl, rfl⟩ := h
      exact .inr ⟨by simp [Region.wanted, hg, yielded, hd], rfl, rfl⟩
    | some d =>
      simp only [hd] at h
      have hv := ha.vals d
      by_cases hb0 : ∃ b, env d = .bool b
      · obtain ⟨b, hb⟩ := hb0
        rw [hb] at hv
        have hv' := hv.noAddr_eq (by rfl)
        have hy : yielded ops a.tmps g = some b := by
          simp only [yielded, hd, Option.bind_some]
          have : a.tmps[d]? = some (.bool b) := by
            simp only [Array.getD_eq_getD_getElem?] at hv'
            cases ht : a.tmps[d]? with
            | none => rw [ht] at hv'; simp [undef] at hv'
            | some u => rw [ht] at hv'; simp at hv'; rw [hv']
          rw [this]
        simp only [gd, hb] at h
        cases hbw : (b == want) with
        | true =>
          simp only [hbw] at h
          exact .inl ⟨by simp only [Region.wanted, hg, hy]; simpa using hbw, h⟩
        | false =>
          simp only [hbw] at h
          simp [M.ret] at h
          obtain ⟨rfl, rfl⟩ := h
          exact .inr ⟨by simp only [Region.wanted, hg, hy]; simpa using hbw, rfl, rfl⟩
      · have hnb : ∀ b, env d ≠ .bool b := fun b e => hb0 ⟨b, e⟩
        have hgd : gd (env d) want m = M.ret undefV := by
          unfold gd; cases he : env d <;> first | rfl | exact absurd he (hnb _)
        rw [hgd] at h
        simp [M.ret] at h
        obtain ⟨rfl, rfl⟩ := h
        refine .inr ⟨?_, rfl, rfl⟩
        have hy : yielded ops a.tmps g = none := by
          simp only [yielded, hd, Option.bind_some]
          split
          · rename_i b hb
            have : a.tmps.getD d undef = .bool b := by simp [Array.getD_eq_getD_getElem?, hb]
            rw [this] at hv
            exfalso
            generalize env d = x at hv hnb
            cases hv
            exact hnb _ rfl
          · rfl
        simp [Region.wanted, hg, hy]

theorem undef_eq : undefV = undef := rfl

theorem denOps_wp [Gl] {R : Type} {C : Calc} (hC : CSound P C) {n : Nat} {ops : Array Oper} {k : Env → M R} {X : R × Hp} {Q : Exit → Act → World → Prop}
    {ι0 : Emb} {H0 : Hp} {w0 : World} (hQ : ∀ env a w ι H, ActRel P ι n env a → Stp P ι0 ι H0 H w0 w → k env H = some X → Q .normal a w) :
    ∀ (rest : List Oper) (i : Nat) (env : Env) (a : Act) (H : Hp) (w : World) (ι : Emb), (∀ j o, rest[j]? = some o → ops[i + j]? = some o) → (∀ o ∈ rest, okOp n o = true) →
      ActRel P ι n env a → Stp P ι0 ι H0 H w0 w → denOps P C ops.toList rest k env H = some X → wpOps P ops Q (List.range' i rest.length) a w := by
  intro rest
  induction rest with
  | nil =>
    intro i env a H w ι _ _ ha hst h
    simp only [denOps] at h
    exact hQ env a w ι H ha hst h
  | cons o rest ih =>
    intro i env a H w ι hix hok ha hst h
    simp only [denOps] at h
    obtain ⟨v, H1, hop, hk⟩ := M.bind_some h
    have hoi : ops[i]? = some o := by simpa using hix 0 o rfl
    simp only [List.length_cons, List.range'_succ]
    rw [wpOps_cons]
    unfold wpOp
    simp only [hoi]
    have hok0 := hok o (by simp)
    have hrest : ∀ j o', rest[j]? = some o' → ops[i + 1 + j]? = some o' := fun j o' hj => by
      have := hix (j + 1) o' (by simpa using hj)
      rwa [show i + (j + 1) = i + 1 + j from by omega] at this
    rcases guard_seen ha hop with ⟨hw, hm⟩ | ⟨hw, rfl, rfl⟩
    · rw [if_pos hw]
      refine .inl (op_wp hC hst.rel ha hok0 hm fun v' w' ι' hv hst' => ?_)
      exact ih (i + 1) _ _ H1 w' ι' hrest (fun o' ho' => hok o' (by simp [ho'])) ((ha.mono hst'.ext).put (okOp_some hok0).2 hv) (hst.trans hst') hk
    · rw [if_neg (by simp [hw])]
      exact ih (i + 1) _ _ _ w ι hrest (fun o' ho' => hok o' (by simp [ho'])) (ha.put (okOp_some hok0).2 undef_rel) hst hk

end Go.Lk
