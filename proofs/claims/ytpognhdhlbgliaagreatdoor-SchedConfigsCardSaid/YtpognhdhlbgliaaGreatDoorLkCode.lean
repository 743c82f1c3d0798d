/- Code and functions: the deterministic semantics is sound. -/
import Derived.Test.YtpognhdhlbgliaaGreatDoorLkDraw
import Derived.Defers
namespace Go.Lk
variable {P : Program}

def codeOK (P : Program) (n : Nat) : Code → Bool
  | .region _ ops draw => match draw with
    | true => regOK P n ops.toList
    | false => ops.toList.all (okOp n)
  | .seq a b => codeOK P n a && codeOK P n b
  | .cond c a b => okOpd c && codeOK P n a && codeOK P n b
  | .block _ b => codeOK P n b
  | .loop b => codeOK P n b
  | _ => true

/-- How a piece of code is left, seen from the run that goes on. -/
def Post [Gl] {R : Type} (P : Program) (n : Nat) (kn : Env → M R) (kx : Nat → Env → M R) (kr : Env → M R) (X : R × Hp) (ι : Emb) (H : Hp) (w : World) : Exit → Act → World → Prop := fun e a' w' =>
  ∃ ι' H' env', ActRel P ι' n env' a' ∧ Stp P ι ι' H H' w w' ∧ match e with
    | .normal => kn env' H' = some X
    | .exit j => kx j env' H' = some X
    | .ret => kr env' H' = some X
    | _ => False

theorem Post.trans [Gl] {R : Type} {n : Nat} {kn : Env → M R} {kx : Nat → Env → M R} {kr : Env → M R} {X : R × Hp} {ι ι1 : Emb} {H H1 : Hp} {w w1 : World} (hst : Stp P ι ι1 H H1 w w1) {e : Exit} {a' : Act} {w' : World}
    (h : Post P n kn kx kr X ι1 H1 w1 e a' w') : Post P n kn kx kr X ι H w e a' w' := by
  obtain ⟨ι', H', env', h1, h2, h3⟩ := h
  exact ⟨ι', H', env', h1, hst.trans h2, h3⟩

theorem denC_wp [Gl] {R : Type} {C : Calc} (hC : CSound P C) (hm : P.follows .mixedOrders = true) {n : Nat} : ∀ (c : Code) (kn : Env → M R) (kx : Nat → Env → M R) (kr : Env → M R) (env : Env) (H : Hp) (X : R × Hp) (ι : Emb) (a : Act) (w : World),
    codeOK P n c = true → HRel P ι H w → ActRel P ι n env a → denC P C c kn kx kr env H = some X → c.wp P (Post P n kn kx kr X ι H w) a w := by
  intro c
  induction c with
  | skip =>
    intro kn kx kr env H X ι a w _ hr ha h
    exact wp_skip ⟨ι, H, env, ha, Stp.refl hr, h⟩
  | region id ops draw =>
    intro kn kx kr env H X ι a w hok hr ha h
    refine region_wp hC hm (n := n) (by cases draw <;> exact hok) hr ha h fun env' a' w' ι' H' h1 h2 h3 => ⟨ι', H', env', h1, h2, h3⟩
  | seq x y ihx ihy =>
    intro kn kx kr env H X ι a w hok hr ha h
    simp only [codeOK, Bool.and_eq_true] at hok
    simp only [denC] at h
    refine wp_seq (wp_mono (ihx _ _ _ env H X ι a w hok.1 hr ha h) fun e a1 w1 hp => ?_)
    obtain ⟨ι1, H1, env1, h1, h2, h3⟩ := hp
    cases e with
    | normal => exact wp_mono (ihy _ _ _ env1 H1 X ι1 a1 w1 hok.2 h2.rel h1 h3) fun e2 a2 w2 hp2 => hp2.trans h2
    | exit j => exact ⟨ι1, H1, env1, h1, h2, h3⟩
    | ret => exact ⟨ι1, H1, env1, h1, h2, h3⟩
    | _ => exact h3.elim
  | cond c x y ihx ihy =>
    intro kn kx kr env H X ι a w hok hr ha h
    simp only [codeOK, Bool.and_eq_true] at hok
    simp only [denC] at h
    have hv := ha.rho c hok.1.1
    revert h hv
    generalize rhoE env c = vc
    intro h hv
    cases vc with
    | bool t =>
      cases t with
      | true => exact wp_cond_true (hv.noAddr_eq (by rfl)) (ihx _ _ _ env H X ι a w hok.1.2 hr ha h)
      | false => exact wp_cond_false (hv.noAddr_eq (by rfl)) (ihy _ _ _ env H X ι a w hok.2 hr ha h)
    | _ => simp [branch, M.fail] at h
  | block id body ih =>
    intro kn kx kr env H X ι a w hok hr ha h
    simp only [denC] at h
    refine wp_block (wp_mono (ih _ _ _ env H X ι a w hok hr ha h) fun e a1 w1 hp => ?_)
    obtain ⟨ι1, H1, env1, h1, h2, h3⟩ := hp
    cases e with
    | normal => exact ⟨ι1, H1, env1, h1, h2, h3⟩
    | exit j =>
      simp only at h3
      simp only [Exit.inBlock]
      cases hb : Nat.beq j id with
      | true =>
        simp only [hb] at h3
        rw [if_pos (Nat.eq_of_beq_eq_true hb)]
        exact ⟨ι1, H1, env1, h1, h2, h3⟩
      | false =>
        simp only [hb] at h3
        rw [if_neg (Nat.ne_of_beq_eq_false hb)]
        exact ⟨ι1, H1, env1, h1, h2, h3⟩
    | ret => exact ⟨ι1, H1, env1, h1, h2, h3⟩
    | _ => exact h3.elim
  | loop body ih =>
    intro kn kx kr env H X ι a w hok hr ha h
    simp only [denC] at h
    have key : ∀ (m : Nat) (env : Env) (H : Hp) (ι : Emb) (a : Act) (w : World), HRel P ι H w → ActRel P ι n env a → iterE (fun _ => M.fail) (fun self e => denC P C body self kx kr e) m env H = some X →
        ∀ (b : Frame) (k : List Item) (cs : List Frame), ∃ e a' w', Post P n (fun _ => M.fail) kx kr X ι H w e a' w' ∧ Arrives P (lone (b.at a (.code body :: .inLoop body :: k)) cs w) b k cs e a' w' := by
      intro m
      induction m with
      | zero => intro env H ι a w _ _ h; simp [iterE, M.fail] at h
      | succ m ihm =>
        intro env H ι a w hr ha h b k cs
        simp only [iterE] at h
        obtain ⟨e, a1, w1, hp, harr⟩ := ih _ _ _ env H X ι a w hok hr ha h b (.inLoop body :: k) cs
        obtain ⟨ι1, H1, env1, h1, h2, h3⟩ := hp
        cases e with
        | normal =>
          obtain ⟨e2, a2, w2, hp2, harr2⟩ := ihm env1 H1 ι1 a1 w1 h2.rel h1 h3 b k cs
          exact ⟨e2, a2, w2, hp2.trans h2, .of_steps (Steps.trans harr (.one step_inLoop)) harr2⟩
        | exit id => exact ⟨_, a1, w1, ⟨ι1, H1, env1, h1, h2, h3⟩, .pass (x := .inLoop body) rfl (fun _ _ => .inl (by simp)) harr⟩
        | ret => exact ⟨_, a1, w1, ⟨ι1, H1, env1, h1, h2, h3⟩, .pass (x := .inLoop body) rfl (fun _ _ => .inl (by simp)) harr⟩
        | goto l => exact h3.elim
        | panic ch => exact h3.elim
        | outgrown => exact h3.elim
    intro b k cs
    obtain ⟨e, a', w', hp, harr⟩ := key fuel env H ι a w hr ha h b k cs
    refine ⟨e, a', w', ?_, .of_steps (.one step_loop) harr⟩
    obtain ⟨ι1, H1, env1, h1, h2, h3⟩ := hp
    refine ⟨ι1, H1, env1, h1, h2, ?_⟩
    cases e with
    | normal => simp [M.fail] at h3
    | _ => exact h3
  | exit j =>
    intro kn kx kr env H X ι a w _ hr ha h
    exact wp_exit ⟨ι, H, env, ha, Stp.refl hr, h⟩
  | ret =>
    intro kn kx kr env H X ι a w _ hr ha h
    exact wp_ret ⟨ι, H, env, ha, Stp.refl hr, h⟩
  | _ =>
    intro kn kx kr env H X ι a w _ hr ha h
    simp [denC, M.fail] at h

/-! ## Functions -/

def resS (tmps : Array Value) (r : ResultVar) : Sem Value := match r with
  | .tmp t => pure (tmps.getD t undef)
  | .cell a t => do loadVar t (← asAddr (tmps.getD a undef))

theorem resV_ok [Gl] {ι : Emb} {H H' : Hp} {w : World} {n : Nat} {env : Env} {a : Act} (hr : HRel P ι H w) (ha : ActRel P ι n env a) {r : ResultVar} {v : Value} (h : resV P r env H = some (v, H')) :
    H' = H ∧ ∃ v', (resS a.tmps r).run P w = .ok v' w ∧ VRel P ι v v' := by
  cases r with
  | tmp t =>
    simp [resV, M.ret] at h
    obtain ⟨rfl, rfl⟩ := h
    exact ⟨rfl, _, by simp [resS], ha.vals t⟩
  | cell s t =>
    simp only [resV] at h
    obtain ⟨h1, h2⟩ := M.look_some h
    refine ⟨h2, ?_⟩
    obtain ⟨v', hrun, hv⟩ := loadP_ok hr (ha.vals s) h1
    refine ⟨v', ?_, hv⟩
    have hp : ∃ b, a.tmps.getD s undef = .pointer (some b) := by
      cases hh : a.tmps.getD s undef with
      | pointer x =>
        cases x with
        | none => rw [hh] at hrun; simp [Instr.loadAt, Instr.sureAddr] at hrun
        | some b => exact ⟨b, rfl⟩
      | _ => rw [hh] at hrun; simp [Instr.loadAt, Instr.sureAddr] at hrun
    obtain ⟨b, hb⟩ := hp
    rw [hb] at hrun
    simp only [resS, hb, asAddr]
    simpa [Instr.loadAt, Instr.sureAddr] using hrun

theorem resVs_ok [Gl] {ι : Emb} {w : World} {n : Nat} {env : Env} {a : Act} (ha : ActRel P ι n env a) : ∀ (rs : List ResultVar) {H H' : Hp} {k : List Value → M Value} {v : Value}, HRel P ι H w → resVs P rs env k H = some (v, H') →
    ∃ l l', (rs.mapM (resS a.tmps)).run P w = .ok l' w ∧ LRel P ι l l' ∧ l.length = rs.length ∧ k l H = some (v, H')
  | [], H, H', k, v, hr, h => ⟨[], [], by simp, LRel.nil, rfl, h⟩
  | r :: rs, H, H', k, v, hr, h => by
    simp only [resVs] at h
    obtain ⟨u, H1, h1, h2⟩ := M.bind_some h
    obtain ⟨e, u', hrun, hu⟩ := resV_ok hr ha h1
    subst e
    obtain ⟨l, l', h3, h4, h5, h6⟩ := resVs_ok ha rs hr h2
    exact ⟨u :: l, u' :: l', by simp [List.mapM_cons, hrun, h3], LRel.cons hu h4, by simp [h5], h6⟩

theorem resM_ok [Gl] {ι : Emb} {H H' : Hp} {w : World} {n : Nat} {env : Env} {a : Act} {fn : Func} (hr : HRel P ι H w) (ha : ActRel P ι n env a) {v : Value} (h : resM P fn.results.toList env H = some (v, H')) :
    H' = H ∧ ∃ v', (results fn a.tmps).run P w = .ok v' w ∧ VRel P ι v v' := by
  have hres : ∀ l', (fn.results.toList.mapM (resS a.tmps)).run P w = .ok l' w → (results fn a.tmps).run P w = .ok (if h : l'.toArray.size = 1 then l'.toArray[0] else .tuple l'.toArray) w := by
    intro l' hl
    unfold results
    rw [Array.mapM_eq_mapM_toList]
    simp only [Sem.run_bind, Sem.run_map]
    have e : ∀ g : ResultVar → Sem Value, (∀ r, g r = resS a.tmps r) → (fn.results.toList.mapM g) = fn.results.toList.mapM (resS a.tmps) := by
      intro g hg
      rw [show g = resS a.tmps from funext hg]
    rw [e _ (fun r => by cases r <;> rfl), hl]
    rfl
  unfold resM at h
  rcases hrs : fn.results.toList with _ | ⟨r, _ | ⟨r2, rs⟩⟩
  rotate_left
  · rw [hrs] at h
    simp only at h
    obtain ⟨e, v', hrun, hv⟩ := resV_ok hr ha h
    refine ⟨e, v', ?_, hv⟩
    rw [hres [v'] (by rw [hrs]; simp [hrun])]
    rfl
  all_goals
    rw [hrs] at h
    simp only at h
    rw [← hrs] at h
    obtain ⟨l, l', h1, h2, h3, h4⟩ := resVs_ok ha fn.results.toList hr h
    simp [M.ret] at h4
    obtain ⟨rfl, rfl⟩ := h4
    refine ⟨rfl, .tuple l'.toArray, ?_, VRel.tupL h2⟩
    rw [hres l' h1]
    have hl : l'.length ≠ 1 := by
      rw [← h2.1, h3, hrs]
      simp
    rw [dif_neg (by simpa using hl)]

theorem denF_wp [Gl] {C : Calc} (hC : CSound P C) (hm : P.follows .mixedOrders = true) {fn : Func} {c : Code} (hb : fn.body = some c) (hok : codeOK P fn.ntmps c = true)
    {ι : Emb} {H : Hp} {w : World} {args : List Value} {args' : Array Value} (hr : HRel P ι H w) (hl : LRel P ι args args'.toList) {v : Value} {H' : Hp} (h : denF P C fn args H = some (v, H')) :
    c.wp P (bodyPost P fn fun e w' => ∃ v', e = .returned v' ∧ ∃ ι', VRel P ι' v v' ∧ Stp P ι ι' H H' w w') { tmps := args' ++ Array.replicate (fn.ntmps - args'.size) undef, defers := [] } w := by
  unfold denF at h
  simp only [hb] at h
  cases hle : Nat.ble args.length fn.ntmps with
  | false => simp [hle, M.fail] at h
  | true =>
    simp only [hle] at h
    have hle' : args'.size ≤ fn.ntmps := by
      have := Nat.le_of_ble_eq_true hle
      have := hl.1; simp at this; omega
    have ha : ActRel P ι fn.ntmps (initE args) { tmps := args' ++ Array.replicate (fn.ntmps - args'.size) undef, defers := [] } := by
      refine ⟨by simp; omega, rfl, fun t => ?_⟩
      simp only [initE]
      rw [Array.getD_eq_getD_getElem?, List.getD_eq_getElem?_getD]
      by_cases ht : t < args'.size
      · rw [Array.getElem?_append_left ht]
        have htl : t < args.length := by have := hl.1; simp at this; omega
        have := hl.2 t args[t] args'[t] (by simp [htl]) (by simp [ht])
        simp [htl, ht]; exact this
      · have htl : ¬ t < args.length := by have := hl.1; simp at this; omega
        rw [Array.getElem?_append_right (by omega), List.getElem?_eq_none (by omega)]
        rw [Array.getElem?_replicate]
        split <;> exact undef_rel
    refine wp_mono (denC_wp hC hm c _ _ _ _ H (v, H') ι _ w hok hr ha h) fun e a' w' hp => ?_
    obtain ⟨ι1, H1, env1, h1, h2, h3⟩ := hp
    cases e with
    | normal =>
      obtain ⟨e, v', hrun, hv⟩ := resM_ok h2.rel h1 h3
      subst e
      exact ⟨h1.defers, v', hrun, v', rfl, ι1, hv, h2⟩
    | ret =>
      obtain ⟨e, v', hrun, hv⟩ := resM_ok h2.rel h1 h3
      subst e
      exact ⟨h1.defers, v', hrun, v', rfl, ι1, hv, h2⟩
    | exit j => simp [M.fail] at h3
    | _ => exact h3.elim

theorem denF_sound [Gl] {C : Calc} (hC : CSound P C) (hm : P.follows .mixedOrders = true) {f : FuncId} {fn : Func} {c : Code} (hf : P.funcs[f]? = some fn) (hb : fn.body = some c) (hok : codeOK P fn.ntmps c = true) :
    MSound P f (denF P C fn) := fun _ _ _ _ _ hr hl _ _ h => calls_of_wp hf hb (denF_wp hC hm hb hok hr hl h)

/-- The same for a call that was deferred. -/
theorem denF_soundD [Gl] {C : Calc} (hC : CSound P C) (hm : P.follows .mixedOrders = true) {f : FuncId} {fn : Func} {c : Code} (hf : P.funcs[f]? = some fn) (hb : fn.body = some c) (hok : codeOK P fn.ntmps c = true)
    {ι : Emb} {H : Hp} {w : World} {args : List Value} {args' : Array Value} (hr : HRel P ι H w) (hl : LRel P ι args args'.toList) {v : Value} {H' : Hp} (h : denF P C fn args H = some (v, H')) (u : FrameMode) :
    CallsD P f args' u w fun e u' w' => u' = u ∧ ∃ v', e = .returned v' ∧ ∃ ι', VRel P ι' v v' ∧ Stp P ι ι' H H' w w' := callsD_of_wp hf hb (denF_wp hC hm hb hok hr hl h)

end Go.Lk
