/- The operations that touch no memory: what they come to. -/
import Derived.Test.YtpognhdhlbgliaaGreatDoorLkPure3
namespace Go.Lk
variable {P : Program} {ι : Emb} {w : World} {S : Operand → Bool}

theorem unP_ok [Gl] {op : UnOp} {x x' v : Value} (hx : VRel P ι x x') (h : unP P op x = some v) : ∃ v', (Op.unary op x').run P w = .ok v' w ∧ VRel P ι v v' := by
  unfold unP at h
  split at h
  · rename_i h1
    have := hx.noAddr_eq h1; subst this
    obtain ⟨h, hs⟩ := scalO_some h
    exact ⟨v, evalPure_run _ h, VRel.scal_self hs⟩
  · simp at h

theorem convP_ok [Gl] {s d : TypeId} {x x' v : Value} (hx : VRel P ι x x') (h : convP P s d x = some v) : ∃ v', (Go.convert s d x').run P w = .ok v' w ∧ VRel P ι v v' := by
  unfold convP at h
  split at h
  · rename_i sd k k' n hs hd
    cases hx
    simp at h; subst h
    exact ⟨_, by simp [Go.convert, run_underlying hs, run_underlying hd, Conv.intToInt], .int _ _⟩
  · rename_i sd b hs hd
    cases hx
    simp at h; subst h
    exact ⟨_, by simp [Go.convert, run_underlying hs, run_underlying hd], .string _⟩
  · simp at h

theorem lenP_ok [Gl] {t : TypeId} {x x' v : Value} {ats : Array TypeId} {args : Array Value} {ty : TypeId} (ha : ats.toList = [t]) (hargs : args.toList = [x']) (hx : VRel P ι x x') (h : lenP (P.underlying t) x = some v) :
    ∃ v', (Builtin.len_ ats ty args).run P w = .ok v' w ∧ VRel P ι v v' := by
  have h0 : ats[0]? = some t := by rw [← Array.getElem?_toList, ha]; rfl
  have h1 : args[0]? = some x' := by rw [← Array.getElem?_toList, hargs]; rfl
  unfold lenP at h
  split at h
  · rename_i s hu
    cases hx
    simp at h; subst h
    exact ⟨_, by simp [Builtin.len_, h0, h1, run_underlying hu, goInt], .int _ _⟩
  · rename_i e b n c hu
    simp at h; subst h
    cases hx with
    | nilSlice => exact ⟨_, by simp [Builtin.len_, h0, h1, run_underlying hu, goInt], .int _ _⟩
    | slice b o o' len cap cap' p _ _ _ _ _ _ => exact ⟨_, by simp [Builtin.len_, h0, h1, run_underlying hu, goInt], .int _ _⟩
  · rename_i n e _ hu
    simp at h; subst h
    exact ⟨_, by simp [Builtin.len_, h0, h1, run_underlying hu, goInt], .int _ _⟩
  · simp at h

theorem min2P_ok [Gl] {l l' : List Value} {v : Value} {ats : Array TypeId} {args : Array Value} {ty : TypeId} (hargs : args.toList = l') (hl : LRel P ι l l') (h : min2P l = some v) :
    ∃ v', (Builtin.min_ ats ty args).run P w = .ok v' w ∧ VRel P ι v v' := by
  unfold min2P at h
  split at h
  · rename_i k a k2 b
    have := hl.of_scal (by rfl); subst this
    split at h
    · simp at h; subst h
      rename_i hk; subst hk
      exact ⟨_, by simp [Builtin.min_, hargs, Builtin.min2], .int _ _⟩
    · simp at h
  · rename_i k a k2 b k3 c
    have := hl.of_scal (by rfl); subst this
    split at h
    · simp at h; subst h
      rename_i hk; obtain ⟨rfl, rfl⟩ := hk
      exact ⟨_, by simp [Builtin.min_, hargs, Builtin.min2], .int _ _⟩
    · simp at h
  · simp at h

theorem max2P_ok [Gl] {l l' : List Value} {v : Value} {ats : Array TypeId} {args : Array Value} {ty : TypeId} (hargs : args.toList = l') (hl : LRel P ι l l') (h : max2P l = some v) :
    ∃ v', (Builtin.max_ ats ty args).run P w = .ok v' w ∧ VRel P ι v v' := by
  unfold max2P at h
  split at h
  · rename_i k a k2 b
    have := hl.of_scal (by rfl); subst this
    split at h
    · simp at h; subst h
      rename_i hk; subst hk
      exact ⟨_, by simp [Builtin.max_, hargs, Builtin.max2], .int _ _⟩
    · simp at h
  · simp at h

theorem orElse_some {α : Type} {a b : Option α} {v : α} (h : orElse' a b = some v) : a = some v ∨ b = some v := by
  unfold orElse' at h
  split at h
  · exact .inl h
  · exact .inr h

theorem orc_run [Gl] {op : BinOp} {t : TypeId} {xo yo : Operand} {x y x' y' v : Value} (hx : VRel P ι x x') (hy : VRel P ι y y') (h : Tk.orc P op t x y = some v) :
    ∃ v', (do eqGuard op t xo yo x' y'; Go.binOp op t x' y').run P w = .ok v' w ∧ VRel P ι v v' := by
  obtain ⟨h1, h2, h3, h4, h5⟩ := Gl.orc_ok h
  rw [hx.concA_eq h1, hy.concA_eq h2]
  refine ⟨conc v, ?_, VRel.conc_self h3⟩
  rw [Sem.run_bind, eqGuard_ok h4]
  exact h5 w

theorem convT_ok [Gl] {s d : TypeId} {x x' v : Value} (hx : VRel P ι x x') (h : convT P s d x = some v) : ∃ v', (Go.convert s d x').run P w = .ok v' w ∧ VRel P ι v v' := by
  unfold convT at h
  split at h
  · rename_i sd k hs hd ht
    obtain ⟨h1, h2⟩ := Gl.cvt_ok h ht
    cases x <;> simp [isTok] at ht
    rename_i fk i c
    cases hx
    have := h2 (Tk.kd i) (Tv.val i c) rfl
    refine ⟨conc v, ?_, VRel.conc_self h1⟩
    rw [this]
    simp [Go.convert, run_underlying hs, run_underlying hd, Conv.intToInt]
  · simp at h

theorem mmT_ok [Gl] {b : Bool} {l l' : List Value} {v : Value} {ats : Array TypeId} {args : Array Value} {ty : TypeId} (hargs : args.toList = l') (hl : LRel P ι l l') (h : Tk.mm b l = some v) :
    ∃ v', ((match b with | true => Builtin.max_ ats ty args | false => Builtin.min_ ats ty args) : Sem Value).run P w = .ok v' w ∧ VRel P ι v v' := by
  obtain ⟨h1, x, y, rfl, hx, hy, k, m, n, ex, ey, ev⟩ := Gl.mm_ok h
  obtain ⟨x', l2, rfl, hxr, hl2⟩ := hl.inv
  obtain ⟨y', l3, rfl, hyr, hl3⟩ := hl2.inv
  obtain rfl := hl3.inv_nil
  rw [hxr.conc_eq hx, hyr.conc_eq hy, ex, ey] at hargs
  refine ⟨conc v, ?_, VRel.conc_self h1⟩
  rw [ev]
  cases b <;> simp [Builtin.min_, Builtin.max_, hargs, Builtin.min2, Builtin.max2, mmI]

/-- How the operands are read on both sides. -/
def RhoRel [Gl] (P : Program) (ι : Emb) (S : Operand → Bool) (ρ ρ' : Operand → Value) : Prop := ∀ x, S x = true → VRel P ι (ρ x) (ρ' x)

theorem RhoRel.list [Gl] {ρ ρ' : Operand → Value} (h : RhoRel P ι S ρ ρ') : ∀ l : List Operand, (∀ x ∈ l, S x = true) → LRel P ι (l.map ρ) (l.map ρ')
  | [], _ => LRel.nil
  | x :: l, hl => LRel.cons (h x (hl x (by simp))) (RhoRel.list h l fun y hy => hl y (by simp [hy]))

theorem RhoRel.arr [Gl] {ρ ρ' : Operand → Value} (h : RhoRel P ι S ρ ρ') (a : Array Operand) (ha : ∀ x ∈ a, S x = true) :
    (a.map ρ).size = (a.map ρ').size ∧ ∀ (i : Nat) (v v' : Value), (a.map ρ)[i]? = some v → (a.map ρ')[i]? = some v' → VRel P ι v v' :=
  LRel.toArr (by simpa using h.list a.toList (fun x hx => ha x (by simpa using hx)))

theorem optRel [Gl] {ρ ρ' : Operand → Value} (h : RhoRel P ι S ρ ρ') (o : Option Operand) (ho : ∀ x, o = some x → S x = true) :
    (∀ u, o.map ρ = some u → ∃ u', o.map ρ' = some u' ∧ VRel P ι u u') ∧ (o.map ρ = none → o.map ρ' = none) := by
  cases o with
  | none => simp
  | some x => simp; exact h x (ho x rfl)

theorem pureOp_ok [Gl] {o : Oper} {ρ ρ' : Operand → Value} {v : Value} (hρ : RhoRel P ι S ρ ρ') (hok : ∀ x ∈ o.op.operands.toList, S x = true) (h : pureOp P o.op ρ = some v) :
    ∃ v', (execOp ρ' o).run P w = .ok (.value v') w ∧ VRel P ι v v' := by
  obtain ⟨dst, op, ty, pos, after, guard⟩ := o
  cases op
  case move x =>
    simp [Op.operands] at hok; simp [pureOp] at h; subst h
    exact ⟨_, by simp [execOp], hρ x hok⟩
  case assign x =>
    simp [Op.operands] at hok; simp [pureOp] at h; subst h
    exact ⟨_, by simp [execOp], hρ x hok⟩
  case pick c a b =>
    simp [Op.operands] at hok
    simp only [pureOp] at h
    have hc := hρ c hok.1
    cases hcv : ρ c <;> simp [hcv] at h
    rename_i cb
    rw [hcv] at hc
    have hc' := hc.noAddr_eq (by rfl)
    cases cb <;> simp at h <;> subst h
    · exact ⟨_, by simp [execOp, hc', asBool], hρ b hok.2.2⟩
    · exact ⟨_, by simp [execOp, hc', asBool], hρ a hok.2.1⟩
  case build t ps =>
    simp only [pureOp] at h
    have hp : PRel P ι (ps.toList.map fun p => (p.1, ρ p.2)) (ps.map fun (i, x) => (i, ρ' x)).toList := by
      have := PRel.map (P := P) (ι := ι) (ρ := ρ) (ρ' := ρ') ps.toList (fun p hp => hρ p.2 (hok p.2 (by simp [Op.operands]; exact ⟨p.1, by simpa using hp⟩)))
      simpa using this
    obtain ⟨v', hv', hr⟩ := buildP_ok (w := w) hp h
    exact ⟨v', by simp [execOp, hv'], hr⟩
  case nilCheck x =>
    simp [Op.operands] at hok
    simp only [pureOp] at h
    obtain ⟨hr, hx⟩ := nilChk_ok (hρ x hok) h
    refine ⟨_, ?_, hr⟩
    rcases hx with ⟨a, ha⟩ | ⟨f, a, c, ha⟩ <;> simp [execOp, ha]
  case binOp bop t x y u =>
    simp [Op.operands] at hok
    simp only [pureOp] at h
    obtain ⟨v', hv', hr⟩ : ∃ v', (do eqGuard bop t x y (ρ' x) (ρ' y); Go.binOp bop t (ρ' x) (ρ' y)).run P w = .ok v' w ∧ VRel P ι v v' := by
      rcases orElse_some h with h | h
      · exact binP_ok (w := w) (xo := x) (yo := y) (hρ x hok.1) (hρ y hok.2) h
      · exact orc_run (hρ x hok.1) (hρ y hok.2) h
    refine ⟨v', ?_, hr⟩
    simp only [execOp]
    rw [Sem.run_bind, hv']; rfl
  case unOp uop t x =>
    simp [Op.operands] at hok
    simp only [pureOp] at h
    obtain ⟨v', hv', hr⟩ := unP_ok (w := w) (hρ x hok) h
    exact ⟨v', by simp [execOp, hv'], hr⟩
  case convert s d x =>
    simp [Op.operands] at hok
    simp only [pureOp] at h
    obtain ⟨v', hv', hr⟩ : ∃ v', (Go.convert s d (ρ' x)).run P w = .ok v' w ∧ VRel P ι v v' := by
      rcases orElse_some h with h | h
      · exact convP_ok (w := w) (hρ x hok) h
      · exact convT_ok (hρ x hok) h
    exact ⟨v', by simp [execOp, hv'], hr⟩
  case fieldAddr t x f =>
    simp [Op.operands] at hok
    simp only [pureOp] at h
    obtain ⟨v', hv', hr⟩ := fieldAddrP_ok (w := w) (hρ x hok) h
    exact ⟨v', by simp [execOp, hv'], hr⟩
  case field t x f =>
    simp [Op.operands] at hok
    simp only [pureOp] at h
    obtain ⟨v', hv', hr⟩ := fieldP_ok (w := w) (hρ x hok) h
    exact ⟨v', by simp [execOp, hv'], hr⟩
  case indexAddr t x i =>
    simp [Op.operands] at hok
    simp only [pureOp] at h
    obtain ⟨v', hv', hr⟩ := indexAddrP_ok (w := w) (hρ x hok.1) (hρ i hok.2) h
    exact ⟨v', by simp [execOp, hv'], hr⟩
  case index t x i =>
    simp [Op.operands] at hok
    simp only [pureOp] at h
    obtain ⟨v', hv', hr⟩ := indexP_ok (w := w) (hρ x hok.1) (hρ i hok.2) h
    exact ⟨v', by simp [execOp, hv'], hr⟩
  case slice t x lo hi mx =>
    simp only [pureOp] at h
    have h1 := optRel hρ lo (fun y hy => hok y (by simp [Op.operands, hy]))
    have h2 := optRel hρ hi (fun y hy => hok y (by simp [Op.operands, hy]))
    have h3 := optRel hρ mx (fun y hy => hok y (by simp [Op.operands, hy]))
    obtain ⟨v', hv', hr⟩ := sliceP_ok (w := w) (hρ x (hok x (by simp [Op.operands]))) h1.1 h1.2 h2.1 h2.2 h3.2 h
    exact ⟨v', by simp [execOp, hv'], hr⟩
  case extract x i =>
    simp [Op.operands] at hok
    simp only [pureOp] at h
    have hx := hρ x hok
    cases hxv : ρ x <;> simp [hxv] at h
    rw [hxv] at hx
    obtain ⟨a', ha', hl⟩ := hx.tup_inv
    obtain ⟨v', hv', hr⟩ := hl.get (by simpa using h)
    refine ⟨v', ?_, hr⟩
    simp at hv'
    simp [execOp, ha', Instr.extract, hv']
  case makeFunc fn a b =>
    cases fn <;> simp [pureOp] at h
    subst h
    have h1 := hρ.arr a (fun x hx => hok x (by simp [Op.operands, hx]))
    have h2 := hρ.arr b (fun x hx => hok x (by simp [Op.operands, hx]))
    exact ⟨_, by simp [execOp, Instr.makeFunc], .func _ _ _ _ _ h1.1 h1.2 h2.1 h2.2⟩
  case call c =>
    obtain ⟨callee, args, ats⟩ := c
    cases callee <;> simp [pureOp] at h
    rename_i b
    have hl : LRel P ι (args.toList.map ρ) (args.toList.map ρ') := hρ.list args.toList (fun x hx => hok x (by simp [Op.operands, Call.operands]; simpa using hx))
    cases b <;> simp at h
    case len =>
      split at h
      · rename_i x t hx ht
        rw [hx] at hl
        obtain ⟨v', hv', hr⟩ := lenP_ok (w := w) (ty := ty) (args := args.map ρ') ht (by simp [hx]) hl.head h
        exact ⟨v', by simp [execOp, resolve, invoke, Go.builtin, hv'], hr⟩
      · simp at h
    case min =>
      obtain ⟨v', hv', hr⟩ : ∃ v', (Builtin.min_ ats ty (args.map ρ')).run P w = .ok v' w ∧ VRel P ι v v' := by
        rcases orElse_some h with h | h
        · exact min2P_ok (w := w) (ats := ats) (ty := ty) (args := args.map ρ') (by simp) hl h
        · exact mmT_ok (w := w) (b := false) (ats := ats) (ty := ty) (args := args.map ρ') (by simp) hl h
      exact ⟨v', by simp [execOp, resolve, invoke, Go.builtin, hv'], hr⟩
    case max =>
      obtain ⟨v', hv', hr⟩ : ∃ v', (Builtin.max_ ats ty (args.map ρ')).run P w = .ok v' w ∧ VRel P ι v v' := by
        rcases orElse_some h with h | h
        · exact max2P_ok (w := w) (ats := ats) (ty := ty) (args := args.map ρ') (by simp) hl h
        · exact mmT_ok (w := w) (b := true) (ats := ats) (ty := ty) (args := args.map ρ') (by simp) hl h
      exact ⟨v', by simp [execOp, resolve, invoke, Go.builtin, hv'], hr⟩
  all_goals simp [pureOp] at h

end Go.Lk
