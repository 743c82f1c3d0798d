/- Functions without a body, and contracts of the library's functions, as abstract functions. -/
import Derived.Test.YtpognhdhlbgliaaGreatDoorLkCode
import Derived.Laws.LoneSync
import Derived.Lib.Bytealg
namespace Go.Lk
variable {P : Program}
/-! ## Arguments -/

theorem LRel.inv1 [Gl] {ι : Emb} {x : Value} {args' : Array Value} (h : LRel P ι [x] args'.toList) : ∃ x', args' = #[x'] ∧ VRel P ι x x' := by
  obtain ⟨l⟩ := args'
  have hl := h.1
  match l, hl with
  | [y], _ => exact ⟨y, rfl, h.2 0 _ _ rfl rfl⟩

theorem LRel.inv2 [Gl] {ι : Emb} {x y : Value} {args' : Array Value} (h : LRel P ι [x, y] args'.toList) : ∃ x' y', args' = #[x', y'] ∧ VRel P ι x x' ∧ VRel P ι y y' := by
  obtain ⟨l⟩ := args'
  have hl := h.1
  match l, hl with
  | [a, b], _ => exact ⟨a, b, rfl, h.2 0 _ _ rfl rfl, h.2 1 _ _ rfl rfl⟩

/-- A contract by which the world stays. -/
theorem msound_pure [Gl] {f : FuncId} {m : List Value → M Value}
    (h : ∀ (ι : Emb) (H : Hp) (w : World) (args : List Value) (args' : Array Value), HRel P ι H w → LRel P ι args args'.toList → ∀ v H', m args H = some (v, H') →
      H' = H ∧ ∃ v', VRel P ι v v' ∧ Calls P f args' w fun e w' => e = .returned v' ∧ w' = w) : MSound P f m := by
  intro ι H w args args' hr hl v H' hm
  obtain ⟨rfl, v', hv, hc⟩ := h ι H w args args' hr hl v H' hm
  refine hc.mono fun e w' he => ?_
  obtain ⟨rfl, rfl⟩ := he
  exact ⟨v', rfl, ι, hv, Stp.refl hr⟩

/-! ## Atomic cells -/

def atLoad [Tk] (k : IntKind) (args : List Value) : M Value := match args with
  | [p] => M.bind (M.look (ld1 p)) fun v => match v with
    | .int k' x => if k' = k then M.ret (.int k x) else M.fail
    | .complex fk i c => if Tk.kd i = k then M.ret (.complex fk i c) else M.fail
    | _ => M.fail
  | _ => M.fail

def atStore (args : List Value) : M Value := match args with
  | [p, .int k y] => stN 1 p (.int k y)
  | [p, .complex fk i c] => stN 1 p (.complex fk i c)
  | _ => M.fail

def atAdd (k : IntKind) (args : List Value) : M Value := match args with
  | [p, .int k2 y] => M.bind (M.look (ld1 p)) fun v => match v with
    | .int k' x => if k' = k ∧ k2 = k then M.bind (stN 1 p (.int k (k.wrap (x + y)))) fun _ => M.ret (.int k (k.wrap (x + y))) else M.fail
    | _ => M.fail
  | _ => M.fail

theorem ld1_cell [Gl] {ι : Emb} {H : Hp} {w : World} {p p' v : Value} (hr : HRel P ι H w) (hp : VRel P ι p p') (h : ld1 p H = some v) : ∃ a v', p' = .pointer (some a) ∧ w.cell? a = some v' ∧ VRel P ι v v' := by
  cases hp <;> try (simp [ld1] at h; done)
  rename_i b o q hq hm
  obtain ⟨v', h1, h2⟩ := cell_rel hr hq h
  exact ⟨_, v', rfl, h1, h2⟩

theorem stN1_cell [Gl] {ι : Emb} {H H' : Hp} {w : World} {p p' v y y' : Value} (hr : HRel P ι H w) (hp : VRel P ι p p') (hy : VRel P ι y y') (hy1 : y.cells.toList = [y]) (hy2 : y'.cells.toList = [y']) (hy3 : oneC y = true) (hy4 : y'.oneCell' = true) (h : stN 1 p y H = some (v, H')) :
    v = undefV ∧ ∃ a u, p' = .pointer (some a) ∧ w.cell? a = some u ∧ w.frozen? a = false ∧ Stp P ι ι H H' w (w.setCell a y') := by
  unfold stN at h
  split at h
  · rename_i a
    split at h
    · obtain ⟨_, H1, hw, hv⟩ := M.bind_some h
      simp [M.ret] at hv
      obtain ⟨rfl, rfl⟩ := hv
      refine ⟨rfl, ?_⟩
      cases hp with
      | ptr b o q hq hm =>
        have hcx : LRel P ι y.cells.toList [y'] := by rw [← hy2]; exact hy.cells
        obtain ⟨w', hrun, hst⟩ := wr_ok hr hq hcx (by rw [hy1]; simpa using hy3) (by rw [hy1]; simp) hw
        have hf := hr.fact b q hq
        have hb : ∃ u, w.cell? ⟨q.blk, q.sh + o, none⟩ = some u := by
          unfold wr at hw
          split at hw
          · rename_i e cs hg
            split at hw
            · rename_i hlen
              have hlen : o + 1 ≤ cs.length := by rw [hy1] at hlen; exact hlen
              have hc : H.cell ⟨b, o, none⟩ = some cs[o] := by
                simp only [Hp.cell, hg]
                exact List.getElem?_eq_getElem (by omega)
              obtain ⟨v', h1, _⟩ := cell_rel hr hq hc
              exact ⟨v', h1⟩
            · simp at hw
          · simp at hw
        obtain ⟨u, hu⟩ := hb
        have hfr : w.frozen? ⟨q.blk, q.sh + o, none⟩ = false := by
          unfold Pl.Fact at hf
          simp only [hm] at hf
          obtain ⟨c, lo, hi, hc, hcs, hz, _⟩ := hf
          simp only [World.cell?, hc] at hu
          simp at hu
          obtain ⟨hlt, _⟩ := Array.getElem?_eq_some_iff.1 hu
          simp only [World.frozen?, hc]
          have := hz (q.sh + o) (by omega)
          simp only [Bool.and_eq_false_iff, decide_eq_false_iff_not]
          omega
        refine ⟨_, u, rfl, hu, hfr, ?_⟩
        have : w' = w.setCell ⟨q.blk, q.sh + o, none⟩ y' := by
          have h2 := hrun
          have hs : ∀ m, (store ⟨q.blk, q.sh + o, none⟩ y' m).run P w = .ok () (w.setCell ⟨q.blk, q.sh + o, none⟩ y') := fun m => by
            rw [run_store P w ⟨q.blk, q.sh + o, none⟩ y' m hy4, hu]; simp [hfr]
          have ha : (⟨q.blk, q.sh + o, none⟩ : Addr).add 0 = ⟨q.blk, q.sh + o, none⟩ := rfl
          simp only [storeCells, Sem.run_bind, ha, hs, Result.andThen, Sem.run_pure, Result.ok.injEq, true_and] at h2
          exact h2.symm
        rw [← this]; exact hst
    · simp [M.fail] at h
  · simp [M.fail] at h

section
variable {f : FuncId} {fn : Func} (hf : P.funcs[f]? = some fn) (hname : (fn.name == "runtime.NumGoroutine") = false) (hb : fn.body.isNone = true) (hn : Extern.findNext fn = none)
include hf hname hb hn

theorem atLoad_sound [Gl] (k : IntKind) (he : Extern.find fn = some (Extern.Atomic.loadT (.int k))) : FSound P f (atLoad k) := by
  intro ι H w args args' hr hl v H' hm
  unfold atLoad at hm
  split at hm
  · rename_i p
    obtain ⟨u, H1, h1, h2⟩ := M.bind_some hm
    obtain ⟨h3, rfl⟩ := M.look_some h1
    obtain ⟨p', rfl, hp⟩ := hl.inv1
    split at h2
    · rename_i k' x
      split at h2
      · rename_i hk; subst hk
        simp [M.ret] at h2
        obtain ⟨rfl, rfl⟩ := h2
        obtain ⟨a, v', rfl, hc, hv⟩ := ld1_cell hr hp h3
        cases hv
        exact .inl ⟨_, w, run_call_load hf hname hb hn k' he hc, ι, .int _ _, Stp.refl hr⟩
      · simp [M.fail] at h2
    · rename_i fk i c
      split at h2
      · rename_i hk; subst hk
        simp [M.ret] at h2
        obtain ⟨rfl, rfl⟩ := h2
        obtain ⟨a, v', rfl, hc, hv⟩ := ld1_cell hr hp h3
        cases hv
        exact .inl ⟨_, w, run_call_load hf hname hb hn (Tk.kd i) he hc, ι, .tok _ _ _, Stp.refl hr⟩
      · simp [M.fail] at h2
    · simp [M.fail] at h2
  · simp [M.fail] at hm

theorem atStore_sound [Gl] (he : Extern.find fn = some Extern.Atomic.storeT) : FSound P f atStore := by
  intro ι H w args args' hr hl v H' hm
  unfold atStore at hm
  split at hm
  · rename_i p k y
    obtain ⟨p', y', rfl, hp, hy⟩ := hl.inv2
    cases hy
    obtain ⟨rfl, a, u, rfl, hu, hz, hst⟩ := stN1_cell hr hp (.int _ _) rfl rfl rfl rfl hm
    exact .inl ⟨_, _, run_call_store hf hname hb hn he hu hz, ι, undef_rel, hst⟩
  · rename_i p fk i c
    obtain ⟨p', y', rfl, hp, hy⟩ := hl.inv2
    cases hy
    obtain ⟨rfl, a, u, rfl, hu, hz, hst⟩ := stN1_cell hr hp (.tok _ _ _) rfl rfl rfl rfl hm
    exact .inl ⟨_, _, run_call_store hf hname hb hn he hu hz, ι, undef_rel, hst⟩
  · simp [M.fail] at hm

theorem atAdd_sound [Gl] (k : IntKind) (he : Extern.find fn = some (Extern.Atomic.update (Op.intArith .add) k true)) : FSound P f (atAdd k) := by
  intro ι H w args args' hr hl v H' hm
  unfold atAdd at hm
  split at hm
  · rename_i p k2 y
    obtain ⟨u, H1, h1, h2⟩ := M.bind_some hm
    obtain ⟨h3, rfl⟩ := M.look_some h1
    obtain ⟨p', y', rfl, hp, hy⟩ := hl.inv2
    cases hy
    split at h2
    · rename_i k' x
      split at h2
      · rename_i hk; obtain ⟨rfl, rfl⟩ := hk
        obtain ⟨z, H2, h4, h5⟩ := M.bind_some h2
        simp [M.ret] at h5
        obtain ⟨rfl, rfl⟩ := h5
        obtain ⟨rfl, a, u, rfl, hu, hz, hst⟩ := stN1_cell hr hp (.int _ _) rfl rfl rfl rfl h4
        obtain ⟨a', v', e, hc, hv⟩ := ld1_cell hr hp h3
        cases e
        cases hv
        exact .inl ⟨_, _, run_call_add hf hname hb hn k2 he hc hz (by rfl), ι, .int _ _, hst⟩
      · simp [M.fail] at h2
    · simp [M.fail] at h2
  · simp [M.fail] at hm

end

end Go.Lk
