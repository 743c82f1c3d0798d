/- A call from an empty abstract heap, of plain arguments, that hands back a plain value: the world is as it was below. -/
import Derived.Test.YtpognhdhlbgliaaGreatDoorLkTok
namespace Go.Lk
variable {P : Program}
def H0 : Hp := ⟨0, .leaf⟩

theorem H0_get (b : Nat) : H0.get b = none := by
  unfold H0 Hp.get
  rfl

theorem hrel_empty [Gl] {w : World} (hg : ∀ g, Gl.dom g → ∃ o, w.heap[g]? = some o ∧ Gl.ok g o) : HRel P (fun _ => none) H0 w :=
  ⟨fun b p h => by simp at h, fun b p h => by simp at h, fun b x h => by rw [H0_get] at h; simp at h, fun b c x y p q h => by rw [H0_get] at h; simp at h, fun g hd => ⟨hg g hd, fun b p h => by simp at h⟩⟩

theorem own_empty [Gl] {n : Nat} : ¬ Own (fun _ => none) H0 n := fun ⟨b, x, p, h, _⟩ => by rw [H0_get] at h; simp at h

/-- A step from the empty heap leaves all that lay there. -/
theorem stp_of_empty [Gl] {ι ι' : Emb} {H H' : Hp} {w w' : World} (hr : HRel P ι H w) (h : Stp P (fun _ => none) ι' H0 H' w w') : Stp P ι ι H H w w' := by
  have hold : ∀ n, n < w.heap.size → w'.heap[n]? = w.heap[n]? := fun n hn => h.frame n hn own_empty
  refine ⟨⟨hr.dom, fun b p hb => (hr.fact b p hb).of_same (hold _ (hr.fact b p hb).lt), fun b x hb => ?_, hr.inj, hr.gl.of_same (fun b p hb => .inl ⟨b, p, hb, rfl⟩) fun g hd => hold g (hr.gl.lt hd)⟩,
    Ext.refl _, fun _ _ => rfl, Nat.le_refl _, h.os, h.tape, h.output, h.size, fun n hn _ => hold n hn, fun n hn => .inr hn, fun _ _ _ => Iff.rfl⟩
  obtain ⟨p, hp, hbr⟩ := hr.live b x hb
  exact ⟨p, hp, hbr.of_same (hold _ (hr.fact b p hp).lt)⟩

theorem LRel.noAddr_eq [Gl] {ι : Emb} {l l' : List Value} (h : LRel P ι l l') (hs : l.all noAddr = true) : l' = l := by
  apply List.ext_getElem?
  intro i
  cases hv : l[i]? with
  | none =>
    have : l.length ≤ i := by simpa using hv
    simp; rw [← h.1]; exact this
  | some v =>
    obtain ⟨v', hv', hr⟩ := h.get hv
    rw [hv', hr.noAddr_eq (List.all_eq_true.1 hs v (List.mem_of_getElem? hv))]

theorem LRel.noAddr_self [Gl] {ι : Emb} {l : List Value} (hs : l.all noAddr = true) : LRel P ι l l :=
  ⟨rfl, fun i v v' a b => by rw [a] at b; cases b; exact VRel.noAddr_self (List.all_eq_true.1 hs v (List.mem_of_getElem? a))⟩

theorem CallTo.mono {s : Sem Next} {w : World} {R R' : Value → World → Prop} (h : CallTo P s w R) (hi : ∀ v w', R v w' → R' v w') : CallTo P s w R' := by
  rcases h with ⟨v', w', h1, h2⟩ | ⟨f, args, h1, h2⟩
  · exact .inl ⟨v', w', h1, hi _ _ h2⟩
  · exact .inr ⟨f, args, h1, h2.mono fun e w' ⟨v', e', hr⟩ => ⟨v', e', hi _ _ hr⟩⟩

/-- Equality of plain values, by their bytes. -/
def eqV (a b : Value) : Bool := match a, b with
  | .agg x, .agg y => Nat.beq x.size y.size && (x.toList.zip y.toList).all fun p => eqS p.1 p.2
  | a, b => eqS a b
where eqS (a b : Value) : Bool := match a, b with
  | .bool x, .bool y => x == y
  | .int k x, .int l y => k == l && x == y
  | .string x, .string y => x.data.toList == y.data.toList
  | .pointer none, .pointer none => true
  | .slice none 0 0, .slice none 0 0 => true
  | .nilFunc, .nilFunc => true
  | .nilIface, .nilIface => true
  | _, _ => false

theorem eqS_eq {a b : Value} (h : eqV.eqS a b = true) : a = b := by
  unfold eqV.eqS at h
  split at h
  · simp at h; rw [h]
  · simp at h; rw [h.1, h.2]
  · rename_i x y
    have : x.data = y.data := by
      have h' : x.data.toList = y.data.toList := by simpa using h
      exact Array.toList_inj.1 h'
    cases x; cases y; simp at this; rw [this]
  · rfl
  · rfl
  · rfl
  · rfl
  · cases h

theorem eqV_eq [Gl] {a b : Value} (h : eqV a b = true) : a = b := by
  unfold eqV at h
  split at h
  · rename_i x y
    simp only [Bool.and_eq_true] at h
    obtain ⟨h1, h2⟩ := h
    congr 1
    apply Array.toList_inj.1
    apply List.ext_getElem?
    intro i
    have hs : x.toList.length = y.toList.length := by simpa using Nat.eq_of_beq_eq_true h1
    by_cases hi : i < x.toList.length
    · have hz : (x.toList.zip y.toList)[i]? = some (x.toList[i], y.toList[i]'(by omega)) := by
        rw [List.getElem?_eq_getElem (by simp; simp at hi hs; omega)]; simp
      have := List.all_eq_true.1 h2 _ (List.mem_of_getElem? hz)
      rw [List.getElem?_eq_getElem hi, List.getElem?_eq_getElem (by omega)]
      exact congrArg some (eqS_eq this)
    · rw [List.getElem?_eq_none (by omega), List.getElem?_eq_none (by omega)]
  · exact eqS_eq h

/-- Plain, or a tuple of plain values. -/
def noA2 (v : Value) : Bool := match v with
  | .tuple a => a.toList.all noAddr
  | v => noAddr v

theorem VRel.noA2_eq [Gl] {ι : Emb} {v v' : Value} (h : VRel P ι v v') (hs : noA2 v = true) : v' = v := by
  cases v with
  | tuple a =>
    obtain ⟨a', rfl, hl⟩ := h.tup_inv
    congr 1; exact Array.toList_inj.1 (hl.noAddr_eq (by simpa [noA2] using hs))
  | _ => exact h.noAddr_eq (by simpa [noA2] using hs)

theorem VRel.noA2_self [Gl] {ι : Emb} {v : Value} (hs : noA2 v = true) : VRel P ι v v := by
  cases v with
  | tuple a => exact VRel.tupL (l := a.toList) (l' := a.toList) (LRel.noAddr_self (by simpa [noA2] using hs))
  | _ => exact VRel.noAddr_self (by simpa [noA2] using hs)

def eqL : List Value → List Value → Bool
  | [], [] => true
  | a :: l, b :: m => match eqV a b with
    | true => eqL l m
    | false => false
  | _, _ => false

theorem eqL_eq [Gl] : ∀ {l m : List Value}, eqL l m = true → l = m
  | [], [], _ => rfl
  | a :: l, b :: m, h => by
    unfold eqL at h
    split at h
    · rename_i hv; rw [eqV_eq hv, eqL_eq h]
    · cases h
  | [], b :: m, h => by simp [eqL] at h
  | a :: l, [], h => by simp [eqL] at h

/-- A table of answers. -/
def memo (tab : List (List Value × Value)) (args : List Value) : M Value := match tab with
  | [] => M.fail
  | (a, v) :: r => match eqL a args with
    | true => M.ret v
    | false => memo r args

def MemoOK (m : List Value → M Value) (tab : List (List Value × Value)) : Prop :=
  ∀ p ∈ tab, p.1.all noAddr = true ∧ noA2 p.2 = true ∧ ∃ H', m p.1 H0 = some (p.2, H')

theorem memo_some [Gl] : ∀ {tab : List (List Value × Value)} {args : List Value} {H H' : Hp} {v : Value}, memo tab args H = some (v, H') → H' = H ∧ (args, v) ∈ tab
  | [], args, H, H', v, h => by simp [memo, M.fail] at h
  | (a, x) :: r, args, H, H', v, h => by
    unfold memo at h
    cases he : eqL a args with
    | true =>
      simp [he, M.ret] at h
      rw [← eqL_eq he]
      exact ⟨h.2.symm, by rw [h.1]; exact List.mem_cons_self⟩
    | false =>
      simp only [he] at h
      obtain ⟨h1, h2⟩ := memo_some h
      exact ⟨h1, List.mem_cons_of_mem _ h2⟩

/-- A table of answers ahead of a function's code. -/
def memoF [Tk] (P : Program) (f : FuncId) (tab : List (List Value × Value)) (C : Calc) (args : List Value) : M Value := fun H => match memo tab args H with
  | some r => some r
  | none => bodyOf P f C args H

theorem memo_sound [Gl] {f : FuncId} {m : List Value → M Value} (hm : FSound P f m) {tab : List (List Value × Value)} (ht : MemoOK m tab) : FSound P f (memo tab) := by
  intro ι H w args args' hr hl v H' h
  obtain ⟨rfl, hmem⟩ := memo_some h
  obtain ⟨h1, h2, H2, h3⟩ := ht _ hmem
  have ha : args'.toList = args := hl.noAddr_eq h1
  have hl0 : LRel P (fun _ => none) args args'.toList := by rw [ha]; exact LRel.noAddr_self h1
  refine (hm (fun _ => none) H0 w args args' (hrel_empty fun g hd => (hr.gl g hd).1) hl0 v H2 h3).mono fun v' w' ⟨ι', hv, hst⟩ => ⟨ι, ?_, stp_of_empty hr hst⟩
  rw [hv.noA2_eq h2]
  exact VRel.noA2_self h2

theorem memoF_sound [Gl] {f : FuncId} {m : List Value → M Value} (hm : FSound P f m) {tab : List (List Value × Value)} (ht : MemoOK m tab) (hx : P.follows .mixedOrders = true) (ho : okFn P f = true) {C : Calc} (hC : CSound P C) :
    FSound P f (memoF P f tab C) := by
  intro ι H w args args' hr hl v H' h
  unfold memoF at h
  cases hq : memo tab args H with
  | some r =>
    simp only [hq] at h
    exact memo_sound hm ht ι H w args args' hr hl v H' (by rw [hq]; exact h)
  | none =>
    simp only [hq] at h
    exact bodyOf_sound hC hx ho ι H w args args' hr hl v H' h

end Go.Lk
