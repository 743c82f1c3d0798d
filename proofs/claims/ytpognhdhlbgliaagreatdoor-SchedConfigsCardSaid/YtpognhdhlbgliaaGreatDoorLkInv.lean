/- A region that draws its order: the invariant of its run. -/
import Derived.Test.YtpognhdhlbgliaaGreatDoorLkReg
namespace Go.Lk
variable {P : Program}
/-- What is fixed while the region runs. -/
structure Rgn (P : Program) where
  C : Calc
  n : Nat
  ops : Array Oper
  base : Nat
  E : Nat → Env
  Hs : Nat → Hp
  V : Nat → Value
  ι0 : Emb
  H00 : Hp
  w0 : World

namespace Rgn
variable (g : Rgn P)

def L : List Oper := g.ops.toList
def m : Nat := g.ops.size

structure Good [Gl] : Prop where
  c : CSound P g.C
  ok : regOK P g.n g.L = true
  tr : Tr P g.C (anc g.L) g.L g.base g.L.length g.E g.Hs g.V
  base : ∀ i o, g.L[i]? = some o → isAlloc (kdOf P o.op) = true → g.H00.next ≤ g.base + i ∧ g.base + i < (g.Hs 0).next

def X (l : Array Bool) (i : Nat) : Prop := l.getD i false = true

structure Inv [Gl] (l : Array Bool) (a : Act) (w : World) (ι : Emb) (q : Nat) : Prop where
  lsz : l.size = g.m
  down : ∀ i j o, X l i → g.L[i]? = some o → inAnc (anc g.L) j i = true → X l j
  qle : q ≤ g.m
  comm : ∀ i, i < q → isL P g.L g.E i → X l i
  beyond : ∀ i o, q ≤ i → g.L[i]? = some o → X l i → isL P g.L g.E i → isAlloc (kdOf P o.op) = true
  st : Stp P g.ι0 ι g.H00 (g.Hs q) g.w0 w
  nx : (g.Hs 0).next ≤ (g.Hs q).next
  pend : ∀ i o t cs f, q ≤ i → g.L[i]? = some o → X l i → gW g.L (g.E i) o = true → isAlloc (kdOf P o.op) = true → allocOp P o.op (rhoE (g.E i)) = some (t, cs, f) →
    ∃ p, ι (g.base + i) = some p ∧ g.w0.heap.size ≤ p.blk ∧ BRel P ι (.row false t cs) p w ∧ (∀ b x pb, (g.Hs q).get b = some x → ι b = some pb → pb.blk ≠ p.blk) ∧
      ∀ j pj, j ≠ i → q ≤ j → isL P g.L g.E j → X l j → ι (g.base + j) = some pj → pj.blk ≠ p.blk
  notyet : ∀ i o, g.L[i]? = some o → isAlloc (kdOf P o.op) = true → ι (g.base + i) ≠ none → X l i ∧ gW g.L (g.E i) o = true
  asz : a.tmps.size = g.n
  defers : a.defers = []
  vals : ∀ t, (∃ i o, X l i ∧ g.L[i]? = some o ∧ o.dst = some t ∧ (∀ j oj, i < j → X l j → g.L[j]? = some oj → oj.dst ≠ some t) ∧ VRel P ι (g.V i) (a.tmps.getD t undef)) ∨
    ((∀ j oj, X l j → g.L[j]? = some oj → oj.dst ≠ some t) ∧ VRel P ι (g.E 0 t) (a.tmps.getD t undef))

variable {g}

theorem isL_L {i : Nat} {o : Oper} (ho : g.L[i]? = some o) (h : isL P g.L g.E i) : gW g.L (g.E i) o = true ∧ (isEff (kdOf P o.op) = true ∨ isAlloc (kdOf P o.op) = true) := by
  obtain ⟨o', h1, h2⟩ := h
  rw [ho] at h1; cases h1; exact h2

theorem len_m : g.L.length = g.m := by simp [L, m]

theorem L_lt {i : Nat} {o : Oper} (h : g.L[i]? = some o) : i < g.m := by
  rw [← len_m]
  rcases Nat.lt_or_ge i g.L.length with h' | h'
  · exact h'
  · rw [List.getElem?_eq_none h'] at h; cases h

theorem L_get {i : Nat} (h : i < g.m) : ∃ o, g.L[i]? = some o := ⟨g.L[i]'(by rw [len_m]; exact h), List.getElem?_eq_getElem _⟩

/-- An operation that is none of those that change the heap leaves it. -/
theorem step_same [Gl] (hg : g.Good) {i : Nat} {o : Oper} (ho : g.L[i]? = some o) (h : ¬ isL P g.L g.E i) : g.Hs (i + 1) = g.Hs i := by
  have hs := hg.tr.step i o (by rw [len_m]; exact L_lt ho) ho
  unfold StepOK at hs
  split at hs
  · rename_i hw
    cases hk : kdOf P o.op with
    | pure => simp only [hk] at hs; exact hs.2
    | read => simp only [hk] at hs; exact hs.2
    | alloc => exact absurd ⟨o, ho, hw, .inr (by simp [hk, isAlloc])⟩ h
    | eff => exact absurd ⟨o, ho, hw, .inl (by simp [hk, isEff])⟩ h
    | call => exact absurd ⟨o, ho, hw, .inl (by simp [hk, isEff])⟩ h
  · exact hs.2

theorem step_alloc [Gl] (hg : g.Good) {i : Nat} {o : Oper} (ho : g.L[i]? = some o) (hw : gW g.L (g.E i) o = true) (hk : isAlloc (kdOf P o.op) = true) :
    ∃ t cs f, allocOp P o.op (rhoE (g.E i)) = some (t, cs, f) ∧ g.V i = f (g.base + i) ∧ (g.Hs i).get (g.base + i) = none ∧ g.Hs (i + 1) = (g.Hs i).set (g.base + i) (.row false t cs) := by
  have hs := hg.tr.step i o (by rw [len_m]; exact L_lt ho) ho
  unfold StepOK at hs
  rw [if_pos hw] at hs
  cases hk2 : kdOf P o.op <;> simp [hk2, isAlloc] at hk
  simp only [hk2] at hs
  exact hs

/-- One more is committed. -/
theorem Inv.commit [Gl] (hg : g.Good) {l : Array Bool} {a : Act} {w : World} {ι : Emb} {q : Nat} (h : g.Inv l a w ι q) (hq : q < g.m) (hx : isL P g.L g.E q → X l q) : g.Inv l a w ι (q + 1) := by
  obtain ⟨o, ho⟩ := L_get hq
  by_cases hL : isL P g.L g.E q
  · have hal := h.beyond q o (Nat.le_refl _) ho (hx hL) hL
    have hw := (isL_L ho hL).1
    obtain ⟨t, cs, f, h1, h2, h3, h4⟩ := step_alloc hg ho hw hal
    obtain ⟨p, p1, p2, p3, p4, p5⟩ := h.pend q o t cs f (Nat.le_refl _) ho (hx hL) hw hal h1
    have hget : ∀ b, b ≠ g.base + q → (g.Hs (q + 1)).get b = (g.Hs q).get b := fun b hb => by rw [h4]; exact Hp.get_set_ne _ _ hb
    have hget0 : (g.Hs (q + 1)).get (g.base + q) = some (.row false t cs) := by rw [h4]; simp
    have hnx : (g.Hs (q + 1)).next = (g.Hs q).next := by rw [h4]; rfl
    have hrel : HRel P ι (g.Hs (q + 1)) w := by
      refine ⟨fun b pb hb => by rw [hnx]; exact h.st.rel.dom b pb hb, h.st.rel.fact, fun b x hb => ?_, fun b c x y pb pc hb hc hpb hpc e => ?_, h.st.rel.gl⟩
      · by_cases e : b = g.base + q
        · subst e; rw [hget0] at hb; cases hb; exact ⟨p, p1, p3⟩
        · rw [hget b e] at hb; exact h.st.rel.live b x hb
      · by_cases eb : b = g.base + q
        · by_cases ec : c = g.base + q
          · rw [eb, ec]
          · subst eb; rw [p1] at hpb; cases hpb
            rw [hget c ec] at hc
            exact absurd e.symm (p4 c y pc hc hpc)
        · by_cases ec : c = g.base + q
          · subst ec; rw [p1] at hpc; cases hpc
            rw [hget b eb] at hb
            exact absurd e (p4 b x pb hb hpb)
          · rw [hget b eb] at hb; rw [hget c ec] at hc
            exact h.st.rel.inj b c x y pb pc hb hc hpb hpc e
    refine { h with qle := hq, comm := fun i hi hi2 => ?_, beyond := fun i oi hi => h.beyond i oi (by omega), st := ?_, nx := by rw [hnx]; exact h.nx, pend := fun i oi t' cs' f' hi hoi hxi hwi hai hal' => ?_ }
    · by_cases e : i = q
      · subst e; exact hx hL
      · exact h.comm i (by omega) hi2
    · refine ⟨hrel, h.st.ext, h.st.old, by rw [hnx]; exact h.st.next, h.st.os, h.st.tape, h.st.output, h.st.size, h.st.frame, fun k hk => ?_, fun b x hb => ?_⟩
      · obtain ⟨b, x, pb, k1, k2, k3, rfl⟩ := hk
        by_cases e : b = g.base + q
        · subst e; rw [p1] at k3; cases k3; exact .inl p2
        · rw [hget b e] at k1; exact h.st.own _ ⟨b, x, pb, k1, k2, k3, rfl⟩
      · by_cases e : b = g.base + q
        · subst e
          rw [hget0]
          constructor
          · intro e; cases e; simp [Blk.ro] at hb
          · intro e; have := (h.st.roSt _ x hb).2 e; rw [h3] at this; cases this
        · rw [hget b e]; exact h.st.roSt b x hb
    · obtain ⟨p', k1, k2, k3, k4, k5⟩ := h.pend i oi t' cs' f' (by omega) hoi hxi hwi hai hal'
      refine ⟨p', k1, k2, k3, fun b x pb hb hpb => ?_, fun j pj hj hqj => k5 j pj hj (by omega)⟩
      by_cases e : b = g.base + q
      · subst e; rw [p1] at hpb; cases hpb
        have := p5 i p' (by omega) (by omega) ⟨oi, hoi, hwi, .inr hai⟩ hxi k1
        exact fun e => this e.symm
      · rw [hget b e] at hb; exact k4 b x pb hb hpb
  · have hs := step_same hg ho hL
    refine { h with qle := hq, comm := fun i hi hi2 => ?_, beyond := fun i oi hi => h.beyond i oi (by omega), st := by rw [hs]; exact h.st, nx := by rw [hs]; exact h.nx, pend := fun i oi t' cs' f' hi hoi hxi hwi hai hal' => ?_ }
    · by_cases e : i = q
      · subst e; exact absurd hi2 hL
      · exact h.comm i (by omega) hi2
    · obtain ⟨p', k1, k2, k3, k4, k5⟩ := h.pend i oi t' cs' f' (by omega) hoi hxi hwi hai hal'
      exact ⟨p', k1, k2, k3, by rw [hs]; exact k4, fun j pj hj hqj => k5 j pj hj (by omega)⟩

theorem Inv.adv [Gl] (hg : g.Good) {l : Array Bool} {a : Act} {w : World} {ι : Emb} : ∀ (d q : Nat), g.m - q = d → g.Inv l a w ι q → ∃ q', g.Inv l a w ι q' ∧ (q' = g.m ∨ (q' < g.m ∧ isL P g.L g.E q' ∧ ¬ X l q')) := by
  intro d
  induction d with
  | zero => intro q hd h; exact ⟨q, h, .inl (by have := h.qle; omega)⟩
  | succ d ih =>
    intro q hd h
    by_cases hc : isL P g.L g.E q ∧ ¬ X l q
    · exact ⟨q, h, .inr ⟨by omega, hc⟩⟩
    · exact ih (q + 1) (by omega) (h.commit hg (by omega) (fun hL => Classical.byContradiction fun hx => hc ⟨hL, hx⟩))

/-- The value of a slot ahead of an operation, by the text. -/
theorem env_last [Gl] (hg : g.Good) (t : Tmp) : ∀ i, i ≤ g.m → (∃ j o, j < i ∧ g.L[j]? = some o ∧ o.dst = some t ∧ (∀ k ok, j < k → k < i → g.L[k]? = some ok → ok.dst ≠ some t) ∧ g.E i t = g.V j) ∨
    ((∀ k ok, k < i → g.L[k]? = some ok → ok.dst ≠ some t) ∧ g.E i t = g.E 0 t) := by
  intro i
  induction i with
  | zero => intro _; exact .inr ⟨fun k ok h => by omega, rfl⟩
  | succ i ih =>
    intro hi
    obtain ⟨o, ho⟩ := L_get (g := g) (i := i) (by omega)
    have he := hg.tr.env i o (by rw [len_m]; omega) ho
    by_cases hd : o.dst = some t
    · refine .inl ⟨i, o, by omega, ho, hd, fun k ok h1 h2 => by omega, ?_⟩
      rw [he, hd]; simp only [updO, upd]
      rw [Nat.beq_refl t]
    · have hsame : g.E (i + 1) t = g.E i t := by
        rw [he]
        cases hod : o.dst with
        | none => rfl
        | some d =>
          have hne : t ≠ d := fun e => hd (by rw [hod, e])
          simp only [updO, upd]
          cases hb : Nat.beq t d with
          | true => exact absurd (Nat.eq_of_beq_eq_true hb) hne
          | false => rfl
      rcases ih (by omega) with ⟨j, oj, h1, h2, h3, h4, h5⟩ | ⟨h1, h2⟩
      · refine .inl ⟨j, oj, by omega, h2, h3, fun k ok hk1 hk2 hok => ?_, by rw [hsame]; exact h5⟩
        by_cases e : k = i
        · subst e; rw [ho] at hok; cases hok; exact hd
        · exact h4 k ok hk1 (by omega) hok
      · refine .inr ⟨fun k ok hk hok => ?_, by rw [hsame]; exact h2⟩
        by_cases e : k = i
        · subst e; rw [ho] at hok; cases hok; exact hd
        · exact h1 k ok (by omega) hok

/-- An operation that may come next finds in its slots what it finds in the order of the text. -/
theorem Inv.uses [Gl] (hg : g.Good) {l : Array Bool} {a : Act} {w : World} {ι : Emb} {q : Nat} (h : g.Inv l a w ι q) {i : Nat} {o : Oper} (ho : g.L[i]? = some o) (hx : ¬ X l i)
    (hready : ∀ j, inAnc (anc g.L) j i = true → X l j) {t : Tmp} (ht : t ∈ usesOf g.L o) : VRel P ι (g.E i t) (a.tmps.getD t undef) := by
  have hbefore : ∀ j oj, j < i → g.L[j]? = some oj → oj.dst = some t → X l j := fun j oj hj hoj hd =>
    hready j (regOK_clash hg.ok ho hoj hj (.inl ⟨t, hd, .inl ht⟩))
  have hafter : ∀ j oj, i < j → g.L[j]? = some oj → oj.dst = some t → ¬ X l j := fun j oj hj hoj hd hxj =>
    hx (h.down j i oj hxj hoj (regOK_clash hg.ok hoj ho hj (.inr ⟨t, hd, ht⟩)))
  rcases env_last hg t i (by have := L_lt ho; omega) with ⟨j, oj, h1, h2, h3, h4, h5⟩ | ⟨h1, h2⟩
  · rw [h5]
    have hxj := hbefore j oj h1 h2 h3
    rcases h.vals t with ⟨k, ok, k1, k2, k3, k4, k5⟩ | ⟨k1, _⟩
    · have : k = j := by
        rcases Nat.lt_trichotomy k j with h | h | h
        · exact absurd h3 (k4 j oj h hxj h2)
        · exact h
        · rcases Nat.lt_trichotomy k i with hki | hki | hki
          · exact absurd k3 (h4 k ok h hki k2)
          · subst hki; exact absurd k1 hx
          · exact absurd k1 (hafter k ok hki k2 k3)
      subst this; exact k5
    · exact absurd h3 (k1 j oj hxj h2)
  · rw [h2]
    rcases h.vals t with ⟨k, ok, k1, k2, k3, k4, k5⟩ | ⟨_, k2⟩
    · exfalso
      rcases Nat.lt_trichotomy k i with hki | hki | hki
      · exact h1 k ok hki k2 k3
      · subst hki; exact hx k1
      · exact hafter k ok hki k2 k3 k1
    · exact k2

def Sof (L : List Oper) (o : Oper) (x : Operand) : Bool := okOpd x && (match x with
  | .tmp t => hasT (usesOf L o) t
  | _ => true)

theorem hasT_of {l : List Tmp} {t : Tmp} (h : hasT l t = true) : t ∈ l := by
  simp only [hasT, List.any_eq_true] at h
  obtain ⟨u, hu, hb⟩ := h
  have := Nat.eq_of_beq_eq_true hb; subst this; exact hu

theorem Inv.rho [Gl] (hg : g.Good) {l : Array Bool} {a : Act} {w : World} {ι : Emb} {q : Nat} (h : g.Inv l a w ι q) {i : Nat} {o : Oper} (ho : g.L[i]? = some o) (hx : ¬ X l i)
    (hready : ∀ j, inAnc (anc g.L) j i = true → X l j) : RhoRel P ι (Sof g.L o) (rhoE (g.E i)) a.eval := by
  intro x hs
  simp only [Sof, Bool.and_eq_true] at hs
  cases x with
  | tmp t => exact h.uses hg ho hx hready (hasT_of hs.2)
  | const v => exact VRel.noAddr_self hs.1
  | global _ => simp [okOpd] at hs
  | func f => exact .func f _ _ _ _ rfl (fun i v v' h => by simp at h) rfl (fun i v v' h => by simp at h)

theorem sof_all [Gl] (hg : g.Good) {i : Nat} {o : Oper} (ho : g.L[i]? = some o) : ∀ x ∈ o.op.operands.toList, Sof g.L o x = true := by
  intro x hx
  have hok := (okOp_some (regOK_op hg.ok ho)).1 x hx
  simp only [Sof, hok, Bool.true_and]
  cases x with
  | tmp t =>
    refine hasT_mem ?_
    simp only [usesOf, List.mem_append, List.mem_filterMap]
    exact .inl ⟨.tmp t, hx, rfl⟩
  | _ => rfl

/-- The guard is seen alike. -/
theorem Inv.guard [Gl] (hg : g.Good) {l : Array Bool} {a : Act} {w : World} {ι : Emb} {q : Nat} (h : g.Inv l a w ι q) {i : Nat} {o : Oper} (ho : g.L[i]? = some o) (hx : ¬ X l i)
    (hready : ∀ j, inAnc (anc g.L) j i = true → X l j) : Region.wanted o (yielded g.ops a.tmps) = gW g.L (g.E i) o := by
  unfold gW
  cases hgd : o.guard with
  | none => simp [Region.wanted, hgd]
  | some gw =>
    obtain ⟨gj, want⟩ := gw
    simp only
    have hda : dstAt g.L gj = (g.ops[gj]?).bind (·.dst) := by
      simp only [dstAt, L]; rw [Array.getElem?_toList]; cases g.ops[gj]? <;> rfl
    rcases Option.eq_none_or_eq_some (dstAt g.L gj) with hd | ⟨d, hd⟩
    · simp only [hd]
      have : yielded g.ops a.tmps gj = none := by simp [yielded, ← hda, hd]
      simp [Region.wanted, hgd, this]
    · have hv := h.uses hg ho hx hready (t := d) (by simp [usesOf, hgd, hd])
      simp only [hd]
      have hy : yielded g.ops a.tmps gj = match g.E i d with | .bool b => some b | _ => none := by
        simp only [yielded, ← hda, hd, Option.bind_some]
        simp only [Array.getD_eq_getD_getElem?] at hv
        cases ht : a.tmps[d]? with
        | none =>
          rw [ht] at hv
          simp [undef] at hv
          generalize g.E i d = x at hv ⊢
          cases hv; rfl
        | some u =>
          rw [ht] at hv
          simp at hv
          generalize g.E i d = x at hv ⊢
          cases hv <;> rfl
      simp only [Region.wanted, hgd, hy]
      generalize g.E i d = x
      cases x <;> simp

end Rgn
end Go.Lk
