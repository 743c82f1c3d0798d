/- A region that draws its order: what the run in the order of the text tells. -/
import Derived.Test.YtpognhdhlbgliaaGreatDoorLkOp
namespace Go.Lk
variable {P : Program}

/-- Is the operation to be carried out? -/
def gW (L : List Oper) (env : Env) (o : Oper) : Bool := match o.guard with
  | none => true
  | some (g, want) => match dstAt L g with
    | some d => match env d with
      | .bool b => b == want
      | _ => false
    | none => false

theorem guarded_eq (L : List Oper) (o : Oper) (env : Env) (m : M Value) : guarded L o env m = if gW L env o = true then m else M.ret undefV := by
  unfold guarded gW
  cases o.guard with
  | none => rfl
  | some gw =>
    obtain ⟨g, want⟩ := gw
    rcases Option.eq_none_or_eq_some (dstAt L g) with hd | ⟨d, hd⟩
    · simp only [hd]; rfl
    · simp only [hd, gd]
      rcases Classical.em (∃ b, env d = .bool b) with ⟨b, hb⟩ | hb
      · simp only [hb]
        cases hbw : (b == want) <;> simp
      · have hn : ∀ b, env d ≠ .bool b := fun b e => hb ⟨b, e⟩
        generalize env d = x at hn
        cases x <;> first | rfl | exact absurd rfl (hn _)

theorem guardedU_eq (L : List Oper) (o : Oper) (env : Env) (m : M Unit) : guardedU L o env m = if gW L env o = true then m else M.ret () := by
  unfold guardedU gW
  cases o.guard with
  | none => rfl
  | some gw =>
    obtain ⟨g, want⟩ := gw
    rcases Option.eq_none_or_eq_some (dstAt L g) with hd | ⟨d, hd⟩
    · simp only [hd]; rfl
    · simp only [hd, gdU]
      rcases Classical.em (∃ b, env d = .bool b) with ⟨b, hb⟩ | hb
      · simp only [hb]
        cases hbw : (b == want) <;> simp
      · have hn : ∀ b, env d ≠ .bool b := fun b e => hb ⟨b, e⟩
        generalize env d = x at hn
        cases x <;> first | rfl | exact absurd rfl (hn _)

theorem aeq_some {a b : Addr} (h : aeq a b = true) : a = b := by
  cases a; cases b
  simp [aeq] at h
  obtain ⟨⟨rfl, rfl⟩, rfl⟩ := h
  rfl

theorem veq1_some {a b : Value} (h : veq1 a b = true) : a = b := by
  unfold veq1 at h
  split at h <;> first
    | (simp at h; done)
    | (simp at h; subst h; rfl)
    | (simp at h; obtain ⟨rfl, rfl⟩ := h; rfl)
    | (have := aeq_some h; subst this; rfl)
    | rfl
    | (simp only [Bool.and_eq_true] at h
       obtain ⟨⟨h1, h2⟩, h3⟩ := h
       have := of_decide_eq_true h1
       have := Nat.eq_of_beq_eq_true h2
       have := Nat.eq_of_beq_eq_true h3
       subst_vars; rfl)
    | (simp only [Bool.and_eq_true] at h
       obtain ⟨⟨h1, h2⟩, h3⟩ := h
       have := aeq_some h1
       have := Nat.eq_of_beq_eq_true h2
       have := Nat.eq_of_beq_eq_true h3
       subst_vars; rfl)

theorem veqL_some : ∀ {l m : List Value}, veqL l m = true → l = m
  | [], [], _ => rfl
  | a :: l, b :: m, h => by
    simp [veqL] at h
    rw [veq1_some h.1, veqL_some h.2]
  | [], _ :: _, h => by simp [veqL] at h
  | _ :: _, [], h => by simp [veqL] at h

theorem veq_some {a b : Value} (h : veq a b = true) : a = b := by
  unfold veq at h
  split at h
  · congr 1; exact Array.toList_inj.1 (veqL_some h)
  · exact veq1_some h

/-- A look changes nothing. -/
def IsChk (m : M Unit) : Prop := ∀ H r, m H = some r → r = ((), H)

theorem chk_is (f : Hp → Option Value) (v : Value) : IsChk (chk f v) := by
  intro H r h
  unfold chk at h
  split at h
  · split at h
    · simp at h; exact h.symm
    · simp at h
  · simp at h
theorem chkAt_is (H0 : Hp) (f : Hp → Option Value) (v : Value) : IsChk (chkAt H0 f v) := by
  intro H r h
  unfold chkAt at h
  split at h
  · split at h
    · simp at h; exact h.symm
    · simp at h
  · simp at h
theorem guardedU_is (L : List Oper) (o : Oper) (env : Env) {m : M Unit} (hm : IsChk m) : IsChk (guardedU L o env m) := by
  rw [guardedU_eq]
  split
  · exact hm
  · intro H r h; simp [M.ret] at h; exact h.symm

theorem chk_some {f : Hp → Option Value} {v : Value} {H : Hp} {r : Unit × Hp} (h : chk f v H = some r) : f H = some v := by
  unfold chk at h
  split at h
  · split at h
    · rename_i u hu b hv; rw [hu, veq_some hv]
    · simp at h
  · simp at h
theorem chkAt_some {H0 : Hp} {f : Hp → Option Value} {v : Value} {H : Hp} {r : Unit × Hp} (h : chkAt H0 f v H = some r) : f H0 = some v := by
  unfold chkAt at h
  split at h
  · split at h
    · rename_i u hu b hv; rw [hu, veq_some hv]
    · simp at h
  · simp at h

theorem seqU_ok : ∀ (l : List (M Unit)) {H : Hp} {r : Unit × Hp}, (∀ m ∈ l, IsChk m) → seqU l H = some r → r = ((), H) ∧ ∀ m ∈ l, m H = some ((), H)
  | [], H, r, _, h => by simp [seqU, M.ret] at h; exact ⟨h.symm, by simp⟩
  | [m], H, r, hl, h => by
    simp only [seqU] at h
    have := hl m (by simp) H r h
    subst this
    exact ⟨rfl, by simpa using h⟩
  | m :: m2 :: l, H, r, hl, h => by
    simp only [seqU] at h
    obtain ⟨u, H1, h1, h2⟩ := M.bind_some h
    have e := hl m (by simp) H _ h1
    cases e
    obtain ⟨e2, h3⟩ := seqU_ok (m2 :: l) (fun x hx => hl x (by simp at hx ⊢; exact .inr hx)) h2
    refine ⟨e2, fun x hx => ?_⟩
    simp only [List.mem_cons] at hx
    rcases hx with rfl | hx
    · exact h1
    · exact h3 x (by simpa using hx)

theorem withLooks_ok {R : Type} {l : List (M Unit)} {k : M R} {H : Hp} {r : R × Hp} (hl : ∀ m ∈ l, IsChk m) (h : withLooks l k H = some r) : (∀ m ∈ l, m H = some ((), H)) ∧ k H = some r := by
  unfold withLooks at h
  split at h
  · exact ⟨by simp, h⟩
  · obtain ⟨u, H1, h1, h2⟩ := M.bind_some h
    obtain ⟨e, h3⟩ := seqU_ok _ hl h1
    cases e
    exact ⟨h3, h2⟩

/-- Is it an operation that changes the abstract heap, carried out? -/
def isL (P : Program) (L : List Oper) (E : Nat → Env) (i : Nat) : Prop := ∃ o, L[i]? = some o ∧ gW L (E i) o = true ∧ (isEff (kdOf P o.op) = true ∨ isAlloc (kdOf P o.op) = true)

def StepOK [Gl] (P : Program) (C : Calc) (L : List Oper) (base i : Nat) (o : Oper) (env : Env) (H : Hp) (v : Value) (H' : Hp) : Prop :=
  if gW L env o = true then
    match kdOf P o.op with
    | .pure => pureOp P o.op (rhoE env) = some v ∧ H' = H
    | .read => readOp P o.op (rhoE env) H = some v ∧ H' = H
    | .alloc => ∃ t cs f, allocOp P o.op (rhoE env) = some (t, cs, f) ∧ v = f (base + i) ∧ H.get (base + i) = none ∧ H' = H.set (base + i) (.row false t cs)
    | .eff => effOp P o.op (rhoE env) H = some (v, H')
    | .call => callOp P C o.op (rhoE env) H = some (v, H')
  else v = undefV ∧ H' = H

/-- What is known of the operations ahead of m. -/
structure Tr [Gl] (P : Program) (C : Calc) (A : List Nat) (L : List Oper) (base : Nat) (m : Nat) (E : Nat → Env) (Hs : Nat → Hp) (V : Nat → Value) : Prop where
  step : ∀ i o, i < m → L[i]? = some o → StepOK P C L base i o (E i) (Hs i) (V i) (Hs (i + 1))
  env : ∀ i o, i < m → L[i]? = some o → E (i + 1) = updO (E i) o.dst (V i)
  behind : ∀ i j oi oj, i < m → j < i → L[i]? = some oi → L[j]? = some oj → isEff (kdOf P oi.op) = true → isRead (kdOf P oj.op) = true → gW L (E j) oj = true →
    inAnc A j i = false → readOp P oj.op (rhoE (E j)) (Hs (i + 1)) = some (V j)
  ahead : ∀ i j oi oj, j < m → i < j → L[i]? = some oi → L[j]? = some oj → isEff (kdOf P oi.op) = true → isRead (kdOf P oj.op) = true → gW L (E j) oj = true →
    inAnc A i j = false → readOp P oj.op (rhoE (E j)) (Hs i) = some (V j)

def bump1 {α : Type} (f : Nat → α) (i : Nat) (x : α) : Nat → α := fun j => if j = i then x else f j
theorem bump1_same {α : Type} (f : Nat → α) (i : Nat) (x : α) : bump1 f i x i = x := by simp [bump1]
theorem bump1_ne {α : Type} (f : Nat → α) {i j : Nat} (x : α) (h : j ≠ i) : bump1 f i x j = f j := by simp [bump1, h]

theorem Tr.next [Gl] {C : Calc} {A : List Nat} {L : List Oper} {base m : Nat} {E : Nat → Env} {Hs : Nat → Hp} {V : Nat → Value} (h : Tr P C A L base m E Hs V) {o : Oper} {v : Value} {H' : Hp}
    (ho : L[m]? = some o) (hst : StepOK P C L base m o (E m) (Hs m) v H')
    (hb : isEff (kdOf P o.op) = true → ∀ j oj, j < m → L[j]? = some oj → isRead (kdOf P oj.op) = true → gW L (E j) oj = true → inAnc A j m = false → readOp P oj.op (rhoE (E j)) H' = some (V j))
    (ha : isRead (kdOf P o.op) = true → gW L (E m) o = true → ∀ i oi, i < m → L[i]? = some oi → isEff (kdOf P oi.op) = true → inAnc A i m = false → readOp P o.op (rhoE (E m)) (Hs i) = some v) :
    Tr P C A L base (m + 1) (bump1 E (m + 1) (updO (E m) o.dst v)) (bump1 Hs (m + 1) H') (bump1 V m v) := by
  have e1 : ∀ i, i ≤ m → bump1 E (m + 1) (updO (E m) o.dst v) i = E i := fun i hi => bump1_ne _ _ (by omega)
  have e2 : ∀ i, i ≤ m → bump1 Hs (m + 1) H' i = Hs i := fun i hi => bump1_ne _ _ (by omega)
  have e3 : ∀ i, i < m → bump1 V m v i = V i := fun i hi => bump1_ne _ _ (by omega)
  refine ⟨fun i oi hi hoi => ?_, fun i oi hi hoi => ?_, fun i j oi oj hi hj hoi hoj k1 k2 k3 k4 => ?_, fun i j oi oj hj hi hoi hoj k1 k2 k3 k4 => ?_⟩
  · by_cases e : i = m
    · subst e
      rw [ho] at hoi; cases hoi
      rw [e1 i (Nat.le_refl _), e2 i (Nat.le_refl _), bump1_same, bump1_same]; exact hst
    · rw [e1 i (by omega), e2 i (by omega), e2 (i + 1) (by omega), e3 i (by omega)]
      exact h.step i oi (by omega) hoi
  · by_cases e : i = m
    · subst e
      rw [ho] at hoi; cases hoi
      rw [e1 i (Nat.le_refl _), bump1_same, bump1_same]
    · rw [e1 i (by omega), e1 (i + 1) (by omega), e3 i (by omega)]
      exact h.env i oi (by omega) hoi
  · rw [e1 j (by omega)] at k3 ⊢
    rw [e3 j (by omega)]
    by_cases e : i = m
    · subst e
      rw [ho] at hoi; cases hoi
      rw [bump1_same]
      exact hb k1 j oj hj hoj k2 k3 k4
    · rw [e2 (i + 1) (by omega)]
      exact h.behind i j oi oj (by omega) hj hoi hoj k1 k2 k3 k4
  · rw [e1 j (by omega)] at k3 ⊢
    rw [e2 i (by omega)]
    by_cases e : j = m
    · subst e
      rw [ho] at hoj; cases hoj
      rw [bump1_same]
      exact ha k2 k3 i oi hi hoi k1 k4
    · rw [e3 j (by omega)]
      exact h.ahead i j oi oj (by omega) hi hoi hoj k1 k2 k3 k4

theorem denOpsD_trace [Gl] {R : Type} {C : Calc} {A : List Nat} {L : List Oper} {base : Nat} {k : Env → M R} {X : R × Hp} :
    ∀ (rest : List Oper) (i : Nat) (rs : List Rd) (es : List (Nat × Hp)) (E : Nat → Env) (Hs : Nat → Hp) (V : Nat → Value), L = L.take i ++ rest → i ≤ L.length → Tr P C A L base i E Hs V →
      (∀ j oj, j < i → L[j]? = some oj → isRead (kdOf P oj.op) = true → (⟨j, oj, E j, V j⟩ : Rd) ∈ rs) →
      (∀ j oj, j < i → L[j]? = some oj → isEff (kdOf P oj.op) = true → needsHp P A j (L.drop (j + 1)) = true → (j, Hs j) ∈ es) →
      denOpsD P C A L base rest i rs es k (E i) (Hs i) = some X →
      ∃ E' Hs' V', Tr P C A L base L.length E' Hs' V' ∧ E' 0 = E 0 ∧ Hs' 0 = Hs 0 ∧ k (E' L.length) (Hs' L.length) = some X := by
  intro rest
  induction rest with
  | nil =>
    intro i rs es E Hs V hL hi hT _ _ h
    simp only [denOpsD] at h
    have hil : L.length = i := by
      have := congrArg List.length hL
      simp at this; omega
    rw [← hil] at hT h
    exact ⟨E, Hs, V, hT, rfl, rfl, h⟩
  | cons o rest ih =>
    intro i rs es E Hs V hL hi hT hrs hes h
    have hlen : i < L.length := by
      have := congrArg List.length hL
      simp at this; omega
    have ho : L[i]? = some o := by
      rw [hL, List.getElem?_append_right (by simp; omega)]
      simp [Nat.min_eq_left hi]
    have hL' : L = L.take (i + 1) ++ rest := by
      rw [List.take_succ_eq_append_getElem hlen]
      have : L[i] = o := by rw [List.getElem?_eq_getElem hlen] at ho; simpa using ho
      rw [this, List.append_assoc]; exact hL
    have hdrop : L.drop (i + 1) = rest := by
      have h2 : (L.take (i + 1) ++ rest).drop (i + 1) = rest := by
        have hl : (L.take (i + 1)).length = i + 1 := by simp; omega
        rw [List.drop_append_of_le_length (by omega), List.drop_eq_nil_of_le (by omega)]; rfl
      rw [← hL'] at h2; exact h2
    -- going on behind one operation
    have go : ∀ (v : Value) (H' : Hp) (rs' : List Rd) (es' : List (Nat × Hp)), StepOK P C L base i o (E i) (Hs i) v H' →
        (isEff (kdOf P o.op) = true → ∀ j oj, j < i → L[j]? = some oj → isRead (kdOf P oj.op) = true → gW L (E j) oj = true → inAnc A j i = false → readOp P oj.op (rhoE (E j)) H' = some (V j)) →
        (isRead (kdOf P o.op) = true → gW L (E i) o = true → ∀ j oj, j < i → L[j]? = some oj → isEff (kdOf P oj.op) = true → inAnc A j i = false → readOp P o.op (rhoE (E i)) (Hs j) = some v) →
        (∀ r ∈ rs, r ∈ rs') → (∀ r ∈ es, r ∈ es') → (isRead (kdOf P o.op) = true → (⟨i, o, E i, v⟩ : Rd) ∈ rs') →
        (isEff (kdOf P o.op) = true → needsHp P A i rest = true → (i, Hs i) ∈ es') →
        denOpsD P C A L base rest (i + 1) rs' es' k (updO (E i) o.dst v) H' = some X →
        ∃ E' Hs' V', Tr P C A L base L.length E' Hs' V' ∧ E' 0 = E 0 ∧ Hs' 0 = Hs 0 ∧ k (E' L.length) (Hs' L.length) = some X := by
      intro v H' rs' es' hstep hb ha hrs' hes' hr0 he0 hk
      have hT' := hT.next ho hstep hb ha
      have k1 : ∀ j oj, j < i + 1 → L[j]? = some oj → isRead (kdOf P oj.op) = true → (⟨j, oj, bump1 E (i + 1) (updO (E i) o.dst v) j, bump1 V i v j⟩ : Rd) ∈ rs' := by
        intro j oj hj hoj hrd
        rw [bump1_ne _ _ (by omega : j ≠ i + 1)]
        by_cases e : j = i
        · subst e; rw [ho] at hoj; cases hoj
          rw [bump1_same]; exact hr0 hrd
        · rw [bump1_ne _ _ e]; exact hrs' _ (hrs j oj (by omega) hoj hrd)
      have k2 : ∀ j oj, j < i + 1 → L[j]? = some oj → isEff (kdOf P oj.op) = true → needsHp P A j (L.drop (j + 1)) = true → (j, bump1 Hs (i + 1) H' j) ∈ es' := by
        intro j oj hj hoj hef hnd
        rw [bump1_ne _ _ (by omega : j ≠ i + 1)]
        by_cases e : j = i
        · subst e; rw [ho] at hoj; cases hoj
          rw [hdrop] at hnd
          exact he0 hef hnd
        · exact hes' _ (hes j oj (by omega) hoj hef hnd)
      obtain ⟨E', Hs', V', g1, g2, g3, g4⟩ := ih (i + 1) rs' es' _ _ _ hL' (by omega) hT' k1 k2 (by rw [bump1_same, bump1_same]; exact hk)
      refine ⟨E', Hs', V', g1, ?_, ?_, g4⟩
      · rw [g2, bump1_ne _ _ (by omega)]
      · rw [g3, bump1_ne _ _ (by omega)]
    -- the looks behind an effect
    have behindOK : ∀ (v : Value) (H' : Hp) (rs2 : List Rd) (es2 : List (Nat × Hp)) (hh : withLooks (looksBehind P A L i rs) (denOpsD P C A L base rest (i + 1) rs2 es2 k (updO (E i) o.dst v)) H' = some X),
        (∀ j oj, j < i → L[j]? = some oj → isRead (kdOf P oj.op) = true → gW L (E j) oj = true → inAnc A j i = false → readOp P oj.op (rhoE (E j)) H' = some (V j)) ∧
        denOpsD P C A L base rest (i + 1) rs2 es2 k (updO (E i) o.dst v) H' = some X := by
      intro v H' rs2 es2 hh
      have hchk : ∀ m ∈ looksBehind P A L i rs, IsChk m := by
        intro m hm
        simp only [looksBehind, List.mem_map] at hm
        obtain ⟨r, _, rfl⟩ := hm
        exact guardedU_is _ _ _ (chk_is _ _)
      obtain ⟨h1, h2⟩ := withLooks_ok hchk hh
      refine ⟨fun j oj hj hoj hrd hg hanc => ?_, h2⟩
      have hmem := hrs j oj hj hoj hrd
      have := h1 (guardedU L oj (E j) (chk (readOp P oj.op (rhoE (E j))) (V j))) (by
        simp only [looksBehind, List.mem_map, List.mem_filter]
        exact ⟨⟨j, oj, E j, V j⟩, ⟨hmem, by simp [hanc]⟩, rfl⟩)
      rw [guardedU_eq, if_pos hg] at this
      exact chk_some this
    cases hk : kdOf P o.op with
    | pure =>
      simp only [denOpsD, hk] at h
      obtain ⟨v, H', h1, h2⟩ := M.bind_some h
      refine go v H' rs es ?_ (by simp [hk, isEff]) (by simp [hk, isRead]) (fun _ h => h) (fun _ h => h) (by simp [hk, isRead]) (by simp [hk, isEff]) h2
      rw [guarded_eq] at h1
      unfold StepOK
      by_cases hg : gW L (E i) o = true
      · rw [if_pos hg] at h1 ⊢
        simp only [hk]
        exact M.lift_some h1
      · rw [if_neg hg] at h1 ⊢
        simp [M.ret] at h1; exact ⟨h1.1.symm, h1.2.symm⟩
    | read =>
      simp only [denOpsD, hk] at h
      obtain ⟨v, H', h1, h2⟩ := M.bind_some h
      have hchk : ∀ m ∈ looksAhead P A L ⟨i, o, E i, v⟩ es, IsChk m := by
        intro m hm
        simp only [looksAhead, List.mem_map] at hm
        obtain ⟨r, _, rfl⟩ := hm
        exact guardedU_is _ _ _ (chkAt_is _ _ _)
      obtain ⟨h3, h4⟩ := withLooks_ok hchk h2
      refine go v H' _ es ?_ (by simp [hk, isEff]) (fun _ hg j oj hj hoj hef hanc => ?_) (fun _ h => by simp [h]) (fun _ h => h) (fun _ => by simp) (by simp [hk, isEff]) h4
      · rw [guarded_eq] at h1
        unfold StepOK
        by_cases hg : gW L (E i) o = true
        · rw [if_pos hg] at h1 ⊢
          simp only [hk]
          exact M.look_some h1
        · rw [if_neg hg] at h1 ⊢
          simp [M.ret] at h1; exact ⟨h1.1.symm, h1.2.symm⟩
      · have hnd : needsHp P A j (L.drop (j + 1)) = true := by
          simp only [needsHp, List.any_eq_true]
          refine ⟨(o, i), ?_, by simp [hk, isRead, hanc]⟩
          rw [List.mk_mem_zipIdx_iff_le_and_getElem?_sub]
          refine ⟨by omega, ?_⟩
          rw [List.getElem?_drop]
          rw [show j + 1 + (i - (j + 1)) = i from by omega]; exact ho
        have hmem := hes j oj hj hoj hef hnd
        have := h3 (guardedU L o (E i) (chkAt (Hs j) (readOp P o.op (rhoE (E i))) v)) (by
          simp only [looksAhead, List.mem_map, List.mem_filter]
          exact ⟨(j, Hs j), ⟨hmem, by simp [hanc]⟩, rfl⟩)
        rw [guardedU_eq, if_pos hg] at this
        exact chkAt_some this
    | alloc =>
      simp only [denOpsD, hk] at h
      obtain ⟨v, H', h1, h2⟩ := M.bind_some h
      refine go v H' rs es ?_ (by simp [hk, isEff]) (by simp [hk, isRead]) (fun _ h => h) (fun _ h => h) (by simp [hk, isRead]) (by simp [hk, isEff]) h2
      rw [guarded_eq] at h1
      unfold StepOK
      by_cases hg : gW L (E i) o = true
      · rw [if_pos hg] at h1 ⊢
        simp only [hk]
        cases hal : allocOp P o.op (rhoE (E i)) with
        | none => simp [hal, allocMAt, M.fail] at h1
        | some r =>
          obtain ⟨t, cs, f⟩ := r
          simp only [hal, allocMAt, newAt] at h1
          split at h1
          · rename_i hgn
            simp at h1
            exact ⟨t, cs, f, rfl, h1.1.symm, hgn, h1.2.symm⟩
          · simp at h1
      · rw [if_neg hg] at h1 ⊢
        simp [M.ret] at h1; exact ⟨h1.1.symm, h1.2.symm⟩
    | eff =>
      simp only [denOpsD, hk] at h
      cases hnd : needsHp P A i rest with
      | true =>
        simp only [hnd] at h
        obtain ⟨H0, H1, h0, h⟩ := M.bind_some h
        simp [getH] at h0; obtain ⟨rfl, rfl⟩ := h0
        obtain ⟨v, H', h1, h2⟩ := M.bind_some h
        obtain ⟨hb, h3⟩ := behindOK v H' _ _ h2
        refine go v H' _ _ ?_ (fun _ => hb) (by simp [hk, isRead]) (fun _ h => h) (fun _ h => by simp [h]) (by simp [hk, isRead]) (fun _ _ => by simp) h3
        rw [guarded_eq] at h1
        unfold StepOK
        by_cases hg : gW L (E i) o = true
        · rw [if_pos hg] at h1 ⊢; simp only [hk]; exact h1
        · rw [if_neg hg] at h1 ⊢
          simp [M.ret] at h1; exact ⟨h1.1.symm, h1.2.symm⟩
      | false =>
        simp only [hnd] at h
        obtain ⟨v, H', h1, h2⟩ := M.bind_some h
        obtain ⟨hb, h3⟩ := behindOK v H' _ _ h2
        refine go v H' _ _ ?_ (fun _ => hb) (by simp [hk, isRead]) (fun _ h => h) (fun _ h => h) (by simp [hk, isRead]) (fun _ h => by rw [hnd] at h; cases h) h3
        rw [guarded_eq] at h1
        unfold StepOK
        by_cases hg : gW L (E i) o = true
        · rw [if_pos hg] at h1 ⊢; simp only [hk]; exact h1
        · rw [if_neg hg] at h1 ⊢
          simp [M.ret] at h1; exact ⟨h1.1.symm, h1.2.symm⟩
    | call =>
      simp only [denOpsD, hk] at h
      cases hnd : needsHp P A i rest with
      | true =>
        simp only [hnd] at h
        obtain ⟨H0, H1, h0, h⟩ := M.bind_some h
        simp [getH] at h0; obtain ⟨rfl, rfl⟩ := h0
        obtain ⟨v, H', h1, h2⟩ := M.bind_some h
        obtain ⟨hb, h3⟩ := behindOK v H' _ _ h2
        refine go v H' _ _ ?_ (fun _ => hb) (by simp [hk, isRead]) (fun _ h => h) (fun _ h => by simp [h]) (by simp [hk, isRead]) (fun _ _ => by simp) h3
        rw [guarded_eq] at h1
        unfold StepOK
        by_cases hg : gW L (E i) o = true
        · rw [if_pos hg] at h1 ⊢; simp only [hk]; exact h1
        · rw [if_neg hg] at h1 ⊢
          simp [M.ret] at h1; exact ⟨h1.1.symm, h1.2.symm⟩
      | false =>
        simp only [hnd] at h
        obtain ⟨v, H', h1, h2⟩ := M.bind_some h
        obtain ⟨hb, h3⟩ := behindOK v H' _ _ h2
        refine go v H' _ _ ?_ (fun _ => hb) (by simp [hk, isRead]) (fun _ h => h) (fun _ h => h) (by simp [hk, isRead]) (fun _ h => by rw [hnd] at h; cases h) h3
        rw [guarded_eq] at h1
        unfold StepOK
        by_cases hg : gW L (E i) o = true
        · rw [if_pos hg] at h1 ⊢; simp only [hk]; exact h1
        · rw [if_neg hg] at h1 ⊢
          simp [M.ret] at h1; exact ⟨h1.1.symm, h1.2.symm⟩

end Go.Lk
