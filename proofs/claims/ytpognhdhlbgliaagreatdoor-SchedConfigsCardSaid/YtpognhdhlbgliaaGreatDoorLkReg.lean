/- A region that draws its order: every order comes to what the order of the text comes to. -/
import Derived.Test.YtpognhdhlbgliaaGreatDoorLkTrace
namespace Go.Lk
variable {P : Program}

def tmpOf : Operand → Option Tmp
  | .tmp t => some t
  | _ => none

def usesOf (L : List Oper) (o : Oper) : List Tmp := o.op.operands.toList.filterMap tmpOf ++ (match o.guard with
  | some (g, _) => (dstAt L g).toList
  | none => [])

def hasT (l : List Tmp) (t : Tmp) : Bool := l.any (Nat.beq t)

def clash (L : List Oper) (x y : Oper) : Bool :=
  (match x.dst with
   | some d => hasT (usesOf L y) d || (match y.dst with
     | some e => Nat.beq d e
     | none => false)
   | none => false) ||
  (match y.dst with
   | some d => hasT (usesOf L x) d
   | none => false)

def pairOK (P : Program) (L : List Oper) (A : List Nat) (oj oi : Oper) (j i : Nat) : Bool :=
  (!clash L oj oi || inAnc A j i) && (!(isEff (kdOf P oi.op) && (isEff (kdOf P oj.op) || isAlloc (kdOf P oj.op))) || inAnc A j i)

def regOK (P : Program) (n : Nat) (L : List Oper) : Bool :=
  L.all (okOp n) && (L.zipIdx.all fun p => p.1.after.toList.all fun e => !Region.binds .any e || Nat.blt e.on p.2) &&
  (L.zipIdx.all fun p => (L.zipIdx.take p.2).all fun r => pairOK P L (anc L) r.1 p.1 r.2 p.2)

theorem regOK_op {n : Nat} {L : List Oper} (h : regOK P n L = true) {i : Nat} {o : Oper} (ho : L[i]? = some o) : okOp n o = true := by
  simp only [regOK, Bool.and_eq_true] at h
  exact List.all_eq_true.1 h.1.1 o (List.mem_of_getElem? ho)

theorem regOK_edge {n : Nat} {L : List Oper} (h : regOK P n L = true) {i : Nat} {o : Oper} (ho : L[i]? = some o) {e : Edge} (he : e ∈ o.after.toList) (hb : Region.binds .any e = true) : e.on < i := by
  simp only [regOK, Bool.and_eq_true] at h
  have h1 := List.all_eq_true.1 h.1.2 (o, i) (by rw [List.mem_zipIdx_iff_getElem?]; exact ho)
  have h2 := List.all_eq_true.1 h1 e he
  simp only [hb, Bool.not_true, Bool.false_or] at h2
  exact Nat.le_of_ble_eq_true h2

theorem regOK_pair {n : Nat} {L : List Oper} (h : regOK P n L = true) {i j : Nat} {oi oj : Oper} (hi : L[i]? = some oi) (hj : L[j]? = some oj) (hij : j < i) : pairOK P L (anc L) oj oi j i = true := by
  simp only [regOK, Bool.and_eq_true] at h
  have h1 := List.all_eq_true.1 h.2 (oi, i) (by rw [List.mem_zipIdx_iff_getElem?]; exact hi)
  refine List.all_eq_true.1 h1 (oj, j) ?_
  have : (L.zipIdx.take i)[j]? = some (oj, j) := by
    rw [List.getElem?_take, if_pos hij, List.getElem?_zipIdx, hj]; simp
  exact List.mem_of_getElem? this

theorem hasT_mem {l : List Tmp} {t : Tmp} (h : t ∈ l) : hasT l t = true := by
  simp only [hasT, List.any_eq_true]
  exact ⟨t, h, Nat.beq_refl t⟩

/-- Two operations of which one writes what the other writes or looks at are ordered. -/
theorem regOK_clash {n : Nat} {L : List Oper} (h : regOK P n L = true) {i j : Nat} {oi oj : Oper} (hi : L[i]? = some oi) (hj : L[j]? = some oj) (hij : j < i)
    (hc : (∃ d, oj.dst = some d ∧ (d ∈ usesOf L oi ∨ oi.dst = some d)) ∨ ∃ d, oi.dst = some d ∧ d ∈ usesOf L oj) : inAnc (anc L) j i = true := by
  have hp := regOK_pair h hi hj hij
  simp only [pairOK, Bool.and_eq_true] at hp
  have hcl : clash L oj oi = true := by
    simp only [clash, Bool.or_eq_true]
    rcases hc with ⟨d, hd, hu | hu⟩ | ⟨d, hd, hu⟩
    · left; simp only [hd, Bool.or_eq_true]; left; exact hasT_mem hu
    · left; simp only [hd, hu, Bool.or_eq_true]; right; exact Nat.beq_refl d
    · right; simp only [hd]; exact hasT_mem hu
  have := hp.1
  simpa [hcl] using this

theorem regOK_eff {n : Nat} {L : List Oper} (h : regOK P n L = true) {i j : Nat} {oi oj : Oper} (hi : L[i]? = some oi) (hj : L[j]? = some oj) (hij : j < i)
    (he : isEff (kdOf P oi.op) = true) (hk : isEff (kdOf P oj.op) = true ∨ isAlloc (kdOf P oj.op) = true) : inAnc (anc L) j i = true := by
  have hp := regOK_pair h hi hj hij
  simp only [pairOK, Bool.and_eq_true] at hp
  have hk' : (isEff (kdOf P oj.op) || isAlloc (kdOf P oj.op)) = true := by simpa using hk
  have := hp.2
  simpa [he, hk'] using this

/-! ### Ancestors -/

theorem ancE_bit (acc : List Nat) (j : Nat) : ∀ (es : List Edge), (ancE acc es).testBit j = true → ∃ e ∈ es, Region.binds .any e = true ∧ (j = e.on ∨ (acc.getD e.on 0).testBit j = true)
  | [], h => by simp [ancE] at h
  | e :: es, h => by
    simp only [ancE] at h
    cases hb : Region.binds .any e with
    | true =>
      simp only [hb] at h
      simp only [Nat.testBit_or, Bool.or_eq_true, Nat.testBit_two_pow, decide_eq_true_eq] at h
      rcases h with (h | h) | h
      · exact ⟨e, by simp, hb, .inl h.symm⟩
      · exact ⟨e, by simp, hb, .inr h⟩
      · obtain ⟨e', he', h'⟩ := ancE_bit acc j es h
        exact ⟨e', by simp [he'], h'⟩
    | false =>
      simp only [hb] at h
      obtain ⟨e', he', h'⟩ := ancE_bit acc j es h
      exact ⟨e', by simp [he'], h'⟩

theorem ancs_spec : ∀ (rest : List Oper) (acc : List Nat), ∃ l, ancs rest acc = acc ++ l ∧ l.length = rest.length ∧
    ∀ i o, rest[i]? = some o → (ancs rest acc)[acc.length + i]? = some (ancE ((ancs rest acc).take (acc.length + i)) o.after.toList)
  | [], acc => ⟨[], by simp [ancs], rfl, by simp⟩
  | o :: rest, acc => by
    obtain ⟨l, h1, h2, h3⟩ := ancs_spec rest (acc ++ [ancE acc o.after.toList])
    refine ⟨ancE acc o.after.toList :: l, by simp [ancs, h1], by simp [h2], fun i o' ho' => ?_⟩
    simp only [ancs]
    cases i with
    | zero =>
      simp at ho'; subst ho'
      rw [h1]
      simp
    | succ i =>
      have := h3 i o' (by simpa using ho')
      simp only [List.length_append, List.length_cons, List.length_nil] at this
      rw [show acc.length + (i + 1) = acc.length + (0 + 1) + i from by omega]
      exact this

theorem anc_edge {n : Nat} {L : List Oper} (hok : regOK P n L = true) {i j : Nat} {o : Oper} (ho : L[i]? = some o) (h : inAnc (anc L) j i = true) :
    ∃ e ∈ o.after.toList, Region.binds .any e = true ∧ (j = e.on ∨ inAnc (anc L) j e.on = true) := by
  obtain ⟨l, h1, h2, h3⟩ := ancs_spec L []
  have h4 := h3 i o ho
  simp only [List.length_nil, Nat.zero_add] at h4
  unfold inAnc at h
  have hg : (anc L).getD i 0 = ancE ((ancs L []).take i) o.after.toList := by
    unfold anc; rw [List.getD_eq_getElem?_getD, h4]; rfl
  rw [hg] at h
  obtain ⟨e, he, hb, hj⟩ := ancE_bit _ _ _ h
  refine ⟨e, he, hb, hj.imp id fun hj => ?_⟩
  have hlt := regOK_edge hok ho he hb
  unfold inAnc anc
  rw [List.getD_eq_getElem?_getD, List.getElem?_take, if_pos hlt, ← List.getD_eq_getElem?_getD] at hj
  exact hj

/-! ### Reads hang on what their operands point to -/

theorem VRel.block [Gl] {ι : Emb} {v v' : Value} (h : VRel P ι v v') : (∀ a, v = .pointer (some a) → ι a.block ≠ none) ∧ (∀ a l c, v = .slice (some a) l c → ι a.block ≠ none) := by
  cases h <;> simp_all

theorem cell_mono {ι : Emb} {H1 H2 : Hp} (hm : ∀ b x, ι b ≠ none → H1.get b = some x → H2.get b = some x) {a : Addr} (ha : ι a.block ≠ none) {v : Value} (h : H1.cell a = some v) : H2.cell a = some v := by
  unfold Hp.cell at h ⊢
  split at h
  · rename_i ro e cs hg
    rw [hm _ _ ha hg]; exact h
  · simp at h
theorem cells_mono {ι : Emb} {H1 H2 : Hp} (hm : ∀ b x, ι b ≠ none → H1.get b = some x → H2.get b = some x) {a : Addr} {n : Nat} (ha : ι a.block ≠ none) {v : List Value} (h : H1.cells a n = some v) : H2.cells a n = some v := by
  unfold Hp.cells at h ⊢
  split at h
  · rename_i ro e cs hg
    rw [hm _ _ ha hg]; exact h
  · simp at h

theorem ld1_mono [Gl] {ι : Emb} {H1 H2 : Hp} (hm : ∀ b x, ι b ≠ none → H1.get b = some x → H2.get b = some x) {x x' v : Value} (hx : VRel P ι x x') (h : ld1 x H1 = some v) : ld1 x H2 = some v := by
  cases hx <;> try (simp [ld1] at h; done)
  rename_i b o p hb hpm
  exact cell_mono hm (a := ⟨b, o, none⟩) (by simp [hb]) h

theorem ldN_mono [Gl] {ι : Emb} {H1 H2 : Hp} (hm : ∀ b x, ι b ≠ none → H1.get b = some x → H2.get b = some x) {n : Nat} {x x' v : Value} (hx : VRel P ι x x') (h : ldN n x H1 = some v) : ldN n x H2 = some v := by
  cases hx <;> try (simp [ldN] at h; done)
  rename_i b o p hb hpm
  obtain ⟨l, hl, rfl⟩ := aggO_some h
  show aggO (H2.cells ⟨b, o, none⟩ n) = _
  rw [cells_mono hm (a := ⟨b, o, none⟩) (by simp [hb]) hl]; rfl

theorem strOf_mono [Gl] {ι : Emb} {H1 H2 : Hp} (hm : ∀ b x, ι b ≠ none → H1.get b = some x → H2.get b = some x) {x x' v : Value} (hx : VRel P ι x x') (h : strOf x H1 = some v) : strOf x H2 = some v := by
  cases hx <;> try (simp [strOf] at h; done)
  · simpa [strOf] using h
  · rename_i b o o' len cap cap' p hb hpm _ _ _ _
    simp only [strOf] at h ⊢
    cases hc : H1.cells ⟨b, o, none⟩ len with
    | none => simp [hc] at h
    | some l =>
      rw [cells_mono hm (a := ⟨b, o, none⟩) (by simp [hb]) hc]
      simpa [hc] using h

theorem sliceLive_mono [Gl] {ι : Emb} {H1 H2 : Hp} (hm : ∀ b x, ι b ≠ none → H1.get b = some x → H2.get b = some x) {e sz : Nat} {lo hi mx : Option Value} {x x' v : Value} (hx : VRel P ι x x') (h : sliceLive e sz x lo hi mx H1 = some v) :
    sliceLive e sz x lo hi mx H2 = some v := by
  cases hx <;> try (simp [sliceLive] at h; done)
  · simpa [sliceLive] using h
  · rename_i b o o' len cap cap' p hb hpm _ _ _ _
    simp only [sliceLive] at h ⊢
    cases hg : H1.get b with
    | none => simp [hg] at h
    | some r =>
      rw [hm b r (by simp [hb]) hg]
      simpa [hg] using h

theorem ptrEq_mono [Gl] {ι : Emb} {H1 H2 : Hp} (hm : ∀ b x, ι b ≠ none → H1.get b = some x → H2.get b = some x) {op : BinOp} {t : TypeId} {x x' y y' v : Value} (hx : VRel P ι x x') (hy : VRel P ι y y') (h : ptrEq P op t x y H1 = some v) :
    ptrEq P op t x y H2 = some v := by
  have hx2 : ∃ a, x = .pointer (some a) := by
    unfold ptrEq at h
    split at h
    · exact ⟨_, rfl⟩
    · simp at h
  have hy2 : ∃ a, y = .pointer (some a) := by
    unfold ptrEq at h
    split at h
    · exact ⟨_, rfl⟩
    · simp at h
  obtain ⟨a, rfl⟩ := hx2
  obtain ⟨b, rfl⟩ := hy2
  simp only [ptrEq] at h ⊢
  cases he : isPtrD (P.underlying t) with
  | none => simp [he] at h
  | some e =>
    simp only [he] at h ⊢
    split at h
    · simp at h
    · rename_i hc
      rw [if_neg hc]
      cases hg1 : H1.get a.block with
      | none => simp [hg1] at h
      | some r1 =>
        cases hg2 : H1.get b.block with
        | none => simp [hg1, hg2] at h
        | some r2 =>
          rw [hm _ _ (hx.block.1 a rfl) hg1, hm _ _ (hy.block.1 b rfl) hg2]
          simpa only [hg1, hg2] using h

theorem read_mono [Gl] {ι : Emb} {H1 H2 : Hp} (hm : ∀ b x, ι b ≠ none → H1.get b = some x → H2.get b = some x) {o : Op} {ρ : Operand → Value} {v : Value}
    (hρ : ∀ x ∈ o.operands.toList, ∃ v', VRel P ι (ρ x) v') (h : readOp P o ρ H1 = some v) : readOp P o ρ H2 = some v := by
  cases o <;> try (simp [readOp] at h; done)
  case load t x =>
    obtain ⟨x', hx⟩ := hρ x (by simp [Op.operands])
    simp only [readOp] at h ⊢
    unfold loadP at h ⊢
    cases hu : P.underlying t with
    | none => simp [hu] at h
    | some d =>
      cases hi : P.info? t with
      | none => simp [hu, hi] at h
      | some i =>
        simp only [hu, hi] at h ⊢
        cases hd : isAggD d with
        | true => simp only [hd] at h ⊢; exact ldN_mono hm hx h
        | false => simp only [hd] at h ⊢; exact ld1_mono hm hx h
  case convert s d x =>
    obtain ⟨x', hx⟩ := hρ x (by simp [Op.operands])
    simp only [readOp] at h ⊢
    unfold convStrR at h ⊢
    cases hs : P.underlying s with
    | none => simp [hs] at h
    | some sd =>
      cases sd <;> try (simp [hs] at h; done)
      rename_i e
      cases hd : P.underlying d with
      | none => simp [hs, hd] at h
      | some dd =>
        cases dd <;> try (simp [hs, hd] at h; done)
        simp only [hs, hd] at h ⊢
        cases he : P.underlying e with
        | none => simp [he] at h
        | some ed =>
          cases ed <;> try (simp [he] at h; done)
          rename_i k
          cases k <;> try (simp [he] at h; done)
          simp only [he] at h ⊢
          exact strOf_mono hm hx h
  case slice t x lo hi mx =>
    obtain ⟨x', hx⟩ := hρ x (by simp [Op.operands])
    simp only [readOp] at h ⊢
    unfold sliceR at h ⊢
    cases hu : P.underlying t with
    | none => simp [hu] at h
    | some d =>
      cases d <;> try (simp [hu] at h; done)
      rename_i e
      simp only [hu] at h ⊢
      cases hei : P.info? e with
      | none => simp [hei] at h
      | some ei =>
        simp only [hei] at h ⊢
        cases hi <;> cases mx <;> first | exact sliceLive_mono hm hx h | (simp at h)
  case binOp bop t x y u =>
    obtain ⟨x', hx⟩ := hρ x (by simp [Op.operands])
    obtain ⟨y', hy⟩ := hρ y (by simp [Op.operands])
    simp only [readOp] at h ⊢
    cases hb : binP P bop t (ρ x) (ρ y) with
    | some r => rw [hb] at h; exact h
    | none =>
      rw [hb] at h
      simp only [orElse'] at h ⊢
      exact ptrEq_mono hm hx hy h

end Go.Lk
