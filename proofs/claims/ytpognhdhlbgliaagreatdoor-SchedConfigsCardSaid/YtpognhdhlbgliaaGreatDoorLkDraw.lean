/- A region that draws its order is sound. -/
import Derived.Test.YtpognhdhlbgliaaGreatDoorLkExec
namespace Go.Lk
variable {P : Program}
namespace Rgn
variable {g : Rgn P}

theorem X_lt {l : Array Bool} {i : Nat} (h : X l i) : i < l.size := by
  unfold X at h
  rcases Nat.lt_or_ge i l.size with h' | h'
  · exact h'
  · simp [Array.getD, Nat.not_lt.2 h'] at h

theorem Inv.exec [Gl] (hg : g.Good) {l : Array Bool} {a : Act} {w : World} {ι : Emb} {q : Nat} (h : g.Inv l a w ι q) {i : Nat} {o : Oper} (ho : g.L[i]? = some o) (hx : ¬ X l i)
    (hedges : ∀ e ∈ o.after.toList, Region.binds .any e = true → X l e.on) {K : Act → World → Prop} {Q : Exit → Act → World → Prop}
    (hK : ∀ a' w' ι' q', g.Inv (l.setIfInBounds i true) a' w' ι' q' → K a' w') : wpOp P g.ops Q i K a w := by
  have hready : ∀ j, inAnc (anc g.L) j i = true → X l j := by
    intro j hj
    obtain ⟨e, he, hb, hje⟩ := anc_edge hg.ok ho hj
    have hxe := hedges e he hb
    rcases hje with rfl | hje
    · exact hxe
    · obtain ⟨oe, hoe⟩ := L_get (g := g) (i := e.on) (by have := X_lt hxe; rw [h.lsz] at this; exact this)
      exact h.down e.on j oe hxe hoe hje
  have hoi : g.ops[i]? = some o := by rw [← Array.getElem?_toList]; exact ho
  unfold wpOp
  simp only [hoi]
  have hgu := h.guard hg ho hx hready
  have hs := hg.tr.step i o (by rw [len_m]; exact L_lt ho) ho
  unfold StepOK at hs
  have hρ := h.rho hg ho hx hready
  have hok := sof_all hg ho
  by_cases hw : gW g.L (g.E i) o = true
  · rw [if_pos (by rw [hgu]; exact hw)]
    rw [if_pos hw] at hs
    left
    unfold Oper.wp
    cases hk : kdOf P o.op with
    | pure =>
      simp only [hk] at hs
      obtain ⟨v', hrun, hv⟩ := pureOp_ok (w := w) hρ hok hs.1
      rw [hrun]
      have hL : ¬ isL P g.L g.E i := fun hl => by
        have := (isL_L ho hl).2; simp [hk, isEff, isAlloc] at this
      exact hK _ _ _ _ (h.plain hg ho hx hready hL hv)
    | read =>
      obtain ⟨Hc, hc, hread⟩ := h.reads hg ho hx hready hw (by simp [hk, isRead])
      obtain ⟨v', hrun, hv⟩ := readOp_ok hc hρ hok hread
      rw [hrun]
      have hL : ¬ isL P g.L g.E i := fun hl => by
        have := (isL_L ho hl).2; simp [hk, isEff, isAlloc] at this
      exact hK _ _ _ _ (h.plain hg ho hx hready hL hv)
    | alloc =>
      simp only [hk] at hs
      obtain ⟨t, cs, f, hal, _⟩ := hs
      obtain ⟨c, v', hto⟩ := allocOp_ok (w := w) hρ hok hal
      rw [hto.run]
      exact hK _ _ _ _ (h.made hg ho hx hready hw (by simp [hk, isAlloc]) hal hto)
    | eff =>
      simp only [hk] at hs
      have hef : isEff (kdOf P o.op) = true := by simp [hk, isEff]
      obtain ⟨q', h', hq'⟩ := h.adv hg _ q rfl
      have hqi : q' = i := turn hg h' hq' ho hx hready hw hef
      subst hqi
      obtain ⟨v', w', ι', hrun, hv, hst⟩ := effOp_ok h'.st.rel hρ hok (conv_eff hk) hs
      rcases hrun with hrun | ⟨hrun, rfl⟩
      · rw [hrun]; exact hK _ _ _ _ (h'.effect hg ho hx hready hef hv hst)
      · rw [hrun]; exact hK _ _ _ _ (h'.effect hg ho hx hready hef hv hst)
    | call =>
      simp only [hk] at hs
      have hef : isEff (kdOf P o.op) = true := by simp [hk, isEff]
      obtain ⟨q', h', hq'⟩ := h.adv hg _ q rfl
      have hqi : q' = i := turn hg h' hq' ho hx hready hw hef
      subst hqi
      rcases callOp_ok hg.c h'.st.rel hρ hok (fun f => ⟨rfl, rfl⟩) hs with ⟨v', w', hrun, ι', hv, hst⟩ | ⟨f, args, hrun, hcalls⟩
      · rw [hrun]; exact hK _ _ _ _ (h'.effect hg ho hx hready hef hv hst)
      · rw [hrun]
        refine Calls.mono hcalls ?_
        rintro e w'' ⟨v', rfl, ι', hv, hst⟩
        exact hK _ _ _ _ (h'.effect hg ho hx hready hef hv hst)
  · rw [if_neg (by rw [hgu]; exact hw)]
    rw [if_neg hw] at hs
    have hL : ¬ isL P g.L g.E i := fun hl => hw (isL_L ho hl).1
    exact hK _ _ _ _ (h.plain hg ho hx hready hL (v' := undef) (by rw [hs.1]; exact undef_rel))
where
  turn (hg : g.Good) {l : Array Bool} {a : Act} {w : World} {ι : Emb} {q' i : Nat} {o : Oper} (h' : g.Inv l a w ι q') (hq' : q' = g.m ∨ (q' < g.m ∧ isL P g.L g.E q' ∧ ¬ X l q')) (ho : g.L[i]? = some o) (hx : ¬ X l i)
    (hready : ∀ j, inAnc (anc g.L) j i = true → X l j) (hw : gW g.L (g.E i) o = true) (hef : isEff (kdOf P o.op) = true) : q' = i := by
    have hL : isL P g.L g.E i := ⟨o, ho, hw, .inl hef⟩
    rcases Nat.lt_trichotomy q' i with hlt | heq | hgt
    · rcases hq' with e | ⟨_, hLq, hxq⟩
      · have := L_lt ho; omega
      · obtain ⟨oq, hoq, _, hkq⟩ := hLq
        exact absurd (hready q' (regOK_eff hg.ok ho hoq hlt hef hkq)) hxq
    · exact heq
    · exact absurd (h'.comm i hgt hL) hx

def cnt (m : Nat) (l : Array Bool) : Nat := ((List.range m).filter fun i => !l.getD i false).length

theorem cnt_set {m : Nat} {l : Array Bool} {i : Nat} (hm : l.size = m) (hi : i < m) (hx : ¬ X l i) : cnt m (l.setIfInBounds i true) < cnt m l := by
  have hsub : ((List.range m).filter fun j => !(l.setIfInBounds i true).getD j false) = ((List.range m).filter fun j => !l.getD j false).filter (fun j => !Nat.beq j i) := by
    rw [List.filter_filter]
    apply List.filter_congr
    intro j hj
    have := X_set (l := l) (i := i) (by omega) j
    unfold X at this
    cases h1 : (l.setIfInBounds i true).getD j false <;> cases h2 : l.getD j false <;> cases h3 : Nat.beq j i <;> simp [h1, h2] at this ⊢
    · exact this (Nat.eq_of_beq_eq_true h3)
    · exact Nat.ne_of_beq_eq_false h3 this
  unfold cnt
  rw [hsub]
  rw [List.length_filter_lt_length_iff_exists]
  refine ⟨i, ?_, by simp⟩
  simp only [List.mem_filter, List.mem_range]
  refine ⟨hi, ?_⟩
  unfold X at hx
  simpa using hx

theorem all_of_cnt {m : Nat} {l : Array Bool} (h : cnt m l = 0) {i : Nat} (hi : i < m) : X l i := by
  unfold cnt at h
  have h0 := List.eq_nil_of_length_eq_zero h
  unfold X
  cases hx : l.getD i false with
  | true => rfl
  | false =>
    have : i ∈ (List.range m).filter fun i => !l.getD i false := by
      simp only [List.mem_filter, List.mem_range]; exact ⟨hi, by simp [hx]⟩
    rw [h0] at this; cases this

theorem ready_mem {l : Array Bool} (hl : l.size = g.m) {i : Nat} : i ∈ Region.ready .any g.ops l ↔ ∃ o, g.L[i]? = some o ∧ ¬ X l i ∧ ∀ e ∈ o.after.toList, Region.binds .any e = true → X l e.on := by
  unfold Region.ready
  simp only [List.mem_filter, List.mem_range, Bool.and_eq_true]
  constructor
  · rintro ⟨hi, h1, h2⟩
    obtain ⟨o, ho⟩ := L_get (g := g) (i := i) hi
    have hoi : g.ops[i]? = some o := by rw [← Array.getElem?_toList]; exact ho
    refine ⟨o, ho, ?_, fun e he hb => ?_⟩
    · unfold X
      have hil : i < l.size := by rw [hl]; exact hi
      simp [Array.getD, hil] at h1 ⊢; exact h1
    · simp only [hoi, Option.map_some, Option.getD_some] at h2
      rw [← Array.all_toList, List.all_eq_true] at h2
      have := h2 e he
      unfold X
      simpa [hb] using this
  · rintro ⟨o, ho, h1, h2⟩
    have hi := L_lt ho
    have hoi : g.ops[i]? = some o := by rw [← Array.getElem?_toList]; exact ho
    refine ⟨hi, ?_, ?_⟩
    · unfold X at h1
      have hil : i < l.size := by rw [hl]; exact hi
      simp [Array.getD, hil] at h1 ⊢; exact h1
    · simp only [hoi, Option.map_some, Option.getD_some]
      rw [← Array.all_toList, List.all_eq_true]
      intro e he
      cases hb : Region.binds .any e with
      | false => rfl
      | true => simpa [X] using h2 e he hb

theorem Inv.all [Gl] (hg : g.Good) {l : Array Bool} {a : Act} {w : World} {ι : Emb} {q : Nat} (h : g.Inv l a w ι q) (hr : Region.ready .any g.ops l = []) : ∀ i, i < g.m → X l i := by
  intro i
  induction i using Nat.strongRecOn with
  | _ i ih =>
    intro hi
    refine Classical.byContradiction fun hx => ?_
    obtain ⟨o, ho⟩ := L_get (g := g) hi
    have : i ∈ Region.ready .any g.ops l := (ready_mem h.lsz).2 ⟨o, ho, hx, fun e he hb => ih e.on (regOK_edge hg.ok ho he hb) (by have := regOK_edge hg.ok ho he hb; omega)⟩
    rw [hr] at this; cases this

/-- The end of the region. -/
theorem Inv.fin [Gl] (hg : g.Good) {l : Array Bool} {a : Act} {w : World} {ι : Emb} {q : Nat} (h : g.Inv l a w ι q) (hall : ∀ i, i < g.m → X l i) :
    ActRel P ι g.n (g.E g.m) a ∧ Stp P g.ι0 ι g.H00 (g.Hs g.m) g.w0 w := by
  obtain ⟨q', h', hq'⟩ := h.adv hg _ q rfl
  have hqm : q' = g.m := by
    rcases hq' with e | ⟨h1, _, h2⟩
    · exact e
    · exact absurd (hall q' h1) h2
  subst hqm
  refine ⟨⟨h'.asz, h'.defers, fun t => ?_⟩, h'.st⟩
  rcases env_last hg t g.m (Nat.le_refl _) with ⟨j, oj, h1, h2, h3, h4, h5⟩ | ⟨h1, h2⟩
  · rw [h5]
    rcases h'.vals t with ⟨k, ok, k1, k2, k3, k4, k5⟩ | ⟨k1, _⟩
    · have : k = j := by
        rcases Nat.lt_trichotomy k j with h | h | h
        · exact absurd h3 (k4 j oj h (hall j h1) h2)
        · exact h
        · exact absurd k3 (h4 k ok h (L_lt k2) k2)
      subst this; exact k5
    · exact absurd h3 (k1 j oj (hall j h1) h2)
  · rw [h2]
    rcases h'.vals t with ⟨k, ok, k1, k2, k3, _⟩ | ⟨_, k2⟩
    · exact absurd k3 (h1 k ok (L_lt k2) k2)
    · exact k2

theorem Inv.any [Gl] (hg : g.Good) {Q : Exit → Act → World → Prop} (hQ : ∀ a w ι, ActRel P ι g.n (g.E g.m) a → Stp P g.ι0 ι g.H00 (g.Hs g.m) g.w0 w → Q .normal a w) :
    ∀ (fuel : Nat) (l : Array Bool) (a : Act) (w : World) (ι : Emb) (q : Nat), g.Inv l a w ι q → cnt g.m l ≤ fuel → wpAny P .any g.ops Q fuel l a w := by
  intro fuel
  induction fuel with
  | zero =>
    intro l a w ι q h hc
    have hall : ∀ i, i < g.m → X l i := fun i hi => all_of_cnt (by omega) hi
    refine ⟨?_, ?_⟩
    · rw [List.eq_nil_iff_forall_not_mem]
      intro i hi
      obtain ⟨o, ho, hx, _⟩ := (ready_mem h.lsz).1 hi
      exact hx (hall i (L_lt ho))
    · obtain ⟨h1, h2⟩ := h.fin hg hall
      exact hQ a w ι h1 h2
  | succ fuel ih =>
    intro l a w ι q h hc
    refine ⟨fun hr => ?_, fun i hi => ?_⟩
    · obtain ⟨h1, h2⟩ := h.fin hg (h.all hg hr)
      exact hQ a w ι h1 h2
    · obtain ⟨o, ho, hx, hedges⟩ := (ready_mem h.lsz).1 hi
      refine h.exec hg ho hx hedges fun a' w' ι' q' h' => ih _ a' w' ι' q' h' ?_
      have := cnt_set h.lsz (L_lt ho) hx
      omega

end Rgn

theorem drawn_wp [Gl] {R : Type} {C : Calc} (hC : CSound P C) {n : Nat} {ops : Array Oper} (hok : regOK P n ops.toList = true) {k : Env → M R} {X : R × Hp} {env : Env} {H H1 : Hp} {base : Nat} {a : Act} {w w1 : World} {ι : Emb}
    (hr : HRel P ι H w) (ha : ActRel P ι n env a) (hw1 : w1.heap = w.heap ∧ w1.os = w.os ∧ w1.tape = w.tape ∧ w1.output = w.output)
    (hH1 : H1 = H ∧ (∀ (i : Nat) (o : Oper), ops.toList[i]? = some o → isAlloc (kdOf P o.op) = false) ∨ H1 = H.bump ops.size ∧ base = H.next)
    (h : denOpsD P C (anc ops.toList) ops.toList base ops.toList 0 [] [] k env H1 = some X) {Q : Exit → Act → World → Prop}
    (hQ : ∀ env' a' w' ι' H', ActRel P ι' n env' a' → Stp P ι ι' H H' w w' → k env' H' = some X → Q .normal a' w') :
    wpAny P .any ops Q ops.size (Array.replicate ops.size false) a w1 := by
  obtain ⟨E, Hs, V, hT, hE0, hH0, hk⟩ := denOpsD_trace (P := P) (C := C) (A := anc ops.toList) (L := ops.toList) (base := base) (k := k) (X := X) ops.toList 0 [] [] (fun _ => env) (fun _ => H1) (fun _ => undefV)
    (by simp) (Nat.zero_le _) ⟨fun i o h => by omega, fun i o h => by omega, fun i j oi oj h => by omega, fun i j oi oj h => by omega⟩ (fun j oj h => by omega) (fun j oj h => by omega) h
  let g : Rgn P := { C, n, ops, base, E, Hs, V, ι0 := ι, H00 := H, w0 := w }
  have hget : ∀ b, H1.get b = H.get b := by
    intro b; rcases hH1 with ⟨rfl, _⟩ | ⟨rfl, _⟩ <;> rfl
  have hnx : H.next ≤ H1.next := by rcases hH1 with ⟨rfl, _⟩ | ⟨rfl, _⟩ <;> simp
  have hbase : ∀ (i : Nat) (o : Oper), ops.toList[i]? = some o → isAlloc (kdOf P o.op) = true → H.next ≤ base + i ∧ base + i < H1.next := by
    intro i o ho hal
    rcases hH1 with ⟨_, hn⟩ | ⟨rfl, rfl⟩
    · rw [hn i o ho] at hal; cases hal
    · have : i < ops.size := by
        rcases Nat.lt_or_ge i ops.toList.length with h | h
        · simpa using h
        · rw [List.getElem?_eq_none h] at ho; cases ho
      simp; omega
  have hg : g.Good := ⟨hC, hok, hT, fun i o ho hal => by
    have := hbase i o ho hal
    show H.next ≤ base + i ∧ base + i < (Hs 0).next
    rw [hH0]; exact this⟩
  have hcell : ∀ b o, w1.cell? ⟨b, o, none⟩ = w.cell? ⟨b, o, none⟩ := fun b o => cell_same (by rw [hw1.1]) o
  have hrel : HRel P ι H1 w1 := by
    refine ⟨fun b p hb => Nat.lt_of_lt_of_le (hr.dom b p hb) hnx, fun b p hb => (hr.fact b p hb).of_same (by rw [hw1.1]), fun b x hb => ?_, fun b c x y p q hb hc => ?_, hr.gl.of_same (fun x q hx => .inl ⟨x, q, hx, rfl⟩) fun k _ => by rw [hw1.1]⟩
    · rw [hget] at hb
      obtain ⟨p, hp, hbr⟩ := hr.live b x hb
      exact ⟨p, hp, hbr.of_same (by rw [hw1.1])⟩
    · rw [hget] at hb hc; exact hr.inj b c x y p q hb hc
  have hst : Stp P ι ι H H1 w w1 :=
    ⟨hrel, Ext.refl _, fun _ _ => rfl, hnx, hw1.2.1, hw1.2.2.1, hw1.2.2.2, by rw [hw1.1]; exact Nat.le_refl _, fun n _ _ => by rw [hw1.1], fun n ⟨b, x, p, h1, h2, h3, h4⟩ => .inr ⟨b, x, p, by rw [← hget]; exact h1, h2, h3, h4⟩, fun b x _ => by rw [hget]⟩
  have hX : ∀ i, ¬ Rgn.X (Array.replicate ops.size false) i := by
    intro i hi
    unfold Rgn.X at hi
    rw [Array.getD_eq_getD_getElem?] at hi
    by_cases h : i < ops.size
    · simp [h] at hi
    · simp [h] at hi
  have hinv : g.Inv (Array.replicate ops.size false) a w1 ι 0 := by
    refine ⟨by simp [Rgn.m, g], fun i j o hi => absurd hi (hX i), Nat.zero_le _, fun i h => by omega, fun i o _ _ hi => absurd hi (hX i), ?_, Nat.le_refl _, fun i o t cs f _ _ hi => absurd hi (hX i), fun i o ho hal hn => ?_, ha.size, ha.defers, fun t => .inr ⟨fun j oj hj => absurd hj (hX j), ?_⟩⟩
    · show Stp P ι ι H (Hs 0) w w1
      rw [hH0]; exact hst
    · exfalso
      cases hh : ι (base + i) with
      | none => exact hn hh
      | some p => have := hr.dom _ p hh; have := (hbase i o ho hal).1; omega
    · show VRel P ι (E 0 t) _
      rw [hE0]; exact ha.vals t
  refine Rgn.Inv.any hg (fun a' w' ι' h1 h2 => ?_) ops.size _ a w1 ι 0 hinv ?_
  · have hm : g.m = ops.toList.length := by simp [Rgn.m, g]
    rw [hm] at h1 h2
    exact hQ _ a' w' ι' _ h1 h2 hk
  · unfold Rgn.cnt
    have : g.m = ops.size := rfl
    rw [this]
    have := List.length_filter_le (fun i => !(Array.replicate ops.size false).getD i false) (List.range ops.size)
    simpa using this

theorem region_wp [Gl] {R : Type} {C : Calc} (hC : CSound P C) (hm : P.follows .mixedOrders = true) {n id : Nat} {ops : Array Oper} {draw : Bool} (hok : (match draw with | true => regOK P n ops.toList | false => ops.toList.all (okOp n)) = true)
    {k : Env → M R} {X : R × Hp} {env : Env} {H : Hp} {a : Act} {w : World} {ι : Emb} (hr : HRel P ι H w) (ha : ActRel P ι n env a) (h : denRegion P C ops draw k env H = some X) {Q : Exit → Act → World → Prop}
    (hQ : ∀ env' a' w' ι' H', ActRel P ι' n env' a' → Stp P ι ι' H H' w w' → k env' H' = some X → Q .normal a' w') : (Code.region id ops draw).wp P Q a w := by
  cases draw with
  | false =>
    refine wp_region ?_
    simp only [denRegion] at h
    have := denOps_wp (P := P) hC (n := n) (ops := ops) (k := k) (X := X) (Q := Q) (ι0 := ι) (H0 := H) (w0 := w) (fun env' a' w' ι' H' h1 h2 h3 => hQ env' a' w' ι' H' h1 h2 h3)
      ops.toList 0 env a H w ι (fun j o hj => by rw [← Array.getElem?_toList]; simpa using hj) (fun o ho => List.all_eq_true.1 hok o ho) ha (Stp.refl hr) h
    rw [List.range_eq_range']
    simpa using this
  | true =>
    refine wp_region_any hm ?_
    simp only [denRegion] at h
    cases hal : ops.toList.any (fun o => isAlloc (kdOf P o.op)) with
    | true =>
      simp only [hal, bumpBy] at h
      exact drawn_wp (w := w) (w1 := { w with drawn := w.drawn + 1 }) hC hok hr ha ⟨rfl, rfl, rfl, rfl⟩ (.inr ⟨rfl, rfl⟩) h hQ
    | false =>
      simp only [hal] at h
      refine drawn_wp (w := w) (w1 := { w with drawn := w.drawn + 1 }) hC hok hr ha ⟨rfl, rfl, rfl, rfl⟩ (.inl ⟨rfl, fun i o ho => ?_⟩) h hQ
      have := List.any_eq_false.1 hal o (List.mem_of_getElem? ho)
      simpa using this

end Go.Lk
