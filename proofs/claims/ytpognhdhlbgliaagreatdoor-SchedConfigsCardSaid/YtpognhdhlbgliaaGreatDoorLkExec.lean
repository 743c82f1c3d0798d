/- A region that draws its order: one operation, in whatever order it comes; the region. -/
import Derived.Test.YtpognhdhlbgliaaGreatDoorLkInv
namespace Go.Lk
variable {P : Program}
namespace Rgn
variable {g : Rgn P}

theorem X_set {l : Array Bool} {i : Nat} (hi : i < l.size) (j : Nat) : X (l.setIfInBounds i true) j ↔ X l j ∨ j = i := by
  unfold X
  rw [Array.getD_eq_getD_getElem?, Array.getD_eq_getD_getElem?, Array.getElem?_setIfInBounds]
  by_cases e : i = j
  · subst e; simp [hi]
  · simp [e]; exact fun h => absurd h.symm e

/-- The slots behind an operation. -/
theorem Inv.vals_put [Gl] (hg : g.Good) {l : Array Bool} {a : Act} {w : World} {ι ι' : Emb} {q : Nat} (h : g.Inv l a w ι q) {i : Nat} {o : Oper} (ho : g.L[i]? = some o) (hx : ¬ X l i)
    (he : Ext ι ι') {v' : Value} (hv : VRel P ι' (g.V i) v') :
    ∀ t, (∃ k ok, X (l.setIfInBounds i true) k ∧ g.L[k]? = some ok ∧ ok.dst = some t ∧ (∀ j oj, k < j → X (l.setIfInBounds i true) j → g.L[j]? = some oj → oj.dst ≠ some t) ∧ VRel P ι' (g.V k) ((a.put o.dst v').tmps.getD t undef)) ∨
      ((∀ j oj, X (l.setIfInBounds i true) j → g.L[j]? = some oj → oj.dst ≠ some t) ∧ VRel P ι' (g.E 0 t) ((a.put o.dst v').tmps.getD t undef)) := by
  intro t
  have hil : i < l.size := by rw [h.lsz]; exact L_lt ho
  by_cases hd : o.dst = some t
  · refine .inl ⟨i, o, (X_set hil i).2 (.inr rfl), ho, hd, fun j oj hj hxj hoj hdj => ?_, ?_⟩
    · rcases (X_set hil j).1 hxj with hxj | e
      · exact hx (h.down j i oj hxj hoj (regOK_clash hg.ok hoj ho hj (.inl ⟨t, hd, .inr hdj⟩)))
      · omega
    · have : t < a.tmps.size := by rw [h.asz]; exact (okOp_some (regOK_op hg.ok ho)).2 t hd
      simp [Act.put, hd, Array.getD, this]; exact hv
  · have hsame : (a.put o.dst v').tmps.getD t undef = a.tmps.getD t undef := by
      cases hod : o.dst with
      | none => rfl
      | some d =>
        have hne : d ≠ t := fun e => hd (by rw [hod, e])
        simp only [Act.put, Array.getD_eq_getD_getElem?]
        rw [Array.getElem?_setIfInBounds_ne hne]
    rw [hsame]
    rcases h.vals t with ⟨k, ok, k1, k2, k3, k4, k5⟩ | ⟨k1, k2⟩
    · refine .inl ⟨k, ok, (X_set hil k).2 (.inl k1), k2, k3, fun j oj hj hxj hoj => ?_, k5.mono he⟩
      rcases (X_set hil j).1 hxj with hxj | e
      · exact k4 j oj hj hxj hoj
      · subst e; rw [ho] at hoj; cases hoj; exact hd
    · refine .inr ⟨fun j oj hxj hoj => ?_, k2.mono he⟩
      rcases (X_set hil j).1 hxj with hxj | e
      · exact k1 j oj hxj hoj
      · subst e; rw [ho] at hoj; cases hoj; exact hd

theorem Inv.down_put [Gl] {l : Array Bool} {a : Act} {w : World} {ι : Emb} {q : Nat} (h : g.Inv l a w ι q) {i : Nat} {o : Oper} (ho : g.L[i]? = some o)
    (hready : ∀ j, inAnc (anc g.L) j i = true → X l j) : ∀ k j ok, X (l.setIfInBounds i true) k → g.L[k]? = some ok → inAnc (anc g.L) j k = true → X (l.setIfInBounds i true) j := by
  intro k j ok hk hok hj
  have hil : i < l.size := by rw [h.lsz]; exact L_lt ho
  rcases (X_set hil k).1 hk with hk | e
  · exact (X_set hil j).2 (.inl (h.down k j ok hk hok hj))
  · subst e; exact (X_set hil j).2 (.inl (hready j hj))

theorem put_defers (a : Act) (d : Option Tmp) (v : Value) : (a.put d v).defers = a.defers := by cases d <;> rfl
theorem put_size (a : Act) (d : Option Tmp) (v : Value) : (a.put d v).tmps.size = a.tmps.size := by cases d <;> simp [Act.put]

/-- Behind an operation that leaves the heap. -/
theorem Inv.plain [Gl] (hg : g.Good) {l : Array Bool} {a : Act} {w : World} {ι : Emb} {q : Nat} (h : g.Inv l a w ι q) {i : Nat} {o : Oper} (ho : g.L[i]? = some o) (hx : ¬ X l i)
    (hready : ∀ j, inAnc (anc g.L) j i = true → X l j) (hL : ¬ isL P g.L g.E i) {v' : Value} (hv : VRel P ι (g.V i) v') : g.Inv (l.setIfInBounds i true) (a.put o.dst v') w ι q := by
  have hil : i < l.size := by rw [h.lsz]; exact L_lt ho
  refine ⟨by simp [h.lsz], h.down_put ho hready, h.qle, fun j hj hl => (X_set hil j).2 (.inl (h.comm j hj hl)), fun j oj hj hoj hxj hl => ?_, h.st, h.nx, fun j oj t cs f hj hoj hxj hwj haj hal => ?_,
    fun j oj hoj haj hn => ?_, by rw [put_size]; exact h.asz, by rw [put_defers]; exact h.defers, h.vals_put hg ho hx (Ext.refl _) hv⟩
  · rcases (X_set hil j).1 hxj with hxj | e
    · exact h.beyond j oj hj hoj hxj hl
    · subst e; exact absurd hl hL
  · rcases (X_set hil j).1 hxj with hxj | e
    · obtain ⟨p, p1, p2, p3, p4, p5⟩ := h.pend j oj t cs f hj hoj hxj hwj haj hal
      refine ⟨p, p1, p2, p3, p4, fun k pk hk hqk hlk hxk => ?_⟩
      rcases (X_set hil k).1 hxk with hxk | e
      · exact p5 k pk hk hqk hlk hxk
      · subst e; exact absurd hlk hL
    · subst e; exact absurd ⟨oj, hoj, hwj, .inr haj⟩ hL
  · obtain ⟨h1, h2⟩ := h.notyet j oj hoj haj hn
    exact ⟨(X_set hil j).2 (.inl h1), h2⟩

/-- Behind an operation that makes a block, ahead of its turn or not. -/
theorem Inv.made [Gl] (hg : g.Good) {l : Array Bool} {a : Act} {w : World} {ι : Emb} {q : Nat} (h : g.Inv l a w ι q) {i : Nat} {o : Oper} (ho : g.L[i]? = some o) (hx : ¬ X l i)
    (hready : ∀ j, inAnc (anc g.L) j i = true → X l j) (hw : gW g.L (g.E i) o = true) (hk : isAlloc (kdOf P o.op) = true) {t : TypeId} {cs : List Value} {f : Nat → Value} (hal : allocOp P o.op (rhoE (g.E i)) = some (t, cs, f))
    {c : Array Value} {v' : Value} (hto : AllocTo P ι (execOp a.eval o) w t cs f c v') :
    g.Inv (l.setIfInBounds i true) (a.put o.dst v') { w with heap := w.heap.push (.cells c t (0, 0)) } (ins ι (g.base + i) ⟨w.heap.size, 0, c.size, t, false⟩) q := by
  have hil : i < l.size := by rw [h.lsz]; exact L_lt ho
  have hnone : ι (g.base + i) = none := by
    cases hh : ι (g.base + i) with
    | none => rfl
    | some p => exact absurd (h.notyet i o ho hk (by simp [hh])).1 hx
  have he := ins_ext (⟨w.heap.size, 0, c.size, t, false⟩ : Pl) hnone
  have hgw := grew_alloc w (.cells c t (0, 0))
  have hqi : q ≤ i := by
    rcases Nat.lt_or_ge i q with hlt | hge
    · exact absurd (h.comm i hlt ⟨o, ho, hw, .inr hk⟩) hx
    · exact hge
  have hlive : ∀ b x, (g.Hs q).get b = some x → b ≠ g.base + i := by
    intro b x hb e
    obtain ⟨p, hp, _⟩ := h.st.rel.live b x hb
    rw [e, hnone] at hp; cases hp
  obtain ⟨t', cs', f', h1, h2, h3, h4⟩ := step_alloc hg ho hw hk
  rw [hal] at h1; cases h1
  obtain ⟨hb1, hb2⟩ := hg.base i o ho hk
  have hrel : HRel P (ins ι (g.base + i) ⟨w.heap.size, 0, c.size, t, false⟩) (g.Hs q) { w with heap := w.heap.push (.cells c t (0, 0)) } := by
    refine ⟨fun b p hb => ?_, fun b p hb => ?_, fun b x hb => ?_, fun b d x y pb pd hb hd hpb hpd e => ?_, h.st.rel.gl.of_same (fun x q hx => by
      by_cases e : x = g.base + i
      · subst e; rw [ins_same] at hx; cases hx; exact .inr (Nat.le_refl _)
      · rw [ins_ne _ _ e] at hx; exact .inl ⟨x, q, hx, rfl⟩) fun k hd => hgw.old (h.st.rel.gl.lt hd)⟩
    · by_cases e : b = g.base + i
      · subst e; have := h.nx; omega
      · rw [ins_ne _ _ e] at hb; exact h.st.rel.dom b p hb
    · by_cases e : b = g.base + i
      · subst e; rw [ins_same] at hb; cases hb
        exact ⟨c, 0, 0, hgw.new, rfl, by intro j _; omega, by intro _ j; omega⟩
      · rw [ins_ne _ _ e] at hb
        have := h.st.rel.fact b p hb
        exact this.of_same (hgw.old this.lt)
    · obtain ⟨p, hp, hbr⟩ := h.st.rel.live b x hb
      exact ⟨p, by rw [ins_ne _ _ (hlive b x hb)]; exact hp, (hbr.of_same (hgw.old (h.st.rel.fact b p hp).lt)).mono he⟩
    · rw [ins_ne _ _ (hlive b x hb)] at hpb
      rw [ins_ne _ _ (hlive d y hd)] at hpd
      exact h.st.rel.inj b d x y pb pd hb hd hpb hpd e
  have hst : Stp P g.ι0 (ins ι (g.base + i) ⟨w.heap.size, 0, c.size, t, false⟩) g.H00 (g.Hs q) g.w0 { w with heap := w.heap.push (.cells c t (0, 0)) } := by
    refine ⟨hrel, h.st.ext.trans he, fun b hb => ?_, h.st.next, h.st.os, h.st.tape, h.st.output, by rw [hgw.size]; have := h.st.size; omega, fun n hn ho' => ?_, fun n hn => ?_, h.st.roSt⟩
    · rw [ins_ne _ _ (by omega)]; exact h.st.old b hb
    · rw [hgw.old (Nat.lt_of_lt_of_le hn h.st.size)]; exact h.st.frame n hn ho'
    · obtain ⟨b, x, p, k1, k2, k3, k4⟩ := hn
      rw [ins_ne _ _ (hlive b x k1)] at k3
      exact h.st.own n ⟨b, x, p, k1, k2, k3, k4⟩
  have hvi : VRel P (ins ι (g.base + i) ⟨w.heap.size, 0, c.size, t, false⟩) (g.V i) v' := by
    rw [h2]; exact hto.val _ _ _ (ins_same _ _ _) rfl rfl rfl rfl rfl
  have hblk : ∀ b p, ι b = some p → p.blk < w.heap.size := fun b p hb => (h.st.rel.fact b p hb).lt
  refine ⟨by simp [h.lsz], h.down_put ho hready, h.qle, fun j hj hl => (X_set hil j).2 (.inl (h.comm j hj hl)), fun j oj hj hoj hxj hl => ?_, hst, h.nx, fun j oj t2 cs2 f2 hj hoj hxj hwj haj hal2 => ?_,
    fun j oj hoj haj hn => ?_, by rw [put_size]; exact h.asz, by rw [put_defers]; exact h.defers, h.vals_put hg ho hx he hvi⟩
  · rcases (X_set hil j).1 hxj with hxj | e
    · exact h.beyond j oj hj hoj hxj hl
    · subst e; rw [ho] at hoj; cases hoj; exact hk
  · by_cases e : j = i
    · subst e
      rw [ho] at hoj; cases hoj
      rw [hal] at hal2; cases hal2
      refine ⟨_, ins_same _ _ _, h.st.size, ⟨rfl, rfl, fun k u hu => ?_⟩, fun b x pb hb hpb => ?_, fun k pk hkj hqk hlk hxk hpk => ?_⟩
      · obtain ⟨u', hu', hru⟩ := hto.rel.get hu
        exact ⟨u', by simp [World.cell?]; simpa using hu', hru.mono he⟩
      · rw [ins_ne _ _ (hlive b x hb)] at hpb
        have := hblk b pb hpb
        simp; omega
      · rw [ins_ne _ _ (by omega)] at hpk
        have := hblk _ pk hpk
        simp; omega
    · have hxj' : X l j := ((X_set hil j).1 hxj).resolve_right e
      obtain ⟨p, p1, p2, p3, p4, p5⟩ := h.pend j oj t2 cs2 f2 hj hoj hxj' hwj haj hal2
      refine ⟨p, by rw [ins_ne _ _ (by omega)]; exact p1, p2, (p3.of_same (hgw.old (hblk _ p p1))).mono he, fun b x pb hb hpb => ?_, fun k pk hkj hqk hlk hxk hpk => ?_⟩
      · rw [ins_ne _ _ (hlive b x hb)] at hpb
        exact p4 b x pb hb hpb
      · by_cases ek : k = i
        · subst ek; rw [ins_same] at hpk; cases hpk
          have := hblk _ p p1
          simp; omega
        · rw [ins_ne _ _ (by omega)] at hpk
          exact p5 k pk hkj hqk hlk (((X_set hil k).1 hxk).resolve_right ek) hpk
  · by_cases e : j = i
    · subst e; rw [ho] at hoj; cases hoj
      exact ⟨(X_set hil _).2 (.inr rfl), hw⟩
    · rw [ins_ne _ _ (by omega)] at hn
      obtain ⟨k1, k2⟩ := h.notyet j oj hoj haj hn
      exact ⟨(X_set hil j).2 (.inl k1), k2⟩

/-- Behind an effect, whose turn it is. -/
theorem Inv.effect [Gl] (hg : g.Good) {l : Array Bool} {a : Act} {w w' : World} {ι ι' : Emb} {i : Nat} (h : g.Inv l a w ι i) {o : Oper} (ho : g.L[i]? = some o) (hx : ¬ X l i)
    (hready : ∀ j, inAnc (anc g.L) j i = true → X l j) (hk : isEff (kdOf P o.op) = true) {v' : Value} (hv : VRel P ι' (g.V i) v') (hst : Stp P ι ι' (g.Hs i) (g.Hs (i + 1)) w w') :
    g.Inv (l.setIfInBounds i true) (a.put o.dst v') w' ι' (i + 1) := by
  have hil : i < l.size := by rw [h.lsz]; exact L_lt ho
  have hna : isAlloc (kdOf P o.op) = false := by cases hh : kdOf P o.op <;> simp [hh, isEff, isAlloc] at hk ⊢
  have hold : ∀ j oj, g.L[j]? = some oj → isAlloc (kdOf P oj.op) = true → ι' (g.base + j) = ι (g.base + j) := by
    intro j oj hoj haj
    refine hst.old _ ?_
    have := (hg.base j oj hoj haj).2
    have := h.nx; omega
  refine ⟨by simp [h.lsz], h.down_put ho hready, L_lt ho, fun j hj hl => ?_, fun j oj hj hoj hxj hl => ?_, h.st.trans hst, Nat.le_trans h.nx hst.next, fun j oj t2 cs2 f2 hj hoj hxj hwj haj hal2 => ?_,
    fun j oj hoj haj hn => ?_, by rw [put_size]; exact h.asz, by rw [put_defers]; exact h.defers, h.vals_put hg ho hx hst.ext hv⟩
  · by_cases e : j = i
    · exact (X_set hil j).2 (.inr e)
    · exact (X_set hil j).2 (.inl (h.comm j (by omega) hl))
  · have hxj' : X l j := ((X_set hil j).1 hxj).resolve_right (by omega)
    exact h.beyond j oj (by omega) hoj hxj' hl
  · have hxj' : X l j := ((X_set hil j).1 hxj).resolve_right (by omega)
    obtain ⟨p, p1, p2, p3, p4, p5⟩ := h.pend j oj t2 cs2 f2 (by omega) hoj hxj' hwj haj hal2
    have hlt := (h.st.rel.fact _ p p1).lt
    have hno : ¬ Own ι (g.Hs i) p.blk := by
      rintro ⟨b, x, pb, k1, k2, k3, k4⟩
      exact p4 b x pb k1 k3 k4
    refine ⟨p, by rw [hold j oj hoj haj]; exact p1, p2, (p3.of_same (hst.frame _ hlt hno)).mono hst.ext, fun b x pb hb hpb e => ?_, fun k pk hkj hqk hlk hxk hpk => ?_⟩
    · cases hro : x.ro with
      | true =>
        have hb' := (hst.roSt b x hro).1 hb
        obtain ⟨pb', hpb', _⟩ := h.st.rel.live b x hb'
        rw [hst.old b (h.st.rel.dom b pb' hpb'), hpb'] at hpb
        cases hpb
        exact p4 b x _ hb' hpb' e
      | false =>
        rcases hst.own pb.blk ⟨b, x, pb, hb, hro, hpb, rfl⟩ with hh | hh
        · omega
        · rw [e] at hh; exact hno hh
    · obtain ⟨ok, hok⟩ := hlk
      have hxk' : X l k := ((X_set hil k).1 hxk).resolve_right (by omega)
      have hak := h.beyond k ok (by omega) hok.1 hxk' ⟨ok, hok⟩
      rw [hold k ok hok.1 hak] at hpk
      exact p5 k pk hkj (by omega) ⟨ok, hok⟩ hxk' hpk
  · rw [hold j oj hoj haj] at hn
    obtain ⟨k1, k2⟩ := h.notyet j oj hoj haj hn
    exact ⟨(X_set hil j).2 (.inl k1), k2⟩

/-- The heap with what was made ahead of its turn. -/
theorem Inv.comb [Gl] (hg : g.Good) {l : Array Bool} {a : Act} {w : World} {ι : Emb} {q : Nat} (h : g.Inv l a w ι q) : ∀ (d : Nat), q + d ≤ g.m → ∃ Hc : Hp, HRel P ι Hc w ∧
    (∀ b x, (g.Hs q).get b = some x → Hc.get b = some x) ∧
    (∀ j o t cs f, q ≤ j → j < q + d → g.L[j]? = some o → X l j → gW g.L (g.E j) o = true → isAlloc (kdOf P o.op) = true → allocOp P o.op (rhoE (g.E j)) = some (t, cs, f) → Hc.get (g.base + j) = some (.row false t cs)) ∧
    (∀ b x, Hc.get b = some x → (g.Hs q).get b = some x ∨ ∃ j, q ≤ j ∧ j < q + d ∧ isL P g.L g.E j ∧ X l j ∧ b = g.base + j) := by
  intro d
  induction d with
  | zero => intro _; exact ⟨g.Hs q, h.st.rel, fun _ _ h => h, fun j o t cs f h1 h2 => by omega, fun _ _ h => .inl h⟩
  | succ d ih =>
    intro hd
    obtain ⟨Hc, c1, c2, c3, c4⟩ := ih (by omega)
    obtain ⟨o, ho⟩ := L_get (g := g) (i := q + d) (by omega)
    by_cases hc : X l (q + d) ∧ isL P g.L g.E (q + d)
    · obtain ⟨hx, hL⟩ := hc
      have hal := h.beyond (q + d) o (by omega) ho hx hL
      have hw := (isL_L ho hL).1
      obtain ⟨t, cs, f, h1, h2, h3, h4⟩ := step_alloc hg ho hw hal
      obtain ⟨p, p1, p2, p3, p4, p5⟩ := h.pend (q + d) o t cs f (by omega) ho hx hw hal h1
      have hget : ∀ b, b ≠ g.base + (q + d) → (Hc.set (g.base + (q + d)) (.row false t cs)).get b = Hc.get b := fun b hb => Hp.get_set_ne _ _ hb
      have hfar : ∀ b x pb, b ≠ g.base + (q + d) → Hc.get b = some x → ι b = some pb → pb.blk ≠ p.blk := by
        intro b x pb hb hx' hpb
        rcases c4 b x hx' with hh | ⟨j, j1, j2, j3, j4, rfl⟩
        · exact p4 b x pb hh hpb
        · exact p5 j pb (by omega) j1 j3 j4 hpb
      refine ⟨Hc.set (g.base + (q + d)) (.row false t cs), ⟨fun b pb hb => c1.dom b pb hb, c1.fact, fun b x hb => ?_, fun b e x y pb pe hb he hpb hpe hh => ?_, c1.gl⟩, fun b x hb => ?_, fun j oj t' cs' f' k1 k2 k3 k4 k5 k6 k7 => ?_, fun b x hb => ?_⟩
      · by_cases e : b = g.base + (q + d)
        · subst e; simp at hb; subst hb; exact ⟨p, p1, p3⟩
        · rw [hget b e] at hb; exact c1.live b x hb
      · by_cases eb : b = g.base + (q + d)
        · by_cases ee : e = g.base + (q + d)
          · rw [eb, ee]
          · subst eb; rw [p1] at hpb; cases hpb
            rw [hget e ee] at he
            exact absurd hh.symm (hfar e y pe ee he hpe)
        · by_cases ee : e = g.base + (q + d)
          · subst ee; rw [p1] at hpe; cases hpe
            rw [hget b eb] at hb
            exact absurd hh (hfar b x pb eb hb hpb)
          · rw [hget b eb] at hb; rw [hget e ee] at he
            exact c1.inj b e x y pb pe hb he hpb hpe hh
      · by_cases e : b = g.base + (q + d)
        · subst e
          obtain ⟨pb, hpb, _⟩ := h.st.rel.live _ x hb
          rw [p1] at hpb; cases hpb
          exact absurd rfl (p4 _ x p hb p1)
        · rw [hget b e]; exact c2 b x hb
      · by_cases e : j = q + d
        · subst e
          rw [ho] at k3; cases k3
          rw [h1] at k7; cases k7
          simp
        · rw [hget _ (by omega)]
          exact c3 j oj t' cs' f' k1 (by omega) k3 k4 k5 k6 k7
      · by_cases e : b = g.base + (q + d)
        · exact .inr ⟨q + d, by omega, by omega, hL, hx, e⟩
        · rw [hget b e] at hb
          rcases c4 b x hb with hh | ⟨j, j1, j2, j3, j4, j5⟩
          · exact .inl hh
          · exact .inr ⟨j, j1, by omega, j3, j4, j5⟩
    · refine ⟨Hc, c1, c2, fun j oj t' cs' f' k1 k2 k3 k4 k5 k6 k7 => ?_, fun b x hb => ?_⟩
      · by_cases e : j = q + d
        · subst e
          exact absurd ⟨k4, ⟨oj, k3, k5, .inr k6⟩⟩ hc
        · exact c3 j oj t' cs' f' k1 (by omega) k3 k4 k5 k6 k7
      · rcases c4 b x hb with hh | ⟨j, j1, j2, j3, j4, j5⟩
        · exact .inl hh
        · exact .inr ⟨j, j1, by omega, j3, j4, j5⟩

/-- What is read, by the text, is read on the heap as it is now. -/
theorem Inv.reads [Gl] (hg : g.Good) {l : Array Bool} {a : Act} {w : World} {ι : Emb} {q : Nat} (h : g.Inv l a w ι q) {i : Nat} {o : Oper} (ho : g.L[i]? = some o) (hx : ¬ X l i)
    (hready : ∀ j, inAnc (anc g.L) j i = true → X l j) (hw : gW g.L (g.E i) o = true) (hk : isRead (kdOf P o.op) = true) :
    ∃ Hc, HRel P ι Hc w ∧ readOp P o.op (rhoE (g.E i)) Hc = some (g.V i) := by
  obtain ⟨Hc, c1, c2, c3, c4⟩ := h.comb hg (g.m - q) (by have := h.qle; omega)
  refine ⟨Hc, c1, ?_⟩
  have hρ : ∀ x ∈ o.op.operands.toList, ∃ v', VRel P ι (rhoE (g.E i) x) v' := fun x hx' => ⟨_, (h.rho hg ho hx hready) x (sof_all hg ho x hx')⟩
  have hsrc : readOp P o.op (rhoE (g.E i)) (g.Hs i) = some (g.V i) := by
    have hs := hg.tr.step i o (by rw [len_m]; exact L_lt ho) ho
    unfold StepOK at hs
    rw [if_pos hw] at hs
    cases hk2 : kdOf P o.op <;> simp [hk2, isRead] at hk
    simp only [hk2] at hs
    exact hs.1
  -- a heap of the text, from q on, with no effect between
  have agree : ∀ r, q ≤ r → r ≤ g.m → (∀ k ok, q ≤ k → k < r → g.L[k]? = some ok → gW g.L (g.E k) ok = true → isEff (kdOf P ok.op) = false) →
      ∀ b x, ι b ≠ none → (g.Hs r).get b = some x → Hc.get b = some x := by
    intro r hr
    obtain ⟨e, rfl⟩ : ∃ e, r = q + e := ⟨r - q, by omega⟩
    clear hr
    induction e with
    | zero => intro _ _ b x _ hb; exact c2 b x hb
    | succ e ih =>
      intro hm hne b x hb hg'
      obtain ⟨ok, hok⟩ := L_get (g := g) (i := q + e) (by omega)
      by_cases hL : isL P g.L g.E (q + e)
      · have hw' := (isL_L hok hL).1
        have hal : isAlloc (kdOf P ok.op) = true := by
          rcases (isL_L hok hL).2 with h' | h'
          · rw [hne (q + e) ok (by omega) (by omega) hok hw'] at h'; cases h'
          · exact h'
        obtain ⟨t, cs, f, h1, h2, h3, h4⟩ := step_alloc hg hok hw' hal
        rw [show q + (e + 1) = q + e + 1 from by omega, h4, Hp.get_set] at hg'
        by_cases eb : b = g.base + (q + e)
        · subst eb
          simp at hg'; subst hg'
          obtain ⟨hxk, _⟩ := h.notyet (q + e) ok hok hal hb
          exact c3 (q + e) ok t cs f (by omega) (by omega) hok hxk hw' hal h1
        · simp [eb] at hg'
          exact ih (by omega) (fun k ok' k1 k2 => hne k ok' k1 (by omega)) b x hb hg'
      · rw [show q + (e + 1) = q + e + 1 from by omega, step_same hg hok hL] at hg'
        exact ih (by omega) (fun k ok' k1 k2 => hne k ok' k1 (by omega)) b x hb hg'
  rcases Nat.lt_or_ge i q with hlt | hge
  · -- the operation is behind: up from its own heap
    have up : ∀ e, i + 1 + e ≤ q → readOp P o.op (rhoE (g.E i)) (g.Hs (i + 1 + e)) = some (g.V i) := by
      intro e
      induction e with
      | zero =>
        intro _
        have hnl : ¬ isL P g.L g.E i := fun hl => hx (h.comm i hlt hl)
        rw [Nat.add_zero, step_same hg ho hnl]; exact hsrc
      | succ e ih =>
        intro he
        have hprev := ih (by omega)
        obtain ⟨ok, hok⟩ := L_get (g := g) (i := i + 1 + e) (by have := h.qle; omega)
        by_cases hL : isL P g.L g.E (i + 1 + e)
        · have hw' := (isL_L hok hL).1
          have hxk := h.comm (i + 1 + e) (by omega) hL
          rcases (isL_L hok hL).2 with hef | hal
          · refine hg.tr.behind (i + 1 + e) i ok o (by rw [len_m]; have := h.qle; omega) (by omega) hok ho hef hk hw ?_
            cases hanc : inAnc (anc g.L) i (i + 1 + e) with
            | false => rfl
            | true => exact absurd (h.down (i + 1 + e) i ok hxk hok hanc) hx
          · obtain ⟨t, cs, f, h1, h2, h3, h4⟩ := step_alloc hg hok hw' hal
            rw [show i + 1 + (e + 1) = i + 1 + e + 1 from by omega, h4]
            refine read_mono (ι := ι) (fun b x _ hb => ?_) hρ hprev
            rw [Hp.get_set]
            split
            · rename_i eb; subst eb; rw [h3] at hb; cases hb
            · exact hb
        · rw [show i + 1 + (e + 1) = i + 1 + e + 1 from by omega, step_same hg hok hL]; exact hprev
    have hq := up (q - (i + 1)) (by omega)
    rw [show i + 1 + (q - (i + 1)) = q from by omega] at hq
    exact read_mono (fun b x _ hb => c2 b x hb) hρ hq
  · -- it is ahead: the first effect from q on, if there is one ahead of it
    by_cases hex : ∃ k, q ≤ k ∧ k < i ∧ ∃ ok, g.L[k]? = some ok ∧ gW g.L (g.E k) ok = true ∧ isEff (kdOf P ok.op) = true
    · obtain ⟨k0, hk0⟩ := hex
      -- the least one
      have least : ∃ k, (q ≤ k ∧ k < i ∧ ∃ ok, g.L[k]? = some ok ∧ gW g.L (g.E k) ok = true ∧ isEff (kdOf P ok.op) = true) ∧
          ∀ j, q ≤ j → j < k → ¬ ∃ ok, g.L[j]? = some ok ∧ gW g.L (g.E j) ok = true ∧ isEff (kdOf P ok.op) = true := by
        induction k0 using Nat.strongRecOn with
        | _ k0 ih =>
          by_cases hh : ∃ j, q ≤ j ∧ j < k0 ∧ ∃ ok, g.L[j]? = some ok ∧ gW g.L (g.E j) ok = true ∧ isEff (kdOf P ok.op) = true
          · obtain ⟨j, j1, j2, j3⟩ := hh
            exact ih j j2 ⟨j1, by omega, j3⟩
          · exact ⟨k0, hk0, fun j j1 j2 j3 => hh ⟨j, j1, j2, j3⟩⟩
      obtain ⟨k, ⟨k1, k2, ok, k3, k4, k5⟩, k6⟩ := least
      have hnx : ¬ X l k := by
        intro hxk
        have hal := h.beyond k ok k1 k3 hxk ⟨ok, k3, k4, .inl k5⟩
        cases hh : kdOf P ok.op <;> simp [hh, isEff, isAlloc] at k5 hal
      have hanc : inAnc (anc g.L) k i = false := by
        cases hh : inAnc (anc g.L) k i with
        | false => rfl
        | true => exact absurd (hready k hh) hnx
      have hread := hg.tr.ahead k i ok o (by rw [len_m]; exact L_lt ho) k2 k3 ho k5 hk hw hanc
      refine read_mono (agree k k1 (by have := L_lt ho; omega) (fun j oj j1 j2 j3 j4 => ?_)) hρ hread
      cases hh : isEff (kdOf P oj.op) with
      | false => rfl
      | true => exact absurd ⟨oj, j3, j4, hh⟩ (k6 j j1 j2)
    · refine read_mono (agree i hge (by have := L_lt ho; omega) (fun j oj j1 j2 j3 j4 => ?_)) hρ hsrc
      cases hh : isEff (kdOf P oj.op) with
      | false => rfl
      | true => exact absurd ⟨j, j1, j2, oj, j3, j4, hh⟩ hex

end Rgn
end Go.Lk
