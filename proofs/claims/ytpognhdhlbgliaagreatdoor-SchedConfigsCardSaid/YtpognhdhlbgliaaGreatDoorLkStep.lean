/- Steps of the heap and the world: a new block, a written row, a row that grows in its place. -/
import Derived.Test.YtpognhdhlbgliaaGreatDoorLkRead
namespace Go.Lk
variable {P : Program}
def ins (ι : Emb) (b : Nat) (p : Pl) : Emb := fun x => if x = b then some p else ι x

theorem ins_same (ι : Emb) (b : Nat) (p : Pl) : ins ι b p b = some p := by simp [ins]
theorem ins_ne (ι : Emb) {b c : Nat} (p : Pl) (h : c ≠ b) : ins ι b p c = ι c := by simp [ins, h]
theorem ins_ext {ι : Emb} {b : Nat} (p : Pl) (h : ι b = none) : Ext ι (ins ι b p) := by
  intro c q hc
  unfold ins
  split
  · rename_i e; subst e; rw [h] at hc; cases hc
  · exact hc

theorem HRel.fresh [Gl] {ι : Emb} {H : Hp} {w : World} (hr : HRel P ι H w) : ι H.next = none := by
  cases h : ι H.next with
  | none => rfl
  | some p => exact absurd (hr.dom _ _ h) (Nat.lt_irrefl _)

theorem HRel.get_none [Gl] {ι : Emb} {H : Hp} {w : World} (hr : HRel P ι H w) {b : Nat} (h : ι b = none) : H.get b = none := by
  cases hg : H.get b with
  | none => rfl
  | some x => obtain ⟨p, hp, _⟩ := hr.live b x hg; rw [h] at hp; cases hp

theorem lt_of_get {α : Type} {a : Array α} {n : Nat} {x : α} (h : a[n]? = some x) : n < a.size := by
  rcases Nat.lt_or_ge n a.size with h' | h'
  · exact h'
  · simp [Array.getElem?_eq_none h'] at h

theorem Pl.Fact.lt [Gl] {p : Pl} {w : World} (h : p.Fact P w) : p.blk < w.heap.size := by
  unfold Pl.Fact at h
  split at h
  · obtain ⟨c, lo, hi, hc, _⟩ := h; exact lt_of_get hc
  · obtain ⟨es, n, hc⟩ := h; exact lt_of_get hc

theorem Pl.Fact.of_same {p : Pl} {w w' : World} (h : p.Fact P w) (e : w'.heap[p.blk]? = w.heap[p.blk]?) : p.Fact P w' := by
  unfold Pl.Fact at h ⊢
  split at h <;> simp only [e] <;> exact h

theorem cell_same {w w' : World} {b : Nat} (e : w'.heap[b]? = w.heap[b]?) (o : Nat) : w'.cell? ⟨b, o, none⟩ = w.cell? ⟨b, o, none⟩ := by
  simp only [World.cell?, e]

theorem BRel.of_same [Gl] {ι : Emb} {x : Blk} {p : Pl} {w w' : World} (h : BRel P ι x p w) (e : w'.heap[p.blk]? = w.heap[p.blk]?) : BRel P ι x p w' := by
  cases x with
  | row ro t cs =>
    refine ⟨h.1, h.2.1, fun i v hv => ?_⟩
    obtain ⟨v', hv', hr⟩ := h.2.2 i v hv
    exact ⟨v', by rw [cell_same e]; exact hv', hr⟩
  | map l =>
    obtain ⟨h1, es, n, he, hr⟩ := h
    exact ⟨h1, es, n, by rw [e]; exact he, hr⟩

theorem BRel.mono [Gl] {ι ι' : Emb} (he : Ext ι ι') {x : Blk} {p : Pl} {w : World} (h : BRel P ι x p w) : BRel P ι' x p w := by
  cases x with
  | row ro t cs =>
    refine ⟨h.1, h.2.1, fun i v hv => ?_⟩
    obtain ⟨v', hv', hr⟩ := h.2.2 i v hv
    exact ⟨v', hv', hr.mono he⟩
  | map l =>
    obtain ⟨h1, es, n, hh, hr⟩ := h
    exact ⟨h1, es, n, hh, hr.1.mono he, hr.2.1, hr.2.2⟩

/-- A world with one block more. -/
structure Grew (o : Obj) (w w' : World) : Prop where
  heap : w'.heap = w.heap.push o
  os : w'.os = w.os
  tape : w'.tape = w.tape
  output : w'.output = w.output

theorem Grew.size {o : Obj} {w w' : World} (h : Grew o w w') : w'.heap.size = w.heap.size + 1 := by rw [h.heap]; simp
theorem Grew.old {o : Obj} {w w' : World} (h : Grew o w w') {n : Nat} (hn : n < w.heap.size) : w'.heap[n]? = w.heap[n]? := by
  rw [h.heap, Array.getElem?_push, if_neg (by omega)]
theorem Grew.new {o : Obj} {w w' : World} (h : Grew o w w') : w'.heap[w.heap.size]? = some o := by
  rw [h.heap]; simp

theorem HRel.next_le [Gl] {ι : Emb} {H : Hp} {w : World} (hr : HRel P ι H w) {n : Nat} : HRel P ι (H.bump n) w :=
  ⟨fun b p h => Nat.lt_of_lt_of_le (hr.dom b p h) (by simp), hr.fact, hr.live, hr.inj, hr.gl⟩

/-- The heap and the world with a new block under the number b. -/
theorem hrel_new [Gl] {ι : Emb} {H : Hp} {w w' : World} {b t lo hi : Nat} {cs : List Value} {c : Array Value} (hr : HRel P ι H w) (hb : ι b = none) (hbn : b < H.next)
    (hc : ∀ (i : Nat) (v : Value), cs[i]? = some v → ∃ v', c[i]? = some v' ∧ VRel P ι v v') (hg : Grew (.cells c t (lo, hi)) w w')
    (hf : ∀ i, i < c.size → ¬ (lo ≤ i ∧ i < hi)) (hz : isU8 (P.underlying t) = false → ∀ i, ¬ (lo ≤ i ∧ i < hi)) :
    HRel P (ins ι b ⟨w.heap.size, 0, c.size, t, false⟩) (H.set b (.row false t cs)) w' := by
  have he := ins_ext ⟨w.heap.size, 0, c.size, t, false⟩ hb
  have hgl : GRel (ins ι b ⟨w.heap.size, 0, c.size, t, false⟩) w' := hr.gl.of_same (fun x p hx => by
    by_cases e : x = b
    · subst e; rw [ins_same] at hx; cases hx; exact .inr (Nat.le_refl _)
    · rw [ins_ne _ _ e] at hx; exact .inl ⟨x, p, hx, rfl⟩) fun g hd => hg.old (hr.gl.lt hd)
  refine ⟨?_, ?_, ?_, ?_, hgl⟩
  · intro x p hx
    by_cases e : x = b
    · subst e; exact hbn
    · rw [ins_ne _ _ e] at hx; exact hr.dom x p hx
  · intro x p hx
    by_cases e : x = b
    · subst e; rw [ins_same] at hx; cases hx
      exact ⟨c, lo, hi, hg.new, rfl, hf, hz⟩
    · rw [ins_ne _ _ e] at hx
      have := hr.fact x p hx
      exact this.of_same (hg.old this.lt)
  · intro x y hy
    rw [Hp.get_set] at hy
    by_cases e : x = b
    · subst e
      simp at hy; subst hy
      refine ⟨_, ins_same _ _ _, rfl, rfl, fun i v hv => ?_⟩
      obtain ⟨v', hv', hrv⟩ := hc i v hv
      exact ⟨v', by simp [World.cell?, hg.new, hv'], hrv.mono he⟩
    · simp [e] at hy
      obtain ⟨p, hp, hbr⟩ := hr.live x y hy
      exact ⟨p, by rw [ins_ne _ _ e]; exact hp, (hbr.of_same (hg.old (hr.fact x p hp).lt)).mono he⟩
  · intro x y u v p q hu hv hp hq hpq
    rw [Hp.get_set] at hu hv
    by_cases ex : x = b
    · by_cases ey : y = b
      · rw [ex, ey]
      · subst ex
        rw [ins_same] at hp; cases hp
        rw [ins_ne _ _ ey] at hq
        have := (hr.fact y q hq).lt
        simp at hpq; omega
    · by_cases ey : y = b
      · subst ey
        rw [ins_same] at hq; cases hq
        rw [ins_ne _ _ ex] at hp
        have := (hr.fact x p hp).lt
        simp at hpq; omega
      · rw [ins_ne _ _ ex] at hp
        rw [ins_ne _ _ ey] at hq
        simp [ex] at hu; simp [ey] at hv
        exact hr.inj x y u v p q hu hv hp hq hpq

/-- What may be written, behind a new block. -/
theorem own_new [Gl] {ι : Emb} {H : Hp} {b t : Nat} {cs : List Value} {pl : Pl} {n : Nat} (ho : Own (ins ι b pl) (H.set b (.row false t cs)) n) :
    n = pl.blk ∨ Own ι H n := by
  obtain ⟨x, y, p, hy, hro, hp, rfl⟩ := ho
  by_cases e : x = b
  · subst e; rw [ins_same] at hp; cases hp; exact .inl rfl
  · rw [Hp.get_set] at hy
    simp [e] at hy
    rw [ins_ne _ _ e] at hp
    exact .inr ⟨x, y, p, hy, hro, hp, rfl⟩

theorem stp_new [Gl] {ι : Emb} {H : Hp} {w w' : World} {t lo hi : Nat} {cs : List Value} {c : Array Value} (hr : HRel P ι H w)
    (hc : ∀ (i : Nat) (v : Value), cs[i]? = some v → ∃ v', c[i]? = some v' ∧ VRel P ι v v') (hg : Grew (.cells c t (lo, hi)) w w')
    (hf : ∀ i, i < c.size → ¬ (lo ≤ i ∧ i < hi)) (hz : isU8 (P.underlying t) = false → ∀ i, ¬ (lo ≤ i ∧ i < hi)) :
    Stp P ι (ins ι H.next ⟨w.heap.size, 0, c.size, t, false⟩) H ((H.bump 1).set H.next (.row false t cs)) w w' := by
  have hb := hr.fresh
  refine ⟨hrel_new hr.next_le hb (by simp) hc hg hf hz, ins_ext _ hb, fun x hx => ins_ne _ _ (by omega), by simp, hg.os, hg.tape, hg.output, by rw [hg.size]; omega, fun n hn _ => hg.old hn, fun n hn => ?_, fun x y hy => ?_⟩
  · rcases own_new hn with h | ⟨x, y, p, h1, h2, h3, h4⟩
    · exact .inl (by rw [h]; exact Nat.le_refl _)
    · exact .inr ⟨x, y, p, h1, h2, h3, h4⟩
  · rw [Hp.get_set]
    by_cases e : x = H.next
    · subst e
      simp
      constructor
      · intro h; subst h; simp [Blk.ro] at hy
      · intro h; rw [hr.get_none hb] at h; cases h
    · simp [e]

/-- A row is given up. -/
theorem stp_del [Gl] {ι : Emb} {H : Hp} {w : World} {b t : Nat} {cs : List Value} (hr : HRel P ι H w) (hb : H.get b = some (.row false t cs)) : Stp P ι ι H (H.del b) w w := by
  have hget : ∀ x y, (H.del b).get x = some y → H.get x = some y := by
    intro x y h
    rw [Hp.get_del] at h
    split at h
    · cases h
    · exact h
  refine ⟨⟨hr.dom, hr.fact, fun x y h => hr.live x y (hget x y h), fun x y u v p q hu hv => hr.inj x y u v p q (hget _ _ hu) (hget _ _ hv), hr.gl⟩,
    Ext.refl _, fun _ _ => rfl, Nat.le_refl _, rfl, rfl, rfl, Nat.le_refl _, fun _ _ _ => rfl, fun n ⟨x, y, p, h1, h2, h3, h4⟩ => .inr ⟨x, y, p, hget _ _ h1, h2, h3, h4⟩, fun x y hy => ?_⟩
  rw [Hp.get_del]
  split
  · rename_i e; subst e
    rw [hb]
    constructor
    · intro h; cases h
    · intro h; cases h; simp [Blk.ro] at hy
  · exact Iff.rfl

/-- A world in which one row is written. -/
structure Wrote (n : Nat) (c : Array Value) (w w' : World) : Prop where
  os : w'.os = w.os
  tape : w'.tape = w.tape
  output : w'.output = w.output
  size : w'.heap.size = w.heap.size
  old : ∀ k, k ≠ n → w'.heap[k]? = w.heap[k]?
  new : ∃ c0 t lo hi, w.heap[n]? = some (.cells c0 t (lo, hi)) ∧ w'.heap[n]? = some (.cells c t (lo, hi)) ∧ c.size = c0.size

theorem Wrote.fact [Gl] {n : Nat} {c : Array Value} {w w' : World} (h : Wrote n c w w') {p : Pl} (hf : p.Fact P w) : p.Fact P w' := by
  by_cases e : p.blk = n
  · obtain ⟨c0, t, lo, hi, h1, h2, h3⟩ := h.new
    unfold Pl.Fact at hf ⊢
    split at hf
    · rename_i hm
      obtain ⟨c1, lo1, hi1, k1, k2, k3, k4⟩ := hf
      rw [e, h1] at k1
      simp only [Option.some.injEq, Obj.cells.injEq, Prod.mk.injEq] at k1
      obtain ⟨rfl, rfl, rfl, rfl⟩ := k1
      exact ⟨c, lo, hi, by rw [e]; exact h2, by omega, k3, k4⟩
    · obtain ⟨es, m, k1⟩ := hf
      rw [e, h1] at k1; cases k1
  · exact hf.of_same (h.old _ e)

/-- A live row is written. -/
theorem stp_wr [Gl] {ι : Emb} {H : Hp} {w w' : World} {b t : Nat} {cs cs' : List Value} {c : Array Value} {p : Pl} (hr : HRel P ι H w) (hb : H.get b = some (.row false t cs)) (hp : ι b = some p)
    (hw : Wrote p.blk c w w') (hc : ∀ (i : Nat) (v : Value), cs'[i]? = some v → ∃ v', c[p.sh + i]? = some v' ∧ VRel P ι v v') :
    Stp P ι ι H (H.set b (.row false t cs')) w w' := by
  obtain ⟨q, hq, hbr⟩ := hr.live b _ hb
  rw [hp] at hq; cases hq
  obtain ⟨c0, t0, lo, hi, h1, h2, h3⟩ := hw.new
  refine ⟨⟨hr.dom, fun x q hx => hw.fact (hr.fact x q hx), fun x y hy => ?_, fun x y u v p' q' hu hv hp' hq' e => ?_, hr.gl.of_same (fun x q hx => .inl ⟨x, q, hx, rfl⟩) fun g hd => hw.old g fun e => (hr.gl g hd).2 b p hp e.symm⟩,
    Ext.refl _, fun _ _ => rfl, Nat.le_refl _, hw.os, hw.tape, hw.output, by rw [hw.size]; exact Nat.le_refl _, fun n hn ho => ?_, fun n hn => ?_, fun x y hy => ?_⟩
  · rw [Hp.get_set] at hy
    by_cases e : x = b
    · subst e; simp at hy; subst hy
      refine ⟨p, hp, hbr.1, hbr.2.1, fun i v hv => ?_⟩
      obtain ⟨v', hv', hrv⟩ := hc i v hv
      exact ⟨v', by simp [World.cell?, h2, hv'], hrv⟩
    · simp [e] at hy
      obtain ⟨q, hq, hbq⟩ := hr.live x y hy
      refine ⟨q, hq, hbq.of_same (hw.old _ (fun e2 => e (hr.inj x b _ _ q p hy hb hq hp e2)))⟩
  · rw [Hp.get_set] at hu hv
    have hu' : ∃ u', H.get x = some u' := by
      by_cases ex : x = b
      · subst ex; exact ⟨_, hb⟩
      · simp [ex] at hu; exact ⟨_, hu⟩
    have hv' : ∃ u', H.get y = some u' := by
      by_cases ex : y = b
      · subst ex; exact ⟨_, hb⟩
      · simp [ex] at hv; exact ⟨_, hv⟩
    obtain ⟨u', hu'⟩ := hu'
    obtain ⟨v', hv'⟩ := hv'
    exact hr.inj x y u' v' p' q' hu' hv' hp' hq' e
  · exact hw.old n (fun e => ho ⟨b, _, p, hb, rfl, hp, e.symm⟩)
  · obtain ⟨x, y, q, hy, hro, hq, rfl⟩ := hn
    rw [Hp.get_set] at hy
    by_cases e : x = b
    · subst e; exact .inr ⟨x, _, q, hb, rfl, hq, rfl⟩
    · simp [e] at hy; exact .inr ⟨x, y, q, hy, hro, hq, rfl⟩
  · rw [Hp.get_set]
    by_cases e : x = b
    · subst e; simp
      constructor
      · intro h; subst h; simp [Blk.ro] at hy
      · intro h; rw [hb] at h; cases h; simp [Blk.ro] at hy
    · simp [e]

/-- A row written with what it held. -/
theorem stp_same [Gl] {ι : Emb} {H H' : Hp} {w : World} {b t : Nat} {cs : List Value} (hr : HRel P ι H w) (hb : H.get b = some (.row false t cs)) (h : H' = H.set b (.row false t cs)) : Stp P ι ι H H' w w := by
  subst h
  have hget : ∀ x, (H.set b (.row false t cs)).get x = H.get x := by
    intro x; rw [Hp.get_set]; split
    · rename_i e; subst e; exact hb.symm
    · rfl
  refine ⟨⟨hr.dom, hr.fact, fun x y hy => hr.live x y (by rw [← hget]; exact hy), fun x y u v p q hu hv => hr.inj x y u v p q (by rw [← hget]; exact hu) (by rw [← hget]; exact hv), hr.gl⟩,
    Ext.refl _, fun _ _ => rfl, Nat.le_refl _, rfl, rfl, rfl, Nat.le_refl _, fun _ _ _ => rfl, fun n ⟨x, y, p, h1, h2, h3, h4⟩ => .inr ⟨x, y, p, by rw [← hget]; exact h1, h2, h3, h4⟩, fun x y _ => by rw [hget]⟩

/-- A live row grows in its place, under a new number. -/
theorem stp_grow [Gl] {ι : Emb} {H : Hp} {w w' : World} {b t o' : Nat} {cs cs' : List Value} {c : Array Value} {p : Pl} (hr : HRel P ι H w) (hb : H.get b = some (.row false t cs)) (hp : ι b = some p)
    (hw : Wrote p.blk c w w') (hc : ∀ (i : Nat) (v : Value), cs'[i]? = some v → ∃ v', c[o' + i]? = some v' ∧ VRel P ι v v') :
    Stp P ι (ins ι H.next ⟨p.blk, o', p.csz, p.elem, false⟩) H (((H.del b).bump 1).set H.next (.row false t cs')) w w' := by
  obtain ⟨q, hq, hbr⟩ := hr.live b _ hb
  rw [hp] at hq; cases hq
  obtain ⟨c0, t0, lo, hi, h1, h2, h3⟩ := hw.new
  have hn := hr.fresh
  have he := ins_ext (⟨p.blk, o', p.csz, p.elem, false⟩ : Pl) hn
  have hbn : b ≠ H.next := fun e => by rw [e, hn] at hp; cases hp
  have hget : ∀ x y, x ≠ H.next → ((((H.del b).bump 1).set H.next (.row false t cs')).get x = some y ↔ x ≠ b ∧ H.get x = some y) := by
    intro x y hx
    rw [Hp.get_set, if_neg hx, Hp.get_bump, Hp.get_del]
    by_cases e : x = b
    · simp [e]
    · simp [e]
  have hgl : GRel (ins ι H.next ⟨p.blk, o', p.csz, p.elem, false⟩) w' := hr.gl.of_same (fun x q hx => by
    by_cases e : x = H.next
    · subst e; rw [ins_same] at hx; cases hx; exact .inl ⟨b, p, hp, rfl⟩
    · rw [ins_ne _ _ e] at hx; exact .inl ⟨x, q, hx, rfl⟩) fun g hd => hw.old g fun e => (hr.gl g hd).2 b p hp e.symm
  refine ⟨⟨fun x q hx => ?_, fun x q hx => ?_, fun x y hy => ?_, fun x y u v p' q' hu hv hp' hq' e => ?_, hgl⟩,
    he, fun x hx => ins_ne _ _ (by omega), by simp, hw.os, hw.tape, hw.output, by rw [hw.size]; exact Nat.le_refl _, fun n hn ho => ?_, fun n hn => ?_, fun x y hy => ?_⟩
  · by_cases e : x = H.next
    · subst e; simp
    · rw [ins_ne _ _ e] at hx; have := hr.dom x q hx; simp; omega
  · by_cases e : x = H.next
    · subst e; rw [ins_same] at hx; cases hx
      have hfp := hw.fact (hr.fact b p hp)
      unfold Pl.Fact at hfp ⊢
      simp only [hbr.1] at hfp
      exact hfp
    · rw [ins_ne _ _ e] at hx; exact hw.fact (hr.fact x q hx)
  · by_cases e : x = H.next
    · subst e
      simp at hy; subst hy
      refine ⟨_, ins_same _ _ _, rfl, hbr.2.1, fun i v hv => ?_⟩
      obtain ⟨v', hv', hrv⟩ := hc i v hv
      exact ⟨v', by simp [World.cell?, h2, hv'], hrv.mono he⟩
    · rw [hget x y e] at hy
      obtain ⟨hxb, hy⟩ := hy
      obtain ⟨q, hq, hbq⟩ := hr.live x y hy
      exact ⟨q, by rw [ins_ne _ _ e]; exact hq, (hbq.of_same (hw.old _ (fun e2 => hxb (hr.inj x b _ _ q p hy hb hq hp e2)))).mono he⟩
  · by_cases ex : x = H.next
    · by_cases ey : y = H.next
      · rw [ex, ey]
      · subst ex
        rw [ins_same] at hp'; cases hp'
        rw [ins_ne _ _ ey] at hq'
        rw [hget y v ey] at hv
        exact absurd (hr.inj y b _ _ q' p hv.2 hb hq' hp e.symm) hv.1
    · by_cases ey : y = H.next
      · subst ey
        rw [ins_same] at hq'; cases hq'
        rw [ins_ne _ _ ex] at hp'
        rw [hget x u ex] at hu
        exact absurd (hr.inj x b _ _ p' p hu.2 hb hp' hp e) hu.1
      · rw [ins_ne _ _ ex] at hp'
        rw [ins_ne _ _ ey] at hq'
        rw [hget x u ex] at hu
        rw [hget y v ey] at hv
        exact hr.inj x y u v p' q' hu.2 hv.2 hp' hq' e
  · exact hw.old n (fun e => ho ⟨b, _, p, hb, rfl, hp, e.symm⟩)
  · obtain ⟨x, y, q, hy, hro, hq, rfl⟩ := hn
    by_cases e : x = H.next
    · subst e; rw [ins_same] at hq; cases hq
      exact .inr ⟨b, _, p, hb, rfl, hp, rfl⟩
    · rw [hget x y e] at hy
      rw [ins_ne _ _ e] at hq
      exact .inr ⟨x, y, q, hy.2, hro, hq, rfl⟩
  · by_cases e : x = H.next
    · subst e; simp
      constructor
      · intro h; subst h; simp [Blk.ro] at hy
      · intro h; rw [hr.get_none hn] at h; cases h
    · rw [hget x y e]
      constructor
      · exact fun h => h.2
      · intro h
        refine ⟨fun e => ?_, h⟩
        subst e; rw [hb] at h; cases h; simp [Blk.ro] at hy

end Go.Lk
