/- The operations that make memory, and those that write. -/
import Derived.Test.YtpognhdhlbgliaaGreatDoorLkStep
import Derived.Laws.Append
namespace Go.Lk
variable {P : Program}
theorem grew_alloc (w : World) (o : Obj) : Grew o w { w with heap := w.heap.push o } := ⟨rfl, rfl, rfl, rfl⟩

theorem run_newRow {w : World} (t : TypeId) (c : Array Value) : (newRow t c).run P w = .ok ⟨w.heap.size, 0, none⟩ { w with heap := w.heap.push (.cells c t) } := by
  simp [newRow]

/-- What an operation that makes a block comes to. -/
structure AllocTo [Gl] (P : Program) (ι : Emb) (s : Sem Next) (w : World) (t : TypeId) (cs : List Value) (f : Nat → Value) (c : Array Value) (v' : Value) : Prop where
  run : s.run P w = .ok (.value v') { w with heap := w.heap.push (.cells c t (0, 0)) }
  rel : LRel P ι cs c.toList
  val : ∀ (ι' : Emb) (b : Nat) (pl : Pl), ι' b = some pl → pl.blk = w.heap.size → pl.sh = 0 → pl.csz = c.size → pl.elem = t → pl.isMap = false → VRel P ι' (f b) v'

theorem ptr_val [Gl] {w : World} {c : Array Value} {t : TypeId} (ι' : Emb) (b : Nat) (pl : Pl) (h : ι' b = some pl) (h1 : pl.blk = w.heap.size) (h2 : pl.sh = 0) (_ : pl.csz = c.size) (_ : pl.elem = t) (hm : pl.isMap = false) :
    VRel P ι' (.pointer (some ⟨b, 0, none⟩)) (.pointer (some ⟨w.heap.size, 0, none⟩)) := by
  have := VRel.ptr (P := P) b 0 pl h hm
  rw [h1, h2] at this; exact this

theorem rep_flatten (z : List Value) : ∀ (n i : Nat), 0 < z.length → i < n * z.length → ((List.replicate n z).flatten)[i]? = z[i % z.length]? := by
  intro n
  induction n with
  | zero => intro i _ h; simp at h
  | succ n ih =>
    intro i hz h
    rw [List.replicate_succ, List.flatten_cons]
    by_cases hi : i < z.length
    · rw [List.getElem?_append_left hi, Nat.mod_eq_of_lt hi]
    · rw [List.getElem?_append_right (by omega), ih _ hz (by rw [Nat.succ_mul] at h; omega)]
      congr 1
      exact (Nat.mod_eq_sub_mod (by omega)).symm

theorem zeros_eq [Gl] (z : Array Value) (n : Nat) (hz : 0 < z.size) : ((Array.range (n * z.size)).map (z[· % z.size]!)).toList = (List.replicate n z.toList).flatten := by
  apply List.ext_getElem?
  intro i
  by_cases hi : i < n * z.size
  · rw [rep_flatten z.toList n i (by simpa using hz) (by simpa using hi)]
    have hm : i % z.size < z.size := Nat.mod_lt _ hz
    simp [hi, hm]
  · have h1 : ((List.replicate n z.toList).flatten).length = n * z.size := by simp
    rw [List.getElem?_eq_none (by simp; omega), List.getElem?_eq_none (by omega)]

theorem allocOp_ok [Gl] {S : Operand → Bool} {ι : Emb} {w : World} {o : Oper} {ρ ρ' : Operand → Value} {t : TypeId} {cs : List Value} {f : Nat → Value} (hρ : RhoRel P ι S ρ ρ') (hok : ∀ x ∈ o.op.operands.toList, S x = true)
    (h : allocOp P o.op ρ = some (t, cs, f)) : ∃ c v', AllocTo P ι (execOp ρ' o) w t cs f c v' := by
  obtain ⟨dst, op, ty, pos, after, guard⟩ := o
  cases op
  case alloc e =>
    simp only [allocOp] at h
    cases hi : P.info? e with
    | none => simp [hi] at h
    | some i =>
      simp only [hi] at h
      cases hz : zc i with
      | none => simp [hz] at h
      | some z =>
        simp [hz] at h
        obtain ⟨rfl, rfl, rfl⟩ := h
        obtain ⟨z0, hz0, rfl, hs⟩ := zc_some hz
        refine ⟨z0.cells, .pointer (some ⟨w.heap.size, 0, none⟩), ?_, LRel.scal_self hs, fun ι' b pl => ptr_val ι' b pl⟩
        simp [execOp, Instr.alloc, run_zero hi hz0, newVar, run_newRow]
  case box e x =>
    simp [Op.operands] at hok
    simp [allocOp] at h
    obtain ⟨rfl, rfl, rfl⟩ := h
    refine ⟨(ρ' x).cells, .pointer (some ⟨w.heap.size, 0, none⟩), ?_, (hρ x hok).cells, fun ι' b pl => ptr_val ι' b pl⟩
    simp [execOp, Instr.box, newVar, run_newRow]
  case buildSlice st n ps =>
    simp only [allocOp] at h
    cases hu : P.underlying st with
    | none => simp [hu] at h
    | some d =>
      cases d <;> try (simp [hu] at h; done)
      rename_i e
      simp only [hu] at h
      cases hi : P.info? e with
      | none => simp [hi] at h
      | some ei =>
        simp only [hi] at h
        cases hz : zc ei with
        | none => simp [hz] at h
        | some z =>
          simp only [hz] at h
          obtain ⟨z0, hz0, rfl, hs⟩ := zc_some hz
          split at h
          · rename_i hc
            obtain ⟨hc1, hc2, hc3⟩ := hc
            cases hp : partsOf (fun i => some (i * ei.size, ei.size)) (ps.toList.map fun p => (p.1, ρ p.2)) with
            | none => simp [hp] at h
            | some l =>
              simp only [hp] at h
              cases hb : bldL (List.replicate n z0.cells.toList).flatten l with
              | none => simp [hb] at h
              | some out =>
                simp [hb] at h
                obtain ⟨rfl, rfl, rfl⟩ := h
                have hsz : z0.cells.size = ei.size := by simpa using hc1
                have hpos : 0 < z0.cells.size := by
                  rcases Nat.eq_zero_or_pos z0.cells.size with h0 | h0
                  · rw [← hsz, h0] at hc2; simp at hc2
                  · exact h0
                have hpr : PRel P ι (ps.toList.map fun p => (p.1, ρ p.2)) (ps.map fun (i, x) => (i, ρ' x)).toList := by
                  have := PRel.map (P := P) (ι := ι) (ρ := ρ) (ρ' := ρ') ps.toList (fun p hp => hρ p.2 (hok p.2 (by simp [Op.operands]; exact ⟨p.1, by simpa using hp⟩)))
                  simpa using this
                have hzr : LRel P ι (List.replicate n z0.cells.toList).flatten ((Array.range (n * ei.size)).map (z0.cells[· % z0.cells.size]!)).toList := by
                  rw [← hsz, zeros_eq z0.cells n hpos]
                  refine LRel.scal_self ?_
                  rw [List.all_eq_true] at hs ⊢
                  intro x hx
                  rw [List.mem_flatten] at hx
                  obtain ⟨l, hl, hx⟩ := hx
                  rw [List.eq_of_mem_replicate hl] at hx
                  exact hs x hx
                obtain ⟨out', ho, hro⟩ := bldL_fill _ _ _ l _ _ out hpr hp hb hzr
                have hlen : out'.size = n * ei.size := by
                  have h1 : out.length = (List.replicate n z0.cells.toList).flatten.length := bldL_length l _ _ hb
                  have h2 := hro.1
                  simp at h1 h2
                  rw [← hsz]; omega
                refine ⟨out', .slice (some ⟨w.heap.size, 0, none⟩) n n, ?_, hro, fun ι' b pl h1 h2 h3 h4 h5 h6 => ?_⟩
                · have hne : ¬ n * ei.size = 0 := by omega
                  simp [execOp, Instr.buildSlice, run_underlying hu, run_sz hi, hne, run_zero hi hz0]
                  have hlt : ¬ 16777216 < n * ei.size := by omega
                  have ho2 : Instr.fill (fun i => some (i * ei.size, ei.size)) (Array.map (fun x => z0.cells[x % z0.cells.size]!) (Array.range (n * ei.size))) (List.map (fun x => (x.fst, ρ' x.snd)) ps.toList) = some out' := by
                    rw [← ho]; simp
                  rw [if_neg hlt]
                  simp [ho2, run_newRow]
                · have := VRel.slice (P := P) b 0 0 n n n pl h1 h6 (.inr (by omega)) (Nat.le_refl _) (Nat.le_refl _) (by simp only [esz, h5, cellsOf_info hi, h4, hlen]; omega)
                  rw [h2] at this; exact this
          · simp at h
  all_goals simp [allocOp] at h
where
  bldL_length : ∀ (l : List (Nat × Nat × Value)) (cs out : List Value), bldL cs l = some out → out.length = cs.length := by
    intro l
    induction l with
    | nil => intro cs out h; simp [bldL] at h; rw [h]
    | cons a l ih =>
      intro cs out h
      obtain ⟨o, s, v⟩ := a
      simp only [bldL] at h
      split at h
      · rename_i hc
        rw [ih _ _ h]
        simp; simp at hc; omega
      · simp at h

/-- Cells stored one behind the other. -/
theorem run_storeCells' (n t lo hi off : Nat) : ∀ (vs : List Value) (i : Nat) (c : Array Value) (w : World), w.heap[n]? = some (.cells c t (lo, hi)) → off + i + vs.length ≤ c.size →
    (∀ j, j < c.size → ¬ (lo ≤ j ∧ j < hi)) → vs.all oneC = true → vs ≠ [] → ∃ c' w', (storeCells ⟨n, off, none⟩ vs i).run P w = .ok () w' ∧ Wrote n c' w w' ∧
      c'.toList = c.toList.take (off + i) ++ (vs ++ c.toList.drop (off + i + vs.length)) := by
  intro vs
  induction vs with
  | nil => intro i c w _ _ _ _ h; exact absurd rfl h
  | cons v vs ih =>
    intro i c w hw hlen hfr hone _
    simp only [List.length_cons] at hlen
    simp only [List.all_cons, Bool.and_eq_true] at hone
    have hadd : (⟨n, off, none⟩ : Addr).add i = ⟨n, off + i, none⟩ := by
      unfold Addr.add; split
      · rename_i h; subst h; rfl
      · rfl
    have hlt : off + i < c.size := by omega
    have hcell : w.cell? ⟨n, off + i, none⟩ = some c[off + i] := by simp [World.cell?, hw, hlt]
    have hfz : w.frozen? ⟨n, off + i, none⟩ = false := by
      simp only [World.frozen?, hw]
      have := hfr (off + i) hlt
      simp only [Bool.and_eq_false_iff, decide_eq_false_iff_not]; omega
    have hv1 : v.oneCell' = true := by cases v <;> first | rfl | (simp [oneC] at hone)
    have hst : (store ⟨n, off + i, none⟩ v).run P w = .ok () (w.setCell ⟨n, off + i, none⟩ v) := by
      rw [run_store P w _ v _ hv1, hcell]; simp [hfz]
    have hw1 : (w.setCell ⟨n, off + i, none⟩ v).heap[n]? = some (.cells (c.setIfInBounds (off + i) v) t (lo, hi)) := by
      simp [World.setCell, Array.getElem?_modify, hw]
    have hwr1 : Wrote n (c.setIfInBounds (off + i) v) w (w.setCell ⟨n, off + i, none⟩ v) := by
      refine ⟨rfl, rfl, rfl, by simp [World.setCell], fun k hk => ?_, c, t, lo, hi, hw, hw1, by simp⟩
      simp only [World.setCell, Array.getElem?_modify]
      rw [if_neg (fun e => hk e.symm)]
    have hset : (c.setIfInBounds (off + i) v).toList = c.toList.take (off + i) ++ (v :: c.toList.drop (off + i + 1)) := by
      simp only [Array.toList_setIfInBounds]
      rw [List.set_eq_take_append_cons_drop, if_pos (by simpa using hlt)]
    cases hvs : vs with
    | nil =>
      refine ⟨_, _, ?_, hwr1, ?_⟩
      · simp [storeCells, hadd, hst]
      · rw [hset]; simp
    | cons v2 vs2 =>
      obtain ⟨c', w', hrun, hwr, hc'⟩ := ih (i + 1) (c.setIfInBounds (off + i) v) (w.setCell ⟨n, off + i, none⟩ v) hw1 (by simp; omega) (by simpa using hfr) hone.2 (by rw [hvs]; simp)
      refine ⟨c', w', ?_, ?_, ?_⟩
      · rw [hvs] at hrun
        rw [storeCells, Sem.run_bind, hadd, hst]
        exact hrun
      · refine ⟨hwr.os, hwr.tape, hwr.output, by rw [hwr.size]; simp [World.setCell], fun k hk => by rw [hwr.old k hk]; exact hwr1.old k hk, ?_⟩
        obtain ⟨c0, t0, lo0, hi0, h1, h2, h3⟩ := hwr.new
        rw [hw1] at h1
        simp only [Option.some.injEq, Obj.cells.injEq, Prod.mk.injEq] at h1
        obtain ⟨rfl, rfl, rfl, rfl⟩ := h1
        exact ⟨c, t, lo, hi, hw, h2, by rw [h3]; simp⟩
      · rw [hc', hset, hvs]
        have hl : (c.toList.take (off + i)).length = off + i := by simp; omega
        rw [show off + (i + 1) = (off + i) + 1 from by omega]
        rw [List.take_append, hl, List.drop_append, hl]
        have e1 : (c.toList.take (off + i)).take (off + i + 1) = c.toList.take (off + i) := by rw [List.take_take]; congr 1; omega
        have e2 : (off + i + 1 - (off + i)) = 1 := by omega
        have e3 : (c.toList.take (off + i)).drop (off + i + 1 + (v2 :: vs2).length) = [] := by rw [List.drop_eq_nil_iff]; omega
        have e4 : (off + i + 1 + (v2 :: vs2).length - (off + i)) = (v2 :: vs2).length + 1 := by omega
        rw [e1, e2, e3, e4]
        simp [List.drop_drop, Nat.add_comm, Nat.add_left_comm]

/-- The cells of a live row written over. -/
theorem wr_ok [Gl] {ι : Emb} {H H' : Hp} {w : World} {b o : Nat} {p : Pl} {vs vs' : List Value} (hr : HRel P ι H w) (hp : ι b = some p) (hvs : LRel P ι vs vs') (hone : vs.all oneC = true) (hne : vs ≠ [])
    (h : wr ⟨b, o, none⟩ vs H = some ((), H')) : ∃ w', (storeCells ⟨p.blk, p.sh + o, none⟩ vs').run P w = .ok () w' ∧ Stp P ι ι H H' w w' := by
  unfold wr at h
  split at h
  · rename_i e cs hg
    split at h
    · rename_i hlen
      have hlen : o + vs.length ≤ cs.length := hlen
      simp at h; subst h
      obtain ⟨q, hq, hbr⟩ := hr.live b _ hg
      rw [hp] at hq; cases hq
      have hf := hr.fact b p hp
      unfold Pl.Fact at hf
      simp only [hbr.1] at hf
      obtain ⟨c, lo, hi, hc, hcs, hfr, _⟩ := hf
      have hbound : ∀ i, i < cs.length → p.sh + i < c.size := by
        intro i hi
        obtain ⟨v', hv', _⟩ := hbr.2.2 i _ (List.getElem?_eq_getElem hi)
        simp only [World.cell?, hc] at hv'
        simp at hv'
        obtain ⟨h1, _⟩ := Array.getElem?_eq_some_iff.1 hv'
        exact h1
      have hvl : vs.length ≠ 0 := by simpa using hne
      have hl' : vs'.length = vs.length := hvs.1.symm
      have hfit : p.sh + o + vs'.length ≤ c.size := by
        have := hbound (o + vs.length - 1) (by omega)
        omega
      have hone' : vs'.all oneC = true := by
        rw [List.all_eq_true] at hone ⊢
        intro x hx
        obtain ⟨i, hi⟩ := List.getElem?_of_mem hx
        have hil : i < vs.length := by
          rcases Nat.lt_or_ge i vs'.length with h | h
          · omega
          · rw [List.getElem?_eq_none h] at hi; cases hi
        have := hvs.2 i _ x (List.getElem?_eq_getElem hil) hi
        rw [this.oneC]
        exact hone _ (List.getElem_mem hil)
      obtain ⟨c', w', hrun, hwr, hc'⟩ := run_storeCells' (P := P) p.blk p.elem lo hi (p.sh + o) vs' 0 c w hc (by omega) (fun j hj => hfr j (by omega)) hone' (fun e => by rw [e] at hl'; simp at hl'; omega)
      refine ⟨w', hrun, stp_wr hr hg hp hwr (fun i v hv => ?_)⟩
      have hcl : ∀ i : Nat, c'[i]? = (c.toList.take (p.sh + o) ++ (vs' ++ c.toList.drop (p.sh + o + vs'.length)))[i]? := by
        intro i; rw [← Array.getElem?_toList, hc']; simp
      have hold : ∀ i v, cs[i]? = some v → ∃ v', c[p.sh + i]? = some v' ∧ VRel P ι v v' := by
        intro i v hv
        obtain ⟨v', hv', hrv⟩ := hbr.2.2 i v hv
        simp only [World.cell?, hc] at hv'
        exact ⟨v', by simpa using hv', hrv⟩
      rw [hcl]
      by_cases h1 : i < o
      · rw [List.getElem?_append_left (by simp; omega)] at hv
        rw [List.getElem?_take, if_pos h1] at hv
        obtain ⟨v', hv', hrv⟩ := hold i v hv
        refine ⟨v', ?_, hrv⟩
        rw [List.getElem?_append_left (by simp; omega), List.getElem?_take, if_pos (by omega)]
        simpa using hv'
      · rw [List.getElem?_append_right (by simp; omega)] at hv
        have htk : (cs.take o).length = o := by simp; omega
        rw [htk] at hv
        have htk' : (c.toList.take (p.sh + o)).length = p.sh + o := by simp; omega
        rw [List.getElem?_append_right (by omega), htk']
        rw [show p.sh + i - (p.sh + o) = i - o from by omega]
        by_cases h2 : i - o < vs.length
        · rw [List.getElem?_append_left h2] at hv
          rw [List.getElem?_append_left (by omega)]
          obtain ⟨v', hv', hrv⟩ := hvs.get hv
          exact ⟨v', hv', hrv⟩
        · rw [List.getElem?_append_right (by omega), List.getElem?_drop] at hv
          rw [List.getElem?_append_right (by omega), List.getElem?_drop]
          obtain ⟨v', hv', hrv⟩ := hold _ v hv
          refine ⟨v', ?_, hrv⟩
          rw [show p.sh + o + vs'.length + (i - o - vs'.length) = p.sh + (o + vs.length + (i - o - vs.length)) from by omega]
          simpa using hv'
    · simp at h
  · simp at h

/-- The model's step to a result that stands for an abstract one. -/
def SimO [Gl] (P : Program) (m : M Value) (s : Sem Next) (ι : Emb) (H : Hp) (w : World) : Prop :=
  ∀ v H', m H = some (v, H') → ∃ v' w' ι', (s.run P w = .ok (.value v') w' ∨ (s.run P w = .ok .skip w' ∧ v' = undefV)) ∧ VRel P ι' v v' ∧ Stp P ι ι' H H' w w'

theorem undef_rel [Gl] {ι : Emb} : VRel P ι undefV undefV := VRel.noAddr_self (by rfl)

theorem stN_ok [Gl] {ι : Emb} {H H' : Hp} {w : World} {t : TypeId} {i : TypeInfo} {p p' x x' v : Value} (hr : HRel P ι H w) (hi : P.info? t = some i) (hp : VRel P ι p p') (hx : VRel P ι x x')
    (h : stN i.size p x H = some (v, H')) : v = undefV ∧ ∃ w', (Instr.storeAt t p' x').run P w = .ok () w' ∧ Stp P ι ι H H' w w' := by
  unfold stN at h
  split at h
  · rename_i a
    split at h
    · rename_i hc
      obtain ⟨_, H1, hw, hv⟩ := M.bind_some h
      simp [M.ret] at hv
      obtain ⟨rfl, rfl⟩ := hv
      refine ⟨rfl, ?_⟩
      cases hp with
      | ptr b o q hq hm =>
        have hcx := hx.cells
        have hsz : x'.cells.size = i.size := by have := hcx.1; simp at this hc; omega
        by_cases hne : x.cells.toList = []
        · have h0 : x'.cells.toList = [] := by rw [hne] at hcx; exact hcx.inv_nil
          refine ⟨w, ?_, ?_⟩
          · simp only [Instr.storeAt, Instr.sureAddr, storeVar]
            simp [run_sz hi, hsz, h0, storeCells]
          · rw [hne] at hw
            unfold wr at hw
            split at hw
            · rename_i e cs hg
              split at hw
              · simp at hw; subst hw
                have := stp_same hr hg (H' := H.set b (.row false e cs)) (by rfl)
                exact this
              · simp at hw
            · simp at hw
        · obtain ⟨w', hrun, hst⟩ := wr_ok hr hq hcx (by have := hc.2; simpa using this) hne hw
          refine ⟨w', ?_, hst⟩
          simp only [Instr.storeAt, Instr.sureAddr, storeVar]
          simp [run_sz hi, hsz, hrun]
    · simp [M.fail] at h
  · simp [M.fail] at h

end Go.Lk
