/- The operations that touch no memory. -/
import Derived.Test.YtpognhdhlbgliaaGreatDoorLkRel
import Derived.Laws.Sem
import Derived.Laws.Tables
namespace Go.Lk

theorem evalPure_run {P : Program} {α : Type} {w : World} : ∀ (s : Sem α) {a : α}, evalPure P s = some a → s.run P w = .ok a w := by
  intro s
  induction s with
  | pure a => intro b h; simp [evalPure] at h; subst h; rfl
  | program k ih => intro b h; simp only [evalPure] at h; simp only [Sem.run]; exact ih P h
  | _ => intro b h; simp [evalPure] at h

theorem run_ty {P : Program} {w : World} {t : TypeId} {i : TypeInfo} (h : P.info? t = some i) : (typeInfo t).run P w = .ok i w := by simp [typeInfo, h]
theorem run_sz {P : Program} {w : World} {t : TypeId} {i : TypeInfo} (h : P.info? t = some i) : (sizeOf t).run P w = .ok i.size w := by simp [sizeOf, run_ty h]
theorem run_zero {P : Program} {w : World} {t : TypeId} {i : TypeInfo} {z : Value} (h : P.info? t = some i) (hz : i.zero = some z) : (zeroValue t).run P w = .ok z w := by simp [zeroValue, run_ty h, hz]
theorem run_isAgg {P : Program} {w : World} {t : TypeId} {d : TypeDesc} (h : P.underlying t = some d) : (isAgg t).run P w = .ok (isAggD d) w := by
  cases d <;> simp [isAgg, run_underlying h, isAggD]

theorem foldl_set (off : Nat) : ∀ (l : List Value) (k : Nat) (cs : Array Value), off + k + l.length ≤ cs.size →
    ((l.zipIdx k).foldl (fun cs p => cs.setIfInBounds (off + p.2) p.1) cs).toList = cs.toList.take (off + k) ++ (l ++ cs.toList.drop (off + k + l.length)) := by
  intro l
  induction l with
  | nil => intro k cs h; simp
  | cons c l ih =>
    intro k cs h
    simp only [List.length_cons] at h
    simp only [List.zipIdx_cons, List.foldl_cons]
    rw [ih (k + 1) _ (by simp; omega)]
    have hlt : off + k < cs.toList.length := by simp; omega
    have h1 : (cs.setIfInBounds (off + k) c).toList = cs.toList.set (off + k) c := by simp
    rw [h1, List.drop_set_of_lt (by omega)]
    have h2 : (cs.toList.set (off + k) c).take (off + (k + 1)) = cs.toList.take (off + k) ++ [c] := by
      rw [show off + (k + 1) = (off + k) + 1 from by omega, List.take_succ_eq_append_getElem (by simpa using hlt), List.take_set_of_le (by omega)]
      simp
    rw [h2]
    simp only [List.append_assoc, List.cons_append, List.nil_append, List.length_cons]
    rw [show off + (k + 1) + l.length = off + k + (l.length + 1) from by omega]

theorem fill_set (off : Nat) (v : Array Value) (cs : Array Value) (h : off + v.size ≤ cs.size) :
    (v.zipIdx.foldl (fun cs (x : Value × Nat) => cs.setIfInBounds (off + x.2) x.1) cs).toList = cs.toList.take off ++ (v.toList ++ cs.toList.drop (off + v.size)) := by
  have := foldl_set off v.toList 0 cs (by simpa using h)
  rw [← Array.foldl_toList]
  simpa using this

/-- Parts, related one by one. -/
def PRel [Gl] (P : Program) (ι : Emb) : List (Nat × Value) → List (Nat × Value) → Prop
  | [], [] => True
  | (i, v) :: l, (j, u) :: m => i = j ∧ VRel P ι v u ∧ PRel P ι l m
  | _, _ => False

theorem PRel.map [Gl] {P : Program} {ι : Emb} {ρ ρ' : Operand → Value} (l : List (Nat × Operand)) (h : ∀ p ∈ l, VRel P ι (ρ p.2) (ρ' p.2)) :
    PRel P ι (l.map fun p => (p.1, ρ p.2)) (l.map fun p => (p.1, ρ' p.2)) := by
  induction l with
  | nil => trivial
  | cons a l ih => exact ⟨rfl, h a (by simp), ih fun p hp => h p (by simp [hp])⟩

theorem bldL_fill [Gl] {P : Program} {ι : Emb} (place : Nat → Option (Nat × Nat)) : ∀ (ps ps' : List (Nat × Value)) (l : List (Nat × Nat × Value)) (cs : List Value) (cs' : Array Value) (out : List Value),
    PRel P ι ps ps' → partsOf place ps = some l → bldL cs l = some out → LRel P ι cs cs'.toList → ∃ out', Instr.fill place cs' ps' = some out' ∧ LRel P ι out out'.toList := by
  intro ps
  induction ps with
  | nil =>
    intro ps' l cs cs' out hp hl hb hc
    cases ps' with
    | cons a b => exact hp.elim
    | nil =>
      simp [partsOf] at hl; subst hl
      simp [bldL] at hb; subst hb
      exact ⟨cs', rfl, hc⟩
  | cons a ps ih =>
    intro ps' l cs cs' out hp hl hb hc
    obtain ⟨i, v⟩ := a
    cases ps' with
    | nil => exact hp.elim
    | cons b ps' =>
      obtain ⟨j, u⟩ := b
      obtain ⟨rfl, hv, hp⟩ := hp
      simp only [partsOf] at hl
      cases hpl : place i with
      | none => simp [hpl] at hl
      | some os =>
        obtain ⟨o, s⟩ := os
        cases hrest : partsOf place ps with
        | none => simp [hpl, hrest] at hl
        | some l' =>
          simp [hpl, hrest] at hl; subst hl
          simp only [bldL] at hb
          split at hb
          · rename_i hcond
            have hvc := hv.cells
            have hsz : u.cells.size = s := by have := hvc.1; simp at this hcond; omega
            have hlen : cs.length = cs'.size := by simpa using hc.1
            have hfit : o + u.cells.size ≤ cs'.size := by omega
            simp only [Instr.fill, hpl]
            rw [if_neg (by simp [hsz]; omega)]
            refine ih ps' l' _ _ out hp hrest hb ?_
            rw [fill_set o u.cells cs' hfit, hsz]
            exact (hc.take o).append (hvc.append (hc.drop _))
          · simp at hb

theorem zc_some {i : TypeInfo} {l : List Value} (h : zc i = some l) : ∃ z, i.zero = some z ∧ z.cells.toList = l ∧ z.cells.toList.all scal = true := by
  unfold zc at h
  split at h
  · rename_i z hz
    split at h
    · rename_i hs; simp at h; exact ⟨z, hz, h, hs⟩
    · simp at h
  · simp at h

theorem fieldPl_places {P : Program} (fs : Array Field) (h : fs.toList.all (fun (f : Field) => (P.info? f.type).isSome) = true) :
    ∃ places, fs.toList.mapM (fun (f : Field) => (P.info? f.type).map fun i => (f.offset, i.size)) = some places ∧ ∀ i : Nat, places.toArray[i]? = fieldPl P fs i := by
  have key : ∀ l : List Field, l.all (fun (f : Field) => (P.info? f.type).isSome) = true → ∃ places, l.mapM (fun (f : Field) => (P.info? f.type).map fun i => (f.offset, i.size)) = some places ∧
      ∀ i : Nat, places[i]? = (l[i]?).bind fun (f : Field) => (P.info? f.type).map fun k => (f.offset, k.size) := by
    intro l
    induction l with
    | nil => intro _; exact ⟨[], by simp, by simp⟩
    | cons f l ih =>
      intro h
      simp at h
      obtain ⟨h1, h2⟩ := h
      obtain ⟨places, hp, hg⟩ := ih (by simpa using h2)
      obtain ⟨k, hk⟩ := Option.isSome_iff_exists.1 h1
      refine ⟨(f.offset, k.size) :: places, by simp [List.mapM_cons, hk, hp], fun i => ?_⟩
      cases i with
      | zero => simp [hk]
      | succ i => simpa using hg i
  obtain ⟨places, hp, hg⟩ := key fs.toList h
  refine ⟨places, hp, fun i => ?_⟩
  have := hg i
  simp only [fieldPl]
  simp at this ⊢
  rw [this]
  cases fs[i]? with
  | none => rfl
  | some f => cases hk : P.info? f.type <;> simp [hk]

theorem buildP_ok [Gl] {P : Program} {ι : Emb} {w : World} {t : TypeId} {ps : List (Nat × Value)} {ps' : Array (Nat × Value)} {v : Value}
    (hp : PRel P ι ps ps'.toList) (h : buildP P t ps = some v) :
    ∃ v', (Instr.build t ps').run P w = .ok v' w ∧ VRel P ι v v' := by
  unfold buildP at h
  cases hu : P.underlying t with
  | none => simp [hu] at h
  | some d =>
    cases hi : P.info? t with
    | none => cases d <;> simp [hu, hi] at h
    | some ti =>
      cases d <;> try (simp [hu, hi] at h; done)
      case array n e =>
        cases hze : zc ti with
        | none => simp [hu, hi, hze] at h
        | some z =>
          cases hie : P.info? e with
          | none => simp [hu, hi, hze, hie] at h
          | some ei =>
            obtain ⟨z0, hz0, rfl, hzs⟩ := zc_some hze
            simp only [hu, hi, hze, hie] at h
            cases hpl : partsOf (fun i => some (i * ei.size, ei.size)) ps with
            | none => simp [hpl] at h
            | some l =>
              simp only [hpl] at h
              cases hb : bldL z0.cells.toList l with
              | none => simp [hb, aggO] at h
              | some out =>
                simp [hb, aggO] at h; subst h
                obtain ⟨out', ho, hr⟩ := bldL_fill _ ps ps'.toList l z0.cells.toList z0.cells out hp hpl hb (LRel.scal_self hzs)
                exact ⟨.agg out', run_build w t ps' out' (by simp only [Program.built, hi, hu, hz0, hie, ho]), VRel.aggL (l' := out'.toList) hr⟩
      case struct fs =>
        cases hze : zc ti with
        | none => simp [hu, hi, hze] at h
        | some z =>
          obtain ⟨z0, hz0, rfl, hzs⟩ := zc_some hze
          simp only [hu, hi, hze] at h
          split at h
          · rename_i hall
            obtain ⟨places, hpl', hg⟩ := fieldPl_places fs hall
            have hfun : (fun i => places.toArray[i]?) = fieldPl P fs := funext hg
            cases hpl : partsOf (fieldPl P fs) ps with
            | none => simp [hpl] at h
            | some l =>
              simp only [hpl] at h
              cases hb : bldL z0.cells.toList l with
              | none => simp [hb, aggO] at h
              | some out =>
                simp [hb, aggO] at h; subst h
                obtain ⟨out', ho, hr⟩ := bldL_fill _ ps ps'.toList l z0.cells.toList z0.cells out hp hpl hb (LRel.scal_self hzs)
                refine ⟨.agg out', run_build w t ps' out' ?_, VRel.aggL (l' := out'.toList) hr⟩
                simp only [Program.built, hi, hu, hz0, hpl']
                rw [← hfun] at ho; exact ho
          · simp at h

end Go.Lk
