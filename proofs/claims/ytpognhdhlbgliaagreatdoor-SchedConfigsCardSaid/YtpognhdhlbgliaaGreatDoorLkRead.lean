/- The operations that read memory. -/
import Derived.Test.YtpognhdhlbgliaaGreatDoorLkPure4
import Derived.Laws.Cells
import Derived.Laws.BytesString
namespace Go.Lk
variable {P : Program} {ι : Emb} {w : World} {H : Hp} {S : Operand → Bool}
theorem cell_rel [Gl] (hr : HRel P ι H w) {b o : Nat} {p : Pl} (hp : ι b = some p) {v : Value} (h : H.cell ⟨b, o, none⟩ = some v) :
    ∃ v', w.cell? ⟨p.blk, p.sh + o, none⟩ = some v' ∧ VRel P ι v v' := by
  unfold Hp.cell at h
  split at h
  · rename_i ro e cs hg
    obtain ⟨q, hq, hb⟩ := hr.live b _ hg
    rw [hp] at hq; cases hq
    exact hb.2.2 o v h
  · simp at h

theorem cells_rel [Gl] (hr : HRel P ι H w) {b o n : Nat} {p : Pl} (hp : ι b = some p) {l : List Value} (h : H.cells ⟨b, o, none⟩ n = some l) :
    l.length = n ∧ ∃ l', LRel P ι l l' ∧ ∀ (j : Nat) (v : Value), l'[j]? = some v → w.cell? ((⟨p.blk, p.sh + o, none⟩ : Addr).add j) = some v := by
  unfold Hp.cells at h
  split at h
  · rename_i ro e cs hg
    split at h
    · rename_i hlen
      have hlen : o + n ≤ cs.length := hlen
      simp at h; subst h
      obtain ⟨q, hq, hb⟩ := hr.live b _ hg
      rw [hp] at hq; cases hq
      obtain ⟨_, _, hc⟩ := hb
      have hl : ((cs.drop o).take n).length = n := by simp; omega
      refine ⟨hl, (List.range n).map (fun j => (w.cell? ⟨p.blk, p.sh + o + j, none⟩).getD undefV), ⟨by simp; omega, ?_⟩, ?_⟩
      · intro i v v' hv hv'
        have hi : i < n := by
          rcases Nat.lt_or_ge i n with h | h
          · exact h
          · rw [List.getElem?_eq_none (by omega)] at hv; simp at hv
        have hcv : cs[o + i]? = some v := by
          rw [List.getElem?_take, if_pos hi, List.getElem?_drop] at hv; exact hv
        obtain ⟨u, hu, hru⟩ := hc _ _ hcv
        simp [hi] at hv'
        rw [Nat.add_assoc] at hv'
        rw [hu] at hv'; simp at hv'; subst hv'
        exact hru
      · intro j v hv
        have hj : j < n := by
          rcases Nat.lt_or_ge j n with h | h
          · exact h
          · rw [List.getElem?_eq_none (by simp; omega)] at hv; simp at hv
        have hcj : o + j < cs.length := by omega
        obtain ⟨u, hu, _⟩ := hc (o + j) _ (List.getElem?_eq_getElem hcj)
        simp [hj] at hv
        rw [Nat.add_assoc, hu] at hv
        simp at hv; subst hv
        unfold Addr.add
        split
        · rename_i h0; subst h0; simpa using hu
        · simpa [Nat.add_assoc] using hu
    · simp at h
  · simp at h

theorem aggO_some {o : Option (List Value)} {v : Value} (h : aggO o = some v) : ∃ l, o = some l ∧ v = .agg ⟨l⟩ := by
  unfold aggO at h
  split at h
  · simp at h; exact ⟨_, rfl, h.symm⟩
  · simp at h

theorem loadP_ok [Gl] (hr : HRel P ι H w) {t : TypeId} {x x' v : Value} (hx : VRel P ι x x') (h : loadP P t x H = some v) :
    ∃ v', (Instr.loadAt t x').run P w = .ok v' w ∧ VRel P ι v v' := by
  unfold loadP at h
  cases hu : P.underlying t with
  | none => simp [hu] at h
  | some d =>
    cases hi : P.info? t with
    | none => simp [hu, hi] at h
    | some i =>
      simp only [hu, hi] at h
      cases hd : isAggD d with
      | true =>
        simp only [hd] at h
        unfold ldN at h
        split at h
        · rename_i a
          cases hx with
          | ptr b o p hb hm =>
            obtain ⟨l, hl, rfl⟩ := aggO_some h
            obtain ⟨hlen, l', hl', hc⟩ := cells_rel hr hb hl
            refine ⟨.agg ⟨l'⟩, ?_, VRel.aggL hl'⟩
            have hn : l'.length = i.size := by rw [← hl'.1, hlen]
            have := run_loadCells_list (P := P) w _ l' hc
            rw [hn] at this
            simp [Instr.loadAt, Instr.sureAddr, loadVar, run_isAgg hu, hd, run_sz hi, this]
        · simp at h
      | false =>
        simp only [hd] at h
        unfold ld1 at h
        split at h
        · rename_i a
          cases hx with
          | ptr b o p hb hm =>
            obtain ⟨v', hv', hrv⟩ := cell_rel hr hb h
            exact ⟨v', by simp [Instr.loadAt, Instr.sureAddr, loadVar, run_isAgg hu, hd, hv'], hrv⟩
        · simp at h

theorem bytesOf_some : ∀ {l : List Value} {b : List UInt8}, bytesOf l = some b → ∃ ns : List Int, l = ns.map (Value.int .u8) ∧ b = ns.map fun n => UInt8.ofNat n.toNat
  | [], b, h => by simp [bytesOf] at h; subst h; exact ⟨[], rfl, rfl⟩
  | v :: l, b, h => by
    cases v <;> try (simp [bytesOf] at h; done)
    rename_i k n
    cases k <;> try (simp [bytesOf] at h; done)
    simp only [bytesOf] at h
    cases hr : bytesOf l with
    | none => simp [hr] at h
    | some r =>
      simp [hr] at h; subst h
      obtain ⟨ns, h1, h2⟩ := bytesOf_some hr
      exact ⟨n :: ns, by simp [h1], by simp [h2]⟩

theorem foldl_push (ns : List Int) : ∀ s : ByteArray, ns.foldl (fun r n => r.push (UInt8.ofNat n.toNat)) s = ⟨⟨s.data.toList ++ ns.map fun n => UInt8.ofNat n.toNat⟩⟩ := by
  induction ns with
  | nil => intro s; cases s; simp
  | cons n ns ih => intro s; simp only [List.foldl_cons, ih]; simp [ByteArray.push]

theorem strOf_ok [Gl] (hr : HRel P ι H w) {x x' v : Value} (hx : VRel P ι x x') (h : strOf x H = some v) : ∃ v', (Conv.bytesToString x').run P w = .ok v' w ∧ VRel P ι v v' := by
  unfold strOf at h
  split at h
  · simp at h; subst h
    cases hx
    exact ⟨_, by simp [Conv.bytesToString], .string _⟩
  · rename_i a n c
    split at h
    · rename_i l hl
      split at h
      · rename_i b hb
        simp at h; subst h
        obtain ⟨ns, rfl, rfl⟩ := bytesOf_some hb
        cases hx with
        | slice b o o' len cap cap' p hp hm hd h1 h2 h3 =>
          obtain ⟨hlen, l', hl', hc⟩ := cells_rel hr hp hl
          have hl2 := hl'.of_scal (by simp [scal])
          subst hl2
          have hload : (loadCells ⟨p.blk, o', none⟩ n).run P w = .ok (ns.map (Value.int .u8)).toArray w := by
            rcases hd with hd | hd
            · have : n = 0 := hd.1
              subst this
              have : ns = [] := by simpa using hlen
              subst this
              rfl
            · subst hd
              have := run_loadCells_list (P := P) w _ _ hc
              rw [hlen] at this; exact this
          refine ⟨_, run_bytesToString w _ n cap' ns hload, ?_⟩
          rw [foldl_push]
          simp
          exact .string _
      · simp at h
    · simp at h
  · simp at h

theorem convStrR_ok [Gl] (hr : HRel P ι H w) {s d : TypeId} {x x' v : Value} (hx : VRel P ι x x') (h : convStrR P s d x H = some v) : ∃ v', (Go.convert s d x').run P w = .ok v' w ∧ VRel P ι v v' := by
  unfold convStrR at h
  cases hs : P.underlying s with
  | none => simp [hs] at h
  | some sd =>
    cases sd <;> try (simp [hs] at h; done)
    rename_i e
    cases hd : P.underlying d with
    | none => simp [hs, hd] at h
    | some dd =>
      cases dd <;> try (simp [hs, hd] at h; done)
      simp only [hs, hd] at h
      cases he : P.underlying e with
      | none => simp [he] at h
      | some ed =>
        cases ed <;> try (simp [he] at h; done)
        rename_i k
        cases k <;> try (simp [he] at h; done)
        simp only [he] at h
        obtain ⟨v', hv', hrv⟩ := strOf_ok hr hx h
        refine ⟨v', ?_, hrv⟩
        have hx' : ∃ a l c, x' = .slice a l c := by
          cases hx <;> try (simp [strOf] at h; done)
          · exact ⟨_, _, _, rfl⟩
          · exact ⟨_, _, _, rfl⟩
        obtain ⟨a, l, c, rfl⟩ := hx'
        rw [run_convert_bytes_string w s d e a l c hs he hd]
        exact hv'

theorem sliceR_ok [Gl] (hr : HRel P ι H w) {t : TypeId} {x x' v : Value} {lo hi mx lo' hi' mx' : Option Value} (hx : VRel P ι x x')
    (hlo : ∀ u, lo = some u → ∃ u', lo' = some u' ∧ VRel P ι u u') (nlo : lo = none → lo' = none)
    (hhi : ∀ u, hi = some u → ∃ u', hi' = some u' ∧ VRel P ι u u') (nhi : hi = none → hi' = none)
    (hmx : ∀ u, mx = some u → ∃ u', mx' = some u' ∧ VRel P ι u u') (nmx : mx = none → mx' = none)
    (h : sliceR P t x lo hi mx H = some v) : ∃ v', (Instr.sliceAt t x' lo' hi' mx').run P w = .ok v' w ∧ VRel P ι v v' := by
  unfold sliceR at h
  cases hu : P.underlying t with
  | none => simp [hu] at h
  | some d =>
    cases d <;> simp [hu] at h
    rename_i e
    cases hei : P.info? e with
    | none => simp [hei] at h
    | some ei =>
      simp only [hei] at h
      have hnn : hi = none → mx = none := by
        intro hh; subst hh
        cases mx with
        | none => rfl
        | some m => simp at h
      have h' : sliceLive e ei.size x lo hi mx H = some v := by
        cases hi <;> cases mx <;> first | exact h | (simp at h)
      clear h
      unfold sliceLive at h'
      split at h'
      · exact sliceSl_ok hu hei hx (fun b o l c p hxe => by simp at hxe) hlo nlo hhi nhi hmx nmx hnn h'
      · rename_i a n c
        split at h'
        · rename_i ro e' cs hg
          split at h'
          · rename_i hee
            have := Nat.eq_of_beq_eq_true hee; subst this
            refine sliceSl_ok hu hei hx (fun b o l c p hxe hp => ?_) hlo nlo hhi nhi hmx nmx hnn h'
            cases hxe
            obtain ⟨q, hq, hb⟩ := hr.live _ _ hg
            rw [hp] at hq; cases hq
            rw [hb.2.1]; exact cellsOf_info hei
          · simp at h'
        · simp at h'
      · simp at h'

theorem frozen_of_fact {p : Pl} (hf : p.Fact P w) (hm : p.isMap = false) (hu : isU8 (P.underlying p.elem) = false) (o : Nat) (s : Option Nat) : w.frozen? ⟨p.blk, o, s⟩ = false := by
  unfold Pl.Fact at hf
  simp only [hm] at hf
  obtain ⟨c, lo, hi, hc, _, _, hz⟩ := hf
  simp only [World.frozen?, hc]
  have := hz hu o
  simp only [Bool.and_eq_false_iff, decide_eq_false_iff_not]
  omega

theorem equalIn_far [Gl] (d : Nat) {t e : TypeId} {i : TypeInfo} {p q : Pl} {o o' : Nat} (ht : P.underlying t = some (.pointer e)) (hi : P.info? e = some i) (hs : i.size ≠ 0) (hpq : p.blk ≠ q.blk)
    (hp : p.Fact P w) (hq : q.Fact P w) (m1 : p.isMap = false) (m2 : q.isMap = false) (u1 : isU8 (P.underlying p.elem) = false) (u2 : isU8 (P.underlying q.elem) = false) :
    (Op.equalIn (d + 1) t (.pointer (some ⟨p.blk, o, none⟩)) (.pointer (some ⟨q.blk, o', none⟩))).run P w = .ok false w := by
  have f1 := frozen_of_fact (w := w) hp m1 u1
  have f2 := frozen_of_fact (w := w) hq m2 u2
  have s1 : ∃ x, w.shape? p.blk = some x := by
    unfold Pl.Fact at hp; simp only [m1] at hp
    obtain ⟨c, lo, hi, hc, _⟩ := hp
    exact ⟨(p.elem, c.size), by simp only [World.shape?, hc]⟩
  have s2 : ∃ x, w.shape? q.blk = some x := by
    unfold Pl.Fact at hq; simp only [m2] at hq
    obtain ⟨c, lo, hi, hc, _⟩ := hq
    exact ⟨(q.elem, c.size), by simp only [World.shape?, hc]⟩
  obtain ⟨⟨x1, n1⟩, s1⟩ := s1
  obtain ⟨⟨x2, n2⟩, s2⟩ := s2
  simp only [Op.equalIn, Sem.run_bind, run_underlying ht, Result.andThen_ok, run_sz hi, ne_eq, hs, not_false_eq_true, if_true]
  simp [sameAddr, hpq, f1, f2, noView, viewAt, s1, s2, mayBeOne, stringish]

/-- Two variables that are there, in different blocks. -/
theorem ptrEq_ok [Gl] (hr : HRel P ι H w) {op : BinOp} {t : TypeId} {xo yo : Operand} {x y x' y' v : Value} (hx : VRel P ι x x') (hy : VRel P ι y y') (h : ptrEq P op t x y H = some v) :
    ∃ v', (do eqGuard op t xo yo x' y'; Go.binOp op t x' y').run P w = .ok v' w ∧ VRel P ι v v' := by
  unfold ptrEq at h
  split at h
  · rename_i e a b he
    split at h
    · simp at h
    · rename_i hc
      split at h
      · rename_i hne hg1 hg2
        rename_i ro1 e1 cs1 ro2 e2 cs2
        split at h
        case h_2 => simp at h
        rename_i u1 u2
        have ht := isPtrD_some he
        simp at hc
        obtain ⟨hc1, hc2⟩ := hc
        obtain ⟨i, hi⟩ : ∃ i, P.info? e = some i := by
          cases hi : P.info? e with
          | none => simp [hi] at hc2
          | some i => exact ⟨i, rfl⟩
        have hsz : i.size ≠ 0 := by rw [← cellsOf_info hi]; exact hc1
        cases hx with
        | ptr b1 o1 p1 h1 m1 =>
        cases hy with
        | ptr b2 o2 p2 h2 m2 =>
        have hbn : b1 ≠ b2 := Nat.ne_of_beq_eq_false hne
        have hpn : p1.blk ≠ p2.blk := fun e => hbn (hr.inj _ _ _ _ _ _ hg1 hg2 h1 h2 e)
        obtain ⟨r, hr0, hv⟩ := eqOp_some h
        simp at hr0; subst hr0
        refine ⟨v, ?_, by rcases hv with ⟨_, rfl⟩ | ⟨_, rfl⟩ <;> exact .bool _⟩
        rw [Sem.run_bind, eqGuard_scal (by simp) (by simp)]
        refine eqOp_run (t := t) h (.inl ⟨_, rfl⟩) (.inl ⟨_, rfl⟩) (fun r hr' => ?_)
        simp at hr'; subst hr'
        obtain ⟨q1, hq1, hb1⟩ := hr.live _ _ hg1
        obtain ⟨q2, hq2, hb2⟩ := hr.live _ _ hg2
        rw [h1] at hq1; cases hq1
        rw [h2] at hq2; cases hq2
        exact equalIn_far 9999 ht hi hsz hpn (hr.fact _ _ h1) (hr.fact _ _ h2) m1 m2 (by rw [hb1.2.1]; exact u1) (by rw [hb2.2.1]; exact u2)
      · simp at h
  · simp at h

theorem orElse'_some {α : Type} {a b : Option α} {v : α} (h : orElse' a b = some v) : a = some v ∨ b = some v := by
  unfold orElse' at h
  split at h
  · simp at h; subst h; exact .inl rfl
  · exact .inr h

theorem readOp_ok [Gl] (hr : HRel P ι H w) {o : Oper} {ρ ρ' : Operand → Value} {v : Value} (hρ : RhoRel P ι S ρ ρ') (hok : ∀ x ∈ o.op.operands.toList, S x = true) (h : readOp P o.op ρ H = some v) :
    ∃ v', (execOp ρ' o).run P w = .ok (.value v') w ∧ VRel P ι v v' := by
  obtain ⟨dst, op, ty, pos, after, guard⟩ := o
  cases op
  case load t x =>
    simp [Op.operands] at hok
    simp only [readOp] at h
    obtain ⟨v', hv', hrv⟩ := loadP_ok hr (hρ x hok) h
    exact ⟨v', by simp [execOp, hv'], hrv⟩
  case convert s d x =>
    simp [Op.operands] at hok
    simp only [readOp] at h
    obtain ⟨v', hv', hrv⟩ := convStrR_ok hr (hρ x hok) h
    exact ⟨v', by simp [execOp, hv'], hrv⟩
  case slice t x lo hi mx =>
    simp only [readOp] at h
    have h1 := optRel hρ lo (fun y hy => hok y (by simp [Op.operands, hy]))
    have h2 := optRel hρ hi (fun y hy => hok y (by simp [Op.operands, hy]))
    have h3 := optRel hρ mx (fun y hy => hok y (by simp [Op.operands, hy]))
    obtain ⟨v', hv', hrv⟩ := sliceR_ok hr (hρ x (hok x (by simp [Op.operands]))) h1.1 h1.2 h2.1 h2.2 h3.1 h3.2 h
    exact ⟨v', by simp [execOp, hv'], hrv⟩
  case binOp bop t x y u =>
    simp [Op.operands] at hok
    simp only [readOp] at h
    rcases orElse'_some h with h | h
    · obtain ⟨v', hv', hrv⟩ := binP_ok (w := w) (xo := x) (yo := y) (hρ x hok.1) (hρ y hok.2) h
      refine ⟨v', ?_, hrv⟩
      simp only [execOp]
      rw [Sem.run_bind, hv']; rfl
    · obtain ⟨v', hv', hrv⟩ := ptrEq_ok hr (xo := x) (yo := y) (hρ x hok.1) (hρ y hok.2) h
      refine ⟨v', ?_, hrv⟩
      simp only [execOp]
      rw [Sem.run_bind, hv']; rfl
  all_goals simp [readOp] at h

end Go.Lk
