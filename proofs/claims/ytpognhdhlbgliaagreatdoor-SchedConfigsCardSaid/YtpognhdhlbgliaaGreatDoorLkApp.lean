/- append, clear, copy, make. -/
import Derived.Test.YtpognhdhlbgliaaGreatDoorLkEff
namespace Go.Lk
variable {P : Program} {ι : Emb} {H H' : Hp} {w : World}
theorem extract_all (s : ByteArray) : s.extract 0 s.size = s := by simp

theorem cellsOfV_ok [Gl] (hr : HRel P ι H w) {sz n : Nat} {x x' : Value} {l : List Value} (hx : VRel P ι x x') (h : cellsOfV sz x H = some (n, l)) :
    (Builtin.lenOf x').run P w = .ok n w ∧ ∃ l', LRel P ι l l' ∧ (Builtin.firstCells sz n x').run P w = .ok l'.toArray w := by
  unfold cellsOfV at h
  split at h
  · simp at h; obtain ⟨rfl, rfl⟩ := h
    cases hx
    exact ⟨by simp [Builtin.lenOf], [], LRel.nil, by simp [Builtin.firstCells]⟩
  · rename_i a len cap
    split at h
    · rename_i l0 hl
      simp at h; obtain ⟨rfl, rfl⟩ := h
      cases hx with
      | slice b o o' _ _ cap' p hp hm hd h1 h2 h3 =>
        refine ⟨by simp [Builtin.lenOf], ?_⟩
        obtain ⟨hlen, l', hl', hc⟩ := cells_rel hr hp hl
        refine ⟨l', hl', ?_⟩
        rcases hd with hd | hd
        · obtain ⟨rfl, rfl⟩ := hd
          simp at hlen
          subst hlen
          have := hl'.inv_nil; subst this
          simp [Builtin.firstCells, loadCells, loadCellsFrom]
        · subst hd
          have := run_loadCells_list (P := P) w _ _ hc
          rw [← hl'.1, hlen] at this
          simpa [Builtin.firstCells] using this
    · simp at h
  · rename_i s
    simp at h; obtain ⟨rfl, rfl⟩ := h
    cases hx
    refine ⟨by simp [Builtin.lenOf], _, LRel.scal_self (l := s.data.toList.map fun b => .int .u8 b.toNat) ?_, ?_⟩
    · rw [List.all_eq_true]; intro v hv
      obtain ⟨b, _, rfl⟩ := List.mem_map.1 hv; rfl
    · simp only [Builtin.firstCells, extract_all, Sem.run_pure]
      congr 1
      apply Array.ext'; simp
  · simp at h

/-- The new capacity. -/
theorem cut_ge (need old e t : Nat) : need ≤ (Question.appendCap need old e).cut t := by simp [Question.cut]

theorem grow_run [Gl] {st xt e ty : TypeId} {ei : TypeInfo} {z : Value} {d : TypeDesc} {base : Option Addr} {len cap n : Nat} {x' : Value} {old new : List Value}
    (hst : P.underlying st = some (.slice e)) (hei : P.info? e = some ei) (hz : ei.zero = some z) (hd : P.underlying xt = some d) (hds : (∃ u, d = .slice u) ∨ d = .string)
    (hgt : cap < len + n) (hb : (len + n) * ei.bytes ≤ 140737488355328) (hm : len + n ≤ 140737488355328)
    (hn : (Builtin.lenOf x').run P w = .ok n w) (ho : (Builtin.firstCells ei.size len (.slice base len cap)).run P (w.drew) = .ok old.toArray w.drew)
    (hnw : (Builtin.firstCells ei.size n x').run P w.drew = .ok new.toArray w.drew) :
    ∃ N w', len + n ≤ N ∧ (Builtin.append_ #[st, xt] ty #[.slice base len cap, x']).run P w = .ok (.slice (some ⟨w.heap.size, 0, none⟩) (len + n) N) w' ∧
      Grew (.cells (old.toArray ++ new.toArray ++ Builtin.zeroCells z.cells (N - (len + n))) e (0, 0)) w w' := by
  refine ⟨(Question.appendCap (len + n) cap e).cut (w.tape w.drawn (Question.appendCap (len + n) cap e)), w.drew.alloc (.cells (old.toArray ++ new.toArray ++ Builtin.zeroCells z.cells ((Question.appendCap (len + n) cap e).cut (w.tape w.drawn (Question.appendCap (len + n) cap e)) - (len + n))) e), cut_ge _ _ _ _, ?_, ⟨rfl, rfl, rfl, rfl⟩⟩
  have h1 : ¬ len + n ≤ cap := by omega
  have h63' : ¬ (9223372036854775807 < ((len : Int) + (n : Int))) := by omega
  have h48' : ¬ (281474976710656 < Builtin.nextslicecap (len + n) cap * ei.bytes) := by
    have := growslice_fits (bytes := ei.bytes) hgt hb
    omega
  rcases hds with ⟨u, rfl⟩ | rfl
  · simp [Builtin.append_, run_underlying hst, run_underlying hd, sizeOf, typeInfo, zeroValue, hei, hz, hn, h1, h63', h48', Question.forced, ho, hnw, newRow]
    congr 2
    apply Array.ext'; simp [List.append_assoc]
  · simp [Builtin.append_, run_underlying hst, run_underlying hd, sizeOf, typeInfo, zeroValue, hei, hz, hn, h1, h63', h48', Question.forced, ho, hnw, newRow]
    congr 2
    apply Array.ext'; simp [List.append_assoc]

theorem place_run {st xt e ty : TypeId} {ei : TypeInfo} {d : TypeDesc} {base : Option Addr} {len cap n : Nat} {x' : Value} {new : List Value}
    (hst : P.underlying st = some (.slice e)) (hei : P.info? e = some ei) (hd : P.underlying xt = some d) (hds : (∃ u, d = .slice u) ∨ d = .string)
    (hle : len + n ≤ cap) (hn : (Builtin.lenOf x').run P w = .ok n w) (hnw : (Builtin.firstCells ei.size n x').run P w = .ok new.toArray w) :
    (Builtin.append_ #[st, xt] ty #[.slice base len cap, x']).run P w =
      ((match base with | some a => storeCells (a.add (len * ei.size)) new | none => pure () : Sem Unit).run P w).andThen (fun _ w' => Result.ok (.slice base (len + n) cap) w') := by
  rcases hds with ⟨u, rfl⟩ | rfl <;> cases base <;>
    simp [Builtin.append_, run_underlying hst, run_underlying hd, sizeOf, typeInfo, hei, hn, hle, hnw]

theorem HRel.drew [Gl] (hr : HRel P ι H w) : HRel P ι H w.drew := ⟨hr.dom, hr.fact, hr.live, hr.inj, hr.gl⟩

theorem appendV_ok [Gl] (hr : HRel P ι H w) {st xt e ty : TypeId} {ei : TypeInfo} {d : TypeDesc} {z : List Value} {s s' x x' v : Value}
    (hst : P.underlying st = some (.slice e)) (hei : P.info? e = some ei) (hz : zc ei = some z) (hzl : z.length = ei.size) (hd : P.underlying xt = some d) (hds : (∃ u, d = .slice u) ∨ d = .string)
    (hs : VRel P ι s s') (hx : VRel P ι x x') (h : appendV e ei.size ei.bytes s x H = some (v, H')) :
    ∃ v' w' ι', (Builtin.append_ #[st, xt] ty #[s', x']).run P w = .ok v' w' ∧ VRel P ι' v v' ∧ Stp P ι ι' H H' w w' := by
  obtain ⟨z0, hz0, rfl, hzs⟩ := zc_some hz
  unfold appendV at h
  obtain ⟨⟨n, new⟩, H1, hl0, hk⟩ := M.bind_some h
  clear h
  have h := hk
  clear hk
  obtain ⟨hl, e1⟩ := M.look_some hl0
  subst e1
  obtain ⟨hn, new', hnew, hfc⟩ := cellsOfV_ok hr hx hl
  obtain ⟨_, new2, hnew2, hfc2⟩ := cellsOfV_ok hr.drew hx hl
  dsimp only at h
  by_cases hcond : (new.all oneC && Nat.ble 1 ei.size && Nat.beq new.length (n * ei.size)) = true
  case neg => simp only [if_neg hcond, M.fail] at h; simp at h
  simp only [if_pos hcond] at h
  simp only [Bool.and_eq_true, Nat.ble_eq] at hcond
  obtain ⟨⟨hone, hsz⟩, hlen⟩ := hcond
  have hlen := Nat.eq_of_beq_eq_true hlen
  have hzsz : z0.cells.size = ei.size := by simpa using hzl
  split at h
  · -- a nil slice
    cases hs
    split at h
    · rename_i hn0
      subst hn0
      simp [M.ret] at h
      obtain ⟨rfl, rfl⟩ := h
      refine ⟨_, w, ι, ?_, .nilSlice, Stp.refl hr⟩
      rw [place_run hst hei hd hds (by simp) hn hfc]; simp
    · rename_i hn0
      split at h
      · rename_i hb
        simp only [newB] at h
        simp at h
        obtain ⟨rfl, rfl⟩ := h
        obtain ⟨N, w', hN, hrun, hg⟩ := grow_run (ty := ty) (base := none) (len := 0) (cap := 0) (old := []) hst hei hz0 hd hds (by omega) (by simpa using hb.1) (by simpa using hb.2) hn (by simp [Builtin.firstCells]) hfc2
        have hl2 : new2.length = n * ei.size := by rw [← hnew2.1]; exact hlen
        have hsize : (#[] ++ new2.toArray ++ Builtin.zeroCells z0.cells (N - n)).size = N * ei.size := by
          simp [Builtin.zeroCells, hl2, hzsz, ← Nat.add_mul]; congr 1; omega
        simp only [Nat.zero_add] at hrun hg hN
        have hst' := stp_new (P := P) (ι := ι) (cs := new) hr (fun i u hu => ?_) hg (by intro i _; omega) (by intro _ i; omega)
        · refine ⟨_, w', _, hrun, ?_, hst'⟩
          exact .slice _ _ _ _ _ _ _ (ins_same _ _ _) rfl (.inr (by simp)) (Nat.le_refl _) hN (by simp only [esz, cellsOf_info hei]; rw [hsize]; omega)
        · obtain ⟨u', hu', hru⟩ := hnew2.get hu
          refine ⟨u', ?_, hru⟩
          have : i < new2.length := by
            rcases Nat.lt_or_ge i new2.length with h | h
            · exact h
            · rw [List.getElem?_eq_none h] at hu'; cases hu'
          rw [Array.getElem?_append_left (by simpa using this)]
          simpa using hu'
      · simp [M.fail] at h
  · rename_i a len cap
    cases hs with
    | slice b o o' _ _ cap' p hp hm hdis h1 h2 h3 =>
    split at h
    · rename_i hle
      split at h
      · rename_i hn0
        subst hn0
        simp [M.ret] at h
        obtain ⟨rfl, rfl⟩ := h
        have hnn : new' = [] := by
          have : new'.length = 0 := by rw [← hnew.1]; omega
          simpa using this
        subst hnn
        refine ⟨.slice (some ⟨p.blk, o', none⟩) len cap', w, ι, ?_, .slice b o o' _ _ _ p hp hm hdis h1 h2 h3, Stp.refl hr⟩
        rw [place_run hst hei hd hds (by omega) hn hfc]
        simp [storeCells]
      · rename_i hn0
        obtain ⟨_, H2, hw, hv⟩ := M.bind_some h
        simp [M.ret] at hv
        obtain ⟨rfl, rfl⟩ := hv
        have ho : o' = p.sh + o := by
          rcases hdis with hd | hd
          · omega
          · exact hd
        subst ho
        have hadd : ∀ q k, (⟨q, k, none⟩ : Addr).add (len * ei.size) = ⟨q, k + len * ei.size, none⟩ := by
          intro q k; unfold Addr.add; split
          · rename_i h0; rw [h0]; rfl
          · rfl
        rw [hadd] at hw
        have hne : new ≠ [] := by
          intro e; rw [e] at hlen
          have : 0 < n * ei.size := Nat.mul_pos (by omega) (by omega)
          simp at hlen; omega
        obtain ⟨w', hrun, hst'⟩ := wr_ok hr hp hnew hone hne hw
        refine ⟨.slice (some ⟨p.blk, p.sh + o, none⟩) (len + n) cap', w', ι, ?_, .slice b o _ _ _ _ p hp hm (.inr rfl) hle h2 h3, hst'⟩
        rw [place_run hst hei hd hds (by omega) hn hfc]
        simp only [hadd]
        rw [show p.sh + o + len * ei.size = p.sh + (o + len * ei.size) from by omega, hrun]
        rfl
    · rename_i hgt
      unfold growV at h
      split at h
      · rename_i e' cs hg
        split at h
        · rename_i hc
          obtain ⟨rfl, hoff, hby, hmx⟩ := hc
          have hoff : o + len * ei.size ≤ cs.length := hoff
          simp only [newB] at h
          simp at h
          obtain ⟨rfl, rfl⟩ := h
          obtain ⟨q, hq, hbr⟩ := hr.live b _ hg
          rw [hp] at hq; cases hq
          have hes : esz P p.elem = ei.size := by rw [hbr.2.1]; exact cellsOf_info hei
          have hcells : H1.cells ⟨b, o, none⟩ (len * ei.size) = some ((cs.drop o).take (len * ei.size)) := by
            unfold Hp.cells; rw [hg]; simp [hoff]
          have hol : ((cs.drop o).take (len * ei.size)).length = len * ei.size := by simp; omega
          by_cases hin : len + n ≤ cap'
          · -- in its place
            have hf := hr.fact b p hp
            unfold Pl.Fact at hf
            simp only [hbr.1] at hf
            obtain ⟨c, lo, hi, hcw, hcs, hfr, _⟩ := hf
            have hnl : new'.length = n * ei.size := by rw [← hnew.1]; exact hlen
            have hone' : new'.all oneC = true := by
              rw [List.all_eq_true] at hone ⊢
              intro y hy
              obtain ⟨i, hi⟩ := List.getElem?_of_mem hy
              have hil : i < new.length := by
                rcases Nat.lt_or_ge i new'.length with h | h
                · omega
                · rw [List.getElem?_eq_none h] at hi; cases hi
              have := hnew.2 i _ y (List.getElem?_eq_getElem hil) hi
              rw [this.oneC]
              exact hone _ (List.getElem_mem hil)
            have hn0 : 0 < n := by omega
            have hfit : o' + len * ei.size + 0 + new'.length ≤ c.size := by
              rw [hes] at h3
              have : (len + n) * ei.size ≤ cap' * ei.size := Nat.mul_le_mul_right _ hin
              rw [Nat.add_mul] at this
              omega
            have hne' : new' ≠ [] := by
              intro e; rw [e] at hnl
              have : 0 < n * ei.size := Nat.mul_pos hn0 (by omega)
              simp at hnl; omega
            obtain ⟨c', w', hrun, hwr, hc'⟩ := run_storeCells' (P := P) p.blk p.elem lo hi (o' + len * ei.size) new' 0 c w hcw (by omega) (fun j hj => hfr j (by omega)) hone' hne'
            have hcl : ∀ i : Nat, c'[i]? = (c.toList.take (o' + len * ei.size) ++ (new' ++ c.toList.drop (o' + len * ei.size + new'.length)))[i]? := by
              intro i; rw [← Array.getElem?_toList, hc']; simp
            have hst' := stp_grow (o' := o') (cs' := (cs.drop o).take (len * ei.size) ++ new) hr hg hp hwr (fun i u hu => ?_)
            · refine ⟨.slice (some ⟨p.blk, o', none⟩) (len + n) cap', w', _, ?_, ?_, hst'⟩
              · rw [place_run hst hei hd hds hin hn hfc]
                have hadd : (⟨p.blk, o', none⟩ : Addr).add (len * ei.size) = ⟨p.blk, o' + len * ei.size, none⟩ := by
                  unfold Addr.add; split
                  · rename_i h0; rw [h0]; rfl
                  · rfl
                simp only [hadd, hrun]
                rfl
              · exact VRel.slice (P := P) H1.next 0 o' (len + n) (len + n) cap' ⟨p.blk, o', p.csz, p.elem, false⟩ (ins_same _ _ _) rfl (.inr (by simp)) (Nat.le_refl _) hin h3
            · rw [hcl]
              by_cases hi1 : i < len * ei.size
              · rw [List.getElem?_append_left (by omega)] at hu
                rw [List.getElem?_take, if_pos hi1, List.getElem?_drop] at hu
                have ho : o' = p.sh + o := by
                  rcases hdis with hd | hd
                  · rw [hd.1] at hi1; simp at hi1
                  · exact hd
                obtain ⟨u', hu', hru⟩ := hbr.2.2 _ _ hu
                refine ⟨u', ?_, hru⟩
                simp only [World.cell?, hcw] at hu'
                rw [List.getElem?_append_left (by simp; omega), List.getElem?_take, if_pos (by omega)]
                rw [ho]
                rw [show p.sh + (o + i) = p.sh + o + i from by omega] at hu'
                simpa using hu'
              · rw [List.getElem?_append_right (by omega), hol] at hu
                obtain ⟨u', hu', hru⟩ := hnew.get hu
                refine ⟨u', ?_, hru⟩
                have htl : (c.toList.take (o' + len * ei.size)).length = o' + len * ei.size := by simp; omega
                rw [List.getElem?_append_right (by omega), htl]
                rw [show o' + i - (o' + len * ei.size) = i - len * ei.size from by omega]
                rw [List.getElem?_append_left]
                · exact hu'
                · rcases Nat.lt_or_ge (i - len * ei.size) new'.length with h | h
                  · exact h
                  · rw [List.getElem?_eq_none h] at hu'; cases hu'
          · -- anew
            obtain ⟨_, old', hold, hcold⟩ := cells_rel hr.drew hp hcells
            have hold' : (Builtin.firstCells ei.size len (.slice (some ⟨p.blk, o', none⟩) len cap')).run P w.drew = .ok old'.toArray w.drew := by
              have hl := hold.1
              rw [hol] at hl
              rcases hdis with hd | hd
              · have : len = 0 := hd.1
                subst this
                have : old' = [] := by simpa using hl.symm
                subst this
                simp [Builtin.firstCells, loadCells, loadCellsFrom]
              · subst hd
                have := run_loadCells_list (P := P) w.drew _ _ hcold
                rw [← hl] at this
                simpa [Builtin.firstCells] using this
            obtain ⟨N, w', hN, hrun, hgw⟩ := grow_run (ty := ty) (base := some ⟨p.blk, o', none⟩) (len := len) (cap := cap') hst hei hz0 hd hds (by omega) hby hmx hn hold' hfc2
            have hl1 : old'.length = len * ei.size := by rw [← hold.1]; exact hol
            have hl2 : new2.length = n * ei.size := by rw [← hnew2.1]; exact hlen
            have hsize : (old'.toArray ++ new2.toArray ++ Builtin.zeroCells z0.cells (N - (len + n))).size = N * ei.size := by
              simp [Builtin.zeroCells, hl1, hl2, hzsz, ← Nat.add_mul]; congr 1; omega
            have hs1 := stp_del hr hg
            have hst' := stp_new (P := P) (ι := ι) (cs := (cs.drop o).take (len * ei.size) ++ new) hs1.rel (fun i u hu => ?_) hgw (by intro i _; omega) (by intro _ i; omega)
            · refine ⟨_, w', _, hrun, ?_, hs1.trans hst'⟩
              exact .slice _ _ _ _ _ _ _ (ins_same _ _ _) rfl (.inr (by simp)) (Nat.le_refl _) hN (by simp only [esz, cellsOf_info hei]; rw [hsize]; omega)
            · obtain ⟨u', hu', hru⟩ := (hold.append hnew2).get hu
              refine ⟨u', ?_, hru⟩
              have : i < (old' ++ new2).length := by
                rcases Nat.lt_or_ge i (old' ++ new2).length with h | h
                · exact h
                · rw [List.getElem?_eq_none h] at hu'; cases hu'
              rw [Array.getElem?_append_left (by simpa using this)]
              simpa using hu'
        · simp at h
      · simp at h
  · simp [M.fail] at h

end Go.Lk
