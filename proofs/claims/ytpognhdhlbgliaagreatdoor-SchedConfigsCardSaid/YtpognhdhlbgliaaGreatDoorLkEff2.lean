/- The writing operations, all together. -/
import Derived.Test.YtpognhdhlbgliaaGreatDoorLkApp
namespace Go.Lk
variable {P : Program} {ι : Emb} {H H' : Hp} {w : World} {S : Operand → Bool}
theorem flat_rep_all (z : List Value) (n : Nat) (p : Value → Bool) (h : z.all p = true) : (List.replicate n z).flatten.all p = true := by
  rw [List.all_eq_true] at h ⊢
  intro x hx
  rw [List.mem_flatten] at hx
  obtain ⟨l, hl, hx⟩ := hx
  rw [List.eq_of_mem_replicate hl] at hx
  exact h x hx

theorem clearP_ok [Gl] (hr : HRel P ι H w) {t : TypeId} {x x' v : Value} {ats : Array TypeId} {args : Array Value} {ty : TypeId} (ha : ats.toList = [t]) (hargs : args.toList = [x']) (hx : VRel P ι x x')
    (h : clearP P t x H = some (v, H')) : ∃ v' w' ι', (Builtin.clear_ ats ty args).run P w = .ok v' w' ∧ VRel P ι' v v' ∧ Stp P ι ι' H H' w w' := by
  have h0 : ats[0]? = some t := by rw [← Array.getElem?_toList, ha]; rfl
  have h1 : args[0]? = some x' := by rw [← Array.getElem?_toList, hargs]; rfl
  unfold clearP at h
  cases hu : P.underlying t with
  | none => simp [hu, M.fail] at h
  | some d =>
    cases d <;> try (simp [hu, M.fail] at h; done)
    rename_i e
    simp only [hu] at h
    cases hi : P.info? e with
    | none => simp [hi, M.fail] at h
    | some ei =>
      simp only [hi] at h
      cases hz : zc ei with
      | none => simp [hz, M.fail] at h
      | some z =>
        simp only [hz] at h
        obtain ⟨z0, hz0, rfl, hs⟩ := zc_some hz
        unfold clearV at h
        split at h
        · simp [M.ret] at h; obtain ⟨rfl, rfl⟩ := h
          cases hx
          exact ⟨_, w, ι, by simp [Builtin.clear_, h0, h1, run_underlying hu]; rfl, undef_rel, Stp.refl hr⟩
        · rename_i a n c
          by_cases hone : (z0.cells.toList.all oneC && Nat.ble 1 z0.cells.toList.length) = true
          case neg => simp only [if_neg hone, M.fail] at h; simp at h
          simp only [if_pos hone] at h
          simp only [Bool.and_eq_true, Nat.ble_eq] at hone
          cases hx with
          | slice b o o' _ _ cap' p hp hm hd h1' h2 h3 =>
          by_cases hn : n = 0
          · simp only [if_pos hn] at h
            simp [M.ret] at h; obtain ⟨rfl, rfl⟩ := h
            subst hn
            exact ⟨_, w, ι, by simp [Builtin.clear_, h0, h1, run_underlying hu]; rfl, undef_rel, Stp.refl hr⟩
          · simp only [if_neg hn] at h
            obtain ⟨_, H2, hw, hv⟩ := M.bind_some h
            simp [M.ret] at hv
            obtain ⟨rfl, rfl⟩ := hv
            have ho : o' = p.sh + o := by
              rcases hd with hd | hd
              · omega
              · exact hd
            subst ho
            have hpos : 0 < z0.cells.size := by have := hone.2; simp at this; omega
            have hne : (List.replicate n z0.cells.toList).flatten ≠ [] := by
              intro e
              have hl : ((List.replicate n z0.cells.toList).flatten).length = n * z0.cells.size := by simp
              rw [e] at hl
              have : 0 < n * z0.cells.size := Nat.mul_pos (by omega) hpos
              simp at hl; omega
            obtain ⟨w', hrun, hst⟩ := wr_ok hr hp (LRel.scal_self (flat_rep_all _ n _ hs)) (flat_rep_all _ n _ hone.1) hne hw
            obtain ⟨m, rfl⟩ : ∃ m, n = m + 1 := ⟨n - 1, by omega⟩
            refine ⟨undefV, w', ι, ?_, undef_rel, hst⟩
            have hzc : (Builtin.zeroCells z0.cells (m + 1)).toList = (List.replicate (m + 1) z0.cells.toList).flatten := zeros_eq z0.cells (m + 1) hpos
            simp only [Builtin.clear_, h0, h1, Sem.run_bind, run_underlying hu, Result.andThen_ok, run_zero hi hz0, hzc, hrun]
            rfl
        · simp [M.fail] at h

theorem wrap64_small {n : Int} (h0 : 0 ≤ n) (h1 : n ≤ 140737488355328) : IntKind.i64.wrap n = n := by
  have e : IntKind.i64.wrap n = if 9223372036854775808 ≤ n % 18446744073709551616 then n % 18446744073709551616 - 18446744073709551616 else n % 18446744073709551616 := by
    simp [IntKind.wrap, IntKind.bits, IntKind.signed]
  rw [e]
  split <;> omega

theorem makeSliceP_ok [Gl] (hr : HRel P ι H w) {t : TypeId} {l c l' c' v : Value} (hl : VRel P ι l l') (hc : VRel P ι c c')
    (h : makeSliceP P t l c H = some (v, H')) : ∃ v' w' ι', (Instr.makeSlice t l' c').run P w = .ok v' w' ∧ VRel P ι' v v' ∧ Stp P ι ι' H H' w w' := by
  unfold makeSliceP at h
  cases hu : P.underlying t with
  | none => simp [hu, M.fail] at h
  | some d =>
    cases d <;> try (simp [hu, M.fail] at h; done)
    rename_i e
    simp only [hu] at h
    cases hi : P.info? e with
    | none => simp [hi, M.fail] at h
    | some ei =>
      simp only [hi] at h
      cases hz : zc ei with
      | none => simp [hz, M.fail] at h
      | some z =>
        simp only [hz] at h
        obtain ⟨z0, hz0, rfl, hs⟩ := zc_some hz
        split at h
        case isFalse => simp [M.fail] at h
        rename_i hzs
        obtain ⟨hzs, hpos⟩ := hzs
        have hzs : z0.cells.size = ei.size := by simpa using hzs
        unfold mkSlice at h
        split at h
        · rename_i l c
          split at h
          · rename_i hcond
            obtain ⟨c0, c1, c2, c3⟩ := hcond
            cases hl
            cases hc
            simp [newB] at h
            obtain ⟨rfl, rfl⟩ := h
            have hwl := wrap64_small c0 (by omega)
            have hwc := wrap64_small (n := c) (by omega) c3
            have hbig : ¬ (281474976710656 < (ei.bytes : Int) * c) := by
              have : (ei.bytes : Int) * c = c * ei.bytes := Int.mul_comm _ _
              omega
            have hcneg : ¬ c < 0 := by omega
            have hlneg : ¬ l < 0 := by omega
            have hlc : ¬ c < l := by omega
            have hlist : ((Array.range (c.toNat * ei.size)).map (z0.cells[· % z0.cells.size]!)).toList = (List.replicate c.toNat z0.cells.toList).flatten := by
              rw [← hzs]; exact zeros_eq z0.cells c.toNat (by omega)
            have hg := grew_alloc w (.cells ((Array.range (c.toNat * ei.size)).map (z0.cells[· % z0.cells.size]!)) e)
            have hst := stp_new (P := P) (ι := ι) (cs := (List.replicate c.toNat z0.cells.toList).flatten) hr (fun i u hu => ?_) hg (by intro i _; omega) (by intro _ i; omega)
            · refine ⟨.slice (some ⟨w.heap.size, 0, none⟩) l.toNat c.toNat, _, _, ?_, ?_, hst⟩
              · by_cases h0 : c.toNat * ei.size = 0
                · have hc0 : c = 0 := by
                    rcases Nat.mul_eq_zero.1 h0 with h | h <;> omega
                  have hl0 : l = 0 := by omega
                  subst hc0; subst hl0
                  simp [Instr.makeSlice, run_underlying hu, asInt, asIntOf, run_ty hi, hwl, run_sz hi, newRow]
                  congr 2
                  apply Array.ext'; simp
                · simp [Instr.makeSlice, run_underlying hu, asInt, asIntOf, run_ty hi, hwl, hwc, hcneg, hlneg, hlc, hbig, run_sz hi, h0, run_zero hi hz0, newRow]
              · exact VRel.slice (P := P) H.next 0 0 l.toNat c.toNat c.toNat _ (ins_same _ _ _) rfl (.inr (by simp)) (by omega) (Nat.le_refl _) (by simp only [esz, cellsOf_info hi]; simp)
            · rw [← hlist] at hu
              refine ⟨u, by rw [← Array.getElem?_toList]; exact hu, VRel.scal_self ?_⟩
              rw [hlist] at hu
              exact List.all_eq_true.1 (flat_rep_all _ c.toNat _ hs) u (List.mem_of_getElem? hu)
          · simp [M.fail] at h
        · simp [M.fail] at h

theorem freeze_push (w : World) (c : Array Value) (e n : Nat) : ((w.alloc (.cells c e)).freeze ⟨w.heap.size, n, none⟩ 1).heap = w.heap.push (.cells c e (n, n + 1)) := by
  simp only [World.freeze, World.alloc]
  simp only [Nat.one_ne_zero, if_false]
  apply Array.ext_getElem?
  intro i
  rw [Array.getElem?_modify]
  by_cases hi : w.heap.size = i
  · subst hi; simp
  · rw [if_neg hi]
    simp only [Array.getElem?_push]
    rw [if_neg (fun h => hi h.symm), if_neg (fun h => hi h.symm)]

theorem convBytesP_ok [Gl] (hr : HRel P ι H w) {s d : TypeId} {x x' v : Value} (hsu : P.underlying s = some .string) (hx : VRel P ι x x')
    (h : convBytesP P d x H = some (v, H')) : ∃ v' w' ι', (Go.convert s d x').run P w = .ok v' w' ∧ VRel P ι' v v' ∧ Stp P ι ι' H H' w w' := by
  unfold convBytesP at h
  cases hu : P.underlying d with
  | none => simp [hu, M.fail] at h
  | some dd =>
    cases dd <;> try (simp [hu, M.fail] at h; done)
    rename_i e
    simp only [hu] at h
    cases he : P.underlying e with
    | none => simp [he, M.fail] at h
    | some ed =>
      cases ed <;> try (simp [he, M.fail] at h; done)
      rename_i k
      cases k <;> try (simp [he, M.fail] at h; done)
      cases hi : P.info? e with
      | none => simp [he, hi, M.fail] at h
      | some ei =>
        simp only [he, hi] at h
        by_cases hsz : ei.size = 1
        case neg => simp only [if_neg hsz, M.fail] at h; simp at h
        simp only [if_pos hsz] at h
        cases hx <;> try (simp [bytesV, M.fail] at h; done)
        rename_i b
        simp only [bytesV] at h
        simp [newB] at h
        obtain ⟨rfl, rfl⟩ := h
        let q : Question := .appendCap b.size 0 e
        let N := q.cut (w.tape w.drawn q)
        have hN : b.size ≤ N := cut_ge _ _ _ _
        let c : Array Value := (b.data.map fun b => Value.int .u8 b.toNat) ++ Array.replicate (N - b.size) (.int .u8 0)
        have hcs : c.size = N := by
          have : b.data.size = b.size := rfl
          simp only [c, Array.size_append, Array.size_map, Array.size_replicate]; omega
        let w' := (w.drew.alloc (.cells c e)).freeze ⟨w.heap.size, c.size, none⟩ 1
        have hg : Grew (.cells c e (c.size, c.size + 1)) w w' := ⟨freeze_push w.drew c e c.size, rfl, rfl, rfl⟩
        have hst := stp_new (P := P) (ι := ι) (cs := b.data.toList.map fun b => .int .u8 b.toNat) hr (fun i u hu => ?_) hg (by intro i hi; omega) (by intro h0; simp [he, isU8] at h0)
        · refine ⟨.slice (some ⟨w.heap.size, 0, none⟩) b.size N, w', _, ?_, ?_, hst⟩
          · have hsh : (w.drew.alloc (.cells c e)).shape? w.heap.size = some (e, c.size) := by
              have hh : (w.drew.alloc (.cells c e)).heap[w.heap.size]? = some (.cells c e) := by
                show (w.heap.push (.cells c e))[w.heap.size]? = _
                simp
              simp only [World.shape?, hh]
            simp [Go.convert, run_underlying hsu, run_underlying hu, run_underlying he, Conv.stringToBytes, Question.forced, newRow, markStringish]
            rw [show (w.drew.alloc (Obj.cells ((b.data.map fun b => Value.int .u8 b.toNat) ++ Array.replicate (q.cut (w.tape w.drawn q) - b.size) (.int .u8 0)) e)) = w.drew.alloc (.cells c e) from rfl, hsh]
            rfl
          · exact VRel.slice (P := P) H.next 0 0 b.size b.size N _ (ins_same _ _ _) rfl (.inr (by simp)) (Nat.le_refl _) hN (by simp only [esz, cellsOf_info hi, hsz, hcs]; omega)
        · have hsc : scal u = true := by
            obtain ⟨y, _, rfl⟩ := List.mem_map.1 (List.mem_of_getElem? hu); rfl
          refine ⟨u, ?_, VRel.scal_self hsc⟩
          have hil : i < b.data.size := by
            rcases Nat.lt_or_ge i b.data.size with h | h
            · exact h
            · rw [List.getElem?_eq_none (by simpa using h)] at hu; cases hu
          simp only [c]
          rw [Array.getElem?_append_left (by simpa using hil)]
          simpa using hu

theorem effOp_ok [Gl] (hr : HRel P ι H w) {o : Oper} {ρ ρ' : Operand → Value} {v : Value} (hρ : RhoRel P ι S ρ ρ') (hok : ∀ x ∈ o.op.operands.toList, S x = true)
    (hk : ∀ s d x, o.op = .convert s d x → P.underlying s = some .string) (h : effOp P o.op ρ H = some (v, H')) :
    ∃ v' w' ι', ((execOp ρ' o).run P w = .ok (.value v') w' ∨ ((execOp ρ' o).run P w = .ok .skip w' ∧ v' = undefV)) ∧ VRel P ι' v v' ∧ Stp P ι ι' H H' w w' := by
  obtain ⟨dst, op, ty, pos, after, guard⟩ := o
  cases op
  case store t p x =>
    simp [Op.operands] at hok
    simp only [effOp, storeP] at h
    cases hi : P.info? t with
    | none => simp [hi, M.fail] at h
    | some i =>
      simp only [hi] at h
      obtain ⟨rfl, w', hrun, hst⟩ := stN_ok hr hi (hρ p hok.1) (hρ x hok.2) h
      exact ⟨undefV, w', ι, .inr ⟨by simp [execOp, hrun], rfl⟩, undef_rel, hst⟩
  case makeSlice t l c =>
    simp [Op.operands] at hok
    simp only [effOp] at h
    obtain ⟨v', w', ι', hrun, hv, hst⟩ := makeSliceP_ok hr (hρ l hok.1) (hρ c hok.2) h
    exact ⟨v', w', ι', .inl (by simp [execOp, hrun]), hv, hst⟩
  case convert s d x =>
    simp [Op.operands] at hok
    simp only [effOp] at h
    obtain ⟨v', w', ι', hrun, hv, hst⟩ := convBytesP_ok hr (hk s d x rfl) (hρ x hok) h
    exact ⟨v', w', ι', .inl (by simp [execOp, hrun]), hv, hst⟩
  case call c =>
    obtain ⟨callee, args, ats⟩ := c
    cases callee <;> try (simp [effOp, M.fail] at h; done)
    rename_i b
    have hl : LRel P ι (args.toList.map ρ) (args.toList.map ρ') := hρ.list args.toList (fun x hx => hok x (by simp [Op.operands, Call.operands]; simpa using hx))
    cases b <;> try (simp [effOp, M.fail] at h; done)
    case append =>
      simp only [effOp] at h
      obtain ⟨s, x, st, xt, hargs, hats⟩ : ∃ s x st xt, args.toList = [s, x] ∧ ats.toList = [st, xt] := by
        rcases hargs : args.toList with _ | ⟨s, _ | ⟨x, _ | ⟨y, l⟩⟩⟩ <;> rcases hats : ats.toList with _ | ⟨st, _ | ⟨xt, _ | ⟨yt, lt⟩⟩⟩ <;>
          first | exact ⟨_, _, _, _, rfl, rfl⟩ | (simp [hargs, hats, M.fail] at h)
      · simp only [hargs, hats] at h
        rw [hargs] at hl
        have ha : args.map ρ' = #[ρ' s, ρ' x] := by apply Array.ext'; simp [hargs]
        have ht : ats = #[st, xt] := by apply Array.ext'; simp [hats]
        simp only [appendP] at h
        cases hst : P.underlying st with
        | none => simp [hst, M.fail] at h
        | some d =>
          cases d <;> try (simp [hst, M.fail] at h; done)
          rename_i e
          simp only [hst] at h
          cases hei : P.info? e with
          | none => simp [hei, M.fail] at h
          | some ei =>
            simp only [hei] at h
            cases hz : zc ei with
            | none => simp [hz, M.fail] at h
            | some z =>
              cases hxt : P.underlying xt with
              | none => simp [hz, hxt, M.fail] at h
              | some d =>
                have hds : (∃ u, d = .slice u) ∨ d = .string := by
                  cases d <;> first | exact .inl ⟨_, rfl⟩ | exact .inr rfl | (simp [hz, hxt, M.fail] at h)
                have hzl : z.length = ei.size := by
                  by_cases hzl : z.length = ei.size
                  · exact hzl
                  · rcases hds with ⟨u, rfl⟩ | rfl <;> simp [hz, hxt, hzl, M.fail] at h
                have h' : appendV e ei.size ei.bytes (ρ s) (ρ x) H = some (v, H') := by
                  rcases hds with ⟨u, rfl⟩ | rfl <;> simpa [hz, hxt, hzl] using h
                obtain ⟨v', w', ι', hrun, hv, hst'⟩ := appendV_ok (ty := ty) hr hst hei hz hzl hxt hds hl.head hl.tail.head h'
                exact ⟨v', w', ι', .inl (by simp [execOp, resolve, invoke, Go.builtin, ha, ht, hrun]), hv, hst'⟩
    case clear =>
      simp only [effOp] at h
      obtain ⟨x, t, hargs, hats⟩ : ∃ x t, args.toList = [x] ∧ ats.toList = [t] := by
        rcases hargs : args.toList with _ | ⟨s, _ | ⟨x, l⟩⟩ <;> rcases hats : ats.toList with _ | ⟨st, _ | ⟨xt, lt⟩⟩ <;>
          first | exact ⟨_, _, rfl, rfl⟩ | (simp [hargs, hats, M.fail] at h)
      · simp only [hargs, hats] at h
        rw [hargs] at hl
        obtain ⟨v', w', ι', hrun, hv, hst'⟩ := clearP_ok (ty := ty) (args := args.map ρ') hr hats (by simp [hargs]) hl.head h
        exact ⟨v', w', ι', .inl (by simp [execOp, resolve, invoke, Go.builtin, hrun]), hv, hst'⟩
  all_goals simp [effOp, M.fail] at h

end Go.Lk
