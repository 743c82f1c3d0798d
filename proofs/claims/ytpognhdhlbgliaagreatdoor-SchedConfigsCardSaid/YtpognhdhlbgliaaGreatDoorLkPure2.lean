/- The operations that touch no memory, one by one. -/
import Derived.Test.YtpognhdhlbgliaaGreatDoorLkPure
namespace Go.Lk
variable {P : Program} {ι : Emb} {w : World}

theorem nilChk_ok [Gl] {x x' v : Value} (hx : VRel P ι x x') (h : nilChk x = some v) :
    VRel P ι v x' ∧ ((∃ a, x' = .pointer (some a)) ∨ ∃ f a c, x' = .func (.func f) a c) := by
  cases hx <;> simp [nilChk] at h
  all_goals subst h
  · exact ⟨.ptr _ _ _ ‹_› ‹_›, .inl ⟨_, rfl⟩⟩
  · exact ⟨.func _ _ _ _ _ ‹_› ‹_› ‹_› ‹_›, .inr ⟨_, _, _, rfl⟩⟩

theorem addP_ok [Gl] {x x' v : Value} {k : Nat} (hx : VRel P ι x x') (h : addP x k = some v) :
    ∃ a a', x = .pointer (some a) ∧ x' = .pointer (some a') ∧ a'.spot = none ∧ VRel P ι v (.pointer (some (a'.add k))) := by
  cases hx <;> simp [addP] at h
  subst h
  rename_i b o p hb hm
  refine ⟨_, _, rfl, rfl, rfl, ?_⟩
  by_cases hk : k = 0
  · simp only [Addr.add, hk, if_true]; exact .ptr _ _ _ hb hm
  · simp only [Addr.add, hk, if_false, Nat.add_assoc]; exact .ptr _ _ _ hb hm

theorem fieldAddrP_ok [Gl] {t : TypeId} {x x' v : Value} {f : Nat} (hx : VRel P ι x x') (h : fieldAddrP P t x f = some v) :
    ∃ v', (Instr.fieldAt t x' f).run P w = .ok v' w ∧ VRel P ι v v' := by
  unfold fieldAddrP at h
  cases hu : P.underlying t with
  | none => simp [hu] at h
  | some d =>
    cases d <;> simp [hu] at h
    rename_i fs
    cases hf : fs[f]? with
    | none => simp [hf] at h
    | some fd =>
      simp only [hf] at h
      cases hi : P.info? fd.type with
      | none => simp [hi] at h
      | some i =>
        simp only [hi] at h
        split at h
        · simp at h
        · rename_i hz
          have hz' := Nat.ne_of_beq_eq_false hz
          obtain ⟨a, a', rfl, rfl, _, hr⟩ := addP_ok hx h
          refine ⟨_, ?_, hr⟩
          simp [Instr.fieldAt, run_underlying hu, hf, Instr.sureAddr, fieldPlace, run_sz hi, hz']

theorem partP_ok [Gl] {t : TypeId} {cs cs' : List Value} {off : Nat} {v : Value} (hc : LRel P ι cs cs') (h : partP P t cs off = some v) :
    ∃ v', (part t ⟨cs'⟩ off).run P w = .ok v' w ∧ VRel P ι v v' := by
  unfold partP at h
  cases hu : P.underlying t with
  | none => simp [hu] at h
  | some d =>
    cases hi : P.info? t with
    | none => simp [hu, hi] at h
    | some i =>
      simp only [hu, hi] at h
      cases hd : isAggD d with
      | true =>
        simp only [hd] at h
        simp at h; subst h
        refine ⟨.agg ⟨(cs'.drop off).take i.size⟩, ?_, VRel.aggL ((hc.drop off).take i.size)⟩
        simp only [part, Sem.run_bind, run_isAgg hu, Result.andThen_ok, hd, if_true, run_sz hi, Sem.run_pure]
        congr 2
        apply Array.ext'
        simp [List.take_drop]
      | false =>
        simp only [hd] at h
        obtain ⟨v', hv', hr⟩ := hc.get h
        refine ⟨v', ?_, hr⟩
        simp [part, run_isAgg hu, hd, hv']

theorem fieldP_ok [Gl] {t : TypeId} {x x' v : Value} {f : Nat} (hx : VRel P ι x x') (h : fieldP P t x f = some v) :
    ∃ v', (Instr.field t x' f).run P w = .ok v' w ∧ VRel P ι v v' := by
  unfold fieldP at h
  cases hu : P.underlying t with
  | none => simp [hu] at h
  | some d =>
    cases d <;> simp [hu] at h
    rename_i fs
    cases hf : fs[f]? with
    | none => simp [hf] at h
    | some fd =>
      simp only [hf] at h
      cases x <;> simp at h
      rename_i cs
      obtain ⟨cs', rfl, hl⟩ := hx.agg_inv
      obtain ⟨v', hv', hr⟩ := partP_ok (w := w) hl h
      exact ⟨v', by simpa [Instr.field, run_underlying hu, hf, asAgg] using hv', hr⟩

theorem elemAddr_ok [Gl] {t e : TypeId} {ei : TypeInfo} {x x' i i' v : Value} (hu : P.underlying t = some (.slice e)) (hi : P.info? e = some ei)
    (hx : VRel P ι x x') (hix : VRel P ι i i') (h : elemAddr ei.size x i = some v) :
    ∃ v', (Instr.indexAt t x' i').run P w = .ok v' w ∧ VRel P ι v v' := by
  cases hx <;> try (simp [elemAddr] at h; done)
  cases hix <;> try (simp [elemAddr] at h; done)
  rename_i b o o' len cap cap' p hb hm h0 h1 h2 h3 k n
  simp only [elemAddr] at h
  split at h
  · rename_i hn
    simp at h; subst h
    have ho : o' = p.sh + o := by
      rcases h0 with h0 | h0
      · omega
      · exact h0
    subst ho
    refine ⟨.pointer (some ((⟨p.blk, p.sh + o, none⟩ : Addr).add (n.toNat * ei.size))), ?_, ?_⟩
    · simp [Instr.indexAt, asIntOf, run_underlying hu, run_sz hi, hn]
    · by_cases hk : n.toNat * ei.size = 0
      · simp only [Addr.add, hk, if_true]; exact .ptr _ _ _ hb hm
      · simp only [Addr.add, hk, if_false, Nat.add_assoc]; exact .ptr _ _ _ hb hm
  · simp at h

theorem arrAddr_ok [Gl] {t e : TypeId} {m : Nat} {ei : TypeInfo} {x x' i i' v : Value} (hu : P.underlying t = some (.array m e)) (hi : P.info? e = some ei)
    (hx : VRel P ι x x') (hix : VRel P ι i i') (h : arrAddr m ei.size x i = some v) :
    ∃ v', (Instr.indexAt t x' i').run P w = .ok v' w ∧ VRel P ι v v' := by
  cases hx <;> try (simp [arrAddr] at h; done)
  cases hix <;> try (simp [arrAddr] at h; done)
  rename_i b o p hb hm k n
  simp only [arrAddr] at h
  split at h
  · rename_i hn
    simp at h; subst h
    refine ⟨.pointer (some ((⟨p.blk, p.sh + o, none⟩ : Addr).add (n.toNat * ei.size))), ?_, ?_⟩
    · simp [Instr.indexAt, asIntOf, run_underlying hu, run_sz hi, hn, Instr.sureAddr]
    · by_cases hk : n.toNat * ei.size = 0
      · simp only [Addr.add, hk, if_true]; exact .ptr _ _ _ hb hm
      · simp only [Addr.add, hk, if_false, Nat.add_assoc]; exact .ptr _ _ _ hb hm
  · simp at h

theorem indexAddrP_ok [Gl] {t : TypeId} {x x' i i' v : Value} (hx : VRel P ι x x') (hix : VRel P ι i i') (h : indexAddrP P t x i = some v) :
    ∃ v', (Instr.indexAt t x' i').run P w = .ok v' w ∧ VRel P ι v v' := by
  unfold indexAddrP at h
  cases hu : P.underlying t with
  | none => simp [hu] at h
  | some d =>
    cases d <;> simp [hu] at h
    case slice e =>
      cases hi : P.info? e with
      | none => simp [hi] at h
      | some ei => simp only [hi] at h; exact elemAddr_ok hu hi hx hix h
    case array m e =>
      cases hi : P.info? e with
      | none => simp [hi] at h
      | some ei => simp only [hi] at h; exact arrAddr_ok hu hi hx hix h

theorem indexP_ok [Gl] {t : TypeId} {x x' i i' v : Value} (hx : VRel P ι x x') (hix : VRel P ι i i') (h : indexP P t x i = some v) :
    ∃ v', (Instr.index t x' i').run P w = .ok v' w ∧ VRel P ι v v' := by
  unfold indexP at h
  cases hu : P.underlying t with
  | none => simp [hu] at h
  | some d =>
    cases d <;> simp [hu] at h
    case string =>
      cases hx <;> try (simp [strAt] at h; done)
      cases hix <;> try (simp [strAt] at h; done)
      rename_i s k n
      simp only [strAt] at h
      split at h
      · rename_i hn
        split at h
        · rename_i b hb
          simp at h; subst h
          exact ⟨_, by simp [Instr.index, asIntOf, run_underlying hu, hn, hb], .int _ _⟩
        · simp at h
      · simp at h
    case array m e =>
      cases hi : P.info? e with
      | none => simp [hi] at h
      | some ei =>
        simp only [hi] at h
        cases x <;> try (simp at h; done)
        cases i <;> try (simp at h; done)
        rename_i cs k n
        simp only at h
        split at h
        · rename_i hn
          obtain ⟨cs', rfl, hl⟩ := hx.agg_inv
          have := hix.noAddr_eq (by rfl); subst this
          obtain ⟨v', hv', hr⟩ := partP_ok (w := w) hl h
          exact ⟨v', by simpa [Instr.index, asIntOf, run_underlying hu, run_sz hi, hn] using hv', hr⟩
        · simp at h

theorem bnd_ok [Gl] {v : Option Value} {v' : Option Value} {dflt y n : Nat} {code : BoundsCode} (hv : ∀ u, v = some u → ∃ u', v' = some u' ∧ VRel P ι u u') (hn : v = none → v' = none)
    (h : bnd v dflt y = some n) : (v = none ∧ n = dflt ∧ v' = none) ∨ ∃ k i, v = some (.int k i) ∧ v' = some (.int k i) ∧ 0 ≤ i ∧ i ≤ y ∧ n = i.toNat ∧ (Instr.sliceBound (.int k i) y code).run P w = .ok n w := by
  cases v with
  | none => simp [bnd] at h; exact .inl ⟨rfl, h.symm, hn rfl⟩
  | some u =>
    obtain ⟨u', rfl, hr⟩ := hv u rfl
    cases u <;> try (simp [bnd] at h; done)
    rename_i k i
    have := hr.noAddr_eq (by rfl); subst this
    simp only [bnd] at h
    split at h
    · rename_i hi
      simp at h; subst h
      exact .inr ⟨k, i, rfl, rfl, hi.1, hi.2, rfl, by simp [Instr.sliceBound, asIntOf, hi]⟩
    · simp at h

theorem sliceP_ok [Gl] {t : TypeId} {x x' v : Value} {lo hi mx lo' hi' mx' : Option Value} (hx : VRel P ι x x')
    (hlo : ∀ u, lo = some u → ∃ u', lo' = some u' ∧ VRel P ι u u') (nlo : lo = none → lo' = none)
    (hhi : ∀ u, hi = some u → ∃ u', hi' = some u' ∧ VRel P ι u u') (nhi : hi = none → hi' = none) (nmx : mx = none → mx' = none)
    (h : sliceP P t x lo hi mx = some v) : ∃ v', (Instr.sliceAt t x' lo' hi' mx').run P w = .ok v' w ∧ VRel P ι v v' := by
  unfold sliceP at h
  split at h
  · rename_i hu
    have hmx := nmx rfl; subst hmx
    cases hx <;> try (simp [sliceStr] at h; done)
    rename_i s
    simp only [sliceStr] at h
    cases hb : bnd hi s.size s.size with
    | none => simp [hb] at h
    | some hh =>
      simp only [hb] at h
      cases hl : bnd lo 0 hh with
      | none => simp [hl] at h
      | some l =>
        simp [hl] at h; subst h
        refine ⟨.string (s.extract l hh), ?_, .string _⟩
        have e1 := bnd_ok (P := P) (ι := ι) (w := w) (code := .sliceAlen) hhi nhi hb
        have e2 := bnd_ok (P := P) (ι := ι) (w := w) (code := .sliceB) hlo nlo hl
        rcases e1 with ⟨_, rfl, rfl⟩ | ⟨k, i, _, rfl, _, _, _, hr⟩ <;> rcases e2 with ⟨_, rfl, rfl⟩ | ⟨k2, i2, _, rfl, _, _, _, hr2⟩
        · simp [Instr.sliceAt, Instr.slice, Instr.sliceBounds, run_underlying hu]
        · simp [Instr.sliceAt, Instr.slice, Instr.sliceBounds, run_underlying hu, hr2]
        · simp [Instr.sliceAt, Instr.slice, Instr.sliceBounds, run_underlying hu, hr]
        · simp [Instr.sliceAt, Instr.slice, Instr.sliceBounds, run_underlying hu, hr, hr2]
  · simp at h

theorem sliceSl_ok [Gl] {e t : TypeId} {ei : TypeInfo} {x x' v : Value} {lo hi mx lo' hi' mx' : Option Value} (hu : P.underlying t = some (.slice e)) (hi0 : P.info? e = some ei) (hx : VRel P ι x x')
    (hel : ∀ b o l c p, x = .slice (some ⟨b, o, none⟩) l c → ι b = some p → esz P p.elem = ei.size)
    (hlo : ∀ u, lo = some u → ∃ u', lo' = some u' ∧ VRel P ι u u') (nlo : lo = none → lo' = none)
    (hhi : ∀ u, hi = some u → ∃ u', hi' = some u' ∧ VRel P ι u u') (nhi : hi = none → hi' = none)
    (hmx : ∀ u, mx = some u → ∃ u', mx' = some u' ∧ VRel P ι u u') (nmx : mx = none → mx' = none) (hnn : hi = none → mx = none)
    (h : sliceSl ei.size x lo hi mx = some v) : ∃ v', (Instr.sliceAt t x' lo' hi' mx').run P w = .ok v' w ∧ VRel P ι v v' := by
  have key : ∀ (a' : Option Addr) (len cap cap' : Nat), x' = .slice a' len cap' → cap ≤ cap' → ∀ a, x = .slice a len cap → ∃ m h0 l m', h0 ≤ m ∧ l ≤ h0 ∧ m ≤ m' ∧ m ≤ cap ∧ m' ≤ cap' ∧ (mx = none → m' = cap') ∧
      v = .slice (if m = l then a else a.map (·.add (l * ei.size))) (h0 - l) (m - l) ∧
      (Instr.sliceAt t x' lo' hi' mx').run P w = .ok (.slice (if m' = l then a' else a'.map (·.add (l * ei.size))) (h0 - l) (m' - l)) w := by
    intro a' len cap cap' hx' hcap a hxa
    subst hx'; subst hxa
    simp only [sliceSl] at h
    cases hm : bnd mx cap cap with
    | none => simp [hm] at h
    | some m =>
      simp only [hm] at h
      cases hh : bnd hi len m with
      | none => simp [hh] at h
      | some h0 =>
        simp only [hh] at h
        cases hl : bnd lo 0 h0 with
        | none => simp [hl] at h
        | some l =>
          simp only [hl] at h
          split at h
          · rename_i hle
            simp at h; subst h
            have e2 := bnd_ok (P := P) (ι := ι) (w := w) (code := .sliceB) hlo nlo hl
            have e2c := bnd_ok (P := P) (ι := ι) (w := w) (code := .slice3C) hlo nlo hl
            cases mx with
            | none =>
              have hmx' := nmx rfl; subst hmx'
              simp [bnd] at hm; subst hm
              have e1 := bnd_ok (P := P) (ι := ι) (w := w) (code := .sliceAcap) hhi nhi hh
              have hll : l ≤ h0 := by
                rcases e2 with ⟨_, rfl, _⟩ | ⟨k2, i2, _, _, _, _, rfl, _⟩ <;> omega
              refine ⟨cap, h0, l, cap', hle, hll, hcap, Nat.le_refl _, Nat.le_refl _, fun _ => rfl, rfl, ?_⟩
              rcases e1 with ⟨_, rfl, rfl⟩ | ⟨k, i, _, rfl, hi1, hi2, hi3, hr⟩ <;> rcases e2 with ⟨_, rfl, rfl⟩ | ⟨k2, i2, _, rfl, _, _, _, hr2⟩
              · simp [Instr.sliceAt, Instr.slice, Instr.sliceBounds, run_underlying hu, run_sz hi0]
              · simp [Instr.sliceAt, Instr.slice, Instr.sliceBounds, run_underlying hu, run_sz hi0, hr2]
              · have hr' : (Instr.sliceBound (.int k i) cap' .sliceAcap).run P w = .ok h0 w := by
                  simp only [Instr.sliceBound, asIntOf]; simp; rw [if_pos ⟨hi1, by omega⟩]; simp [hi3]
                simp [Instr.sliceAt, Instr.slice, Instr.sliceBounds, run_underlying hu, run_sz hi0, hr']
              · have hr' : (Instr.sliceBound (.int k i) cap' .sliceAcap).run P w = .ok h0 w := by
                  simp only [Instr.sliceBound, asIntOf]; simp; rw [if_pos ⟨hi1, by omega⟩]; simp [hi3]
                simp [Instr.sliceAt, Instr.slice, Instr.sliceBounds, run_underlying hu, run_sz hi0, hr', hr2]
            | some mv =>
              have hhn : hi ≠ none := fun e => by have := hnn e; simp at this
              have e0 := bnd_ok (P := P) (ι := ι) (w := w) (code := .slice3Acap) hmx nmx hm
              have e1 := bnd_ok (P := P) (ι := ι) (w := w) (code := .slice3B) hhi nhi hh
              rcases e0 with ⟨e, _⟩ | ⟨km, im, _, rfl, hm1, hm2, hm3, hrm⟩
              · simp at e
              · have hll : l ≤ h0 := by
                  rcases e2 with ⟨_, rfl, _⟩ | ⟨k2, i2, _, _, _, _, rfl, _⟩ <;> omega
                refine ⟨m, h0, l, m, hle, hll, Nat.le_refl _, by omega, by omega, fun e => by simp at e, rfl, ?_⟩
                have hrm' : (Instr.sliceBound (.int km im) cap' .slice3Acap).run P w = .ok m w := by
                  simp only [Instr.sliceBound, asIntOf]; simp; rw [if_pos ⟨hm1, by omega⟩]; simp [hm3]
                rcases e1 with ⟨e, _⟩ | ⟨k, i, _, rfl, hi1, hi2, hi3, hr⟩
                · exact absurd e hhn
                · rcases e2c with ⟨_, rfl, rfl⟩ | ⟨k2, i2, _, rfl, _, _, _, hr2⟩
                  · simp [Instr.sliceAt, Instr.slice, Instr.sliceBounds, run_underlying hu, run_sz hi0, hrm', hr]
                  · simp [Instr.sliceAt, Instr.slice, Instr.sliceBounds, run_underlying hu, run_sz hi0, hrm', hr, hr2]
          · simp at h
  cases hx <;> try (simp [sliceSl] at h; done)
  case nilSlice =>
    obtain ⟨m, h0, l, m', k1, k2, k3, k4, k5, _, hv, hr⟩ := key none 0 0 0 rfl (Nat.le_refl _) none rfl
    refine ⟨_, hr, ?_⟩
    subst hv
    have : m = 0 := by omega
    have : m' = 0 := by omega
    have : h0 = 0 := by omega
    have : l = 0 := by omega
    subst_vars; simp; exact .nilSlice
  case slice b o o' len cap cap' p hb hm hd h1 h2 h3 =>
    obtain ⟨m, h0, l, m', k1, k2, k3, k4, k5, _, hv, hr⟩ := key _ len cap cap' rfl h2 _ rfl
    refine ⟨_, hr, ?_⟩
    have hes := hel b o len cap p rfl hb
    subst hv
    rw [hes] at h3
    have hb3 : o' + l * ei.size + (m' - l) * ei.size ≤ p.csz := by
      have : l * ei.size + (m' - l) * ei.size ≤ cap' * ei.size := by rw [← Nat.add_mul]; exact Nat.mul_le_mul_right _ (by omega)
      omega
    by_cases hml : m = l
    · subst hml
      have : h0 = m := by omega
      subst this
      simp only [if_true, Nat.sub_self]
      by_cases hm' : m' = h0
      · subst hm'
        simp only [if_true, Nat.sub_self]
        exact .slice b o o' 0 0 0 p hb hm (.inl ⟨rfl, rfl⟩) (Nat.le_refl _) (Nat.le_refl _) (by omega)
      · simp only [if_neg hm', Option.map]
        by_cases hk : h0 * ei.size = 0
        · simp only [Addr.add, hk, if_true]
          exact .slice b o o' 0 0 _ p hb hm (.inl ⟨rfl, rfl⟩) (Nat.le_refl _) (by omega) (by rw [hes]; omega)
        · simp only [Addr.add, hk, if_false]
          exact .slice b o _ 0 0 _ p hb hm (.inl ⟨rfl, rfl⟩) (Nat.le_refl _) (by omega) (by rw [hes]; omega)
    · have hml' : ¬ m' = l := by omega
      simp only [if_neg hml, if_neg hml', Option.map]
      have ho : o' = p.sh + o := by
        rcases hd with hd | hd
        · omega
        · exact hd
      subst ho
      by_cases hk : l * ei.size = 0
      · simp only [Addr.add, hk, if_true]
        exact .slice b o _ _ _ _ p hb hm (.inr rfl) (by omega) (by omega) (by rw [hes]; omega)
      · simp only [Addr.add, hk, if_false]
        exact .slice b _ _ _ _ _ p hb hm (.inr (by omega)) (by omega) (by omega) (by rw [hes]; omega)

end Go.Lk
