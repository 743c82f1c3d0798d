/- strings.Split, strings.Join, and all the library's functions together. -/
import Derived.Test.YtpognhdhlbgliaaGreatDoorLkOnce2
namespace Go.Lk
open Go.Proofs Go.RowKit

theorem str_self (x : ByteArray) : str x.data.toList = .string x := by
  unfold str; congr 1

theorem split_cells (s sep : ByteArray) : (Lib.split s.data.toList sep.data.toList).map str = (Lib.splitB sep 0 (Lib.countB s sep) s).map Value.string := by
  unfold Lib.split
  have := Lib.splitB_data sep 0 (Lib.countB s sep) s
  rw [← this, List.map_map]
  apply List.map_congr_left
  intro x _
  exact str_self x

theorem fSplit_sound [Fc] (C : Calc) : FSound Tryz.prog 257 (fSplit C) := by
  refine MSound.fsound (fun ι H w args args' hr hl v H' h => ?_) _ Tryz.func257 (by kernel_rfl) (by kernel_rfl)
  unfold fSplit at h
  split at h
  · rename_i s sep
    cases ho : (okS s && Nat.ble 1 sep.size) with
    | false => simp [ho, M.fail] at h
    | true =>
      simp only [ho, newB, Option.some.injEq, Prod.mk.injEq] at h
      simp only [Bool.and_eq_true] at ho
      obtain ⟨x, y, rfl, hx, hy⟩ := hl.inv2
      cases hx; cases hy
      obtain ⟨rfl, rfl⟩ := h
      obtain ⟨m, hm⟩ := max_of hr
      have h1 : 1 ≤ sep.size := Nat.le_of_ble_eq_true ho.2
      refine (Tryz.strings_Split s sep m w (okS_lt ho.1) hm h1).mono fun e w' ⟨he, hw⟩ => ?_
      have hlen : (Lib.splitB sep 0 (Lib.countB s sep) s).length = Lib.countB s sep + 1 := Lib.splitB_all sep h1 0 _ s rfl
      have hst := stp_new (P := Tryz.prog) (t := 9) (lo := 0) (hi := 0) (cs := (Lib.split s.data.toList sep.data.toList).map str) (c := ((Lib.splitB sep 0 (Lib.countB s sep) s).map Value.string).toArray) (w' := w') hr
        (fun i v hv => by
          rw [split_cells] at hv
          refine ⟨v, by simpa using hv, VRel.noAddr_self ?_⟩
          obtain ⟨x, hx, rfl⟩ := List.mem_map.1 (List.mem_of_getElem? hv)
          rfl)
        (hw ▸ grew_alloc ..) (by omega) (by omega)
      refine ⟨_, he, _, ?_, hst⟩
      refine .slice _ 0 0 _ _ _ _ (ins_same _ _ _) rfl (.inr rfl) (Nat.le_refl _) (Nat.le_refl _) ?_
      have : esz Tryz.prog 9 = 1 := by kernel_rfl
      simp only [this]
      simp [hlen]
  · simp [M.fail] at h

theorem strsOf_some : ∀ {l : List Value} {r : List ByteArray}, strsOf l = some r → l = r.map Value.string
  | [], r, h => by simp [strsOf] at h; subst h; rfl
  | v :: l, r, h => by
    cases v <;> try (simp [strsOf] at h; done)
    rename_i s
    simp only [strsOf] at h
    cases hl : strsOf l with
    | none => simp [hl] at h
    | some x => simp [hl] at h; subst h; rw [strsOf_some hl]; rfl

theorem fJoin_sound [Fc] (C : Calc) : FSound Tryz.prog 227 (fJoin C) := by
  refine (msound_below fun ι H w args args' hr hl v H' h => ?_).fsound _ Tryz.func227 (by kernel_rfl) (by kernel_rfl)
  unfold fJoin at h
  split at h
  · rename_i ln cp sep
    obtain ⟨x, y, rfl, hx, hy⟩ := hl.inv2
    cases hx; cases hy
    simp only [M.ret, Option.some.injEq, Prod.mk.injEq] at h
    obtain ⟨rfl, rfl⟩ := h
    exact ⟨rfl, _, .string _, (Tryz.strings_Join_none none 0 sep w).mono fun e w' ⟨h1, h2⟩ => ⟨h1, h2 ▸ Below.refl _ _⟩⟩
  · rename_i a n cp sep
    obtain ⟨x, y, rfl, hx, hy⟩ := hl.inv2
    cases hy
    obtain ⟨l, H1, g1, g2⟩ := M.bind_some h
    obtain ⟨g3, x1⟩ := M.look_some g1
    subst x1
    cases hs : strsOf l with
    | none => simp [hs, M.fail] at g2
    | some r =>
      simp only [hs] at g2
      cases hb : (Nat.ble (Lib.join (r.map (·.data.toList)) sep.data.toList).length 140737488355328 && Nat.ble r.length 140737488355328) with
      | false => simp [hb, M.fail] at g2
      | true =>
        simp only [hb, M.ret, Option.some.injEq, Prod.mk.injEq] at g2
        obtain ⟨rfl, rfl⟩ := g2
        simp only [Bool.and_eq_true] at hb
        have hle := strsOf_some hs
        cases hx with
        | slice b o o' _ _ cap' p hp hm hd h1 h2 h3 =>
          obtain ⟨hlen, l', hl', hc⟩ := cells_rel hr hp g3
          have e : l' = l := hl'.noAddr_eq (by rw [hle, List.all_eq_true]; intro v hv; obtain ⟨x, _, rfl⟩ := List.mem_map.1 hv; rfl)
          subst e
          have hn : r.length = n := by rw [← hlen, hle]; simp
          refine ⟨rfl, _, .string _, ?_⟩
          have := Tryz.strings_Join p.blk o' cap' r sep w (fun j x hj => by
            have hj' : j < r.length := by
              rcases Nat.lt_or_ge j r.length with h | h
              · exact h
              · simp [List.getElem?_eq_none h] at hj
            rcases hd with hd | hd
            · omega
            · subst hd
              have := hc j (.string x) (by rw [hle]; simp [hj])
              cases j with
              | zero => simpa [Addr.add] using this
              | succ j => simpa [Addr.add] using this) (hr.fact b p hp).lt (Nat.le_of_ble_eq_true hb.2) (by omega) (Nat.le_of_ble_eq_true hb.1)
          rw [hn] at this
          exact this
  · simp [M.fail] at h

/-! ## All together -/

def asL {α : Type} : List (Nat × α) → Nat → Option α
  | [], _ => none
  | (k, x) :: l, n => match Nat.beq k n with
    | true => some x
    | false => asL l n

theorem asL_some {α : Type} : ∀ {l : List (Nat × α)} {n : Nat} {x : α}, asL l n = some x → (n, x) ∈ l
  | [], n, x, h => by simp [asL] at h
  | (k, y) :: l, n, x, h => by
    unfold asL at h
    cases hb : Nat.beq k n with
    | true => simp [hb] at h; rw [← Nat.eq_of_beq_eq_true hb, ← h]; exact List.mem_cons_self
    | false => simp only [hb] at h; exact List.mem_cons_of_mem _ (asL_some h)

abbrev SpecL := List (FuncId × (Calc → List Value → M Value))

def SpecLOK [Fc] (P : Program) (l : SpecL) : Prop := ∀ p ∈ l, ∀ C, CSound P C → FSound P p.1 (p.2 C)

theorem SpecLOK.ok [Fc] {P : Program} {l : SpecL} (h : SpecLOK P l) : SpecOK P (asL l) := fun f m hs C hC => h (f, m) (asL_some hs) C hC

theorem SpecLOK.nil [Fc] {P : Program} : SpecLOK P [] := fun p h => by simp at h
theorem SpecLOK.cons [Fc] {P : Program} {f : FuncId} {m : Calc → List Value → M Value} {l : SpecL} (h : ∀ C, CSound P C → FSound P f (m C)) (hl : SpecLOK P l) : SpecLOK P ((f, m) :: l) := by
  intro p hp C hC
  rcases List.mem_cons.1 hp with rfl | hp
  · exact h C hC
  · exact hl p hp C hC

def libSpec [Fc] : SpecL := [
  (56, fun _ => atLoad .i64), (102, fun _ => atLoad .u64), (275, fun _ => atLoad .u32),
  (193, fun _ => atStore), (101, fun _ => atStore), (323, fun _ => atStore), (57, fun _ => atAdd .i64),
  (256, fIndexByte), (171, fCut), (304, fIndex), (269, fHasPrefix), (258, fTrimPrefix), (172, fIndexAny), (232, fContainsAny),
  (184, fItoa), (257, fSplit), (227, fJoin), (204, fSlow)]

theorem libSpec_ok [Fc] : SpecLOK Tryz.prog libSpec := by
  refine .cons (fun _ _ => atLoad_sound Tryz.func56 (by kernel_rfl) (by kernel_rfl) (by kernel_rfl) _ (by kernel_rfl)) ?_
  refine .cons (fun _ _ => atLoad_sound Tryz.func102 (by kernel_rfl) (by kernel_rfl) (by kernel_rfl) _ (by kernel_rfl)) ?_
  refine .cons (fun _ _ => atLoad_sound Tryz.func275 (by kernel_rfl) (by kernel_rfl) (by kernel_rfl) _ (by kernel_rfl)) ?_
  refine .cons (fun _ _ => atStore_sound Tryz.func193 (by kernel_rfl) (by kernel_rfl) (by kernel_rfl) (by kernel_rfl)) ?_
  refine .cons (fun _ _ => atStore_sound Tryz.func101 (by kernel_rfl) (by kernel_rfl) (by kernel_rfl) (by kernel_rfl)) ?_
  refine .cons (fun _ _ => atStore_sound Tryz.func323 (by kernel_rfl) (by kernel_rfl) (by kernel_rfl) (by kernel_rfl)) ?_
  refine .cons (fun _ _ => atAdd_sound Tryz.func57 (by kernel_rfl) (by kernel_rfl) (by kernel_rfl) _ (by kernel_rfl)) ?_
  refine .cons (fun C _ => fIndexByte_sound C) ?_
  refine .cons (fun C _ => fCut_sound C) ?_
  refine .cons (fun C _ => fIndex_sound C) ?_
  refine .cons (fun C _ => fHasPrefix_sound C) ?_
  refine .cons (fun C _ => fTrimPrefix_sound C) ?_
  refine .cons (fun C _ => fIndexAny_sound C) ?_
  refine .cons (fun C _ => fContainsAny_sound C) ?_
  refine .cons (fun C _ => fItoa_sound C) ?_
  refine .cons (fun C _ => fSplit_sound C) ?_
  refine .cons (fun C _ => fJoin_sound C) ?_
  exact .cons (fun C hC => fSlow_sound hC) .nil

end Go.Lk
