import Derived.Test.YtpognhdhlbgliaaGreatDoorLkOnce
namespace Go.Lk
open Go.Proofs Go.RowKit
set_option maxRecDepth 100000 in
set_option maxHeartbeats 1600000 in
theorem slow_walk (b off : Nat) (g : FuncId) (fs cap : Array Value) (w : World) (R : World → Prop)
    (h0 : w.cell? ⟨b, off, none⟩ = some (.int .u32 0)) (h1 : w.cell? ⟨b, off + 1, none⟩ = some (.int .i32 0)) 
    (f1 : w.frozen? ⟨b, off + 1, none⟩ = false) 
    (hg : CallTo Tryz.prog (callFunc g (fs ++ cap)) (w.setCell ⟨b, off + 1, none⟩ (.int .i32 1)) fun _ w2 =>
      (∃ x, w2.cell? ⟨b, off, none⟩ = some x) ∧ w2.frozen? ⟨b, off, none⟩ = false ∧ w2.cell? ⟨b, off + 1, none⟩ = some (.int .i32 1) ∧ w2.frozen? ⟨b, off + 1, none⟩ = false ∧
      R ((w2.drew.setCell ⟨b, off, none⟩ (.int .u32 1)).setCell ⟨b, off + 1, none⟩ (.int .i32 0))) :
    Calls Tryz.prog 204 #[.pointer (some ⟨b, off, none⟩), .func (.func g) fs cap] w fun e w' => e = .returned (.tuple #[]) ∧ R w' := by
  have hl := run_call_load (P := Tryz.prog) Tryz.func275 (by kernel_rfl) (by kernel_rfl) (by kernel_rfl) .u32 (by kernel_rfl) (w := w.setCell ⟨b, off + 1, none⟩ (.int .i32 1)) (a := ⟨b, off, none⟩) (x := 0) ((World.cell?_setCell_other _ ⟨b, off + 1, none⟩ _ _ (by simp)).trans h0)
  have hnot : ∀ (x : Bool) (w : World), (Op.unary .not (.bool x)).run Tryz.prog w = .ok (.bool (!x)) w := fun _ _ => rfl
  go_enter_defers Tryz.func204, Tryz.ntmps204
  go_wp2_with (go_at_call 276; refine (lock_free ⟨b, off + 1, none⟩ _ (by go_simp) (by go_simp)).mono ?_; rintro e w' ⟨rfl, rfl⟩)
  go_wp2
  have tail : ∀ (v' : Value) (w2 : World), ((∃ x, w2.cell? ⟨b, off, none⟩ = some x) ∧ w2.frozen? ⟨b, off, none⟩ = false ∧ w2.cell? ⟨b, off + 1, none⟩ = some (.int .i32 1) ∧ w2.frozen? ⟨b, off + 1, none⟩ = false ∧
      R ((w2.drew.setCell ⟨b, off, none⟩ (.int .u32 1)).setCell ⟨b, off + 1, none⟩ (.int .i32 0))) → ∀ tmps : Array Value,
      Leaves Tryz.prog Tryz.f204 tmps (fun e w' => e = .returned (.tuple #[]) ∧ R w') [{ target := .fn (.func 278) #[], args := #[.pointer (some ⟨b, off, none⟩), .bool true] }, { target := .fn (.func 277) #[], args := #[.pointer (some ⟨b, off + 1, none⟩)] }] .returning w2 := by
    rintro v' w2 ⟨⟨x, hx⟩, z0, hc1, z1, hR⟩ tmps
    refine leaves_cons (f := 278) (args := #[.pointer (some ⟨b, off, none⟩), .bool true]) (by simp) (by simp [go_sem]) ?_
    refine (store_deferred ⟨b, off, none⟩ x .returning _ hx z0).mono ?_
    rintro e u' w'' ⟨rfl, rfl, rfl⟩
    refine leaves_cons (f := 277) (args := #[.pointer (some ⟨b, off + 1, none⟩)]) (by simp [settle]) (by simp [go_sem]) ?_
    refine (unlock_deferred ⟨b, off + 1, none⟩ _ _ ?_ (by simp [z1])).mono ?_
    · refine (World.cell?_setCell_other _ ⟨b, off, none⟩ ⟨b, off + 1, none⟩ _ (by simp)).trans ?_
      rw [World.cell?_drew]; exact hc1
    rintro e u' w'' ⟨rfl, rfl, rfl⟩
    simp [Leaves, settle, results, Tryz.results204, hR]
  rcases hg with ⟨v', w2, hrun, hfacts⟩ | ⟨f, args, hrun, hc⟩
  · rw [hrun, Oper.upon_value]
    go_wp2
    exact tail v' w2 hfacts _
  · rw [hrun]
    go_wp2
    refine hc.mono ?_
    rintro e w2 ⟨v', rfl, hfacts⟩
    go_wp2
    exact tail v' w2 hfacts _

def whenI (k : IntKind) (n : Int) (v : Value) (m : M Value) : M Value := match v with
  | .int k' x => if k' = k ∧ x = n then m else M.fail
  | _ => M.fail

theorem whenI_some {k : IntKind} {n : Int} {v : Value} {m : M Value} {H : Hp} {X : Value × Hp} (h : whenI k n v m H = some X) : v = .int k n ∧ m H = some X := by
  cases v <;> try (simp [whenI, M.fail] at h; done)
  rename_i k' x
  by_cases e : k' = k ∧ x = n
  · simp only [whenI, if_pos e] at h
    exact ⟨by rw [e.1, e.2], h⟩
  · simp [whenI, if_neg e, M.fail] at h

def fSlow (C : Calc) (args : List Value) : M Value := match args with
  | [.pointer (some ⟨b, o, none⟩), .func (.func g) fs cap] =>
    M.bind (M.look (ld1 (.pointer (some ⟨b, o, none⟩)))) fun d => whenI .u32 0 d <|
    M.bind (M.look (ld1 (.pointer (some ⟨b, o + 1, none⟩)))) fun l => whenI .i32 0 l <|
    M.bind (stN 1 (.pointer (some ⟨b, o + 1, none⟩)) (.int .i32 1)) fun _ =>
    M.bind (C g (fs.toList ++ cap.toList)) fun _ =>
    M.bind (stN 1 (.pointer (some ⟨b, o, none⟩)) (.int .u32 1)) fun _ =>
    M.bind (M.look (ld1 (.pointer (some ⟨b, o + 1, none⟩)))) fun l => whenI .i32 1 l <|
    M.bind (stN 1 (.pointer (some ⟨b, o + 1, none⟩)) (.int .i32 0)) fun _ => M.ret undefV
  | _ => M.fail

theorem fSlow_sound [Fc] {C : Calc} (hC : CSound Tryz.prog C) : FSound Tryz.prog 204 (fSlow C) := by
  refine MSound.fsound (fun ι H w args args' hr hl v H' h => ?_) _ Tryz.func204 (by kernel_rfl) (by kernel_rfl)
  unfold fSlow at h
  split at h
  · rename_i b o g fs cap
    obtain ⟨p', f', rfl, hp, hf⟩ := hl.inv2
    cases hp with
    | ptr _ _ q hq hm =>
    cases hf with
    | func _ _ fs' _ cap' s1 s2 s3 s4 =>
    have hD : VRel Tryz.prog ι (.pointer (some ⟨b, o, none⟩)) (.pointer (some ⟨q.blk, q.sh + o, none⟩)) := .ptr b o q hq hm
    have hL : VRel Tryz.prog ι (.pointer (some ⟨b, o + 1, none⟩)) (.pointer (some ⟨q.blk, q.sh + o + 1, none⟩)) := .ptr b (o + 1) q hq hm
    obtain ⟨d, H1, e1', g1⟩ := M.bind_some h
    obtain ⟨e1, x1⟩ := M.look_some e1'
    subst x1
    obtain ⟨x2, g2⟩ := whenI_some g1
    subst x2
    obtain ⟨l, H2, e2', g3⟩ := M.bind_some g2
    obtain ⟨e2, x3⟩ := M.look_some e2'
    subst x3
    obtain ⟨x4, g4⟩ := whenI_some g3
    subst x4
    obtain ⟨_, H3, e3, g5⟩ := M.bind_some g4
    obtain ⟨r, H4, e4, g6⟩ := M.bind_some g5
    obtain ⟨_, H5, e5, g7⟩ := M.bind_some g6
    obtain ⟨l2, H6, e6', g8⟩ := M.bind_some g7
    obtain ⟨e6, x5⟩ := M.look_some e6'
    subst x5
    obtain ⟨x6, g9⟩ := whenI_some g8
    subst x6
    obtain ⟨_, H7, e7, g10⟩ := M.bind_some g9
    simp only [M.ret, Option.some.injEq, Prod.mk.injEq] at g10
    obtain ⟨x7, x8⟩ := g10
    subst x7; subst x8
    obtain ⟨aD, vD, eD, cD, rD⟩ := ld1_cell hr hD e1
    cases eD; cases rD
    obtain ⟨aL, vL, eL, cL, rL⟩ := ld1_cell hr hL e2
    cases eL; cases rL
    obtain ⟨_, aL', uL, eL', cL', zL, st1⟩ := stN1_cell hr hL (.int _ _) rfl rfl rfl rfl e3
    cases eL'
    have hargs : LRel Tryz.prog ι (fs.toList ++ cap.toList) (fs' ++ cap').toList := by
      rw [Array.toList_append]; exact (LRel.arr s1 s2).append (LRel.arr s3 s4)
    have hcall := hC g ι H3 _ _ _ st1.rel hargs _ _ e4
    refine (slow_walk q.blk (q.sh + o) g fs' cap' w (fun w' => ∃ ι', Stp Tryz.prog ι ι' H2 H7 w w') cD cL zL (hcall.mono fun v' w2 ⟨ι2, hv, st2⟩ => ?_)).mono fun e w' ⟨he, ι', hst⟩ => ⟨_, he, ι', undef_rel, hst⟩
    have st3 : Stp Tryz.prog ι2 ι2 H4 H4 w2 w2.drew := stp_below st2.rel ⟨rfl, rfl, rfl, Nat.le_refl _, fun _ _ => rfl⟩
    have hD2 := hD.mono st2.ext
    have hL2 := hL.mono st2.ext
    obtain ⟨_, a5, u5, q5, c5, z5, st5⟩ := stN1_cell st3.rel hD2 (.int _ _) rfl rfl rfl rfl e5
    cases q5
    obtain ⟨a6, v6, q6, c6, r6⟩ := ld1_cell st5.rel hL2 e6
    cases q6; cases r6
    obtain ⟨_, a7, u7, q7, c7, z7, st7⟩ := stN1_cell st5.rel hL2 (.int _ _) rfl rfl rfl rfl e7
    cases q7
    refine ⟨⟨u5, by simpa using c5⟩, by simpa using z5, ?_, by simpa using z7, ι2, (((st1.trans st2).trans st3).trans st5).trans st7⟩
    have := (World.cell?_setCell_other w2.drew ⟨q.blk, q.sh + o, none⟩ ⟨q.blk, q.sh + o + 1, none⟩ (.int .u32 1) (by simp)).symm.trans c6
    simpa using this
  · simp [M.fail] at h

end Go.Lk
