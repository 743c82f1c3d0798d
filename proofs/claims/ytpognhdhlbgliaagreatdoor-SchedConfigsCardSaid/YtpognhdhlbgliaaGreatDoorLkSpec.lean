/- The library's functions at this dump, as abstract functions. -/
import Derived.Test.YtpognhdhlbgliaaGreatDoorLkMemo
import Derived.Test.YtpognhdhlbgliaaGreatDoorShelf
import Derived.Below
import Derived.Lib.Split
namespace Go.Lk
open Go.Proofs Go.RowKit

/-- Of the package-level variables one is read: internal/bytealg.MaxLen, some number. -/
instance glMax [Fc] : Gl := glOf Fc.F Fc.b Fc.ok (fun g => g = 0) (fun _ o => ∃ m c t fr, o = .cells c t fr ∧ c[0]? = some (.int .i64 m))

section
variable {P : Program}

theorem max_of [Fc] {ι : Emb} {H : Hp} {w : World} (hr : HRel P ι H w) : ∃ m, w.cell? ⟨0, 0, none⟩ = some (.int .i64 m) := by
  obtain ⟨⟨o, ho, m, c, t, fr, rfl, hc⟩, _⟩ := hr.gl 0 rfl
  exact ⟨m, by simp [World.cell?, ho, hc]⟩

theorem stp_below [Fc] {ι : Emb} {H : Hp} {w w' : World} (hr : HRel P ι H w) (h : Below w.heap.size w w') : Stp P ι ι H H w w' := by
  refine ⟨⟨hr.dom, fun b p hb => (hr.fact b p hb).of_same (h.block _ (hr.fact b p hb).lt), fun b x hb => ?_, hr.inj, hr.gl.of_same (fun b p hb => .inl ⟨b, p, hb, rfl⟩) fun g hd => h.block g (hr.gl.lt hd)⟩,
    Ext.refl _, fun _ _ => rfl, Nat.le_refl _, h.os, h.tape, h.output, h.size, fun n hn _ => h.block n hn, fun n hn => .inr hn, fun _ _ _ => Iff.rfl⟩
  obtain ⟨p, hp, hbr⟩ := hr.live b x hb
  exact ⟨p, hp, hbr.of_same (h.block _ (hr.fact b p hp).lt)⟩

theorem below_drewN {w : World} {B n : Nat} : Below B w (w.drewN n) := ⟨rfl, rfl, rfl, Nat.le_refl _, fun _ _ => rfl⟩

/-- A contract that leaves what lies below. -/
theorem msound_below [Fc] {f : FuncId} {m : List Value → M Value}
    (h : ∀ (ι : Emb) (H : Hp) (w : World) (args : List Value) (args' : Array Value), HRel P ι H w → LRel P ι args args'.toList → ∀ v H', m args H = some (v, H') →
      H' = H ∧ ∃ v', VRel P ι v v' ∧ Calls P f args' w fun e w' => e = .returned v' ∧ Below w.heap.size w w') : MSound P f m := by
  intro ι H w args args' hr hl v H' hm
  obtain ⟨rfl, v', hv, hc⟩ := h ι H w args args' hr hl v H' hm
  refine hc.mono fun e w' he => ?_
  obtain ⟨rfl, hb⟩ := he
  exact ⟨v', rfl, ι, hv, stp_below hr hb⟩
end

def okS (s : ByteArray) : Bool := Nat.blt s.size 4294967281
theorem okS_lt {s : ByteArray} (h : okS s = true) : s.size < 4294967281 := by
  unfold okS at h; exact Nat.le_of_ble_eq_true h

def str (l : List UInt8) : Value := .string ⟨l.toArray⟩

def fIndexByte (_ : Calc) (args : List Value) : M Value := match args with
  | [.string s, .int .u8 b] => M.ret (.int .i64 (Lib.indexByte s.data.toList b.toNat.toUInt8))
  | _ => M.fail
def fCut (_ : Calc) (args : List Value) : M Value := match args with
  | [.string s, .string u] => match okS s with
    | true => M.ret (.tuple #[str (Lib.cut s.data.toList u.data.toList).1, str (Lib.cut s.data.toList u.data.toList).2.1, .bool (Lib.cut s.data.toList u.data.toList).2.2])
    | false => M.fail
  | _ => M.fail
def fIndex (_ : Calc) (args : List Value) : M Value := match args with
  | [.string s, .string u] => match okS s with
    | true => M.ret (.int .i64 (Lib.index s.data.toList u.data.toList))
    | false => M.fail
  | _ => M.fail
def fHasPrefix (_ : Calc) (args : List Value) : M Value := match args with
  | [.string s, .string u] => M.ret (.bool (Lib.hasPrefix s.data.toList u.data.toList))
  | _ => M.fail
def fTrimPrefix (_ : Calc) (args : List Value) : M Value := match args with
  | [.string s, .string u] => M.ret (str (Lib.trimPrefix s.data.toList u.data.toList))
  | _ => M.fail
def ascii (s : ByteArray) : Bool := s.data.toList.all fun b => Nat.blt b.toNat 128
theorem ascii_at {s : ByteArray} (h : ascii s = true) : ∀ (j : Nat) b, s.data.toList[j]? = some b → b.toNat < 128 := by
  intro j b hb
  exact Nat.le_of_ble_eq_true (List.all_eq_true.1 h b (List.mem_of_getElem? hb))
def fIndexAny (_ : Calc) (args : List Value) : M Value := match args with
  | [.string s, .string u] => match okS s && okS u && ascii s && ascii u with
    | true => M.ret (.int .i64 (Lib.indexAny s.data.toList u.data.toList))
    | false => M.fail
  | _ => M.fail
def fContainsAny (_ : Calc) (args : List Value) : M Value := match args with
  | [.string s, .string u] => match okS s && okS u && ascii s && ascii u with
    | true => M.ret (.bool (Lib.containsAny s.data.toList u.data.toList))
    | false => M.fail
  | _ => M.fail
def digs (n : Nat) : List UInt8 := match Nat.blt n 10 with
  | true => [UInt8.ofNat (48 + n)]
  | false => [UInt8.ofNat (48 + n / 10), UInt8.ofNat (48 + n % 10)]
def fItoa (_ : Calc) (args : List Value) : M Value := match args with
  | [.int .i64 (.ofNat n)] => match Nat.blt n 100 with
    | true => M.ret (str (digs n))
    | false => M.fail
  | _ => M.fail
def strsOf : List Value → Option (List ByteArray)
  | [] => some []
  | .string s :: l => match strsOf l with
    | some r => some (s :: r)
    | none => none
  | _ => none
def fJoin (_ : Calc) (args : List Value) : M Value := match args with
  | [.slice none _ _, .string _] => M.ret (str [])
  | [.slice (some a) n _, .string sep] => M.bind (M.look fun H => H.cells a n) fun l => match strsOf l with
    | some l => match Nat.ble (Lib.join (l.map (·.data.toList)) sep.data.toList).length 140737488355328 && Nat.ble l.length 140737488355328 with
      | true => M.ret (str (Lib.join (l.map (·.data.toList)) sep.data.toList))
      | false => M.fail
    | none => M.fail
  | _ => M.fail
def fSplit (_ : Calc) (args : List Value) : M Value := match args with
  | [.string s, .string sep] => match okS s && Nat.ble 1 sep.size with
    | true => newB 9 ((Lib.split s.data.toList sep.data.toList).map str) fun b => .slice (some ⟨b, 0, none⟩) (Lib.count s.data.toList sep.data.toList + 1) (Lib.count s.data.toList sep.data.toList + 1)
    | false => M.fail
  | _ => M.fail

section
variable (C : Calc)

theorem fIndexByte_sound [Fc] : FSound Tryz.prog 256 (fIndexByte C) := by
  refine (msound_pure fun ι H w args args' hr hl v H' h => ?_).fsound _ Tryz.func256 (by kernel_rfl) (by kernel_rfl)
  unfold fIndexByte at h
  split at h
  · rename_i s b
    obtain ⟨x, y, rfl, hx, hy⟩ := hl.inv2
    cases hx; cases hy
    simp only [M.ret, Option.some.injEq, Prod.mk.injEq] at h
    obtain ⟨rfl, rfl⟩ := h
    exact ⟨rfl, _, .int _ _, Tryz.strings_IndexByte s b w⟩
  · simp [M.fail] at h

theorem fCut_sound [Fc] : FSound Tryz.prog 171 (fCut C) := by
  refine (msound_below fun ι H w args args' hr hl v H' h => ?_).fsound _ Tryz.func171 (by kernel_rfl) (by kernel_rfl)
  unfold fCut at h
  split at h
  · rename_i s b
    cases ho : okS s with
    | false => simp [ho, M.fail] at h
    | true =>
      simp only [ho, M.ret, Option.some.injEq, Prod.mk.injEq] at h
      obtain ⟨x, y, rfl, hx, hy⟩ := hl.inv2
      cases hx; cases hy
      obtain ⟨rfl, rfl⟩ := h
      obtain ⟨m, hm⟩ := max_of hr
      exact ⟨rfl, _, VRel.noAddr_self (by rfl), (Tryz.strings_Cut s b m w (okS_lt ho) hm).mono fun e w' ⟨h1, n, h2⟩ => ⟨h1, h2 ▸ below_drewN⟩⟩
  · simp [M.fail] at h

theorem fIndex_sound [Fc] : FSound Tryz.prog 304 (fIndex C) := by
  refine (msound_pure fun ι H w args args' hr hl v H' h => ?_).fsound _ Tryz.func304 (by kernel_rfl) (by kernel_rfl)
  unfold fIndex at h
  split at h
  · rename_i s b
    cases ho : okS s with
    | false => simp [ho, M.fail] at h
    | true =>
      simp only [ho, M.ret, Option.some.injEq, Prod.mk.injEq] at h
      obtain ⟨x, y, rfl, hx, hy⟩ := hl.inv2
      cases hx; cases hy
      obtain ⟨rfl, rfl⟩ := h
      obtain ⟨m, hm⟩ := max_of hr
      exact ⟨rfl, _, .int _ _, Tryz.stringslite_Index s b m w (okS_lt ho) hm⟩
  · simp [M.fail] at h

theorem fHasPrefix_sound [Fc] : FSound Tryz.prog 269 (fHasPrefix C) := by
  refine (msound_pure fun ι H w args args' hr hl v H' h => ?_).fsound _ Tryz.func269 (by kernel_rfl) (by kernel_rfl)
  unfold fHasPrefix at h
  split at h
  · rename_i s b
    obtain ⟨x, y, rfl, hx, hy⟩ := hl.inv2
    cases hx; cases hy
    simp only [M.ret, Option.some.injEq, Prod.mk.injEq] at h
    obtain ⟨rfl, rfl⟩ := h
    exact ⟨rfl, _, .bool _, Tryz.strings_HasPrefix s b w⟩
  · simp [M.fail] at h

theorem fTrimPrefix_sound [Fc] : FSound Tryz.prog 258 (fTrimPrefix C) := by
  refine (msound_pure fun ι H w args args' hr hl v H' h => ?_).fsound _ Tryz.func258 (by kernel_rfl) (by kernel_rfl)
  unfold fTrimPrefix at h
  split at h
  · rename_i s b
    obtain ⟨x, y, rfl, hx, hy⟩ := hl.inv2
    cases hx; cases hy
    simp only [M.ret, Option.some.injEq, Prod.mk.injEq] at h
    obtain ⟨rfl, rfl⟩ := h
    exact ⟨rfl, _, .string _, Tryz.strings_TrimPrefix s b w⟩
  · simp [M.fail] at h

theorem fIndexAny_sound [Fc] : FSound Tryz.prog 172 (fIndexAny C) := by
  refine (msound_below fun ι H w args args' hr hl v H' h => ?_).fsound _ Tryz.func172 (by kernel_rfl) (by kernel_rfl)
  unfold fIndexAny at h
  split at h
  · rename_i s b
    cases ho : (okS s && okS b && ascii s && ascii b) with
    | false => simp [ho, M.fail] at h
    | true =>
      simp only [ho, M.ret, Option.some.injEq, Prod.mk.injEq] at h
      simp only [Bool.and_eq_true] at ho
      obtain ⟨x, y, rfl, hx, hy⟩ := hl.inv2
      cases hx; cases hy
      obtain ⟨rfl, rfl⟩ := h
      exact ⟨rfl, _, .int _ _, Tryz.strings_IndexAny_laid s b w (okS_lt ho.1.1.1) (okS_lt ho.1.1.2) (ascii_at ho.1.2) (ascii_at ho.2)⟩
  · simp [M.fail] at h

theorem fContainsAny_sound [Fc] : FSound Tryz.prog 232 (fContainsAny C) := by
  refine (msound_below fun ι H w args args' hr hl v H' h => ?_).fsound _ Tryz.func232 (by kernel_rfl) (by kernel_rfl)
  unfold fContainsAny at h
  split at h
  · rename_i s b
    cases ho : (okS s && okS b && ascii s && ascii b) with
    | false => simp [ho, M.fail] at h
    | true =>
      simp only [ho, M.ret, Option.some.injEq, Prod.mk.injEq] at h
      simp only [Bool.and_eq_true] at ho
      obtain ⟨x, y, rfl, hx, hy⟩ := hl.inv2
      cases hx; cases hy
      obtain ⟨rfl, rfl⟩ := h
      exact ⟨rfl, _, .bool _, Tryz.strings_ContainsAny_laid s b w (okS_lt ho.1.1.1) (okS_lt ho.1.1.2) (ascii_at ho.1.2) (ascii_at ho.2)⟩
  · simp [M.fail] at h

theorem digs_eq {n : Nat} (h : n < 100) : Lib.decDigits n = digs n := by
  unfold digs
  by_cases h1 : n < 10
  · have : Nat.blt n 10 = true := Nat.ble_eq_true_of_le h1
    rw [this, Lib.decDigits, dif_pos h1]
  · have : Nat.blt n 10 = false := by
      cases hb : Nat.blt n 10 with
      | false => rfl
      | true => exact absurd (Nat.le_of_ble_eq_true hb) h1
    rw [this, Lib.decDigits, dif_neg h1, Lib.decDigits, dif_pos (by omega)]
    rfl

theorem fItoa_sound [Fc] : FSound Tryz.prog 184 (fItoa C) := by
  refine (msound_pure fun ι H w args args' hr hl v H' h => ?_).fsound _ Tryz.func184 (by kernel_rfl) (by kernel_rfl)
  unfold fItoa at h
  split at h
  · rename_i n
    cases ho : Nat.blt n 100 with
    | false => simp [ho, M.fail] at h
    | true =>
      simp only [ho, M.ret, Option.some.injEq, Prod.mk.injEq] at h
      obtain ⟨x, rfl, hx⟩ := hl.inv1
      cases hx
      obtain ⟨rfl, rfl⟩ := h
      have hn : n < 100 := Nat.le_of_ble_eq_true ho
      refine ⟨rfl, _, .string _, ?_⟩
      have := Tryz.strconv_Itoa_small n hn w
      rw [digs_eq hn] at this
      exact this
  · simp [M.fail] at h

end

end Go.Lk
