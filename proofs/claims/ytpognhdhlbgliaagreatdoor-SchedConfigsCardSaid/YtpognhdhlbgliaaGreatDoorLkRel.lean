/- How an abstract heap stands to the model's world. -/
import Derived.Test.YtpognhdhlbgliaaGreatDoorLkDen
namespace Go.Lk

/-- Where an abstract block lies: the block, the cell where it begins, how many cells the block has, of what elements; may it be a text's bytes? -/
structure Pl where
  blk : Nat
  sh : Nat
  csz : Nat
  elem : TypeId
  isMap : Bool := false

abbrev Emb := Nat → Option Pl

def esz (P : Program) (t : TypeId) : Nat := P.cellsOf t

/-- What number a token stands for. -/
class Tv extends Tk where
  val : Nat → Nat → Int

/-- A value with the numbers for its tokens. -/
def conc [Tv] : Value → Value
  | .complex _ i c => .int (Tk.kd i) (Tv.val i c)
  | v => v

/-- .. of a value of more cells too. -/
def concA [Tv] : Value → Value
  | .agg c => .agg ⟨c.toList.map conc⟩
  | v => conc v

def mmI (b : Bool) (m n : Int) : Int := match b with
  | true => if m < n then n else m
  | false => if n < m then n else m

def scalT (v : Value) : Bool := scal v || isTok v

def noAT : Value → Bool
  | .agg c => c.toList.all scalT
  | v => scalT v

inductive VRel [Tv] (P : Program) (ι : Emb) : Value → Value → Prop where
  | bool (b : Bool) : VRel P ι (.bool b) (.bool b)
  | int (k : IntKind) (n : Int) : VRel P ι (.int k n) (.int k n)
  | float (k : FloatKind) (n : Nat) : VRel P ι (.float k n) (.float k n)
  | tok (k : FloatKind) (i c : Nat) : VRel P ι (.complex k i c) (.int (Tk.kd i) (Tv.val i c))
  | string (s : ByteArray) : VRel P ι (.string s) (.string s)
  | nilPtr : VRel P ι (.pointer none) (.pointer none)
  | ptr (b o : Nat) (p : Pl) : ι b = some p → p.isMap = false → VRel P ι (.pointer (some ⟨b, o, none⟩)) (.pointer (some ⟨p.blk, p.sh + o, none⟩))
  | nilSlice : VRel P ι (.slice none 0 0) (.slice none 0 0)
  | slice (b o o' len cap cap' : Nat) (p : Pl) : ι b = some p → p.isMap = false → (len = 0 ∧ cap = 0 ∨ o' = p.sh + o) → len ≤ cap → cap ≤ cap' → o' + cap' * esz P p.elem ≤ p.csz →
      VRel P ι (.slice (some ⟨b, o, none⟩) len cap) (.slice (some ⟨p.blk, o', none⟩) len cap')
  | nilMap : VRel P ι (.map none) (.map none)
  | map (r : Nat) (p : Pl) : ι r = some p → p.isMap = true → VRel P ι (.map (some r)) (.map (some p.blk))
  | func (f : FuncId) (a a' c c' : Array Value) : a.size = a'.size → (∀ (i : Nat) (v v' : Value), a[i]? = some v → a'[i]? = some v' → VRel P ι v v') →
      c.size = c'.size → (∀ (i : Nat) (v v' : Value), c[i]? = some v → c'[i]? = some v' → VRel P ι v v') → VRel P ι (.func (.func f) a c) (.func (.func f) a' c')
  | nilFunc : VRel P ι .nilFunc .nilFunc
  | nilIface : VRel P ι .nilIface .nilIface
  | agg (a a' : Array Value) : a.size = a'.size → (∀ (i : Nat) (v v' : Value), a[i]? = some v → a'[i]? = some v' → VRel P ι v v') → VRel P ι (.agg a) (.agg a')
  | tuple (a a' : Array Value) : a.size = a'.size → (∀ (i : Nat) (v v' : Value), a[i]? = some v → a'[i]? = some v' → VRel P ι v v') → VRel P ι (.tuple a) (.tuple a')

def Ext (ι ι' : Emb) : Prop := ∀ b p, ι b = some p → ι' b = some p

theorem Ext.refl (ι : Emb) : Ext ι ι := fun _ _ h => h
theorem Ext.trans {a b c : Emb} (h : Ext a b) (k : Ext b c) : Ext a c := fun _ _ e => k _ _ (h _ _ e)

theorem VRel.mono [Tv] {P : Program} {ι ι' : Emb} (he : Ext ι ι') {v v' : Value} (h : VRel P ι v v') : VRel P ι' v v' := by
  induction h with
  | bool b => exact .bool b
  | int k n => exact .int k n
  | float k n => exact .float k n
  | tok k i c => exact .tok k i c
  | string s => exact .string s
  | nilPtr => exact .nilPtr
  | ptr b o p h hm => exact .ptr b o p (he _ _ h) hm
  | nilSlice => exact .nilSlice
  | slice b o o' len cap cap' p h hm h0 h1 h2 h3 => exact .slice b o o' len cap cap' p (he _ _ h) hm h0 h1 h2 h3
  | nilMap => exact .nilMap
  | map r p h hm => exact .map r p (he _ _ h) hm
  | func f a a' c c' hs _ hc _ ih1 ih2 => exact .func f a a' c c' hs (fun i v v' h h' => ih1 i v v' h h') hc (fun i v v' h h' => ih2 i v v' h h')
  | nilFunc => exact .nilFunc
  | nilIface => exact .nilIface
  | agg a a' hs _ ih => exact .agg a a' hs (fun i v v' h h' => ih i v v' h h')
  | tuple a a' hs _ ih => exact .tuple a a' hs (fun i v v' h h' => ih i v v' h h')

/-- Rows of values, element by element. -/
def LRel [Tv] (P : Program) (ι : Emb) (l l' : List Value) : Prop := l.length = l'.length ∧ ∀ (i : Nat) (v v' : Value), l[i]? = some v → l'[i]? = some v' → VRel P ι v v'

theorem LRel.mono [Tv] {P : Program} {ι ι' : Emb} (he : Ext ι ι') {l l' : List Value} (h : LRel P ι l l') : LRel P ι' l l' :=
  ⟨h.1, fun i v v' a b => (h.2 i v v' a b).mono he⟩

theorem LRel.nil [Tv] {P : Program} {ι : Emb} : LRel P ι [] [] := ⟨rfl, fun i v v' h => by simp at h⟩

theorem LRel.cons [Tv] {P : Program} {ι : Emb} {v v' : Value} {l l' : List Value} (h : VRel P ι v v') (hl : LRel P ι l l') : LRel P ι (v :: l) (v' :: l') := by
  refine ⟨by simp [hl.1], fun i u u' a b => ?_⟩
  cases i with
  | zero => simp at a b; subst a; subst b; exact h
  | succ i => exact hl.2 i u u' (by simpa using a) (by simpa using b)

theorem LRel.head [Tv] {P : Program} {ι : Emb} {v v' : Value} {l l' : List Value} (h : LRel P ι (v :: l) (v' :: l')) : VRel P ι v v' := h.2 0 v v' rfl rfl
theorem LRel.tail [Tv] {P : Program} {ι : Emb} {v v' : Value} {l l' : List Value} (h : LRel P ι (v :: l) (v' :: l')) : LRel P ι l l' :=
  ⟨by simpa using h.1, fun i u u' a b => h.2 (i + 1) u u' (by simpa using a) (by simpa using b)⟩

theorem LRel.inv [Tv] {P : Program} {ι : Emb} {v : Value} {l m : List Value} (h : LRel P ι (v :: l) m) : ∃ v' l', m = v' :: l' ∧ VRel P ι v v' ∧ LRel P ι l l' := by
  cases m with
  | nil => have := h.1; simp at this
  | cons v' l' => exact ⟨v', l', rfl, h.head, h.tail⟩
theorem LRel.inv_nil [Tv] {P : Program} {ι : Emb} {m : List Value} (h : LRel P ι [] m) : m = [] := by
  cases m with
  | nil => rfl
  | cons v' l' => have := h.1; simp at this

theorem LRel.get [Tv] {P : Program} {ι : Emb} {l l' : List Value} (h : LRel P ι l l') {i : Nat} {v : Value} (hv : l[i]? = some v) : ∃ v', l'[i]? = some v' ∧ VRel P ι v v' := by
  have hi : i < l.length := by
    rcases Nat.lt_or_ge i l.length with h | h
    · exact h
    · simp [List.getElem?_eq_none h] at hv
  have hi' : i < l'.length := by rw [← h.1]; exact hi
  exact ⟨l'[i], by simp [hi'], h.2 i v _ hv (by simp [hi'])⟩

theorem LRel.append [Tv] {P : Program} {ι : Emb} {a a' b b' : List Value} (h : LRel P ι a a') (k : LRel P ι b b') : LRel P ι (a ++ b) (a' ++ b') := by
  refine ⟨by simp [h.1, k.1], fun i v v' hv hv' => ?_⟩
  by_cases hi : i < a.length
  · rw [List.getElem?_append_left hi] at hv
    rw [List.getElem?_append_left (by rw [← h.1]; exact hi)] at hv'
    exact h.2 i v v' hv hv'
  · rw [List.getElem?_append_right (by omega)] at hv
    rw [List.getElem?_append_right (by rw [← h.1]; omega), ← h.1] at hv'
    exact k.2 _ v v' hv hv'

theorem LRel.take [Tv] {P : Program} {ι : Emb} {a a' : List Value} (h : LRel P ι a a') (n : Nat) : LRel P ι (a.take n) (a'.take n) := by
  refine ⟨by simp [h.1], fun i v v' hv hv' => ?_⟩
  rw [List.getElem?_take] at hv hv'
  split at hv
  · rename_i hi; rw [if_pos hi] at hv'; exact h.2 i v v' hv hv'
  · simp at hv

theorem LRel.drop [Tv] {P : Program} {ι : Emb} {a a' : List Value} (h : LRel P ι a a') (n : Nat) : LRel P ι (a.drop n) (a'.drop n) := by
  refine ⟨by simp [h.1], fun i v v' hv hv' => ?_⟩
  rw [List.getElem?_drop] at hv hv'
  exact h.2 _ v v' hv hv'

/-- A value without an address is related to itself alone. -/
theorem VRel.of_scal [Tv] {P : Program} {ι : Emb} {v v' : Value} (h : VRel P ι v v') (hs : scal v = true) : v' = v := by
  cases h <;> first | rfl | (simp [scal] at hs)

theorem VRel.scal_self [Tv] {P : Program} {ι : Emb} {v : Value} (hs : scal v = true) : VRel P ι v v := by
  cases v with
  | bool b => exact .bool b
  | int k n => exact .int k n
  | float k n => exact .float k n
  | string s => exact .string s
  | pointer a => cases a with
    | none => exact .nilPtr
    | some a => simp [scal] at hs
  | slice a l c => cases a with
    | none =>
      simp [scal] at hs
      obtain ⟨h1, h2⟩ := hs
      subst h1; subst h2; exact .nilSlice
    | some a => simp [scal] at hs
  | map a => cases a with
    | none => exact .nilMap
    | some a => simp [scal] at hs
  | nilFunc => exact .nilFunc
  | nilIface => exact .nilIface
  | _ => simp [scal] at hs

theorem LRel.of_scal [Tv] {P : Program} {ι : Emb} {l l' : List Value} (h : LRel P ι l l') (hs : l.all scal = true) : l' = l := by
  apply List.ext_getElem?
  intro i
  cases hv : l[i]? with
  | none =>
    have : l.length ≤ i := by simpa using hv
    simp; rw [← h.1]; exact this
  | some v =>
    obtain ⟨v', hv', hr⟩ := h.get hv
    rw [hv', hr.of_scal (List.all_eq_true.1 hs v (List.mem_of_getElem? hv))]

theorem LRel.scal_self [Tv] {P : Program} {ι : Emb} {l : List Value} (hs : l.all scal = true) : LRel P ι l l :=
  ⟨rfl, fun i v v' a b => by rw [a] at b; cases b; exact VRel.scal_self (List.all_eq_true.1 hs v (List.mem_of_getElem? a))⟩

theorem LRel.arr [Tv] {P : Program} {ι : Emb} {a a' : Array Value} (hs : a.size = a'.size) (h : ∀ (i : Nat) (v v' : Value), a[i]? = some v → a'[i]? = some v' → VRel P ι v v') : LRel P ι a.toList a'.toList :=
  ⟨by simpa using hs, fun i v v' x y => h i v v' (by simpa using x) (by simpa using y)⟩

theorem LRel.toArr [Tv] {P : Program} {ι : Emb} {a a' : Array Value} (h : LRel P ι a.toList a'.toList) : a.size = a'.size ∧ ∀ (i : Nat) (v v' : Value), a[i]? = some v → a'[i]? = some v' → VRel P ι v v' :=
  ⟨by simpa using h.1, fun i v v' x y => h.2 i v v' (by simpa using x) (by simpa using y)⟩

theorem VRel.aggL [Tv] {P : Program} {ι : Emb} {l l' : List Value} (h : LRel P ι l l') : VRel P ι (.agg ⟨l⟩) (.agg ⟨l'⟩) :=
  .agg _ _ (by simpa using h.1) (fun i v v' x y => h.2 i v v' (by simpa using x) (by simpa using y))
theorem VRel.tupL [Tv] {P : Program} {ι : Emb} {l l' : List Value} (h : LRel P ι l l') : VRel P ι (.tuple ⟨l⟩) (.tuple ⟨l'⟩) :=
  .tuple _ _ (by simpa using h.1) (fun i v v' x y => h.2 i v v' (by simpa using x) (by simpa using y))

theorem VRel.agg_inv [Tv] {P : Program} {ι : Emb} {a : Array Value} {v' : Value} (h : VRel P ι (.agg a) v') : ∃ a' : Array Value, v' = .agg a' ∧ LRel P ι a.toList a'.toList := by
  cases h with
  | agg _ a' hs h => exact ⟨a', rfl, LRel.arr hs h⟩
theorem VRel.tup_inv [Tv] {P : Program} {ι : Emb} {a : Array Value} {v' : Value} (h : VRel P ι (.tuple a) v') : ∃ a' : Array Value, v' = .tuple a' ∧ LRel P ι a.toList a'.toList := by
  cases h with
  | tuple _ a' hs h => exact ⟨a', rfl, LRel.arr hs h⟩

theorem VRel.conc_eq [Tv] {P : Program} {ι : Emb} {v v' : Value} (h : VRel P ι v v') (hs : scalT v = true) : v' = conc v := by
  cases h <;> first | rfl | (simp [scalT, scal, isTok] at hs)

theorem VRel.conc_self [Tv] {P : Program} {ι : Emb} {v : Value} (hs : scalT v = true) : VRel P ι v (conc v) := by
  cases hv : isTok v with
  | true =>
    cases v <;> first | exact .tok _ _ _ | (simp [isTok] at hv)
  | false =>
    have hs : scal v = true := by simpa [scalT, hv] using hs
    have : conc v = v := by cases v <;> first | rfl | (simp [isTok] at hv)
    rw [this]; exact VRel.scal_self hs

theorem LRel.conc_eq [Tv] {P : Program} {ι : Emb} {l l' : List Value} (h : LRel P ι l l') (hs : l.all scalT = true) : l' = l.map conc := by
  apply List.ext_getElem?
  intro i
  cases hv : l[i]? with
  | none =>
    have : l.length ≤ i := by simpa using hv
    rw [List.getElem?_eq_none (by rw [← h.1]; exact this)]
    simp [hv]
  | some v =>
    obtain ⟨v', hv', hr⟩ := h.get hv
    rw [hv', hr.conc_eq (List.all_eq_true.1 hs v (List.mem_of_getElem? hv))]
    simp [hv]

theorem VRel.concA_eq [Tv] {P : Program} {ι : Emb} {v v' : Value} (h : VRel P ι v v') (hs : noAT v = true) : v' = concA v := by
  cases v with
  | agg a =>
    obtain ⟨a', rfl, hl⟩ := h.agg_inv
    have := hl.conc_eq (by simpa [noAT] using hs)
    simp only [concA]
    congr 1; exact Array.toList_inj.1 this
  | _ => exact h.conc_eq (by simpa [noAT] using hs)

theorem VRel.noAddr_eq [Tv] {P : Program} {ι : Emb} {v v' : Value} (h : VRel P ι v v') (hs : noAddr v = true) : v' = v := by
  cases v with
  | agg a =>
    obtain ⟨a', rfl, hl⟩ := h.agg_inv
    have := hl.of_scal (by simpa [noAddr] using hs)
    congr 1; exact Array.toList_inj.1 this
  | tuple a =>
    obtain ⟨a', rfl, hl⟩ := h.tup_inv
    have := hl.of_scal (by simpa [noAddr] using hs)
    congr 1; exact Array.toList_inj.1 this
  | _ => exact h.of_scal (by simpa [noAddr] using hs)

theorem VRel.noAddr_self [Tv] {P : Program} {ι : Emb} {v : Value} (hs : noAddr v = true) : VRel P ι v v := by
  cases v with
  | agg a => exact VRel.aggL (l := a.toList) (l' := a.toList) (LRel.scal_self (by simpa [noAddr] using hs))
  | tuple a => exact VRel.tupL (l := a.toList) (l' := a.toList) (LRel.scal_self (by simpa [noAddr] using hs))
  | _ => exact VRel.scal_self (by simpa [noAddr] using hs)

theorem VRel.cells [Tv] {P : Program} {ι : Emb} {v v' : Value} (h : VRel P ι v v') : LRel P ι v.cells.toList v'.cells.toList := by
  cases h with
  | agg a a' hs h => exact LRel.arr hs h
  | _ => exact LRel.cons (by first | exact .bool _ | exact .int _ _ | exact .float _ _ | exact .tok _ _ _ | exact .string _ | exact .nilPtr | (exact .ptr _ _ _ ‹_› ‹_›) | exact .nilSlice | exact .slice _ _ _ _ _ _ _ ‹_› ‹_› ‹_› ‹_› ‹_› ‹_› | exact .nilMap | exact .map _ _ ‹_› ‹_› | exact .func _ _ _ _ _ ‹_› ‹_› ‹_› ‹_› | exact .nilFunc | exact .nilIface | exact .tuple _ _ ‹_› ‹_›) LRel.nil

theorem VRel.oneC [Tv] {P : Program} {ι : Emb} {v v' : Value} (h : VRel P ι v v') : oneC v' = oneC v := by
  cases h <;> rfl

/-! ## The world -/

/-- What stays true of a placed block, whether it is alive or not. -/
def Pl.Fact (P : Program) (p : Pl) (w : World) : Prop := match p.isMap with
  | false => ∃ c lo hi, w.heap[p.blk]? = some (.cells c p.elem (lo, hi)) ∧ c.size = p.csz ∧ (∀ i, i < p.csz → ¬ (lo ≤ i ∧ i < hi)) ∧ (isU8 (P.underlying p.elem) = false → ∀ i, ¬ (lo ≤ i ∧ i < hi))
  | true => ∃ es n, w.heap[p.blk]? = some (.map es n)

/-- Entries of a map, in some order of the same keys. -/
def ERel [Tv] (P : Program) (ι : Emb) (l : List (Value × Value)) (es : Array MapEntry) : Prop :=
  LRel P ι (l.map (·.2)) (es.toList.map (·.val)) ∧ l.map (·.1) = es.toList.map (·.key) ∧ (l.map (·.1)).all scal = true

def BRel [Tv] (P : Program) (ι : Emb) (x : Blk) (p : Pl) (w : World) : Prop := match x with
  | .row _ e cs => p.isMap = false ∧ p.elem = e ∧ ∀ i v, cs[i]? = some v → ∃ v', w.cell? ⟨p.blk, p.sh + i, none⟩ = some v' ∧ VRel P ι v v'
  | .map l => p.isMap = true ∧ ∃ es n, w.heap[p.blk]? = some (.map es n) ∧ ERel P ι l es

/-- What the blocks of the package-level variables hold, as far as one wants to know it. -/
class Gl extends Tv where
  dom : Nat → Prop
  ok : Nat → Obj → Prop
  orc_ok : ∀ {P : Program} {op : BinOp} {t : TypeId} {x y r : Value}, Tk.orc P op t x y = some r → noAT x = true ∧ noAT y = true ∧ scalT r = true ∧ eqGuardP P op t (concA x) (concA y) = true ∧ ∀ w : World, (Go.binOp op t (concA x) (concA y)).run P w = .ok (conc r) w
  cvt_ok : ∀ {k : IntKind} {x r : Value}, Tk.cvt k x = some r → isTok x = true → scalT r = true ∧ ∀ j n, conc x = .int j n → conc r = .int k (k.wrap n)
  mm_ok : ∀ {b : Bool} {l : List Value} {r : Value}, Tk.mm b l = some r → scalT r = true ∧ ∃ x y, l = [x, y] ∧ scalT x = true ∧ scalT y = true ∧ ∃ k m n, conc x = .int k m ∧ conc y = .int k n ∧
    conc r = .int k (mmI b m n)

/-- They hold it, and nothing abstract lies there. -/
def GRel [Gl] (ι : Emb) (w : World) : Prop := ∀ g, Gl.dom g → (∃ o, w.heap[g]? = some o ∧ Gl.ok g o) ∧ ∀ b p, ι b = some p → p.blk ≠ g

theorem GRel.lt [Gl] {ι : Emb} {w : World} (h : GRel ι w) {g : Nat} (hg : Gl.dom g) : g < w.heap.size := by
  obtain ⟨⟨o, ho, _⟩, _⟩ := h g hg
  rcases Nat.lt_or_ge g w.heap.size with h | h
  · exact h
  · simp [Array.getElem?_eq_none h] at ho

theorem GRel.of_same [Gl] {ι ι' : Emb} {w w' : World} (h : GRel ι w) (hi : ∀ b p, ι' b = some p → (∃ c q, ι c = some q ∧ q.blk = p.blk) ∨ w.heap.size ≤ p.blk)
    (hw : ∀ g, Gl.dom g → w'.heap[g]? = w.heap[g]?) : GRel ι' w' := fun g hg => ⟨by rw [hw g hg]; exact (h g hg).1, fun b p hb e => by
  rcases hi b p hb with ⟨c, q, h1, h2⟩ | h1
  · exact (h g hg).2 c q h1 (h2.trans e)
  · have := h.lt hg; omega⟩

structure HRel [Gl] (P : Program) (ι : Emb) (H : Hp) (w : World) : Prop where
  dom : ∀ b p, ι b = some p → b < H.next
  fact : ∀ b p, ι b = some p → p.Fact P w
  live : ∀ b x, H.get b = some x → ∃ p, ι b = some p ∧ BRel P ι x p w
  inj : ∀ b c x y p q, H.get b = some x → H.get c = some y → ι b = some p → ι c = some q → p.blk = q.blk → b = c
  gl : GRel ι w

/-- The block is one that may be written. -/
def Own (ι : Emb) (H : Hp) (n : Nat) : Prop := ∃ b x p, H.get b = some x ∧ x.ro = false ∧ ι b = some p ∧ p.blk = n

/-- From one heap and world to a later one. -/
structure Stp [Gl] (P : Program) (ι ι' : Emb) (H H' : Hp) (w w' : World) : Prop where
  rel : HRel P ι' H' w'
  ext : Ext ι ι'
  old : ∀ b, b < H.next → ι' b = ι b
  next : H.next ≤ H'.next
  os : w'.os = w.os
  tape : w'.tape = w.tape
  output : w'.output = w.output
  size : w.heap.size ≤ w'.heap.size
  frame : ∀ n, n < w.heap.size → ¬ Own ι H n → w'.heap[n]? = w.heap[n]?
  own : ∀ n, Own ι' H' n → w.heap.size ≤ n ∨ Own ι H n
  /-- read-only blocks stay. -/
  roSt : ∀ b x, x.ro = true → (H'.get b = some x ↔ H.get b = some x)

theorem Stp.refl [Gl] {P : Program} {ι : Emb} {H : Hp} {w : World} (h : HRel P ι H w) : Stp P ι ι H H w w :=
  ⟨h, Ext.refl _, fun _ _ => rfl, Nat.le_refl _, rfl, rfl, rfl, Nat.le_refl _, fun _ _ _ => rfl, fun _ h => .inr h, fun _ _ _ => Iff.rfl⟩

theorem Own.lt [Gl] {P : Program} {ι : Emb} {H : Hp} {w : World} (h : HRel P ι H w) {n : Nat} (ho : Own ι H n) : n < w.heap.size := by
  obtain ⟨b, x, p, hb, _, hp, rfl⟩ := ho
  have hf := h.fact b p hp
  unfold Pl.Fact at hf
  split at hf
  · obtain ⟨c, lo, hi, hc, _⟩ := hf
    rcases Nat.lt_or_ge p.blk w.heap.size with h | h
    · exact h
    · simp [Array.getElem?_eq_none h] at hc
  · obtain ⟨c, lo, hc⟩ := hf
    rcases Nat.lt_or_ge p.blk w.heap.size with h | h
    · exact h
    · simp [Array.getElem?_eq_none h] at hc

theorem Stp.trans [Gl] {P : Program} {a b c : Emb} {H1 H2 H3 : Hp} {w1 w2 w3 : World} (h : Stp P a b H1 H2 w1 w2) (k : Stp P b c H2 H3 w2 w3) : Stp P a c H1 H3 w1 w3 := by
  refine ⟨k.rel, h.ext.trans k.ext, fun x hx => ?_, Nat.le_trans h.next k.next, k.os.trans h.os, k.tape.trans h.tape, k.output.trans h.output, Nat.le_trans h.size k.size, fun n hn ho => ?_, fun n hn => ?_, fun x y hy => (k.roSt x y hy).trans (h.roSt x y hy)⟩
  · rw [k.old x (Nat.lt_of_lt_of_le hx h.next), h.old x hx]
  · rw [k.frame n (Nat.lt_of_lt_of_le hn h.size) (fun o => ?_), h.frame n hn ho]
    rcases h.own n o with o | o
    · omega
    · exact ho o
  · rcases k.own n hn with o | o
    · exact .inl (Nat.le_trans h.size o)
    · exact h.own n o

end Go.Lk
