/- Numbers that are not known: a token is a base and an offset; what is known of the bases are bounds, sums and differences. -/
import Derived.Test.YtpognhdhlbgliaaGreatDoorLkRun
import Derived.Laws.Bits64
import Derived.IntWalk
import Derived.Laws.StructEq
namespace Go.Lk

/-- What is known of the bases: bounds; b i + b j = b k + d; n - b i = b k + d; bounds of b i - b j. -/
structure Fx where
  lo : Nat → Int
  hi : Nat → Int
  plus : List (Nat × Nat × Nat × Nat)
  minus : List (Int × Nat × Nat × Nat)
  diff : List (Nat × Nat × Int × Int)

structure Fx.Ok (F : Fx) (b : Nat → Int) : Prop where
  lo : ∀ j, F.lo j ≤ b j
  hi : ∀ j, b j ≤ F.hi j
  plus : ∀ e ∈ F.plus, b e.1 + b e.2.1 = b e.2.2.1 + e.2.2.2
  minus : ∀ e ∈ F.minus, e.1 - b e.2.1 = b e.2.2.1 + e.2.2.2
  diff : ∀ e ∈ F.diff, e.2.2.1 ≤ b e.1 - b e.2.1 ∧ b e.1 - b e.2.1 ≤ e.2.2.2

inductive Od where
  | num (k : IntKind) (n : Int)
  | tok (k : IntKind) (j c : Nat)

def kdT (i : Nat) : IntKind := match Nat.beq (i % 2) 0 with
  | true => .i64
  | false => .u64

def od : Value → Option Od
  | .int k n => some (.num k n)
  | .complex _ i c => some (.tok (kdT i) (i / 2) c)
  | _ => none

def Od.kind : Od → IntKind
  | .num k _ => k
  | .tok k _ _ => k

def Od.val (b : Nat → Int) : Od → Int
  | .num _ n => n
  | .tok _ j c => b j + c

def mkT (k : IntKind) (j c : Nat) : Option Value := match k with
  | .i64 => some (.complex .f64 (2 * j) c)
  | .u64 => some (.complex .f64 (2 * j + 1) c)
  | _ => none

def minK : IntKind → Int
  | .i64 => -9223372036854775808
  | _ => 0
def maxK : IntKind → Int
  | .i64 => 9223372036854775807
  | _ => 18446744073709551615

def find2 {α : Type} : List (Nat × Nat × α) → Nat → Nat → Option α
  | [], _, _ => none
  | (a, b, x) :: l, i, j => match Nat.beq a i, Nat.beq b j with
    | true, true => some x
    | _, _ => find2 l i j
def findM {α : Type} : List (Int × Nat × α) → Int → Nat → Option α
  | [], _, _ => none
  | (a, b, x) :: l, i, j => match decide (a = i), Nat.beq b j with
    | true, true => some x
    | _, _ => findM l i j

theorem find2_some {α : Type} : ∀ {l : List (Nat × Nat × α)} {i j : Nat} {x : α}, find2 l i j = some x → (i, j, x) ∈ l
  | [], i, j, x, h => by simp [find2] at h
  | (a, b, y) :: l, i, j, x, h => by
    unfold find2 at h
    split at h
    · rename_i h1 h2
      simp at h; subst h
      rw [Nat.eq_of_beq_eq_true h1, Nat.eq_of_beq_eq_true h2]; exact List.mem_cons_self
    · exact List.mem_cons_of_mem _ (find2_some h)
theorem findM_some {α : Type} : ∀ {l : List (Int × Nat × α)} {i : Int} {j : Nat} {x : α}, findM l i j = some x → (i, j, x) ∈ l
  | [], i, j, x, h => by simp [findM] at h
  | (a, b, y) :: l, i, j, x, h => by
    unfold findM at h
    split at h
    · rename_i h1 h2
      simp at h; subst h
      rw [of_decide_eq_true h1, Nat.eq_of_beq_eq_true h2]; exact List.mem_cons_self
    · exact List.mem_cons_of_mem _ (findM_some h)

section
variable (F : Fx)

/-- Bounds of a difference. -/
def dif : Od → Od → Option (Int × Int)
  | .num _ _, .num _ _ => none
  | .tok _ j c, .num _ n => some (F.lo j + c - n, F.hi j + c - n)
  | .num _ n, .tok _ j c => some (n - F.hi j - c, n - F.lo j - c)
  | .tok _ j c, .tok _ i d => match Nat.beq j i with
    | true => some ((c : Int) - d, (c : Int) - d)
    | false => match find2 F.diff j i with
      | some (l, h) => some (l + c - d, h + c - d)
      | none => some (F.lo j + c - F.hi i - d, F.hi j + c - F.lo i - d)

def cmpT (op : BinOp) (r : Int × Int) : Option Bool := match op with
  | .lss => if r.2 < 0 then some true else if 0 ≤ r.1 then some false else none
  | .leq => if r.2 ≤ 0 then some true else if 0 < r.1 then some false else none
  | .gtr => if 0 < r.1 then some true else if r.2 ≤ 0 then some false else none
  | .geq => if 0 ≤ r.1 then some true else if r.2 < 0 then some false else none
  | .eql => if 0 < r.1 then some false else if r.2 < 0 then some false else if r.1 = 0 ∧ r.2 = 0 then some true else none
  | .neq => if 0 < r.1 then some true else if r.2 < 0 then some true else if r.1 = 0 ∧ r.2 = 0 then some false else none
  | _ => none

/-- A token, if it is within its kind. -/
def inK (k : IntKind) (j c : Nat) : Option Value := if minK k ≤ F.lo j + c ∧ F.hi j + c ≤ maxK k then mkT k j c else none

def addT : Od → Od → Option Value
  | .tok k j c, .num _ n => if 0 ≤ c + n then inK F k j (c + n).toNat else none
  | .num _ n, .tok k j c => if 0 ≤ c + n then inK F k j (c + n).toNat else none
  | .tok k j c, .tok _ i d => match find2 F.plus j i with
    | some (m, e) => inK F k m (e + c + d)
    | none => none
  | _, _ => none

def subT : Od → Od → Option Value
  | .tok k j c, .num _ n => if 0 ≤ c - n then inK F k j (c - n).toNat else none
  | .num _ n, .tok k j c => match findM F.minus n j with
    | some (m, e) => if c ≤ e then inK F k m (e - c) else none
    | none => none
  | .tok k j c, .tok _ i d => match Nat.beq j i with
    | true => if minK k ≤ (c : Int) - d ∧ (c : Int) - d ≤ maxK k then (match k with
        | .i64 => some (.int .i64 ((c : Int) - d))
        | .u64 => some (.int .u64 ((c : Int) - d))
        | _ => none) else none
    | false => none
  | _, _ => none

def orcO (op : BinOp) (x y : Od) : Option Value := match decide (x.kind = y.kind) with
  | true => match op with
    | .add => addT F x y
    | .sub => subT F x y
    | op => match dif F x y with
      | some r => match cmpT op r with
        | some b => some (.bool b)
        | none => none
      | none => none
  | false => none

def cmp1 (u v : Od) : Option Bool := match u, v with
  | .num k m, .num l n => match decide (k = l) with
    | true => some (decide (m = n))
    | false => none
  | u, v => match decide (u.kind = v.kind), dif F u v with
    | true, some r => cmpT .eql r
    | _, _ => none

def cmpC (x y : Option Value) : Option Bool := match x, y with
  | some a, some b => match od a, od b with
    | some u, some v => cmp1 F u v
    | _, _ => none
  | _, _ => none

def isIntD : Option TypeDesc → Bool
  | some (.int _) => true
  | _ => false

/-- Are two structs of numbers the same, field by field? -/
def eqFs (P : Program) (xs ys : List Value) : List Field → Option Bool
  | [] => some true
  | f :: fs => match decide (f.name = "_") with
    | true => eqFs P xs ys fs
    | false => match isIntD (P.underlying f.type) with
      | true => match cmpC F xs[f.offset]? ys[f.offset]? with
        | some true => eqFs P xs ys fs
        | some false => some false
        | none => none
      | false => none

def orcA (P : Program) (op : BinOp) (t : TypeId) (xs ys : List Value) : Option Value := match xs.all scalT, ys.all scalT, P.underlying t with
  | true, true, some (.struct fs) => match P.stoodInHeld t, P.eqGuardType P.depth t with
    | false, false => eqOp op (eqFs F P xs ys fs.toList)
    | _, _ => none
  | _, _, _ => none

def orcT (P : Program) (op : BinOp) (t : TypeId) (x y : Value) : Option Value := match x, y with
  | .agg a, .agg b => orcA F P op t a.toList b.toList
  | x, y => match od x, od y with
    | some a, some b => orcO F op a b
    | _, _ => none

def cvtT (k : IntKind) (x : Value) : Option Value := match od x with
  | some (.tok _ j c) => inK F k j c
  | _ => none

def mmT (b : Bool) (l : List Value) : Option Value := match l with
  | [x, y] => match od x, od y with
    | some u, some v => match decide (u.kind = v.kind) with
      | true => match dif F u v, b with
        | some r, true => if r.2 ≤ 0 then some y else if 0 ≤ r.1 then some x else none
        | some r, false => if 0 ≤ r.1 then some y else if r.2 ≤ 0 then some x else none
        | none, _ => none
      | false => none
    | _, _ => none
  | _ => none
end

abbrev tkOf (F : Fx) : Tk where
  kd := kdT
  orc := orcT F
  cvt := cvtT F
  mm := mmT F

abbrev tvOf (F : Fx) (b : Nat → Int) : Tv where
  toTk := tkOf F
  val i c := b (i / 2) + c

theorem wrapK {k : IntKind} {n : Int} (hk : k = .i64 ∨ k = .u64) (h1 : minK k ≤ n) (h2 : n ≤ maxK k) : k.wrap n = n := by
  rcases hk with rfl | rfl
  · exact IntWalk.i64_in n ⟨h1, h2⟩
  · exact IntWalk.u64_in n ⟨h1, h2⟩

theorem kdT_is (i : Nat) : kdT i = .i64 ∨ kdT i = .u64 := by
  unfold kdT
  split
  · exact .inl rfl
  · exact .inr rfl

section
variable {F : Fx} {b : Nat → Int}

theorem od_conc {x : Value} {o : Od} (h : od x = some o) : @conc (tvOf F b) x = .int o.kind (o.val b) ∧ scalT x = true := by
  cases x <;> simp [od] at h
  · subst h; exact ⟨rfl, rfl⟩
  · subst h; exact ⟨rfl, rfl⟩

theorem mkT_conc {k : IntKind} {j c : Nat} {v : Value} (h : mkT k j c = some v) : @conc (tvOf F b) v = .int k (b j + c) ∧ scalT v = true ∧ (k = .i64 ∨ k = .u64) := by
  unfold mkT at h
  split at h
  · simp at h; subst h
    refine ⟨?_, rfl, .inl rfl⟩
    show Value.int (kdT (2 * j)) (b (2 * j / 2) + c) = _
    have h1 : 2 * j / 2 = j := by omega
    have h2 : 2 * j % 2 = 0 := by omega
    rw [h1]; simp [kdT, h2]
  · simp at h; subst h
    refine ⟨?_, rfl, .inr rfl⟩
    show Value.int (kdT (2 * j + 1)) (b ((2 * j + 1) / 2) + c) = _
    have h1 : (2 * j + 1) / 2 = j := by omega
    have h2 : (2 * j + 1) % 2 = 1 := by omega
    rw [h1]; simp [kdT, h2]
  · simp at h

theorem inK_conc (hF : F.Ok b) {k : IntKind} {j c : Nat} {v : Value} (h : inK F k j c = some v) :
    @conc (tvOf F b) v = .int k (b j + c) ∧ scalT v = true ∧ k.wrap (b j + c) = b j + c := by
  unfold inK at h
  split at h
  · rename_i hb
    obtain ⟨h1, h2, h3⟩ := mkT_conc (F := F) (b := b) h
    have := hF.lo j
    have := hF.hi j
    exact ⟨h1, h2, wrapK h3 (by omega) (by omega)⟩
  · simp at h

theorem dif_ok (hF : F.Ok b) {x y : Od} {r : Int × Int} (h : dif F x y = some r) : r.1 ≤ x.val b - y.val b ∧ x.val b - y.val b ≤ r.2 := by
  unfold dif at h
  split at h
  · simp at h
  · rename_i j c _ n
    simp at h; subst h
    have := hF.lo j
    have := hF.hi j
    simp only [Od.val]; omega
  · rename_i n _ j c
    simp at h; subst h
    have := hF.lo j
    have := hF.hi j
    simp only [Od.val]; omega
  · rename_i j c _ i d
    split at h
    · rename_i he
      have he := Nat.eq_of_beq_eq_true he
      simp at h; subst h; subst he
      simp only [Od.val]; omega
    · split at h
      · rename_i l u hf
        simp at h; subst h
        have := hF.diff _ (find2_some hf)
        simp only at this
        simp only [Od.val]; omega
      · simp at h; subst h
        have := hF.lo j
        have := hF.hi j
        have := hF.lo i
        have := hF.hi i
        simp only [Od.val]; omega

theorem pureB {p q : Bool} (h : p = q) : (pure (Value.bool p) : Sem Value) = pure (.bool q) := by rw [h]

theorem cmpT_ok {op : BinOp} {r : Int × Int} {t : Bool} (h : cmpT op r = some t) {x y : Int} (h1 : r.1 ≤ x - y) (h2 : x - y ≤ r.2) : Op.intCmp op x y = pure (.bool t) := by
  unfold cmpT at h
  split at h
  · split at h
    · simp at h; subst h; simp only [Op.intCmp]; exact pureB (by simp; omega)
    · split at h
      · simp at h; subst h; simp only [Op.intCmp]; exact pureB (by simp; omega)
      · simp at h
  · split at h
    · simp at h; subst h; simp only [Op.intCmp]; exact pureB (by simp; omega)
    · split at h
      · simp at h; subst h; simp only [Op.intCmp]; exact pureB (by simp; omega)
      · simp at h
  · split at h
    · simp at h; subst h; simp only [Op.intCmp]; exact pureB (by simp; omega)
    · split at h
      · simp at h; subst h; simp only [Op.intCmp]; exact pureB (by simp; omega)
      · simp at h
  · split at h
    · simp at h; subst h; simp only [Op.intCmp]; exact pureB (by simp; omega)
    · split at h
      · simp at h; subst h; simp only [Op.intCmp]; exact pureB (by simp; omega)
      · simp at h
  · split at h
    · simp at h; subst h; simp only [Op.intCmp]; exact pureB (by simp; omega)
    · split at h
      · simp at h; subst h; simp only [Op.intCmp]; exact pureB (by simp; omega)
      · split at h
        · simp at h; subst h; simp only [Op.intCmp]; exact pureB (by simp; omega)
        · simp at h
  · split at h
    · simp at h; subst h; simp only [Op.intCmp]; exact pureB (by simp; omega)
    · split at h
      · simp at h; subst h; simp only [Op.intCmp]; exact pureB (by simp; omega)
      · split at h
        · simp at h; subst h; simp only [Op.intCmp]; exact pureB (by simp; omega)
        · simp at h
  · simp at h

theorem addT_ok (hF : F.Ok b) {x y : Od} {v : Value} (hk : x.kind = y.kind) (h : addT F x y = some v) : scalT v = true ∧ @conc (tvOf F b) v = .int x.kind (x.kind.wrap (x.val b + y.val b)) := by
  unfold addT at h
  split at h
  · rename_i k j c k2 n
    split at h
    · obtain ⟨h1, h2, h3⟩ := inK_conc hF h
      refine ⟨h2, ?_⟩
      have e : b j + ((c + n : Int).toNat : Int) = b j + c + n := by omega
      rw [e] at h1 h3
      rw [h1]; simp only [Od.kind, Od.val]; rw [h3]
    · simp at h
  · rename_i k2 n k j c
    split at h
    · obtain ⟨h1, h2, h3⟩ := inK_conc hF h
      refine ⟨h2, ?_⟩
      have e : b j + ((c + n : Int).toNat : Int) = n + (b j + c) := by omega
      rw [e] at h1 h3
      simp only [Od.kind] at hk; subst hk
      rw [h1]; simp only [Od.kind, Od.val]; rw [h3]
    · simp at h
  · rename_i k j c k2 i d
    split at h
    · rename_i m e hf
      obtain ⟨h1, h2, h3⟩ := inK_conc hF h
      refine ⟨h2, ?_⟩
      have := hF.plus _ (find2_some hf)
      simp only at this
      have e : b m + ((e + c + d : Nat) : Int) = b j + c + (b i + d) := by omega
      rw [e] at h1 h3
      rw [h1]; simp only [Od.kind, Od.val]; rw [h3]
    · simp at h
  · simp at h

theorem subT_ok (hF : F.Ok b) {x y : Od} {v : Value} (hk : x.kind = y.kind) (h : subT F x y = some v) : scalT v = true ∧ @conc (tvOf F b) v = .int x.kind (x.kind.wrap (x.val b - y.val b)) := by
  unfold subT at h
  split at h
  · rename_i k j c k2 n
    split at h
    · obtain ⟨h1, h2, h3⟩ := inK_conc hF h
      refine ⟨h2, ?_⟩
      have e : b j + ((c - n : Int).toNat : Int) = b j + c - n := by omega
      rw [e] at h1 h3
      rw [h1]; simp only [Od.kind, Od.val]; rw [h3]
    · simp at h
  · rename_i k2 n k j c
    split at h
    · rename_i m e hf
      split at h
      · obtain ⟨h1, h2, h3⟩ := inK_conc hF h
        refine ⟨h2, ?_⟩
        have := hF.minus _ (findM_some hf)
        simp only at this
        have e : b m + ((e - c : Nat) : Int) = n - (b j + c) := by omega
        rw [e] at h1 h3
        simp only [Od.kind] at hk; subst hk
        rw [h1]; simp only [Od.kind, Od.val]; rw [h3]
      · simp at h
    · simp at h
  · rename_i k j c k2 i d
    split at h
    · rename_i he
      have he := Nat.eq_of_beq_eq_true he; subst he
      split at h
      · rename_i hb
        have e : (b j + c) - (b j + d) = (c : Int) - d := by omega
        split at h
        · simp at h; subst h
          refine ⟨rfl, ?_⟩
          simp only [Od.kind, Od.val, e]
          rw [wrapK (.inl rfl) hb.1 hb.2]; rfl
        · simp at h; subst h
          refine ⟨rfl, ?_⟩
          simp only [Od.kind, Od.val, e]
          rw [wrapK (.inr rfl) hb.1 hb.2]; rfl
        · simp at h
      · simp at h
    · simp at h
  · simp at h

theorem orcS_ok (hF : F.Ok b) {P : Program} {op : BinOp} {t : TypeId} {u v : Od} {x y r : Value} (hu : od x = some u) (hv : od y = some v) (h : orcO F op u v = some r) :
    noAT x = true ∧ noAT y = true ∧ scalT r = true ∧ eqGuardP P op t (@concA (tvOf F b) x) (@concA (tvOf F b) y) = true ∧ ∀ w : World, (Go.binOp op t (@concA (tvOf F b) x) (@concA (tvOf F b) y)).run P w = .ok (@conc (tvOf F b) r) w := by
  obtain ⟨hx, hxs⟩ := od_conc (F := F) (b := b) hu
  obtain ⟨hy, hys⟩ := od_conc (F := F) (b := b) hv
  have hx1 : noAT x = true := by cases x <;> first | exact hxs | (simp [od] at hu)
  have hy1 : noAT y = true := by cases y <;> first | exact hys | (simp [od] at hv)
  have hx2 : @concA (tvOf F b) x = .int u.kind (u.val b) := by rw [← hx]; cases x <;> first | rfl | (simp [od] at hu)
  have hy2 : @concA (tvOf F b) y = .int v.kind (v.val b) := by rw [← hy]; cases y <;> first | rfl | (simp [od] at hv)
  rw [hx2, hy2]
  unfold orcO at h
  split at h
  · rename_i hk
    have hk := of_decide_eq_true hk
    split at h
    · obtain ⟨h1, h2⟩ := addT_ok hF hk h
      refine ⟨hx1, hy1, h1, rfl, fun w => ?_⟩
      rw [h2, ← hk]
      simp [Go.binOp, Op.intArith]
    · obtain ⟨h1, h2⟩ := subT_ok hF hk h
      refine ⟨hx1, hy1, h1, rfl, fun w => ?_⟩
      rw [h2, ← hk]
      simp [Go.binOp, Op.intArith]
    · split at h
      · rename_i rr hd
        split at h
        · rename_i t0 ht
          simp at h; subst h
          obtain ⟨h1, h2⟩ := dif_ok hF hd
          have := cmpT_ok ht h1 h2
          refine ⟨hx1, hy1, rfl, rfl, fun w => ?_⟩
          rw [← hk]
          have hb : Go.binOp op t (.int u.kind (u.val b)) (.int u.kind (v.val b)) = Op.intCmp op (u.val b) (v.val b) := by
            cases op <;> first | (simp [cmpT] at ht; done) | simp [Go.binOp]
          rw [hb, this]; rfl
        · simp at h
      · simp at h
  · simp at h

theorem cmp1_ok (hF : F.Ok b) {u v : Od} {r : Bool} (h : cmp1 F u v = some r) : u.kind = v.kind ∧ decide (u.val b = v.val b) = r := by
  have gen : ∀ {u v : Od}, (match decide (u.kind = v.kind), dif F u v with | true, some r => cmpT .eql r | _, _ => none) = some r → u.kind = v.kind ∧ decide (u.val b = v.val b) = r := by
    intro u v h
    split at h
    · rename_i rr hk hd
      obtain ⟨h1, h2⟩ := dif_ok hF hd
      refine ⟨of_decide_eq_true hk, ?_⟩
      simp only [cmpT] at h
      split at h
      · simp at h; subst h; simp; omega
      · split at h
        · simp at h; subst h; simp; omega
        · split at h
          · simp at h; subst h; simp; omega
          · simp at h
    · simp at h
  cases u with
  | num k m =>
    cases v with
    | num l n =>
      simp only [cmp1] at h
      split at h
      · rename_i hk
        simp at h
        exact ⟨of_decide_eq_true hk, by rw [← h]; exact decide_eq_decide.2 Iff.rfl⟩
      · simp at h
    | tok l j c => exact gen h
  | tok k i c => cases v <;> exact gen h

theorem eqFs_run (hF : F.Ok b) {P : Program} {xs ys : List Value} {d : Nat} : ∀ (fs : List Field) {r : Bool}, eqFs F P xs ys fs = some r → ∀ w : World,
    (Op.eqFields (d + 1) ⟨xs.map (@conc (tvOf F b))⟩ ⟨ys.map (@conc (tvOf F b))⟩ fs).run P w = .ok r w
  | [], r, h, w => by simp [eqFs] at h; subst h; simp [Op.eqFields]
  | f :: fs, r, h, w => by
    simp only [eqFs] at h
    by_cases hn : f.name = "_"
    · rw [decide_eq_true hn] at h
      simp only at h
      simp only [Op.eqFields, hn, ne_eq, not_true_eq_false, if_false]
      exact eqFs_run hF fs h w
    · rw [decide_eq_false hn] at h
      simp only at h
      cases hi : isIntD (P.underlying f.type) with
      | false => simp [hi] at h
      | true =>
        have hu : ∃ k, P.underlying f.type = some (.int k) := by
          unfold isIntD at hi
          split at hi
          · rename_i k hk; exact ⟨k, hk⟩
          · simp at hi
        obtain ⟨k, hu⟩ := hu
        simp only [hi] at h
        cases hc : cmpC F xs[f.offset]? ys[f.offset]? with
        | none => simp [hc] at h
        | some q =>
          have hc0 := hc
          unfold cmpC at hc
          split at hc
          · rename_i a a2 hxa hya
            split at hc
            · rename_i u v hou hov
              obtain ⟨hk, hq⟩ := cmp1_ok hF hc
              have hxc := (od_conc (F := F) (b := b) hou).1
              have hyc := (od_conc (F := F) (b := b) hov).1
              have hagg : ∀ w : World, (isAgg f.type).run P w = .ok false w := fun w => by rw [run_isAgg hu]; rfl
              have px : ∀ w : World, (part f.type ⟨xs.map (@conc (tvOf F b))⟩ f.offset).run P w = .ok (.int u.kind (u.val b)) w := fun w => by
                simp [part, hagg, hxa, hxc]
              have py : ∀ w : World, (part f.type ⟨ys.map (@conc (tvOf F b))⟩ f.offset).run P w = .ok (.int v.kind (v.val b)) w := fun w => by
                simp [part, hagg, hya, hyc]
              simp only [Op.eqFields, ne_eq, hn, not_false_eq_true, if_true, Sem.run_bind, px, py, Result.andThen_ok]
              rw [← hk, run_equalIn_int w d f.type u.kind k _ _ hu]
              simp only [Result.andThen_ok]
              have hb : (u.val b == v.val b) = q := by rw [← hq]; rfl
              rw [hb]
              simp only [hc0] at h
              cases q with
              | true => simp only [Bool.not_true, Bool.false_eq_true, if_false] at h ⊢; exact eqFs_run hF fs h w
              | false => simp at h; subst h; simp
            · simp at hc
          · simp at hc

theorem orcA_ok (hF : F.Ok b) {P : Program} {op : BinOp} {t : TypeId} {xs ys : List Value} {r : Value} (h : orcA F P op t xs ys = some r) :
    xs.all scalT = true ∧ ys.all scalT = true ∧ scalT r = true ∧ P.eqGuardType P.depth t = false ∧
      ∀ w : World, (Go.binOp op t (.agg ⟨xs.map (@conc (tvOf F b))⟩) (.agg ⟨ys.map (@conc (tvOf F b))⟩)).run P w = .ok (@conc (tvOf F b) r) w ∧ (op = .eql ∨ op = .neq) := by
  unfold orcA at h
  split at h
  · rename_i fs hx hy hu
    split at h
    · rename_i hs hg
      obtain ⟨q, hq, hv⟩ := eqOp_some h
      have hf : P.fieldsOf t = fs := by simp [Program.fieldsOf, hu]
      have hu' : P.underlying t = some (.struct (P.fieldsOf t)) := by rw [hf]; exact hu
      have hrun : ∀ w : World, (Op.equalIn 10000 t (.agg ⟨xs.map (@conc (tvOf F b))⟩) (.agg ⟨ys.map (@conc (tvOf F b))⟩)).run P w = .ok q w := fun w => by
        rw [run_equalIn_agg w 9999 t _ _ hu' hs, hf]
        exact eqFs_run (d := 9998) hF fs.toList hq w
      refine ⟨hx, hy, by rcases hv with ⟨_, rfl⟩ | ⟨_, rfl⟩ <;> rfl, hg, fun w => ⟨?_, ?_⟩⟩
      · rcases hv with ⟨rfl, rfl⟩ | ⟨rfl, rfl⟩
        · rw [run_eql_struct, hrun]; rfl
        · rw [run_neq_struct, hrun]; rfl
      · rcases hv with ⟨h, _⟩ | ⟨h, _⟩
        · exact .inl h
        · exact .inr h
    · simp at h
  · simp at h

theorem orcT_ok (hF : F.Ok b) {P : Program} {op : BinOp} {t : TypeId} {x y r : Value} (h : orcT F P op t x y = some r) :
    noAT x = true ∧ noAT y = true ∧ scalT r = true ∧ eqGuardP P op t (@concA (tvOf F b) x) (@concA (tvOf F b) y) = true ∧ ∀ w : World, (Go.binOp op t (@concA (tvOf F b) x) (@concA (tvOf F b) y)).run P w = .ok (@conc (tvOf F b) r) w := by
  unfold orcT at h
  split at h
  · obtain ⟨h1, h2, h3, h4, h5⟩ := orcA_ok hF h
    refine ⟨h1, h2, h3, ?_, fun w => (h5 w).1⟩
    rcases (h5 default).2 with rfl | rfl <;> simp [eqGuardP, concA, h4]
  · split at h
    · rename_i hu hv
      exact orcS_ok hF hu hv h
    · simp at h

theorem cvtT_ok (hF : F.Ok b) {k : IntKind} {x r : Value} (h : cvtT F k x = some r) (_ : isTok x = true) :
    scalT r = true ∧ ∀ j n, @conc (tvOf F b) x = .int j n → @conc (tvOf F b) r = .int k (k.wrap n) := by
  unfold cvtT at h
  split at h
  · rename_i k2 j c ho
    obtain ⟨h1, h2, h3⟩ := inK_conc hF h
    refine ⟨h2, fun i n e => ?_⟩
    have := (od_conc (F := F) (b := b) ho).1
    rw [this] at e
    simp only [Od.kind, Od.val] at e
    cases e
    rw [h1, h3]
  · simp at h

theorem mmT_ok' (hF : F.Ok b) {t : Bool} {l : List Value} {r : Value} (h : mmT F t l = some r) : scalT r = true ∧ ∃ x y, l = [x, y] ∧ scalT x = true ∧ scalT y = true ∧ ∃ k m n,
    @conc (tvOf F b) x = .int k m ∧ @conc (tvOf F b) y = .int k n ∧ @conc (tvOf F b) r = .int k (mmI t m n) := by
  have hl : ∃ x y, l = [x, y] := by
    unfold mmT at h
    split at h
    · exact ⟨_, _, rfl⟩
    · simp at h
  obtain ⟨x, y, rfl⟩ := hl
  simp only [mmT] at h
  cases hu : od x with
  | none => simp [hu] at h
  | some u =>
    cases hv : od y with
    | none => simp [hu, hv] at h
    | some v =>
      simp only [hu, hv] at h
      obtain ⟨hx, hxs⟩ := od_conc (F := F) (b := b) hu
      obtain ⟨hy, hys⟩ := od_conc (F := F) (b := b) hv
      by_cases hk : u.kind = v.kind
      · rw [decide_eq_true hk] at h
        simp only at h
        rw [← hk] at hy
        cases hd : dif F u v with
        | none => simp [hd] at h
        | some rr =>
          obtain ⟨h1, h2⟩ := dif_ok hF hd
          cases t with
          | true =>
            simp only [hd] at h
            split at h
            · simp at h; subst h
              refine ⟨hys, x, y, rfl, hxs, hys, _, _, _, hx, hy, ?_⟩
              rw [hy]; simp only [mmI]; congr 1; split <;> omega
            · split at h
              · simp at h; subst h
                refine ⟨hxs, x, y, rfl, hxs, hys, _, _, _, hx, hy, ?_⟩
                rw [hx]; simp only [mmI]; congr 1; split <;> omega
              · simp at h
          | false =>
            simp only [hd] at h
            split at h
            · simp at h; subst h
              refine ⟨hys, x, y, rfl, hxs, hys, _, _, _, hx, hy, ?_⟩
              rw [hy]; simp only [mmI]; congr 1; split <;> omega
            · split at h
              · simp at h; subst h
                refine ⟨hxs, x, y, rfl, hxs, hys, _, _, _, hx, hy, ?_⟩
                rw [hx]; simp only [mmI]; congr 1; split <;> omega
              · simp at h
      · rw [decide_eq_false hk] at h
        simp at h

end

/-- The class of a run: the package-level variables' blocks, the tokens. -/
abbrev glOf (F : Fx) (b : Nat → Int) (hF : F.Ok b) (dom : Nat → Prop) (ok : Nat → Obj → Prop) : Gl :=
  { toTv := tvOf F b, dom := dom, ok := ok, orc_ok := fun h => orcT_ok hF h, cvt_ok := fun h ht => cvtT_ok hF h ht, mm_ok := fun h => mmT_ok' hF h }

/-- The tokens of a run. -/
class Fc where
  F : Fx
  b : Nat → Int
  ok : F.Ok b

/-- No token is known. -/
def noFx : Fx := ⟨fun _ => 0, fun _ => 0, [], [], []⟩
theorem noFx_ok : noFx.Ok fun _ => 0 := ⟨fun _ => Int.le_refl _, fun _ => Int.le_refl _, fun _ h => (List.not_mem_nil h).elim, fun _ h => (List.not_mem_nil h).elim, fun _ h => (List.not_mem_nil h).elim⟩
abbrev fcNone : Fc := ⟨noFx, fun _ => 0, noFx_ok⟩

end Go.Lk
