/-
  THE ABSTRACT MACHINE, PART C: operations that touch nothing that the frame owns.
-/
import Derived.Test.YtefbmooajknmgaaDoorAbsB
namespace Go.Abs

def constCell (v : Value) (z : S) : Option AV :=
  match v with
  | .int k n => some (.s (.int k n))
  | .bool b => some (.s (.bool b))
  | .string b => some (.s (.str b.data.toList))
  | .pointer none => some (.s .np)
  | .nilFunc => some (.s .nf)
  | .slice none 0 0 => match z with | .sl sz _ => some (.s (.sl sz [])) | _ => none
  | _ => none

def constCells : List Value → List S → Option (List AV)
  | [], _ => some []
  | v :: vs, z :: zs => match constCell v z, constCells vs zs with | some x, some xs => some (x :: xs) | _, _ => none
  | _ :: _, [] => none

/-- A constant at a type. -/
def constAV (T : Nat → Option TI) (ty : Nat) (v : Value) : AV :=
  match v with
  | .int k n => .s (.int k n)
  | .bool b => .s (.bool b)
  | .string b => .s (.str b.data.toList)
  | .pointer none => .s .np
  | .nilFunc => .s .nf
  | .slice none 0 0 => match T ty with
    | some i => match i.zero with | [.sl sz _] => .nl sz | _ => .junk
    | none => .junk
  | .agg cs => match T ty with
    | some i => match constCells cs.toList i.zero with | some xs => .agg xs | none => .junk
    | none => .junk
  | _ => .junk

theorem constCell_rep {G : Nat → Prop} {w : World} {β : Nat → Value} {v : Value} {z : S} {x : AV} (h : constCell v z = some x) : AVal G w β x v := by
  unfold constCell at h
  split at h
  · cases h; simp [AVal, Rep]
  · cases h; simp [AVal, Rep]
  · cases h; simp [AVal, Rep]
  · cases h; simp [AVal, Rep]
  · cases h; simp [AVal, Rep]
  · split at h
    · cases h; simp [AVal, Rep]
    · cases h
  · cases h

theorem constCells_rep {G : Nat → Prop} {w : World} {β : Nat → Value} : ∀ {vs : List Value} {zs : List S} {xs : List AV}, constCells vs zs = some xs → AVals G w β xs vs
  | [], _, xs, h => by simp only [constCells, Option.some.injEq] at h; subst h; simp only [AVals]
  | v :: vs, [], xs, h => by simp [constCells] at h
  | v :: vs, z :: zs, xs, h => by
    simp only [constCells] at h
    split at h
    · rename_i x ys h1 h2
      cases h
      simp only [AVals]
      exact ⟨v, vs, rfl, constCell_rep h1, constCells_rep h2⟩
    · cases h

theorem constAV_rep {G : Nat → Prop} {w : World} {β : Nat → Value} (T : Nat → Option TI) (ty : Nat) (v : Value) : AVal G w β (constAV T ty v) v := by
  unfold constAV
  split
  · simp [AVal, Rep]
  · simp [AVal, Rep]
  · simp [AVal, Rep]
  · simp [AVal, Rep]
  · simp [AVal, Rep]
  · split
    · split <;> simp [AVal]
    · simp [AVal]
  · split
    · split
      · rename_i xs hx
        simp only [AVal]
        exact ⟨_, rfl, constCells_rep hx⟩
      · simp [AVal]
    · simp [AVal]
  · simp [AVal]

/-- An operand. -/
def opd (T : Nat → Option TI) (env : Nat → AV) (ty : Nat) : Operand → AV
  | .tmp t => env t
  | .const v => constAV T ty v
  | .func f => .s (.fn f)
  | .global g => match globs g with | some row => .s (.pt row) | none => .junk

theorem opd_rep {c : Cx} {G : Nat → Prop} {β : Nat → Value} {σ : St} {a : Act} {w : World} (h : Conc c G β σ a w) (T : Nat → Option TI) (ty : Nat) (x : Operand) :
    AVal G w β (opd T σ.env ty x) (a.eval x) := by
  cases x with
  | tmp t => exact h.env t
  | const v => exact constAV_rep T ty v
  | func f => simp [opd, AVal, Rep, Act.eval]
  | global g =>
    simp only [opd]
    split
    · rename_i row hg
      simp only [AVal, Rep]
      exact ⟨g, 0, rfl, h.glob.1 g row hg⟩
    · simp only [AVal]

theorem constCells_lt : ∀ {vs : List Value} {zs : List S} {xs : List AV} (n : Nat), constCells vs zs = some xs → AV.ltAll n xs = true
  | [], _, xs, n, h => by simp only [constCells, Option.some.injEq] at h; subst h; simp only [AV.ltAll]
  | v :: vs, [], xs, n, h => by simp [constCells] at h
  | v :: vs, z :: zs, xs, n, h => by
    simp only [constCells] at h
    split at h
    · rename_i x ys h1 h2
      cases h
      simp only [AV.ltAll, Bool.and_eq_true]
      refine ⟨?_, constCells_lt n h2⟩
      unfold constCell at h1
      split at h1
      · cases h1; rfl
      · cases h1; rfl
      · cases h1; rfl
      · cases h1; rfl
      · cases h1; rfl
      · split at h1
        · cases h1; rfl
        · cases h1
      · cases h1
    · cases h

theorem constAV_lt (T : Nat → Option TI) (ty : Nat) (v : Value) (n : Nat) : (constAV T ty v).lt n = true := by
  unfold constAV
  split
  · rfl
  · rfl
  · rfl
  · rfl
  · rfl
  · split
    · split <;> rfl
    · rfl
  · split
    · split
      · rename_i xs hx
        simp only [AV.lt]
        exact constCells_lt n hx
      · rfl
    · rfl
  · rfl

theorem opd_lt {σ : St} (h : ∀ t, (σ.env t).lt σ.nx = true) (T : Nat → Option TI) (ty : Nat) (x : Operand) : (opd T σ.env ty x).lt σ.nx = true := by
  cases x with
  | tmp t => exact h t
  | const v => exact constAV_lt T ty v _
  | func f => rfl
  | global g => simp only [opd]; split <;> rfl

/-- The very nil slice is an empty slice. -/
def AV.nrm : AV → AV
  | .nl sz => .s (.sl sz [])
  | x => x
/-- A zero cell: of slices, the very nil. -/
def zAV : S → AV
  | .sl sz [] => .nl sz
  | s => .s s
theorem zAV_rep {G : Nat → Prop} {w : World} {β : Nat → Value} {s : S} (h : s.zok = true) : AVal G w β (zAV s) s.zval := by
  unfold zAV
  split
  · simp only [AVal, S.zval]
  · simp only [AVal]; exact S.zrep h
theorem zAV_one (s : S) : (zAV s).one = true := by unfold zAV; split <;> rfl
theorem zAV_ltAll {n : Nat} : ∀ (l : List S), AV.ltAll n (l.map zAV) = true
  | [] => rfl
  | s :: l => by
    simp only [List.map_cons, AV.ltAll, Bool.and_eq_true]
    exact ⟨by unfold zAV; split <;> rfl, zAV_ltAll l⟩
theorem zAV_all (l : List S) : (l.map zAV).all AV.one = true := by
  simp [zAV_one]

theorem AVal.nrm {G : Nat → Prop} {w : World} {β : Nat → Value} {x : AV} {v : Value} (h : AVal G w β x v) : AVal G w β x.nrm v := by
  cases x <;> simp only [AV.nrm] <;> try exact h
  simp only [AVal, Rep] at h ⊢
  exact .inl ⟨trivial, _, _, h⟩
theorem AV.nrm_lt {x : AV} {n : Nat} (h : x.lt n = true) : x.nrm.lt n = true := by
  cases x <;> simp only [AV.nrm] <;> first | exact h | rfl

/-- The same within a struct or an array. -/
def AV.deep : AV → AV
  | .agg xs => .agg (xs.map AV.nrm)
  | x => x.nrm
theorem AVal.deep {G : Nat → Prop} {w : World} {β : Nat → Value} {x : AV} {v : Value} (h : AVal G w β x v) : AVal G w β x.deep v := by
  cases x <;> simp only [AV.deep] <;> try exact h.nrm
  simp only [AVal] at h ⊢
  obtain ⟨vs, h1, h2⟩ := h
  refine ⟨vs, h1, AVals.mk (by rw [List.length_map]; exact h2.length) fun i x v hx hv => ?_⟩
  rw [List.getElem?_map] at hx
  obtain ⟨y, hy, rfl⟩ := Option.map_eq_some_iff.1 hx
  obtain ⟨u, hu, hr⟩ := h2.get hy
  rw [hv] at hu; cases hu
  exact hr.nrm
theorem ltAll_nrm {n : Nat} : ∀ {xs : List AV}, AV.ltAll n xs = true → AV.ltAll n (xs.map AV.nrm) = true
  | [], _ => rfl
  | x :: xs, h => by
    simp only [List.map_cons, AV.ltAll, Bool.and_eq_true] at h ⊢
    exact ⟨AV.nrm_lt h.1, ltAll_nrm h.2⟩
theorem AV.deep_lt {x : AV} {n : Nat} (h : x.lt n = true) : x.deep.lt n = true := by
  cases x <;> simp only [AV.deep] <;> first | exact AV.nrm_lt h | skip
  simp only [AV.lt] at h ⊢
  exact ltAll_nrm h

/-- The cells of a value, all persistent. -/
def AV.sc : AV → Option S
  | .s x => some x
  | .nl sz => some (.sl sz [])
  | _ => none
def scAll : List AV → Option (List S)
  | [] => some []
  | x :: xs => match x.sc, scAll xs with | some y, some ys => some (y :: ys) | _, _ => none
def AV.cellsS : AV → Option (List S)
  | .s x => some [x]
  | .nl sz => some [.sl sz []]
  | .agg xs => scAll xs
  | _ => none

/-- A row of values reads as these data. -/
def Reps (G : Nat → Prop) (w : World) (ss : List S) (vs : List Value) : Prop :=
  vs.length = ss.length ∧ ∀ (i : Nat) s v, ss[i]? = some s → vs[i]? = some v → Rep G w s v

theorem AV.sc_rep {G : Nat → Prop} {w : World} {β : Nat → Value} {x : AV} {s : S} {v : Value} (hs : x.sc = some s) (h : AVal G w β x v) : Rep G w s v := by
  cases x <;> simp only [AV.sc, Option.some.injEq, reduceCtorEq] at hs
  · subst hs; simpa only [AVal] using h
  · subst hs; simp only [AVal] at h; simp [Rep, h]

theorem scAll_rep {G : Nat → Prop} {w : World} {β : Nat → Value} : ∀ {xs : List AV} {ss : List S} {vs : List Value}, scAll xs = some ss → AVals G w β xs vs → Reps G w ss vs
  | [], ss, vs, h, hv => by
    simp only [scAll, Option.some.injEq] at h; subst h
    simp only [AVals] at hv; subst hv
    exact ⟨rfl, fun i s v h => by simp at h⟩
  | x :: xs, ss, vs, h, hv => by
    simp only [scAll] at h
    split at h
    · rename_i y ys h1 h2
      cases h
      simp only [AVals] at hv
      obtain ⟨v, vs', rfl, h3, h4⟩ := hv
      have ih := scAll_rep h2 h4
      refine ⟨by simp [ih.1], fun i s u hs hu => ?_⟩
      cases i with
      | zero => simp at hs hu; subst hs; subst hu; exact AV.sc_rep h1 h3
      | succ i => exact ih.2 i s u (by simpa using hs) (by simpa using hu)
    · cases h

theorem cells_one {v : Value} (h : v.oneCell' = true) : v.cells = #[v] := by cases v <;> first | rfl | simp [Value.oneCell'] at h

theorem cellsS_rep {G : Nat → Prop} {w : World} {β : Nat → Value} {x : AV} {ss : List S} {v : Value} (hs : x.cellsS = some ss) (h : AVal G w β x v) : Reps G w ss v.cells.toList := by
  cases x <;> simp only [AV.cellsS, Option.some.injEq, reduceCtorEq] at hs
  case s y =>
    subst hs
    simp only [AVal] at h
    rw [cells_one h.one]
    exact ⟨rfl, fun i s u h1 h2 => by
      cases i <;> simp at h1 h2
      subst h1; subst h2; exact h⟩
  case nl sz =>
    subst hs
    simp only [AVal] at h
    subst h
    exact ⟨rfl, fun i s u h1 h2 => by
      cases i <;> simp [Value.cells] at h1 h2
      subst h1; subst h2; simp [Rep]⟩
  case agg xs =>
    simp only [AVal] at h
    obtain ⟨vs, rfl, hv⟩ := h
    simpa [Value.cells] using scAll_rep hs hv

/-- Reading a row of persistent cells at a type: what a load yields. -/
def loadS (T : Nat → Option TI) (t : Nat) (row : List S) : Option AV :=
  match T t with
  | none => none
  | some i =>
    match i.k.agg with
    | true => match Nat.ble i.size row.length with | true => some (.agg ((row.take i.size).map .s)) | false => none
    | false => match row with | x :: _ => some (.s x) | [] => none

def kEq : IntKind → IntKind → Bool
  | .i8, .i8 | .i16, .i16 | .i32, .i32 | .i64, .i64 | .u8, .u8 | .u16, .u16 | .u32, .u32 | .u64, .u64 => true
  | _, _ => false
theorem kEq_eq {a b : IntKind} (h : kEq a b = true) : a = b := by cases a <;> cases b <;> simp [kEq] at h <;> rfl

def bitOp (op : BinOp) (k : IntKind) (x y : Int) : Int :=
  let a := BitVec.ofInt k.bits x
  let b := BitVec.ofInt k.bits y
  match op with
  | .and => k.wrap (a &&& b).toNat
  | .or => k.wrap (a ||| b).toNat
  | .xor => k.wrap (a ^^^ b).toNat
  | _ => k.wrap (a &&& ~~~b).toNat

def pInt (op : BinOp) (k : IntKind) (a b : Int) : Option (Option Prop × AV) :=
  match op with
  | .add => some (none, .s (.int k (k.wrap (a + b))))
  | .sub => some (none, .s (.int k (k.wrap (a - b))))
  | .mul => some (none, .s (.int k (k.wrap (a * b))))
  | .quo => some (some (b ≠ 0), .s (.int k (k.wrap (a.tdiv b))))
  | .rem => some (some (b ≠ 0), .s (.int k (a.tmod b)))
  | .and => some (none, .s (.int k (bitOp .and k a b)))
  | .or => some (none, .s (.int k (bitOp .or k a b)))
  | .xor => some (none, .s (.int k (bitOp .xor k a b)))
  | .andNot => some (none, .s (.int k (bitOp .andNot k a b)))
  | .eql => some (none, .s (.bool (a == b)))
  | .neq => some (none, .s (.bool (a != b)))
  | .lss => some (none, .s (.bool (decide (a < b))))
  | .leq => some (none, .s (.bool (decide (a ≤ b))))
  | .gtr => some (none, .s (.bool (decide (b < a))))
  | .geq => some (none, .s (.bool (decide (b ≤ a))))
  | _ => none

def pStr (op : BinOp) (a b : List UInt8) : Option (Option Prop × AV) :=
  match op with
  | .add => some (some (a.length + b.length ≤ 9223372036854775807), .s (.str (a ++ b)))
  | .eql => some (none, .s (.bool (a == b)))
  | .neq => some (none, .s (.bool (!(a == b))))
  | .lss => some (none, .s (.bool (Op.bytesLess a b)))
  | _ => none

def tk (T : Nat → Option TI) (t : Nat) : TK := match T t with | some i => i.k | none => .other

def pBin0 (T : Nat → Option TI) (t : Nat) (op : BinOp) (x y : AV) : Option (Option Prop × AV) :=
  match op, x, y with
  | .shl, .s (.int k a), .s (.int _ b) => some (some (0 ≤ b), .s (.int k (k.wrap (a * 2 ^ (min b.toNat k.bits)))))
  | .shr, .s (.int k a), .s (.int _ b) => some (some (0 ≤ b), .s (.int k (a.fdiv (2 ^ (min b.toNat k.bits)))))
  | op, .s (.int k a), .s (.int k' b) => match kEq k k' with | true => pInt op k a b | false => none
  | op, .s (.str a), .s (.str b) => pStr op a b
  | .eql, .s (.bool a), .s (.bool b) => match tk T t with | .bool => some (none, .s (.bool (a == b))) | _ => none
  | .neq, .s (.bool a), .s (.bool b) => match tk T t with | .bool => some (none, .s (.bool (!(a == b)))) | _ => none
  | .eql, .s .np, .s .np => match tk T t with | .ptr _ => some (none, .s (.bool true)) | _ => none
  | .neq, .s .np, .s .np => match tk T t with | .ptr _ => some (none, .s (.bool false)) | _ => none
  | .eql, .s (.pt _), .s .np => match tk T t with | .ptr _ => some (none, .s (.bool false)) | _ => none
  | .neq, .s (.pt _), .s .np => match tk T t with | .ptr _ => some (none, .s (.bool true)) | _ => none
  | .eql, .op _ _, .s .np => match tk T t with | .ptr _ => some (none, .s (.bool false)) | _ => none
  | .neq, .op _ _, .s .np => match tk T t with | .ptr _ => some (none, .s (.bool true)) | _ => none
  | .eql, .op k o, .op k' o' => match tk T t with | .ptr e => (match T e, Nat.beq k k', Nat.beq o o' with | some _, true, true => some (none, .s (.bool true)) | _, _, _ => none) | _ => none
  | .neq, .op k o, .op k' o' => match tk T t with | .ptr e => (match T e, Nat.beq k k', Nat.beq o o' with | some _, true, true => some (none, .s (.bool false)) | _, _, _ => none) | _ => none
  | _, _, _ => none

/-- Two pairs of integers. -/
def pArr (T : Nat → Option TI) (t : Nat) (op : BinOp) (x y : AV) : Option (Option Prop × AV) :=
  match op, x, y with
  | .neq, .agg [.s (.int k a), .s (.int k1 b)], .agg [.s (.int k2 c), .s (.int k3 d)] => match tk T t with
    | .arr 2 e => match T e with
      | some i => match i.k, Nat.beq i.size 1, kEq k k1 && (kEq k k2 && kEq k k3) with
        | .int k4, true, true => match kEq k k4 with | true => some (none, .s (.bool (!(a == c && b == d)))) | false => none
        | _, _, _ => none
      | none => none
    | _ => none
  | _, _, _ => none
def pBin (T : Nat → Option TI) (t : Nat) (op : BinOp) (x y : AV) : Option (Option Prop × AV) :=
  match pBin0 T t op x y with
  | some r => some r
  | none => pArr T t op x y

def pUn (op : UnOp) (x : AV) : Option (Option Prop × AV) :=
  match op, x with
  | .not, .s (.bool b) => some (none, .s (.bool (!b)))
  | .neg, .s (.int k n) => some (none, .s (.int k (k.wrap (0 - n))))
  | _, _ => none

/-- A byte in a cell, and back. -/
def brow (b : UInt8) : List S := [.int .u8 (b.toNat : Int)]
def browOf : List S → UInt8
  | [.int .u8 n] => UInt8.ofNat n.toNat
  | _ => 0

def pConv (T : Nat → Option TI) (src dst : Nat) (x : AV) : Option (Option Prop × AV) :=
  match T src, T dst with
  | some i, some j =>
    match i.k, j.k, x with
    | .int _, .int k, .s (.int _ n) => some (none, .s (.int k (k.wrap n)))
    | .str, .str, .s (.str l) => some (none, .s (.str l))
    | .slice e, .str, .s (.sl _ rows) => match T e with
      | some m => match m.k with
        | .int .u8 => some (some (rows = (rows.map browOf).map brow), .s (.str (rows.map browOf)))
        | _ => none
      | none => none
    | _, _, _ => none
  | _, _ => none

/-- The part of an aggregate of a type at a place. -/
def pPart (T : Nat → Option TI) (t : Nat) (xs : List AV) (off : Nat) : Option AV :=
  match T t with
  | none => none
  | some i =>
    match i.k.agg with
    | true => match Nat.ble (off + i.size) xs.length with | true => some (.agg ((xs.drop off).take i.size)) | false => none
    | false => xs[off]?

def pField (T : Nat → Option TI) (t : Nat) (x : AV) (f : Nat) : Option (Option Prop × AV) :=
  match T t, x with
  | some i, .agg xs => match i.k with
    | .struct fs => match fs[f]? with
      | some (off, ft) => match pPart T ft xs off with | some y => some (none, y) | none => none
      | none => none
    | _ => none
  | _, _ => none

def pIndex (T : Nat → Option TI) (t : Nat) (x i : AV) : Option (Option Prop × AV) :=
  match T t, x, i with
  | some ti, .s (.str l), .s (.int _ n) => match ti.k with
    | .str => some (some (0 ≤ n ∧ n < l.length), .s (.int .u8 ((l.getD n.toNat 0).toNat : Int)))
    | _ => none
  | some ti, .agg xs, .s (.int _ n) => match ti.k with
    | .arr len e => match T e with
      | some j => match pPart T e xs (n.toNat * j.size) with | some y => some (some (0 ≤ n ∧ n < len), y) | none => none
      | none => none
    | _ => none
  | _, _, _ => none

def pAddr (x : AV) (off : Nat) : Option AV :=
  match x with
  | .s (.pt row) => some (.s (.pt (row.drop off)))
  | .op k o => some (.op k (o + off))
  | .rp k sz i o => some (.rp k sz i (o + off))
  | _ => none

def pFieldAddr (T : Nat → Option TI) (t : Nat) (x : AV) (f : Nat) : Option (Option Prop × AV) :=
  match T t with
  | some i => match i.k with
    | .struct fs => match fs[f]? with
      | some (off, ft) => match T ft with
        | some j => match Nat.ble 1 j.size, pAddr x off with | true, some y => some (none, y) | _, _ => none
        | none => none
      | none => none
    | _ => none
  | none => none

def pIndexAddr (T : Nat → Option TI) (t : Nat) (x i : AV) : Option (Option Prop × AV) :=
  match T t, i with
  | some ti, .s (.int _ n) => match ti.k, x with
    | .slice e, .s (.sl sz rows) => match T e with
      | some j => match Nat.beq sz j.size with | true => some (some (0 ≤ n ∧ n < rows.length), .s (.pt (rows.getD n.toNat []))) | false => none
      | none => none
    | .arr len e, x => match T e with
      | some j => match pAddr x (n.toNat * j.size) with | some y => some (some (0 ≤ n ∧ n < len), y) | none => none
      | none => none
    | _, _ => none
  | _, _ => none

def bnd (d : Int) : Option AV → Option Int
  | none => some d
  | some (.s (.int _ n)) => some n
  | _ => none

def pSlice (T : Nat → Option TI) (t : Nat) (x : AV) (lo hi : Option AV) : Option (Option Prop × AV) :=
  match T t, x with
  | some ti, .s (.str l) => match ti.k, bnd 0 lo, bnd l.length hi with
    | .str, some a, some b => some (some (0 ≤ a ∧ a ≤ b ∧ b ≤ l.length), .s (.str ((l.take b.toNat).drop a.toNat)))
    | _, _, _ => none
  | some ti, .s (.sl sz rows) => match ti.k, bnd 0 lo, bnd rows.length hi with
    | .slice e, some a, some b => match T e with
      | some j => match Nat.beq sz j.size with | true => some (some (0 ≤ a ∧ a ≤ b ∧ b ≤ rows.length), .s (.sl sz ((rows.take b.toNat).drop a.toNat))) | false => none
      | none => none
    | _, _, _ => none
  | _, _ => none

def pLen (T : Nat → Option TI) (t : Nat) (x : AV) : Option (Option Prop × AV) :=
  match tk T t, x with
  | .str, .s (.str l) => some (none, .s (.int .i64 (l.length : Int)))
  | .slice _, .s (.sl _ rows) => some (none, .s (.int .i64 (rows.length : Int)))
  | .slice _, .nl _ => some (none, .s (.int .i64 0))
  | .arr n _, _ => some (none, .s (.int .i64 (n : Int)))
  | _, _ => none

/-- What a function that only makes memory does with persistent data. -/
inductive Ret where
  | val (x : AV)
  | row (e sz : Nat) (rows : List (List S))
/-- 'spec': what it does with data that it only reads. 'own', if told: what it does with the caller's own objects; the i-th argument object is the key i. -/
structure PSpec where
  spec : List AV → Ret → Prop
  own : Option (List AV → List Ob → AV → List (Option Ob) → Prop)
  /-- a slice that is handed over: where the caller hands nil, that is an own row without elements -/
  nil : Option Nat := none
  /-- what it does with the caller's own memory, told over all of it: 'heap xs hp nx Φ': called with these arguments over these objects, Φ is what may come of it -/
  heap : Option (List AV → (Nat → Option Ob) → Nat → (AV → (Nat → Option Ob) → Nat → Prop) → Prop) := none
def pspec (f : List AV → Ret → Prop) : PSpec := ⟨f, none, none, none⟩
def ospec (R : List AV → List Ob → AV → List (Option Ob) → Prop) (nil : Option Nat := none) : PSpec := ⟨fun _ _ => False, some R, nil, none⟩
def hspec (R : List AV → (Nat → Option Ob) → Nat → (AV → (Nat → Option Ob) → Nat → Prop) → Prop) : PSpec := ⟨fun _ _ => False, none, none, some R⟩

/-- Objects under the keys 0, 1, .. -/
def ObsAt (c : Cx) (G : Nat → Prop) (w : World) (β : Nat → Value) (os : List (Option Ob)) : Prop :=
  (∀ (i : Nat) ob, os[i]? = some (some ob) → ObAt c G w β (β i) ob ∧ ob.lt os.length = true) ∧
  ∀ (i j : Nat) ob ob', os[i]? = some (some ob) → os[j]? = some (some ob') → i ≠ j → ∀ b, blk (β i) = some b → blk (β j) ≠ some b

/-- What a function that is handed own objects may write. -/
def ownCx (P : Program) (w : World) (β : Nat → Value) (n : Nat) (G : Nat → Prop) (N : Nat) : Cx :=
  { P := P, w0 := w, X := fun b => ∃ i, i < n ∧ blk (β i) = some b, G0 := G, N := N, n0 := n, B0 := β }

def OwnSound (P : Program) (f : Nat) (R : List AV → List Ob → AV → List (Option Ob) → Prop) : Prop :=
  ∀ (G : Nat → Prop) (w : World) (β : Nat → Value) (xs : List AV) (vs : List Value) (os : List Ob) (x : AV) (os' : List (Option Ob)), (∀ b, G b → b < w.heap.size) → GlobOk G w → AVals G w β xs vs → AV.ltAll os.length xs = true →
    ObsAt (ownCx P w β os.length G 0) G w β (os.map some) → R xs os x os' →
    Calls P f vs.toArray w fun e w' => ∃ v G' β', e = .returned v ∧ Fr (ownCx P w β os.length G 0).X w w' ∧ (∀ b, G b → G' b) ∧ (∀ b, G' b → G b ∨ (ownCx P w β os.length G 0).mine b) ∧ (∀ b, G' b → b < w'.heap.size) ∧
      AVal G' w' β' x v ∧ x.lt os'.length = true ∧ os.length ≤ os'.length ∧ ObsAt (ownCx P w β os.length G 0) G' w' β' os' ∧ ∀ (i : Nat) ob, i < os.length → os'[i]? = some (some ob) → β' i = β i

/-- Own objects under keys below n. -/
structure HpAt (c : Cx) (G : Nat → Prop) (w : World) (β : Nat → Value) (hp : Nat → Option Ob) (n : Nat) : Prop where
  obs : ∀ k ob, hp k = some ob → ObAt c G w β (β k) ob
  lts : ∀ k ob, hp k = some ob → k < n ∧ ob.lt n = true
  inj : ∀ k k' ob ob', hp k = some ob → hp k' = some ob' → k ≠ k' → ∀ b, blk (β k) = some b → blk (β k') ≠ some b
/-- What a function may write that is handed all own objects. -/
def heapCx (P : Program) (w : World) (β : Nat → Value) (hp : Nat → Option Ob) (n : Nat) (G : Nat → Prop) (N : Nat) : Cx :=
  { P := P, w0 := w, X := fun b => ∃ k ob, hp k = some ob ∧ blk (β k) = some b, G0 := G, N := N, n0 := n, B0 := β }
def HeapSound (P : Program) (f : Nat) (R : List AV → (Nat → Option Ob) → Nat → (AV → (Nat → Option Ob) → Nat → Prop) → Prop) : Prop :=
  ∀ (G : Nat → Prop) (w : World) (β : Nat → Value) (xs : List AV) (vs : List Value) (hp : Nat → Option Ob) (n : Nat) (Φ : AV → (Nat → Option Ob) → Nat → Prop), (∀ b, G b → b < w.heap.size) → GlobOk G w →
    AVals G w β xs vs → AV.ltAll n xs = true → HpAt (heapCx P w β hp n G 0) G w β hp n → R xs hp n Φ →
    Calls P f vs.toArray w fun e w' => ∃ v G' β' x hp' n', e = .returned v ∧ Φ x hp' n' ∧ n ≤ n' ∧ Fr (heapCx P w β hp n G 0).X w w' ∧ (∀ b, G b → G' b) ∧ (∀ b, G' b → G b ∨ (heapCx P w β hp n G 0).mine b) ∧ (∀ b, G' b → b < w'.heap.size) ∧
      AVal G' w' β' x v ∧ x.lt n' = true ∧ HpAt (heapCx P w β hp n G 0) G' w' β' hp' n' ∧ ∀ k, k < n → β' k = β k

def AV.nrms (xs : List AV) : List AV := xs.map AV.nrm

/-- A row that nobody else holds: nil, or a block of its own. -/
def FreshRow (G : Nat → Prop) (w w' : World) (e sz : Nat) (rows : List (List S)) (v : Value) : Prop :=
  (∀ r ∈ rows, r.length = sz) ∧ 0 < sz ∧
      ((v = .slice none 0 0 ∧ rows = []) ∨ ∃ b cap cur, v = .slice (some ⟨b, 0, none⟩) rows.length cap ∧ rows.length ≤ cap ∧ cur.size = cap * sz ∧
        w'.heap[b]? = some (.cells cur e (0, 0)) ∧ ¬ G b ∧ w.heap.size ≤ b ∧ ∀ (i : Nat) s, rows.flatten[i]? = some s → ∃ u, cur[i]? = some u ∧ Rep G w' s u)

/-- What a value handed back is. -/
def RetAt (G : Nat → Prop) (w w' : World) (r : Ret) (v : Value) : Prop :=
  match r with
  | .val x => x.pers = true ∧ AVal G w' (fun _ => .tuple #[]) x v
  | .row e sz rows => FreshRow G w w' e sz rows v

def PSound (P : Program) (f : Nat) (s : PSpec) : Prop :=
  (∀ args w, (callFunc f args).run P w = .ok (.enter f args) w) ∧
  (∀ (G : Nat → Prop) (w : World) (xs : List AV) (vs : List Value) (r : Ret), (∀ b, G b → b < w.heap.size) → GlobOk G w → AV.persAll xs = true → AVals G w (fun _ => .tuple #[]) xs vs → s.spec xs r →
    Calls P f vs.toArray w fun e w' => ∃ v G', e = .returned v ∧ Ext G G' w w' ∧ RetAt G' w w' r v) ∧
  (∀ R, s.own = some R → OwnSound P f R) ∧ ∀ R, s.heap = some R → HeapSound P f R

def opds (T : Nat → Option TI) (env : Nat → AV) : List Operand → List Nat → List AV
  | [], _ => []
  | x :: xs, ts => (opd T env (ts.headD 0) x).deep :: opds T env xs ts.tail

/-- A call of a function of which the table tells what it does: that, and the arguments. -/
def callOf (T : Nat → Option TI) (Γ : Nat → Option PSpec) (o : Oper) (env : Nat → AV) : Option (Nat × PSpec × List AV) :=
  match o.op with
  | .call { callee := .value f, args := args, argTypes := ts } => match opd T env 0 f with
    | .s (.fn g) => match Γ g with
      | some s => match s.own, s.heap with
        | none, none => match AV.persAll (opds T env args.toList ts.toList) with
          | true => some (g, s, opds T env args.toList ts.toList)
          | false => none
        | _, _ => none
      | none => none
    | _ => none
  | _ => none

/-- A copy into a slice without elements. -/
def pCopy (T : Nat → Option TI) (t tx : Nat) (x y : AV) : Option (Option Prop × AV) :=
  match x, y with
  | .s (.sl _ []), .s (.sl _ _) => match tk T t, tk T tx with
    | .slice e, .slice _ => match T e with | some _ => some (none, .s (.int .i64 0)) | none => none
    | _, _ => none
  | _, _ => none

def pMin (op : Builtin) (xs : List AV) : Option (Option Prop × AV) :=
  match op, xs with
  | .min, [.s (.int k a), .s (.int k' b)] => match kEq k k' with | true => some (none, .s (.int k (if b < a then b else a))) | false => none
  | .max, [.s (.int k a), .s (.int k' b)] => match kEq k k' with | true => some (none, .s (.int k (if a < b then b else a))) | false => none
  | _, _ => none

def partsS (T : Nat → Option TI) (env : Nat → AV) (e : Nat) : Nat → List (Nat × Operand) → Option (List (List S))
  | _, [] => some []
  | i, (j, x) :: r => match Nat.beq i j, (opd T env e x).cellsS, partsS T env e (i + 1) r with
    | true, some cs, some rs => some (cs :: rs)
    | _, _, _ => none

/-- The cells of a value, whatever they are. -/
def AV.cellsA : AV → List AV
  | .agg xs => xs
  | x => [x.nrm]

/-- A list is reckoned to its end before it is handed on. -/
def spine {β : Type} : List AV → (List AV → β) → β
  | [], k => k []
  | x :: xs, k => spine xs fun ys => k (x :: ys)
theorem spine_eq {β : Type} : ∀ (l : List AV) (k : List AV → β), spine l k = k l
  | [], _ => rfl
  | x :: xs, k => by rw [spine, spine_eq xs]
/-- A struct or an array put together: 'place' says where a part lies and how many cells it has. -/
def fillA (T : Nat → Option TI) (env : Nat → AV) (place : Nat → Option (Nat × Nat)) : List AV → List (Nat × Operand) → Option (List AV)
  | cells, [] => some cells
  | cells, (j, x) :: r => match place j with
    | none => none
    | some (off, ft) => match T ft with
      | none => none
      | some i =>
        let xs := (opd T env ft x).cellsA
        match Nat.beq xs.length i.size, Nat.ble (off + i.size) cells.length, xs.all AV.one with
        | true, true, true => spine (cells.take off ++ xs ++ cells.drop (off + i.size)) fun l => fillA T env place l r
        | _, _, _ => none

def pBuild (T : Nat → Option TI) (env : Nat → AV) (t : Nat) (parts : List (Nat × Operand)) : Option (Option Prop × AV) :=
  match T t with
  | none => none
  | some i => match i.k with
    | .struct fs => match fs.all (fun q => (T q.2).isSome), fillA T env (fun j => fs[j]?) (i.zero.map zAV) parts with | true, some xs => some (none, .agg xs) | _, _ => none
    | .arr _ e => match T e with
      | some m => match fillA T env (fun j => some (j * m.size, e)) (i.zero.map zAV) parts with | some xs => some (none, .agg xs) | none => none
      | none => none
    | _ => none

def isNilConst : Operand → Bool
  | .const (.slice none 0 0) => true
  | _ => false

/-- One operation. 'own': what it makes is to be the frame's own. -/
def pstep (T : Nat → Option TI) (own : Bool) (o : Oper) (env : Nat → AV) : Option (Option Prop × AV) :=
  match o.op with
  | .move x | .assign x => match own && isNilConst x with
    | true => none
    | false => some (none, (opd T env o.type x).nrm)
  | .pick c x y => match opd T env 0 c with
    | .s (.bool true) => some (none, (opd T env o.type x).nrm)
    | .s (.bool false) => some (none, (opd T env o.type y).nrm)
    | _ => none
  | .box t x => match own with
    | true => none
    | false => match (opd T env t x).cellsS with | some cs => some (none, .s (.pt cs)) | none => none
  | .buildSlice t n parts => match own, T t with
    | false, some i => match i.k with
      | .slice e => match T e with
        | some j => match partsS T env e 0 parts.toList with
          | some rows => match Nat.beq rows.length n, rows.all (fun r => Nat.beq r.length j.size), Nat.ble 1 j.size, Nat.ble (n * j.size) 16777216 with
            | true, true, true, true => some (none, .s (.sl j.size rows))
            | _, _, _, _ => none
          | none => none
        | none => none
      | _ => none
    | _, _ => none
  | .build t parts => pBuild T env t parts.toList
  | .load t x => match opd T env 0 x with
    | .s (.pt row) => match loadS T t row with | some y => some (none, y) | none => none
    | _ => none
  | .nilCheck x => match opd T env 0 x with
    | .s (.pt row) => some (none, .s (.pt row))
    | .op k o => some (none, .op k o)
    | .rp k sz i o => some (none, .rp k sz i o)
    | .s (.fn f) => some (none, .s (.fn f))
    | .clo f xs => some (none, .clo f xs)
    | _ => none
  | .binOp op t x y u => pBin T t op (opd T env t x) (opd T env u y)
  | .unOp op t x => pUn op (opd T env t x)
  | .convert src dst x => pConv T src dst (opd T env src x).nrm
  | .makeFunc (.func f) first caps => match first.toList, caps.toList with
    | [], [] => some (none, .s (.fn f))
    | [], cs => some (none, .clo f (cs.map (opd T env 0)))
    | _, _ => none
  | .slice t x lo hi none => pSlice T t (opd T env t x).nrm (lo.map (opd T env 0)) (hi.map (opd T env 0))
  | .fieldAddr t x f => pFieldAddr T t (opd T env 0 x) f
  | .field t x f => pField T t (opd T env t x) f
  | .indexAddr t x i => pIndexAddr T t (opd T env t x).nrm (opd T env 0 i)
  | .index t x i => pIndex T t (opd T env t x) (opd T env 0 i)
  | .extract x i => match opd T env 0 x with
    | .tup xs => (match xs[i]? with | some y => some (none, y) | none => none)
    | _ => none
  | .call { callee := .builtin .len, args := args, argTypes := ts } => match args.toList, ts.toList with
    | [x], [t] => pLen T t (opd T env t x)
    | _, _ => none
  | .call { callee := .builtin .min, args := args, argTypes := _ } => pMin .min (args.toList.map (opd T env 0))
  | .call { callee := .builtin .max, args := args, argTypes := _ } => pMin .max (args.toList.map (opd T env 0))
  | .call { callee := .builtin .copy, args := args, argTypes := ts } => match args.toList, ts.toList with
    | [x, y], [t, tx] => pCopy T t tx (opd T env t x) (opd T env tx y)
    | _, _ => none
  | _ => none

end Go.Abs
