/-
  THE ABSTRACT MACHINE, PART H: one operation on what the frame owns.
-/
import Derived.Test.YtefbmooajknmgaaDoorAbsG
set_option linter.unusedSimpArgs false
set_option linter.unusedVariables false
namespace Go.Abs

/-- The rows that a value of a slice's or a string's type has: the size of each, and they. -/
def rowsOf (T : Nat → Option TI) (σ : St) (tx : Nat) (x : AV) : Option (Nat × List (List S)) :=
  match tk T tx, x with
  | .slice _, .nl sz => some (sz, [])
  | .slice _, .s (.sl sz rows) => some (sz, rows)
  | .slice _, .orow k => match σ.hp k with | some (.row _ sz rows) => some (sz, rows) | _ => none
  | .str, .s (.str l) => some (1, l.map brow)
  | _, _ => none

def elemOf (T : Nat → Option TI) (t : Nat) : Option (Nat × TI) :=
  match T t with
  | some i => match i.k with
    | .slice e => match T e with | some j => some (e, j) | none => none
    | _ => none
  | none => none

/-- The base of an append: its key (none: nil), its rows. -/
def baseOf (σ : St) (x : AV) : Option (Option Nat × Nat × Nat × List (List S)) :=
  match x with
  | .nl sz => some (none, 0, sz, [])
  | .orow k => match σ.hp k with | some (.row e sz rows) => some (some k, e, sz, rows) | _ => none
  | _ => none

def lAppend (T : Nat → Option TI) (σ : St) (t tx : Nat) (x y : AV) : Option (Option Prop × AV × St) :=
  match elemOf T t, baseOf σ x, rowsOf T σ tx y with
  | some (e, j), some (k, e', sz, rows), some (sz', rows') =>
    match Nat.beq sz j.size, Nat.beq sz' j.size, Nat.ble 1 j.size with
    | true, true, true =>
      match k with
      | none => some (some (rows'.length * j.bytes ≤ 140737488355328 ∧ rows'.length ≤ 9223372036854775807), .orow σ.nx, addOb σ (.row e sz rows'))
      | some k => match Nat.beq e e' with
        | true => some (some ((rows.length + rows'.length) * j.bytes ≤ 140737488355328 ∧ rows.length + rows'.length ≤ 9223372036854775807), .orow σ.nx, addOb (ridOb σ k) (.row e sz (rows ++ rows')))
        | false => none
    | _, _, _ => none
  | _, _, _ => none

def lstep (T : Nat → Option TI) (own : Bool) (o : Oper) (σ : St) : Option (Option Prop × AV × St) :=
  match o.op with
  | .move x | .assign x => match own && isNilConst x, elemOf T o.type with
    | true, some (e, j) => match Nat.ble 1 j.size with | true => some (none, .orow σ.nx, addOb σ (.row e j.size [])) | false => none
    | _, _ => none
  | .box t x => match ((opd T σ.env t x).cellsA).all AV.one, AV.ltAll σ.nx (opd T σ.env t x).cellsA with
    | true, true => some (none, .op σ.nx 0, addOb σ (.box t (opd T σ.env t x).cellsA))
    | _, _ => none
  | .alloc t => match T t with
    | some i => spine (i.zero.map zAV) fun l => some (none, .op σ.nx 0, addOb σ (.box t l))
    | none => none
  | .buildSlice t n parts => match elemOf T t with
    | some (e, j) => match partsS T σ.env e 0 parts.toList with
      | some rows => match Nat.beq rows.length n, rows.all (fun r => Nat.beq r.length j.size), Nat.ble 1 j.size, Nat.ble (n * j.size) 16777216 with
        | true, true, true, true => some (none, .orow σ.nx, addOb σ (.row e j.size rows))
        | _, _, _, _ => none
      | none => none
    | none => none
  | .makeSlice t l c => match elemOf T t, opd T σ.env 0 l, opd T σ.env 0 c with
    | some (e, j), .s (.int _ n), .s (.int _ m) => match Nat.ble 1 j.size with
      | true => some (some (0 ≤ n ∧ n ≤ m ∧ m * j.bytes ≤ 281474976710656 ∧ m ≤ 281474976710656), .orow σ.nx, addOb σ (.row e j.size (List.replicate n.toNat j.zero)))
      | false => none
    | _, _, _ => none
  | .load t x => match opd T σ.env 0 x with
    | .op k off => match σ.hp k, T t with
      | some (.box _ cells), some i => match i.k.agg with
        | true => match Nat.ble (off + i.size) cells.length with | true => some (none, .agg ((cells.drop off).take i.size), σ) | false => none
        | false => match cells[off]? with | some y => some (none, y, σ) | none => none
      | _, _ => none
    | _ => none
  | .store t x y => match opd T σ.env 0 x, T t with
    | .op k off, some i => match σ.hp k with
      | some (.box bt cells) =>
        let cs := (opd T σ.env t y).cellsA
        match Nat.beq cs.length i.size, Nat.ble (off + i.size) cells.length, cs.all AV.one, AV.ltAll σ.nx cs with
        | true, true, true, true => spine (cells.take off ++ cs ++ cells.drop (off + i.size)) fun l => some (none, .junk, updOb σ k (.box bt l))
        | _, _, _, _ => none
      | _ => none
    | .rp k sz j off, some i => match σ.hp k, (opd T σ.env t y).cellsS with
      | some (.row e sz' rows), some ss => match Nat.beq sz sz', Nat.beq ss.length i.size, Nat.ble (off + i.size) sz with
        | true, true, true => some (some (j < rows.length), .junk, updOb σ k (.row e sz (rows.set j ((rows.getD j []).take off ++ ss ++ (rows.getD j []).drop (off + i.size)))))
        | _, _, _ => none
      | _, _ => none
    | _, _ => none
  | .indexAddr t x i => match elemOf T t, opd T σ.env t x, opd T σ.env 0 i with
    | some (_, j), .orow k, .s (.int _ n) => match σ.hp k with
      | some (.row _ sz rows) => match Nat.beq sz j.size with | true => some (some (0 ≤ n ∧ n < rows.length), .rp k sz n.toNat 0, σ) | false => none
      | _ => none
    | _, _, _ => none
  | .convert src dst x => match elemOf T src, tk T dst, opd T σ.env src x with
    | some (_, j), .str, .orow k => match j.k, σ.hp k with
      | .int .u8, some (.row _ sz rows) => match Nat.beq sz 1 with | true => some (some (rows = (rows.map browOf).map brow), .s (.str (rows.map browOf)), σ) | false => none
      | _, _ => none
    | some (_, j), .slice _, .orow k => match j.k, σ.hp k with
      | .int .u8, some (.row _ sz rows) => match Nat.beq src dst with | true => some (some (rows ≠ []), .s (.sl sz rows), ridOb σ k) | false => none
      | _, _ => none
    | _, _, _ => none
  | .slice t x none (some hi) none => match elemOf T t, opd T σ.env t x, opd T σ.env 0 hi with
    | some (_, j), .orow k, .s (.int _ n) => match σ.hp k with
      | some (.row e sz rows) => match Nat.beq sz j.size with | true => some (some (0 ≤ n ∧ n ≤ rows.length), .orow σ.nx, addOb (ridOb σ k) (.row e sz (rows.take n.toNat))) | false => none
      | _ => none
    | _, _, _ => none
  | .call { callee := .builtin .len, args := args, argTypes := ts } => match args.toList, ts.toList with
    | [x], [t] => match tk T t, opd T σ.env t x with
      | .slice _, .orow k => match σ.hp k with
        | some (.row _ _ rows) => some (none, .s (.int .i64 (rows.length : Int)), σ)
        | _ => none
      | _, _ => none
    | _, _ => none
  | .call { callee := .builtin .append, args := args, argTypes := ts } => match args.toList, ts.toList with
    | [x, y], [t, tx] => lAppend T σ t tx (opd T σ.env t x) (opd T σ.env tx y)
    | _, _ => none
  | _ => none

/-- The rows of any cells that a value of a slice's or a string's type has. -/
def rowsA (T : Nat → Option TI) (σ : St) (tx : Nat) (x : AV) : Option (Nat × List (List AV)) :=
  match tk T tx, x with
  | .slice _, .nl sz => some (sz, [])
  | .slice _, .s (.sl sz rows) => some (sz, rows.map (·.map AV.s))
  | .slice _, .orow k => match σ.hp k with
    | some (.row _ sz rows) => some (sz, rows.map (·.map AV.s))
    | some (.arow _ sz rows) => some (sz, rows)
    | _ => none
  | _, _ => none
def baseA (σ : St) (x : AV) : Option (Nat × Nat × Nat × List (List AV)) :=
  match x with
  | .orow k => match σ.hp k with | some (.arow e sz rows) => some (k, e, sz, rows) | _ => none
  | _ => none
def partsA (T : Nat → Option TI) (env : Nat → AV) (e : Nat) : Nat → List (Nat × Operand) → Option (List (List AV))
  | _, [] => some []
  | i, (j, x) :: r => match Nat.beq i j, ((opd T env e x).cellsA).all AV.one, partsA T env e (i + 1) r with
    | true, true, some rs => some ((opd T env e x).cellsA :: rs)
    | _, _, _ => none

/-- One operation on own rows of any cells. -/
def lstepA (T : Nat → Option TI) (o : Oper) (σ : St) : Option (Option Prop × AV × St) :=
  match o.op with
  | .buildSlice t n parts => match elemOf T t with
    | some (e, j) => match partsA T σ.env e 0 parts.toList with
      | some rows => match Nat.beq rows.length n, rows.all (fun r => Nat.beq r.length j.size), Nat.ble 1 j.size, Nat.ble (n * j.size) 16777216 with
        | true, true, true, true => some (none, .orow σ.nx, addOb σ (.arow e j.size rows))
        | _, _, _, _ => none
      | none => none
    | none => none
  | .store t x y => match opd T σ.env 0 x, T t with
    | .rp k sz j off, some i => match σ.hp k with
      | some (.arow e sz' rows) => match Nat.beq sz sz', Nat.beq (opd T σ.env t y).cellsA.length i.size, Nat.ble (off + i.size) sz, ((opd T σ.env t y).cellsA).all AV.one with
        | true, true, true, true => some (some (j < rows.length), .junk, updOb σ k (.arow e sz (rows.set j ((rows.getD j []).take off ++ (opd T σ.env t y).cellsA ++ (rows.getD j []).drop (off + i.size)))))
        | _, _, _, _ => none
      | _ => none
    | _, _ => none
  | .indexAddr t x i => match elemOf T t, opd T σ.env t x, opd T σ.env 0 i with
    | some (_, j), .orow k, .s (.int _ n) => match σ.hp k with
      | some (.arow _ sz rows) => match Nat.beq sz j.size with | true => some (some (0 ≤ n ∧ n < rows.length), .rp k sz n.toNat 0, σ) | false => none
      | _ => none
    | _, _, _ => none
  | .slice t x none (some hi) none => match elemOf T t, opd T σ.env t x, opd T σ.env 0 hi with
    | some (_, j), .orow k, .s (.int _ n) => match σ.hp k with
      | some (.arow e sz rows) => match Nat.beq sz j.size with | true => some (some (0 ≤ n ∧ n ≤ rows.length), .orow σ.nx, addOb (ridOb σ k) (.arow e sz (rows.take n.toNat))) | false => none
      | _ => none
    | _, _, _ => none
  | .call { callee := .builtin .len, args := args, argTypes := ts } => match args.toList, ts.toList with
    | [x], [t] => match tk T t, opd T σ.env t x with
      | .slice _, .orow k => match σ.hp k with
        | some (.arow _ _ rows) => some (none, .s (.int .i64 (rows.length : Int)), σ)
        | _ => none
      | _, _ => none
    | _, _ => none
  | .call { callee := .builtin .append, args := args, argTypes := ts } => match args.toList, ts.toList with
    | [x, y], [t, tx] => match elemOf T t, baseA σ (opd T σ.env t x), rowsA T σ tx (opd T σ.env tx y) with
      | some (e, j), some (k, e', sz, rows), some (sz', rows') =>
        match Nat.beq sz j.size, Nat.beq sz' j.size, Nat.beq e e' with
        | true, true, true => some (some ((rows.length + rows'.length) * j.bytes ≤ 140737488355328 ∧ rows.length + rows'.length ≤ 9223372036854775807), .orow σ.nx, addOb (ridOb σ k) (.arow e sz (rows ++ rows')))
        | _, _, _ => none
      | _, _, _ => none
    | _, _ => none
  | .call { callee := .builtin .copy, args := args, argTypes := ts } => match args.toList, ts.toList with
    | [x, y], [t, tx] => match elemOf T t, baseA σ (opd T σ.env t x), rowsA T σ tx (opd T σ.env tx y) with
      | some (e, j), some (k, e', sz, rows), some (sz', rows') =>
        match Nat.beq sz j.size, Nat.beq sz' j.size with
        | true, true => some (some (rows'.length = rows.length), .s (.int .i64 (rows.length : Int)), updOb σ k (.arow e' sz rows'))
        | _, _ => none
      | _, _, _ => none
    | _, _ => none
  | _ => none

end Go.Abs
