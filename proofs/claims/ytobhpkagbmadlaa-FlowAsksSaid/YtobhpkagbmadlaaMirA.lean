/-
  The program's plain types as Lean values, and their cells: types, paths, operands, values, instructions, functions as points.
-/
import Derived.Test.YtobhpkagbmadlaaLgS
set_option linter.unusedSimpArgs false
set_option linter.unusedVariables false
namespace Go.Lg
open Go Go.RowKit

def cI (n : Int) : List V := [.int .i64 n]
def cB (b : Bool) : List V := [.bool b]
def cS (s : ByteArray) : List V := [.str s]

structure MPath where
  loc : Int
  steps : List ByteArray
@[irreducible] def MPath.cells (p : MPath) : List V := [.int .i64 p.loc, encL cS p.steps]
def MPath.ok (p : MPath) : Prop := InI64 p.loc ∧ p.steps.length ≤ maxLen ∧ ∀ s ∈ p.steps, s.size ≤ maxLen

structure MOper where
  kind : Int
  n : Int
  path : MPath
@[irreducible] def MOper.cells (o : MOper) : List V := [.int .i64 o.kind, .int .i64 o.n, .int .i64 o.path.loc, encL cS o.path.steps]
def MOper.ok (o : MOper) : Prop := InI64 o.kind ∧ InI64 o.n ∧ o.path.ok

structure MVal where
  kind : Int
  a : MOper
  b : MOper
  op : Int
  path : MPath
  region : Int
  name : ByteArray
  regions : List Int
  args : List MOper
@[irreducible] def MVal.cells (v : MVal) : List V := [.int .i64 v.kind, .int .i64 v.a.kind, .int .i64 v.a.n, .int .i64 v.a.path.loc, encL cS v.a.path.steps, .int .i64 v.b.kind, .int .i64 v.b.n, .int .i64 v.b.path.loc, encL cS v.b.path.steps,
  .int .i64 v.op, .int .i64 v.path.loc, encL cS v.path.steps, .int .i64 v.region, .str v.name, encL cI v.regions, encL MOper.cells v.args]
def MVal.ok (v : MVal) : Prop := InI64 v.kind ∧ v.a.ok ∧ v.b.ok ∧ InI64 v.op ∧ v.path.ok ∧ InI64 v.region ∧ v.name.size ≤ maxLen ∧ (v.regions.length ≤ maxLen ∧ ∀ x ∈ v.regions, InI64 x) ∧ (v.args.length ≤ maxLen ∧ ∀ x ∈ v.args, x.ok)

structure MInst where
  kind : Int
  at' : Int
  has : Bool
  to : MPath
  val : MVal
  next : List Int
@[irreducible] def MInst.cells (x : MInst) : List V := [.int .i64 x.kind, .int .i64 x.at', .bool x.has, .int .i64 x.to.loc, encL cS x.to.steps, .int .i64 x.val.kind, .int .i64 x.val.a.kind, .int .i64 x.val.a.n, .int .i64 x.val.a.path.loc, encL cS x.val.a.path.steps,
  .int .i64 x.val.b.kind, .int .i64 x.val.b.n, .int .i64 x.val.b.path.loc, encL cS x.val.b.path.steps, .int .i64 x.val.op, .int .i64 x.val.path.loc, encL cS x.val.path.steps, .int .i64 x.val.region, .str x.val.name, encL cI x.val.regions, encL MOper.cells x.val.args, encL cI x.next]
def MInst.ok (x : MInst) : Prop := InI64 x.kind ∧ InI64 x.at' ∧ x.to.ok ∧ x.val.ok ∧ x.next.length ≤ maxLen ∧ ∀ y ∈ x.next, InI64 y

inductive RT where
  | mk (kind : Int) (name : ByteArray) (regions : List Int) (elem : List RT)
def RT.kind : RT → Int | .mk k _ _ _ => k
def RT.name : RT → ByteArray | .mk _ n _ _ => n
def RT.regions : RT → List Int | .mk _ _ r _ => r
def RT.elem : RT → List RT | .mk _ _ _ e => e
mutual
def RT.cells : RT → List V
  | .mk k n r e => [.int .i64 k, .str n, encL cI r, .sl e.length (RT.cellsL e)]
def RT.cellsL : List RT → List V
  | [] => []
  | x :: r => RT.cells x ++ RT.cellsL r
end
mutual
def RT.ok : RT → Prop
  | .mk k n r e => InI64 k ∧ n.size ≤ maxLen ∧ (r.length ≤ maxLen ∧ ∀ x ∈ r, InI64 x) ∧ e.length ≤ maxLen ∧ RT.okL e
def RT.okL : List RT → Prop
  | [] => True
  | x :: r => RT.ok x ∧ RT.okL r
end
theorem RT.cellsL_eq : ∀ l : List RT, RT.cellsL l = l.flatMap RT.cells
  | [] => rfl
  | x :: r => by rw [RT.cellsL, RT.cellsL_eq r]; rfl
theorem RT.okL_iff : ∀ l : List RT, RT.okL l ↔ ∀ x ∈ l, x.ok
  | [] => by simp [RT.okL]
  | x :: r => by rw [RT.okL, RT.okL_iff r]; simp
theorem RT.cells_eq (t : RT) : t.cells = [.int .i64 t.kind, .str t.name, encL cI t.regions, encL RT.cells t.elem] := by
  cases t with
  | mk k n r e => rw [RT.cells, RT.cellsL_eq]; rfl
theorem RT.ok_iff (t : RT) : t.ok ↔ InI64 t.kind ∧ t.name.size ≤ maxLen ∧ (t.regions.length ≤ maxLen ∧ ∀ x ∈ t.regions, InI64 x) ∧ t.elem.length ≤ maxLen ∧ ∀ x ∈ t.elem, x.ok := by
  cases t with
  | mk k n r e => rw [RT.ok, RT.okL_iff]; rfl

structure MLocal where
  name : ByteArray
  type : RT
  param : Bool
@[irreducible] def MLocal.cells (l : MLocal) : List V := [.str l.name, .int .i64 l.type.kind, .str l.type.name, encL cI l.type.regions, encL RT.cells l.type.elem, .bool l.param]
def MLocal.ok (l : MLocal) : Prop := l.name.size ≤ maxLen ∧ l.type.ok

structure Mir where
  at' : Int
  free : Int
  regions : Int
  known : List (List Int)
  locals : List MLocal
  code : List MInst
@[irreducible] def Mir.cells (m : Mir) : List V := [.int .i64 m.at', .int .i64 m.free, .int .i64 m.regions, encL (fun k : List Int => k.flatMap cI) m.known, encL MLocal.cells m.locals, encL MInst.cells m.code]
def Mir.ok (m : Mir) : Prop := InI64 m.at' ∧ InI64 m.free ∧ InI64 m.regions ∧ (m.known.length ≤ maxLen ∧ ∀ k ∈ m.known, k.length = 2 ∧ ∀ x ∈ k, InI64 x) ∧ (m.locals.length ≤ maxLen ∧ ∀ x ∈ m.locals, x.ok) ∧ (m.code.length ≤ maxLen ∧ ∀ x ∈ m.code, x.ok)

theorem cI_len (x : Int) : (cI x).length = 1 := rfl
theorem cB_len (x : Bool) : (cB x).length = 1 := rfl
theorem cS_len (x : ByteArray) : (cS x).length = 1 := rfl
theorem MPath.len (x : MPath) : x.cells.length = 2 := by simp [MPath.cells]
theorem MOper.len (x : MOper) : x.cells.length = 4 := by simp [MOper.cells]
theorem MVal.len (x : MVal) : x.cells.length = 16 := by simp [MVal.cells]
theorem MInst.len (x : MInst) : x.cells.length = 22 := by simp [MInst.cells]
theorem RT.len (x : RT) : x.cells.length = 4 := by rw [RT.cells_eq]; rfl
theorem MLocal.len (x : MLocal) : x.cells.length = 6 := by simp [MLocal.cells]
theorem Mir.len (x : Mir) : x.cells.length = 6 := by simp [Mir.cells]

theorem MOper.cells_split (o : MOper) : o.cells = cI o.kind ++ (cI o.n ++ (o.path.cells ++ [])) := by simp [MOper.cells, MPath.cells, cI]
theorem MVal.cells_split (v : MVal) : v.cells = cI v.kind ++ (v.a.cells ++ (v.b.cells ++ (cI v.op ++ (v.path.cells ++ (cI v.region ++ (cS v.name ++ ([encL cI v.regions] ++ ([encL MOper.cells v.args] ++ [])))))))) := by
  simp [MVal.cells, MOper.cells, MPath.cells, cI, cS]
theorem MInst.cells_split (x : MInst) : x.cells = cI x.kind ++ (cI x.at' ++ (cB x.has ++ (x.to.cells ++ (x.val.cells ++ ([encL cI x.next] ++ []))))) := by
  simp [MInst.cells, MVal.cells, MPath.cells, cI, cB]
theorem MLocal.cells_split (l : MLocal) : l.cells = cS l.name ++ (l.type.cells ++ (cB l.param ++ [])) := by
  simp [MLocal.cells, RT.cells_eq, cS, cB]

end Go.Lg
