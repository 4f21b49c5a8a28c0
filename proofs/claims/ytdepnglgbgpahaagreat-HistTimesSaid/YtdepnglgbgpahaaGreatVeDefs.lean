/-
  A deterministic interpreter for the part of the language that these programs use, over memory with names of its own: definitions only.
-/
import Derived.Calls
import Derived.Orders
import Derived.Lib.Bytealg
set_option linter.unusedSectionVars false
set_option linter.unusedVariables false
set_option linter.unusedSimpArgs false
namespace Go.VE
open Go
noncomputable section

/-- A finite table by numbers. -/
inductive Tr (α : Type) where
  | nil
  | leaf (v : α)
  | node (l r : Tr α)

namespace Tr
variable {α : Type}
def get (d : Nat) (t : Tr α) (k : Nat) : Option α :=
  Nat.rec (motive := fun _ => Tr α → Nat → Option α)
    (fun t k => match t with | .leaf v => Nat.rec (motive := fun _ => Option α) (some v) (fun _ _ => none) k | _ => none)
    (fun _ ih t k => match t with
      | .node l r => Nat.rec (motive := fun _ => Option α) (ih l (Nat.div k 2)) (fun _ _ => ih r (Nat.div k 2)) (Nat.mod k 2)
      | _ => none) d t k
def set (v : Option α) (d : Nat) (t : Tr α) (k : Nat) : Tr α :=
  Nat.rec (motive := fun _ => Tr α → Nat → Tr α)
    (fun t k => Nat.rec (motive := fun _ => Tr α) (match v with | some x => .leaf x | none => .nil) (fun _ _ => t) k)
    (fun _ ih t k => match t with
      | .node l r => Nat.rec (motive := fun _ => Tr α) (.node (ih l (Nat.div k 2)) r) (fun _ _ => .node l (ih r (Nat.div k 2))) (Nat.mod k 2)
      | _ => Nat.rec (motive := fun _ => Tr α) (.node (ih .nil (Nat.div k 2)) .nil) (fun _ _ => .node .nil (ih .nil (Nat.div k 2))) (Nat.mod k 2)) d t k
end Tr

/-- What a block holds. 'es' above 0: a slice's row, of elements of so many cells. -/
inductive AObj where
  | cells (vs : List Value) (es : Nat)
  | map (es : List MapEntry) (clock : Nat)
  | iter (m : Option Nat) (since : Nat) (seen : List Nat) (stepped : Nat)
  | ro (vs : List Value)

def depth : Nat := 12

structure St where
  h : Tr AObj
  nx : Nat

namespace St
def get (s : St) (i : Nat) : Option AObj := s.h.get depth i
def put (s : St) (i : Nat) (o : Option AObj) : St := { s with h := s.h.set o depth i }
def push (s : St) (o : AObj) : St := { h := s.h.set (some o) depth s.nx, nx := s.nx + 1 }
/-- only read -/
def ro (s : St) (i : Nat) : Bool := match s.get i with
  | some (.ro _) => true
  | _ => false
end St

/-- the k-th -/
def nth {α : Type} (d : α) (l : List α) (k : Nat) : α :=
  List.rec (motive := fun _ => Nat → α) (fun _ => d) (fun a _ ih k => Nat.rec (motive := fun _ => α) a (fun j _ => ih j) k) l k
def setNth {α : Type} (v : α) (l : List α) (k : Nat) : List α :=
  List.rec (motive := fun _ => Nat → List α) (fun _ => []) (fun a r ih k => Nat.rec (motive := fun _ => List α) (v :: r) (fun j _ => a :: ih j) k) l k
def len {α : Type} (l : List α) : Nat := List.rec (motive := fun _ => Nat → Nat) (fun n => n) (fun _ _ ih n => ih (n + 1)) l 0
def app {α : Type} (l m : List α) : List α := List.rec (motive := fun _ => List α) m (fun a _ ih => a :: ih) l

structure TI where
  size : Nat
  bytes : Nat
  zero : Value
  agg : Bool
  d : TypeDesc

structure FnI where
  code : Code
  ntmps : Nat
  results : List ResultVar

structure Tab where
  fn : Nat → Option FnI
  ty : Nat → Option TI
  meth : Nat → String → Option (Nat × Option Nat)
  ext : Nat → Option (List Value → Option Value)

def atom : Value → Bool
  | .bool _ | .int _ _ | .string _ | .pointer none | .map none | .nilFunc | .nilIface => true
  | .slice none 0 0 => true
  | _ => false
def plain : Value → Bool
  | .agg cs => cs.toList.all atom
  | .tuple cs => cs.toList.all atom
  | v => atom v

def evalO (t : List Value) : Operand → Option Value
  | .tmp k => some (nth undef t k)
  | .const v => if plain v then some v else none
  | .func f => some (.func (.func f) #[] #[])
  | .global _ => none

def pureRun {α : Type} (P : Program) : Sem α → Option α
  | .pure a => some a
  | .program k => pureRun P (k P)
  | .mark _ k => pureRun P k
  | _ => none

/-- n cells from off on, if there are so many -/
def slc (vs : List Value) (off n : Nat) : Option (List Value) :=
  List.rec (motive := fun _ => Nat → Nat → Option (List Value))
    (fun off n => Nat.rec (motive := fun _ => Option (List Value)) (Nat.rec (motive := fun _ => Option (List Value)) (some []) (fun _ _ => none) n) (fun _ _ => none) off)
    (fun v _ ih off n => Nat.rec (motive := fun _ => Option (List Value))
      (Nat.rec (motive := fun _ => Option (List Value)) (some []) (fun m _ => match ih 0 m with | some r => some (v :: r) | none => none) n)
      (fun o _ => ih o n) off) vs off n

def rd (s : St) (a : Addr) (n : Nat) : Option (List Value) :=
  match a.spot with
  | some _ => none
  | none => match s.get a.block with
    | some (.cells vs _) => slc vs a.off n
    | some (.ro vs) => slc vs a.off n
    | _ => none

def spl (vs : List Value) (off : Nat) (ws : List Value) : Option (List Value) :=
  List.rec (motive := fun _ => Nat → List Value → Option (List Value))
    (fun off ws => Nat.rec (motive := fun _ => Option (List Value)) (match ws with | [] => some [] | _ :: _ => none) (fun _ _ => none) off)
    (fun v r ih off ws => Nat.rec (motive := fun _ => Option (List Value))
      (match ws with | [] => some (v :: r) | w :: q => match ih 0 q with | some r => some (w :: r) | none => none)
      (fun o _ => match ih o ws with | some r => some (v :: r) | none => none) off) vs off ws

def oneCell : Value → Bool
  | .agg _ | .tuple _ => false
  | _ => true

def wr (s : St) (a : Addr) (ws : List Value) : Option St :=
  match a.spot with
  | some _ => none
  | none => match s.get a.block with
    | some (.cells vs es) => match ws.all oneCell with
      | true => match spl vs a.off ws with
        | some r => some (s.put a.block (some (.cells r es)))
        | none => none
      | false => none
    | _ => none

def rdT (ti : TI) (s : St) (a : Addr) : Option Value :=
  match rd s a ti.size with
  | some vs => if ti.agg then some (.agg vs.toArray) else match vs with
    | [v] => some v
    | _ => none
  | none => none

def evalL (t : List Value) (l : List Operand) : Option (List Value) :=
  List.rec (motive := fun _ => Option (List Value)) (some [])
    (fun x _ ih => match evalO t x, ih with
      | some v, some vs => some (v :: vs)
      | _, _ => none) l

def evalP (t : List Value) (l : List (Nat × Operand)) : Option (List (Nat × Value)) :=
  List.rec (motive := fun _ => Option (List (Nat × Value))) (some [])
    (fun x _ ih => match evalO t x.2, ih with
      | some v, some vs => some ((x.1, v) :: vs)
      | _, _ => none) l

/-- a slice's capacity: an even number: so many by two; an odd one: not known, at least the length. -/
def exact (n : Nat) : Nat := 2 * n
def unknownCap : Nat := 1

/-- the places of a type's parts -/
def placesOf (T : Tab) : List Field → Option (List (Nat × Nat))
  | [] => some []
  | f :: r => match T.ty f.type, placesOf T r with
    | some ti, some l => some ((f.offset, ti.size) :: l)
    | _, _ => none

def buildV (T : Tab) (ti : TI) (parts : List (Nat × Value)) : Option Value :=
  match ti.d with
  | .struct fields => match placesOf T fields.toList with
    | some l => (Instr.fill (fun i => l[i]?) ti.zero.cells parts).map .agg
    | none => none
  | .array _ e => match T.ty e with
    | some te => (Instr.fill (fun i => some (i * te.size, te.size)) ti.zero.cells parts).map .agg
    | none => none
  | _ => none

def zeros (zero : List Value) : Nat → List Value
  | 0 => []
  | n + 1 => zero ++ zeros zero n

def keyEq : Value → Value → Option Bool
  | .int j a, .int k b => if j = k then some (a == b) else none
  | .string a, .string b => some (a == b)
  | .bool a, .bool b => some (a == b)
  | _, _ => none
def findK (k : Value) : List MapEntry → Nat → Option (Option (Nat × Value))
  | [], _ => some none
  | e :: es, i => match keyEq k e.key with
    | some true => some (some (i, e.val))
    | some false => findK k es (i + 1)
    | none => none
def keyTy : TypeDesc → Value → Bool
  | .int _, .int _ _ | .string, .string _ | .bool, .bool _ => true
  | _, _ => false

abbrev Res := Option (Value × St)

def ok (v : Value) (s : St) : Res := some (v, s)

/-- the capacity: at least so much -/
def capLow (c n : Nat) : Nat := if c % 2 = 0 then c / 2 else n
/-- the capacity behind a cut at l -/
def capCut (c l : Nat) : Nat := if c % 2 = 0 then exact (c / 2 - l) else unknownCap

/-- a slice's value, cut -/
def cutSlice (a : Addr) (n c size l h : Nat) (m : Option Nat) : Option Value :=
  match m with
  | none => if l ≤ h ∧ h ≤ n then some (.slice (some ⟨a.block, a.off + l * size, none⟩) (h - l) (capCut c l)) else none
  | some m => if l ≤ h ∧ h ≤ m ∧ m ≤ capLow c n ∧ h ≤ n then some (.slice (some ⟨a.block, a.off + l * size, none⟩) (h - l) (exact (m - l))) else none

def asN : Value → Option Nat
  | .int _ n => if 0 ≤ n then some n.toNat else none
  | _ => none

def natOr (d : Nat) : Option Value → Option Nat
  | none => some d
  | some v => asN v

/-- may a slice of elements of so many cells be cut there? -/
def rowOk (s : St) (b l size : Nat) : Bool :=
  match l with
  | 0 => true
  | _ => match s.get b with
    | some (.cells _ es) => es == 0 || es == size
    | _ => false

def sliceSlice (s : St) (size : Nat) (a : Addr) (n c : Nat) (lo hi mx : Option Value) : Option Value :=
  match natOr 0 lo, natOr n hi with
  | some l, some h => if rowOk s a.block l size then match mx with
      | none => cutSlice a n c size l h none
      | some v => match asN v, hi with
        | some m, some _ => cutSlice a n c size l h (some m)
        | _, _ => none
    else none
  | _, _ => none

def sliceNone (lo hi mx : Option Value) : Option Value :=
  match natOr 0 lo, natOr 0 hi with
  | some 0, some 0 => match mx with
    | none => some (.slice none 0 0)
    | some v => match asN v, hi with
      | some 0, some _ => some (.slice none 0 0)
      | _, _ => none
  | _, _ => none

def sliceArr (s : St) (size n : Nat) (a : Addr) (lo hi : Option Value) : Option Value :=
  match natOr 0 lo, natOr n hi, s.get a.block with
  | some l, some h, some (.cells _ 0) => if l ≤ h ∧ h ≤ n ∧ n ≤ 1000000 then some (.slice (some (if n = l then a else ⟨a.block, a.off + l * size, none⟩)) (h - l) (exact (n - l))) else none
  | _, _, _ => none

def sliceOp (T : Tab) (s : St) (t : TypeId) (x : Value) (lo hi mx : Option Value) : Option Value :=
  match T.ty t with
  | none => none
  | some ti =>
    match ti.d, x with
    | .slice e, .slice (some a) n c => match T.ty e with
      | some te => sliceSlice s te.size a n c lo hi mx
      | none => none
    | .slice e, .slice none 0 0 => match T.ty e with
      | some _ => sliceNone lo hi mx
      | none => none
    | .array n e, .pointer (some a) => match T.ty e, mx with
      | some te, none => sliceArr s te.size n a lo hi
      | _, _ => none
    | _, _ => none

def sliceCells (s : St) (size : Nat) : Value → Option (List Value)
  | .slice none 0 0 => some []
  | .slice (some a) n _ => if n = 0 then some [] else rd s a (n * size)
  | .string b => some (b.data.toList.map fun x => .int .u8 x.toNat)
  | _ => none

def lenV : Value → Option Nat
  | .slice _ n _ => some n
  | .string b => some b.size
  | _ => none

/-- is there room for so many elements of so many bytes? -/
def fits (n bytes : Nat) : Bool := Nat.ble (n * bytes) 140737488355328 && Nat.ble n 1000000000

/-- append: the row that was appended to has no other name behind it -/
def appendExact (s : St) (size : Nat) (a : Addr) (n c m : Nat) (news : List Value) : Res :=
  if n + m ≤ c / 2 then (match wr s ⟨a.block, a.off + n * size, none⟩ news with
      | some s => ok (.slice (some a) (n + m) c) s
      | none => none)
    else match sliceCells s size (.slice (some a) n c) with
      | some olds => ok (.slice (some ⟨s.nx, 0, none⟩) (n + m) unknownCap) (s.push (.cells (app olds news) size))
      | none => none
def appendOpen (s : St) (size : Nat) (a : Addr) (n c m : Nat) (news : List Value) : Res :=
  match s.get a.block, sliceCells s size (.slice (some a) n c) with
    | some (.cells _ es), some olds => if es = size then ok (.slice (some ⟨s.nx, 0, none⟩) (n + m) unknownCap) ((s.put a.block none).push (.cells (app olds news) size)) else none
    | _, _ => none
def appendTo (s : St) (size : Nat) (a : Addr) (n c m : Nat) (news : List Value) : Res :=
  match c % 2 with
  | 0 => appendExact s size a n c m news
  | _ => appendOpen s size a n c m news

def appendOp (ti : TI) (s : St) (x : Value) (news : List Value) (m : Nat) : Res :=
  if len news = m * ti.size ∧ news.all oneCell = true ∧ 0 < ti.size then
    match x, m with
    | .slice none 0 0, 0 => ok (.slice none 0 0) s
    | .slice (some a) n c, 0 => ok (.slice (some a) n c) s
    | .slice none 0 0, m => if fits m ti.bytes then ok (.slice (some ⟨s.nx, 0, none⟩) m unknownCap) (s.push (.cells news ti.size)) else none
    | .slice (some a) n c, m => if fits (n + m) ti.bytes then appendTo s ti.size a n c m news else none
    | _, _ => none
  else none

def cmpInt : BinOp → Int → Int → Option Bool
  | .eql, a, b => some (a == b)
  | .neq, a, b => some (a != b)
  | .lss, a, b => some (decide (a < b))
  | .leq, a, b => some (decide (a ≤ b))
  | .gtr, a, b => some (decide (b < a))
  | .geq, a, b => some (decide (b ≤ a))
  | _, _, _ => none

/-- is it nil? -/
def nilOf : Value → Option Bool
  | .pointer p => some p.isNone
  | .slice a _ _ => some a.isNone
  | .map m => some m.isNone
  | .nilFunc => some true
  | .func _ _ _ => some false
  | .nilIface => some true
  | .iface _ _ => some false
  | _ => none

def isNilV : Value → Bool
  | .pointer none | .slice none 0 0 | .map none | .nilFunc | .nilIface => true
  | _ => false

/-- the operand is the literal nil -/
def litNil : Operand → Bool
  | .const v => isNilV v
  | _ => false

def pureV (P : Program) (m : Sem Value) : Option Value := match pureRun P m with
  | some v => if plain v then some v else none
  | none => none

/-- a value of a kind that may be nil -/
def kindOk : TypeDesc → Value → Bool
  | .pointer _, .pointer _ | .slice _, .slice _ _ _ | .map _ _, .map _ | .func _ _ _, .nilFunc | .func _ _ _, .func _ _ _ | .interface _, .nilIface | .interface _, .iface _ _ => true
  | _, _ => false

def nilCmp (op : BinOp) (r : Bool) : Option Value := match op with
  | .eql => some (.bool r)
  | .neq => some (.bool (!r))
  | _ => none

def intOp (P : Program) (op : BinOp) (t : TypeId) (j : IntKind) (m n : Int) : Option Value :=
  match cmpInt op m n with
  | some r => some (.bool r)
  | none => match op with
    | .add => some (.int j (j.wrap (m + n)))
    | .sub => some (.int j (j.wrap (m - n)))
    | _ => pureV P (binOp op t (.int j m) (.int j n))

def binOpV (P : Program) (T : Tab) (op : BinOp) (t : TypeId) (x y : Operand) (a b : Value) : Option Value :=
  match a, b with
  | .int j m, .int k n => if j = k then intOp P op t j m n else pureV P (do eqGuard op t x y (.int j m) (.int k n); binOp op t (.int j m) (.int k n))
  | a, b =>
    if litNil y then match T.ty t with
      | some ti => if kindOk ti.d a && kindOk ti.d b then match nilOf a with
          | some r => nilCmp op r
          | none => none
        else none
      | none => none
    else if plain a && plain b then pureV P (do eqGuard op t x y a b; binOp op t a b)
    else none

/-- a call's function and arguments -/
def calleeOf (T : Tab) (s : St) (t : List Value) (c : Call) : Option (Nat × List Value) :=
  match c.callee with
  | .value f => match evalO t f, evalL t c.args.toList with
    | some (.func (.func g) first captured), some args => some (g, first.toList ++ args ++ captured.toList)
    | some (.func (.method name) first _), some args => match first.toList with
      | .iface d v :: r => viaM d v name (r ++ args)
      | _ => none
    | _, _ => none
  | .invoke recv name => match evalO t recv, evalL t c.args.toList with
    | some (.iface d v), some args => viaM d v name args
    | _, _ => none
  | .builtin _ => none
where
  viaM (d : TypeId) (v : Value) (name : String) (args : List Value) : Option (Nat × List Value) :=
    match T.meth d name with
    | some (g, none) => some (g, v :: args)
    | some (g, some e) => match v, T.ty e with
      | .pointer (some a), some te => match rdT te s a with
        | some x => some (g, x :: args)
        | none => none
      | _, _ => none
    | none => none

abbrev CallR := Nat → List Value → St → Res

def opt {α β : Type} (x : Option α) (f : α → Option β) : Option β := match x with
  | some a => f a
  | none => none

def lenOp (T : Tab) (ty : TypeId) (x : Value) (s : St) : Res :=
  match T.ty ty with
  | some ti => match ti.d, x with
    | .string, .string b => ok (.int .i64 b.size) s
    | .slice _, .slice _ n _ => ok (.int .i64 n) s
    | .map _ _, .map none => ok (.int .i64 0) s
    | .map _ _, .map (some r) => match s.get r with
      | some (.map es _) => ok (.int .i64 es.length) s
      | _ => none
    | .array n _, _ => ok (.int .i64 n) s
    | _, _ => none
  | none => none

def capOp (T : Tab) (ty : TypeId) (x : Value) (s : St) : Res :=
  match T.ty ty, x with
  | some ti, .slice none 0 0 => match ti.d with
    | .slice _ => ok (.int .i64 0) s
    | _ => none
  | _, _ => none

def appendB (te : TI) (tx : TI) (x y : Value) (s : St) : Res :=
  match tx.d with
  | .int _ => match x, asN y with
    | .slice none 0 0, some (n + 1) => if fits (n + 1) te.bytes then appendOp te s x (zeros te.zero.cells.toList (n + 1)) (n + 1) else none
    | _, _ => none
  | .slice _ => match sliceCells s te.size y, lenV y with
    | some news, some m => appendOp te s x news m
    | _, _ => none
  | .string => match sliceCells s te.size y, lenV y with
    | some news, some m => appendOp te s x news m
    | _, _ => none
  | _ => none

def appendA (T : Tab) (t1 t2 : TypeId) (x y : Value) (s : St) : Res :=
  match T.ty t1, T.ty t2 with
  | some ti, some tx => match ti.d with
    | .slice e => match T.ty e with
      | some te => appendB te tx x y s
      | none => none
    | _ => none
  | _, _ => none

def builtinOp (T : Tab) (t : List Value) (b : Builtin) (c : Call) (s : St) : Res :=
  match b with
  | .len => match evalL t c.args.toList, c.argTypes.toList with
    | some [x], [ty] => lenOp T ty x s
    | _, _ => none
  | .cap => match evalL t c.args.toList, c.argTypes.toList with
    | some [x], [ty] => capOp T ty x s
    | _, _ => none
  | .append => match evalL t c.args.toList, c.argTypes.toList with
    | some [x, y], [t1, t2] => appendA T t1 t2 x y s
    | _, _ => none
  | .min => match evalL t c.args.toList with
    | some [.int k x, .int _ y] => ok (.int k (if y < x then y else x)) s
    | _ => none
  | _ => none

def plainO : Option Value → Bool
  | none => true
  | some v => plain v

def evalOpt (t : List Value) : Option Operand → Option (Option Value)
  | none => some none
  | some x => match evalO t x with
    | some v => some (some v)
    | none => none

def partV (ti : TI) (cs : Array Value) (off : Nat) (s : St) : Res :=
  if ti.agg then ok (.agg (cs.extract off (off + ti.size))) s else match cs[off]? with
    | some v => ok v s
    | none => none

def opMove (t : List Value) (x : Operand) (s : St) : Res :=
  match evalO t x with
    | some v => ok v s
    | none => none

def opPick (t : List Value) (c : Operand) (a : Operand) (b : Operand) (s : St) : Res :=
  match evalO t c, evalO t a, evalO t b with
    | some (.bool true), some v, _ => ok v s
    | some (.bool false), _, some v => ok v s
    | _, _, _ => none

def opAlloc (T : Tab) (e : TypeId) (s : St) : Res :=
  match T.ty e with
    | some ti => ok (.pointer (some ⟨s.nx, 0, none⟩)) (s.push (.cells ti.zero.cells.toList 0))
    | none => none

def opBox (T : Tab) (t : List Value) (e : TypeId) (x : Operand) (s : St) : Res :=
  match T.ty e, evalO t x with
    | some _, some v => ok (.pointer (some ⟨s.nx, 0, none⟩)) (s.push (.cells v.cells.toList 0))
    | _, _ => none

def opBuild (T : Tab) (t : List Value) (ty : TypeId) (parts : Array (Nat × Operand)) (s : St) : Res :=
  match T.ty ty, evalP t parts.toList with
    | some ti, some ps => match buildV T ti ps with
      | some v => ok v s
      | none => none
    | _, _ => none

def opBuildSlice (T : Tab) (t : List Value) (ty : TypeId) (len : Nat) (parts : Array (Nat × Operand)) (s : St) : Res :=
  match T.ty ty, evalP t parts.toList with
    | some { d := .slice e, .. }, some ps => match T.ty e with
      | some te => if 0 < te.size ∧ len * te.size ≤ 65536 then match Instr.fill (fun i => some (i * te.size, te.size)) (zeros te.zero.cells.toList len).toArray ps with
          | some cs => ok (.slice (some ⟨s.nx, 0, none⟩) len (exact len)) (s.push (.cells cs.toList te.size))
          | none => none
        else none
      | none => none
    | _, _ => none

def opLoad (T : Tab) (t : List Value) (ty : TypeId) (a : Operand) (s : St) : Res :=
  match T.ty ty, evalO t a with
    | some ti, some (.pointer (some a)) => match rdT ti s a with
      | some v => ok v s
      | none => none
    | _, _ => none

def opStore (T : Tab) (t : List Value) (ty : TypeId) (a : Operand) (x : Operand) (s : St) : Res :=
  match T.ty ty, evalO t a, evalO t x with
    | some ti, some (.pointer (some a)), some v => if v.cells.size = ti.size then match wr s a v.cells.toList with
        | some s => ok undef s
        | none => none
      else none
    | _, _, _ => none

def opNilCheck (t : List Value) (x : Operand) (s : St) : Res :=
  match evalO t x with
    | some (.pointer (some a)) => ok (.pointer (some a)) s
    | some (.iface d v) => ok (.iface d v) s
    | some (.func (.func g) a b) => ok (.func (.func g) a b) s
    | _ => none

def opBinOp (P : Program) (T : Tab) (t : List Value) (op : BinOp) (xt : TypeId) (x : Operand) (y : Operand) (s : St) : Res :=
  match evalO t x, evalO t y with
    | some a, some b => match binOpV P T op xt x y a b with
      | some v => ok v s
      | none => none
    | _, _ => none

def opUnOp (P : Program) (t : List Value) (op : UnOp) (x : Operand) (s : St) : Res :=
  match evalO t x with
    | some a => if plain a then match pureRun P (Op.unary op a) with
        | some v => if plain v then ok v s else none
        | none => none
      else none
    | none => none

def opConvert (T : Tab) (t : List Value) (a : TypeId) (b : TypeId) (x : Operand) (s : St) : Res :=
  match T.ty a, T.ty b, evalO t x with
    | some ta, some tb, some v => match ta.d, tb.d, v with
      | _, .int k, .int _ n => ok (.int k (k.wrap n)) s
      | _, .string, .string b => ok (.string b) s
      | _, _, _ => none
    | _, _, _ => none

def opMakeInterface (T : Tab) (t : List Value) (xt : TypeId) (x : Operand) (s : St) : Res :=
  match T.ty xt, evalO t x with
    | some ti, some v => match ti.d with
      | .interface _ => none
      | _ => ok (.iface xt v) s
    | _, _ => none

def opMakeFunc (t : List Value) (fn : Fn) (first : Array Operand) (captured : Array Operand) (s : St) : Res :=
  match fn, evalL t first.toList, evalL t captured.toList with
    | .func g, some a, some b => ok (.func (.func g) a.toArray b.toArray) s
    | .method m, some a, some b => ok (.func (.method m) a.toArray b.toArray) s
    | _, _, _ => none

def opMakeMap   (s : St) : Res :=
  ok (.map (some s.nx)) (s.push (.map [] 0))

def opMakeSlice (T : Tab) (t : List Value) (ty : TypeId) (l : Operand) (c : Operand) (s : St) : Res :=
  match T.ty ty, opt (evalO t l) asN, opt (evalO t c) asN with
    | some { d := .slice e, .. }, some n, some m => match T.ty e with
      | some te => if n = m ∧ n ≤ 1000000000 ∧ te.bytes * n ≤ 140737488355328 ∧ te.bytes ≤ 65536 then
          ok (.slice (some ⟨s.nx, 0, none⟩) n (exact n)) (s.push (.cells (zeros te.zero.cells.toList n) te.size)) else none
      | none => none
    | _, _, _ => none

def opSlice (P : Program) (T : Tab) (t : List Value) (ty : TypeId) (x : Operand) (lo : Option Operand) (hi : Option Operand) (mx : Option Operand) (s : St) : Res :=
  match evalO t x, evalOpt t lo, evalOpt t hi, evalOpt t mx with
    | some v, some l, some h, some m => match v with
      | .string b => if plainO l && plainO h && plainO m then match pureV P (Instr.sliceAt ty (.string b) l h m) with
          | some r => ok r s
          | none => none
        else none
      | v => match sliceOp T s ty v l h m with
        | some r => ok r s
        | none => none
    | _, _, _, _ => none

def opFieldAddr (T : Tab) (t : List Value) (st : TypeId) (x : Operand) (f : Nat) (s : St) : Res :=
  match T.ty st, evalO t x with
    | some { d := .struct fields, .. }, some (.pointer (some a)) => match fields[f]? with
      | some fi => match T.ty fi.type with
        | some tf => if 0 < tf.size then ok (.pointer (some (a.add fi.offset))) s else none
        | none => none
      | none => none
    | _, _ => none

def opField (T : Tab) (t : List Value) (xt : TypeId) (x : Operand) (f : Nat) (s : St) : Res :=
  match T.ty xt, evalO t x with
    | some { d := .struct fields, .. }, some (.agg cs) => match fields[f]? with
      | some fi => match T.ty fi.type with
        | some tf => partV tf cs fi.offset s
        | none => none
      | none => none
    | _, _ => none

def opIndexAddr (T : Tab) (t : List Value) (ty : TypeId) (x : Operand) (i : Operand) (s : St) : Res :=
  match T.ty ty, evalO t x, opt (evalO t i) asN with
    | some ti, some v, some k => match ti.d, v with
      | .array n e, .pointer (some a) => match T.ty e with
        | some te => if k < n then ok (.pointer (some (a.add (k * te.size)))) s else none
        | none => none
      | .slice e, .slice (some a) n _ => match T.ty e with
        | some te => if k < n then ok (.pointer (some (a.add (k * te.size)))) s else none
        | none => none
      | _, _ => none
    | _, _, _ => none

def opIndex (T : Tab) (t : List Value) (ty : TypeId) (x : Operand) (i : Operand) (s : St) : Res :=
  match T.ty ty, evalO t x, opt (evalO t i) asN with
    | some ti, some v, some k => match ti.d, v with
      | .array n e, .agg cs => match T.ty e with
        | some te => if k < n then partV te cs (k * te.size) s else none
        | none => none
      | .string, .string b => match b.data[k]? with
        | some x => ok (.int .u8 x.toNat) s
        | none => none
      | _, _ => none
    | _, _, _ => none

def opLookup (T : Tab) (t : List Value) (ty : TypeId) (x : Operand) (k : Operand) (commaOk : Bool) (s : St) : Res :=
  match T.ty ty, evalO t x, evalO t k with
    | some { d := .map kt et, .. }, some v, some key => match T.ty kt, T.ty et, v with
      | some tk, some te, .map (some r) => match s.get r with
        | some (.map es _) => if keyTy tk.d key then match findK key es 0 with
            | some (some (_, v)) => ok (if commaOk then .tuple #[v, .bool true] else v) s
            | some none => ok (if commaOk then .tuple #[te.zero, .bool false] else te.zero) s
            | none => none
          else none
        | _ => none
      | _, _, _ => none
    | _, _, _ => none

def opMapUpdate (T : Tab) (t : List Value) (ty : TypeId) (m : Operand) (k : Operand) (x : Operand) (s : St) : Res :=
  match T.ty ty, evalO t m, evalO t k, evalO t x with
    | some { d := .map kt _, .. }, some (.map (some r)), some key, some v => match T.ty kt, s.get r with
      | some tk, some (.map es clock) => if keyTy tk.d key then match findK key es 0 with
          | some (some (i, _)) => ok undef (s.put r (some (.map (es.modify i fun e => { e with key, val := v }) clock)))
          | some none => ok undef (s.put r (some (.map (es ++ [{ key, val := v, born := clock }]) (clock + 1))))
          | none => none
        else none
      | _, _ => none
    | _, _, _, _ => none

def opRange (T : Tab) (t : List Value) (ty : TypeId) (x : Operand) (s : St) : Res :=
  match T.ty ty, evalO t x with
    | some { d := .map _ _, .. }, some (.map (some r)) => match s.get r with
      | some (.map _ clock) => ok (.pointer (some ⟨s.nx, 0, none⟩)) (s.push (.iter (some r) clock [] clock))
      | _ => none
    | _, _ => none

def opNext (t : List Value) (x : Operand) (s : St) : Res :=
  match evalO t x with
    | some (.pointer (some ⟨r, 0, none⟩)) => match s.get r with
      | some (.iter (some m) since seen last) => match s.get m with
        | some (.map es clock) =>
          if !seen.isEmpty && !es.isEmpty && es.all (fun e => decide (last ≤ e.born)) then none else
          match es.filter (fun e => !seen.contains e.born) with
          | [] => ok (.tuple #[.bool false]) s
          | [e] => if e.born < since then ok (.tuple #[.bool true, e.key, e.val]) (s.put r (some (.iter (some m) since (seen ++ [e.born]) clock))) else none
          | _ => none
        | _ => none
      | _ => none
    | _ => none

def opEntry (t : List Value) (x : Operand) (s : St) : Res :=
  match evalO t x with
    | some (.pointer (some ⟨r, 0, none⟩)) => match s.get r with
      | some (.iter (some m) _ seen stepped) => match seen.getLast?, s.get m with
        | some stamp, some (.map es clock) => if clock = stepped then match es.find? (fun e => e.born == stamp) with
            | some e => ok (.tuple #[e.key, e.val]) s
            | none => none
          else none
        | _, _ => none
      | _ => none
    | _ => none

def opTypeAssert (T : Tab) (t : List Value) (x : Operand) (asserted : TypeId) (commaOk : Bool) (s : St) : Res :=
  match T.ty asserted, evalO t x with
    | some ti, some (.iface d v) => match ti.d with
      | .interface _ => none
      | _ => if d = asserted then ok (if commaOk then .tuple #[v, .bool true] else v) s else none
    | _, _ => none

def opExtract (t : List Value) (x : Operand) (i : Nat) (s : St) : Res :=
  match evalO t x with
    | some (.tuple vs) => match vs[i]? with
      | some v => ok v s
      | none => none
    | _ => none

def opCall (T : Tab) (call : CallR) (t : List Value) (c : Call) (s : St) : Res :=
  match c.callee with
    | .builtin b => builtinOp T t b c s
    | _ => match calleeOf T s t c with
      | some (f, args) => match T.ext f with
        | some e => match e args with
          | some v => ok v s
          | none => none
        | none => match T.fn f with
          | some _ => call f args s
          | none => none
      | none => none

def aop (P : Program) (T : Tab) (call : CallR) (t : List Value) (o : Oper) (s : St) : Res :=
  match o.op with
  | .move x | .assign x => opMove t x s
  | .pick c a b => opPick t c a b s
  | .alloc e => opAlloc T e s
  | .box e x => opBox T t e x s
  | .build ty parts => opBuild T t ty parts s
  | .buildSlice ty len parts => opBuildSlice T t ty len parts s
  | .load ty a => opLoad T t ty a s
  | .store ty a x => opStore T t ty a x s
  | .nilCheck x => opNilCheck t x s
  | .binOp op xt x y _ => opBinOp P T t op xt x y s
  | .unOp op _ x => opUnOp P t op x s
  | .convert a b x => opConvert T t a b x s
  | .makeInterface xt x => opMakeInterface T t xt x s
  | .makeFunc fn first captured => opMakeFunc t fn first captured s
  | .makeMap _ none => opMakeMap s
  | .makeSlice ty l c => opMakeSlice T t ty l c s
  | .slice ty x lo hi mx => opSlice P T t ty x lo hi mx s
  | .fieldAddr st x f => opFieldAddr T t st x f s
  | .field xt x f => opField T t xt x f s
  | .indexAddr ty x i => opIndexAddr T t ty x i s
  | .index ty x i => opIndex T t ty x i s
  | .lookup ty x k commaOk => opLookup T t ty x k commaOk s
  | .mapUpdate ty m k x => opMapUpdate T t ty m k x s
  | .range ty x => opRange T t ty x s
  | .next x false => opNext t x s
  | .entry x => opEntry t x s
  | .typeAssert x _ asserted commaOk => opTypeAssert T t x asserted commaOk s
  | .extract x i => opExtract t x i s
  | .call c => opCall T call t c s
  | _ => none

/-! ## Regions -/

def dstSet (t : List Value) (o : Oper) (v : Value) : List Value := match o.dst with
  | some d => setNth v t d
  | none => t

def wantedL (ops : List Oper) (t : List Value) (o : Oper) : Bool :=
  match o.guard with
  | none => true
  | some (j, want) => match (ops[j]?).bind (·.dst) with
    | some d => match nth undef t d with
      | .bool b => b == want
      | _ => false
    | none => false

def runOps (P : Program) (T : Tab) (call : CallR) (ops : List Oper) (l : List Oper) (t : List Value) (s : St) : Option (List Value × St) :=
  List.rec (motive := fun _ => List Value → St → Option (List Value × St)) (fun t s => some (t, s))
    (fun o _ ih t s => match wantedL ops t o with
      | true => match aop P T call t o s with
        | some (v, s) => ih (dstSet t o v) s
        | none => none
      | false => ih (dstSet t o undef) s) l t s

inductive Ex where
  | normal
  | exit (id : Nat)
  | ret

abbrev CodeR := Code → List Value → St → Option (Ex × List Value × St)

/-- does the operation turn memory? -/
def isEff (T : Tab) (o : Oper) : Bool :=
  match o.op with
  | .store .. | .box .. | .buildSlice .. | .makeMap .. | .makeSlice .. | .mapUpdate .. | .range .. | .next .. => true
  | .convert _ b _ => match T.ty b with
    | some { d := .slice _, .. } => true
    | _ => false
  | .call c => match c.callee with
    | .builtin .len | .builtin .cap | .builtin .min | .builtin .max => false
    | _ => true
  | _ => false

/-- does it look into memory? -/
def isRead (o : Oper) : Bool :=
  match o.op with
  | .load .. | .lookup .. | .entry .. | .call .. | .convert .. | .slice .. | .alloc _ => true
  | _ => false

def isAlloc (o : Oper) : Option TypeId := match o.op with
  | .alloc e => some e
  | _ => none

def tmpOf : Operand → List Nat
  | .tmp t => [t]
  | _ => []

/-- the slots that an operation reads or writes -/
def namesOf (ops : List Oper) (o : Oper) : List Nat :=
  o.dst.toList ++ o.op.operands.toList.flatMap tmpOf ++
  (match o.guard with
   | some (j, _) => ((ops[j]?).bind (·.dst)).toList
   | none => [])

def dstIn (o : Oper) (l : List Nat) : Bool := match o.dst with
  | some d => l.contains d
  | none => false

/-- what must be done ahead of each operation, as bits -/
def masks : List Oper → List Nat → List Nat
  | [], acc => acc
  | o :: r, acc => masks r (acc ++ [o.after.toList.foldl (fun m e => if Region.binds .any e then m ||| 2 ^ e.on ||| acc.getD e.on 0 else m) 0])

def okPair (T : Tab) (ops : List Oper) (ms : List Nat) (x y : Oper × Nat) : Bool :=
  (ms.getD y.2 0).testBit x.2 ||
  (!(isEff T x.1 && isEff T y.1) && !dstIn x.1 (namesOf ops y.1) && !dstIn y.1 (namesOf ops x.1))

def okAll (T : Tab) (ops : List Oper) (ms : List Nat) : List (Oper × Nat) → Bool
  | [] => true
  | x :: r => r.all (okPair T ops ms x) && okAll T ops ms r

/-- of each operation: among how many turns of memory at least, at most, it may stand -/
def rangeOf (effs : List Nat) (ms : List Nat) (i : Nat) : Nat × Nat :=
  ((effs.filter fun e => (ms.getD i 0).testBit e).length, (effs.filter fun e => !(ms.getD e 0).testBit i).length)

def effsOf (T : Tab) (ops : List Oper) : List Nat := (ops.zipIdx.filter fun x => isEff T x.1).map (·.2)

def edgesOk (x : Oper × Nat) : Bool :=
  x.1.after.toList.all (fun e => !Region.binds .any e || decide (e.on < x.2)) &&
  (match x.1.guard with
   | some (j, _) => x.1.after.toList.any (fun e => Region.binds .any e && e.on == j)
   | none => true)

def rinfo (T : Tab) (ops : List Oper) : Option (List (Nat × Nat)) :=
  let ms := masks ops []
  if ops.zipIdx.all edgesOk && okAll T ops ms ops.zipIdx then some ((List.range ops.length).map (rangeOf (effsOf T ops) ms)) else none

/-- values that are alike: sound, not whole -/
def eq0 : Value → Value → Bool
  | .bool a, .bool b => a == b
  | .int j a, .int k b => j == k && a == b
  | .string a, .string b => a.data.toList == b.data.toList
  | .pointer a, .pointer b => a == b
  | .slice a n c, .slice b m d => a == b && n == m && c == d
  | .map a, .map b => a == b
  | .nilFunc, .nilFunc => true
  | .nilIface, .nilIface => true
  | _, _ => false
def eqL (f : Value → Value → Bool) : List Value → List Value → Bool
  | [], [] => true
  | a :: r, b :: q => f a b && eqL f r q
  | _, _ => false
def eqv : Nat → Value → Value → Bool
  | 0, a, b => eq0 a b
  | n + 1, a, b => match a, b with
    | .agg a, .agg b => eqL (eqv n) a.toList b.toList
    | .tuple a, .tuple b => eqL (eqv n) a.toList b.toList
    | .func (.func f) a b, .func (.func g) c d => f == g && eqL (eqv n) a.toList c.toList && eqL (eqv n) b.toList d.toList
    | .func (.method f) a b, .func (.method g) c d => f == g && eqL (eqv n) a.toList c.toList && eqL (eqv n) b.toList d.toList
    | .iface t a, .iface u b => t == u && eqv n a b
    | a, b => eq0 a b

/-- the variables of a region are there from its start -/
def prealloc (T : Tab) : List Oper → St → Option (List (Option Nat) × St)
  | [], s => some ([], s)
  | o :: r, s => match isAlloc o with
    | some e => match T.ty e with
      | some ti => match prealloc T r (s.push (.cells ti.zero.cells.toList 0)) with
        | some (l, s') => some (some s.nx :: l, s')
        | none => none
      | none => none
    | none => match prealloc T r s with
      | some (l, s') => some (none :: l, s')
      | none => none

/-- an operation that turns no memory, of a region that draws its order: the same at each of its places -/
def sameAt (P : Program) (T : Tab) (call : CallR) (t : List Value) (o : Oper) (id : Option Nat) (v : Value) : List St → Bool
  | [] => true
  | s :: r => (match id, isAlloc o with
    | some i, some e => match s.get i, T.ty e with
      | some (.cells vs 0), some ti => eqL eq0 vs ti.zero.cells.toList
      | _, _ => false
    | _, _ => match aop P T call t o s with
      | some (u, _) => eqv 3 u v
      | none => false) && sameAt P T call t o id v r

/-- what was done, in the text's order: of each operation the slots ahead of it and its value; of each turn of memory what it left -/
structure Done where
  t : List Value
  o : Oper
  id : Option Nat
  v : Value
  ran : Bool

def runD1 (P : Program) (T : Tab) (call : CallR) (t : List Value) (o : Oper) (id : Option Nat) (s : St) : Option (Value × St) :=
  match id with
  | some i => some (.pointer (some ⟨i, 0, none⟩), s)
  | none => aop P T call t o s

def runD (P : Program) (T : Tab) (call : CallR) (ops : List Oper) (l : List (Oper × Option Nat)) (t : List Value) (s : St) (ds : List Done) (ss : List St) : Option (List Value × List Done × List St) :=
  List.rec (motive := fun _ => List Value → St → List Done → List St → Option (List Value × List Done × List St))
    (fun t s ds ss => some (t, ds.reverse, (s :: ss).reverse))
    (fun x _ ih t s ds ss => match wantedL ops t x.1 with
      | true => match runD1 P T call t x.1 x.2 s with
        | some (v, s') => match isEff T x.1 with
          | true => ih (dstSet t x.1 v) s' (⟨t, x.1, x.2, v, true⟩ :: ds) (s :: ss)
          | false => ih (dstSet t x.1 v) s (⟨t, x.1, x.2, v, true⟩ :: ds) ss
        | none => none
      | false => ih (dstSet t x.1 undef) s (⟨t, x.1, x.2, undef, false⟩ :: ds) (match isEff T x.1 with | true => s :: ss | false => ss)) l t s ds ss

def checkD (P : Program) (T : Tab) (call : CallR) (ss : List St) : List Done → List (Nat × Nat) → Bool
  | [], _ => true
  | d :: r, (lo, hi) :: q => (!d.ran || isEff T d.o || !isRead d.o || sameAt P T call d.t d.o d.id d.v ((ss.drop lo).take (hi + 1 - lo))) && checkD P T call ss r q
  | _, _ => false

def regionDraw (P : Program) (T : Tab) (call : CallR) (ops : List Oper) (t : List Value) (s : St) : Option (List Value × St) :=
  match rinfo T ops, prealloc T ops s with
  | some inf, some (ids, s0) => match runD P T call ops (ops.zip ids) t s0 [] [] with
    | some (t', ds, ss) => if checkD P T call ss ds inf then match ss.getLast? with
        | some s' => some (t', s')
        | none => none
      else none
    | none => none
  | _, _ => none

def cSeq (rec : CodeR) (b : Code) (x : Option (Ex × List Value × St)) : Option (Ex × List Value × St) :=
  match x with
  | some (.normal, t, s) => rec b t s
  | r => r
def cCond (rec : CodeR) (a b : Code) (t : List Value) (s : St) (v : Option Value) : Option (Ex × List Value × St) :=
  match v with
  | some (.bool true) => rec a t s
  | some (.bool false) => rec b t s
  | _ => none
def cBlock (id : Nat) (x : Option (Ex × List Value × St)) : Option (Ex × List Value × St) :=
  match x with
  | some (.exit i, t, s) => if i = id then some (.normal, t, s) else some (.exit i, t, s)
  | r => r
def cRegion (x : Option (List Value × St)) : Option (Ex × List Value × St) :=
  match x with
  | some (t, s) => some (.normal, t, s)
  | none => none

def codeStep (P : Program) (T : Tab) (call : CallR) (rec : CodeR) : CodeR := fun c t s =>
  match c with
  | .skip => some (.normal, t, s)
  | .label _ => some (.normal, t, s)
  | .seq a b => cSeq rec b (rec a t s)
  | .cond c a b => cCond rec a b t s (evalO t c)
  | .block id b => cBlock id (rec b t s)
  | .loop b => cSeq rec (.loop b) (rec b t s)
  | .scope b => rec b t s
  | .exit id => some (.exit id, t, s)
  | .ret => some (.ret, t, s)
  | .region _ ops true => cRegion (regionDraw P T call ops.toList t s)
  | .region _ ops false => cRegion (runOps P T call ops.toList ops.toList t s)
  | _ => none

def resOf (T : Tab) (t : List Value) (s : St) : List ResultVar → Option (List Value)
  | [] => some []
  | .tmp k :: r => match resOf T t s r with
    | some l => some (nth undef t k :: l)
    | none => none
  | .cell a ty :: r => match t.getD a undef, T.ty ty, resOf T t s r with
    | .pointer (some a), some ti, some l => match rdT ti s a with
      | some v => some (v :: l)
      | none => none
    | _, _, _ => none

def callStep (T : Tab) (code : CodeR) : CallR := fun f args s =>
  match T.fn f with
  | some fi => match code fi.code (app args (List.replicate (fi.ntmps - args.length) undef)) s with
    | some (.normal, t, s) | some (.ret, t, s) => match resOf T t s fi.results with
      | some [v] => ok v s
      | some vs => ok (.tuple vs.toArray) s
      | none => none
    | _ => none
  | none => none

def ev (P : Program) (T : Tab) (n : Nat) : CallR × CodeR :=
  Nat.rec (motive := fun _ => CallR × CodeR) (fun _ _ _ => none, fun _ _ _ => none) (fun _ ih => (callStep T ih.2, codeStep P T ih.1 ih.2)) n

/-! ## The tables of a program -/

def tiOf (P : Program) (t : TypeId) : Option TI :=
  match P.info? t, P.underlying t with
  | some i, some d => match i.zero with
    | some z => if z.cells.toList.all atom && z.cells.size == i.size then some ⟨i.size, i.bytes, z, (match d with | .struct _ | .array _ _ => true | _ => false), d⟩ else none
    | none => none
  | _, _ => none

def fnOf (P : Program) (f : FuncId) : Option FnI :=
  match P.funcs[f]? with
  | some fn => match fn.body with
    | some c => if fn.name == "runtime.NumGoroutine" then none else some ⟨c, fn.ntmps, fn.results.toList⟩
    | none => none
  | none => none

def ptrCase {α : Type} (d : TypeDesc) (f : TypeId → α) (x : α) : α := match d with
  | .pointer e => f e
  | _ => x

def methOf (P : Program) (t : TypeId) (name : String) : Option (Nat × Option Nat) :=
  match P.info? t with
  | some i => match i.methods.find? (·.name == name) with
    | some m => if m.path.isEmpty then match m.func, P.underlying t with
        | some (f, b), some d => ptrCase d (fun e => if b then some (f, none) else some (f, some e)) (if b then none else some (f, none))
        | _, _ => none
      else none
    | none => none
  | none => none

/-- functions without a body -/
inductive Ext where
  | indexByteString
  | cmpString

def Ext.run : Ext → List Value → Option Value
  | .indexByteString, [.string s, .int .u8 c] => some (.int .i64 (Lib.indexByte s.data.toList c.toNat.toUInt8))
  | .cmpString, [.string a, .string b] => some (.int .i64 (Lib.compareBytes a.data.toList b.data.toList))
  | _, _ => none

def extOf (l : List (Nat × Ext)) (f : Nat) : Option (List Value → Option Value) :=
  match l with
  | [] => none
  | (g, e) :: r => if g = f then some e.run else extOf r f

def tabOf (P : Program) (l : List (Nat × Ext)) : Tab := ⟨fnOf P, tiOf P, methOf P, extOf l⟩
end
end Go.VE
