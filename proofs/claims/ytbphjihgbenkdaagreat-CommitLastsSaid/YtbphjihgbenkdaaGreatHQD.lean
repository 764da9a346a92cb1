/- Lemmas for the row. Conditions: none. -/
import Derived.Test.YtbphjihgbenkdaaGreatHQA
import Derived.Orders
namespace Go.Proofs.YtbphjihgbenkdaaGreat.HQ
set_option linter.unusedVariables false
set_option linter.unusedSectionVars false
set_option linter.unusedSimpArgs false
open Go
inductive SV where
 | un
 | v (h : HV)
 | loc (d off : Nat)
 | lsl (d len : Nat)
abbrev UD : SV := .v (.tup [])
inductive Fr where
 | nil
 | set (t : Nat) (s : SV) (F : Fr)
 | mask (ts : List Nat) (F : Fr)
def mem : Nat → List Nat → Bool
 | _, [] => false
 | x, y :: r => match Nat.beq x y with
  | true => true
  | false => mem x r
def Fr.get : Fr → Nat → SV
 | .nil, _ => .un
 | .set t s F, x => match Nat.beq x t with
  | true => s
  | false => F.get x
 | .mask ts F, x => match mem x ts with
  | true => .un
  | false => F.get x
inductive Bx where
 | nil
 | set (d : Nat) (cs : List HV) (B : Bx)
 | bar (lv : Nat) (B : Bx)
def Bx.get : Bx → Nat → Option (List HV)
 | .nil, _ => none
 | .set d cs B, x => match Nat.beq x d with
  | true => some cs
  | false => B.get x
 | .bar _ B, x => B.get x
def Bx.under (lv : Nat) : Bx → Bx
 | .nil => .nil
 | .bar l B => match Nat.beq l lv with
  | true => B
  | false => Bx.under lv B
 | .set _ _ B => Bx.under lv B
def Bx.clean (lv : Nat) (listed : List Nat) : Bx → Bool
 | .nil => false
 | .bar l B => match Nat.beq l lv with
  | true => true
  | false => Bx.clean lv listed B
 | .set d _ B => match Bx.clean lv listed B with
  | false => false
  | true => match mem d listed with
   | true => true
   | false => match (Bx.under lv B).get d with
    | none => true
    | some _ => false
def Bx.rm (d : Nat) : Bx → Bx
 | .nil => .nil
 | .bar l B => .bar l B
 | .set e cs B => match Nat.beq e d with
  | true => Bx.rm d B
  | false => .set e cs (Bx.rm d B)
def SV.pub (d b : Nat) : SV → SV
 | .loc e off => match Nat.beq e d with
  | true => .v (.ptr (some (b, off)))
  | false => .loc e off
 | .lsl e n => match Nat.beq e d with
  | true => .v (.sl ⟨some (b, 0), n, n, none⟩)
  | false => .lsl e n
 | .un => .un
 | .v h => .v h
def Fr.pub (d b : Nat) : Fr → Fr
 | .nil => .nil
 | .set t s F => .set t (s.pub d b) (F.pub d b)
 | .mask ts F => .mask ts (F.pub d b)
structure St where
 F : Fr
 B : Bx
def St.put (S : St) (d : Option Nat) (s : SV) : St := match d with
 | none => S
 | some t => { S with F := .set t s S.F }
inductive JI where
 | t (slot : Nat) (sh : Sh1)
 | x (box : Nat) (shs : Option (List Sc))
inductive Ann where
 | z
 | n (J : Option (List JI)) (l r : Ann)
 /-- a loop over a function: its site; the slots that its rounds read. -/
 | r (k : Nat) (slots : List Nat)
def Ann.l : Ann → Ann
 | .z => .z
 | .r _ _ => .z
 | .n _ l _ => l
def Ann.rt : Ann → Ann
 | .z => .z
 | .r _ _ => .z
 | .n _ _ y => y
def Ann.J : Ann → Option (List JI)
 | .z => none
 | .r _ _ => none
 | .n J _ _ => J
def Ann.k : Ann → Nat
 | .r k _ => k
 | _ => 0
def Ann.L : Ann → List Nat
 | .r _ l => l
 | _ => []
abbrev Ctx := List (Nat × Option (Nat × List JI))
def Ctx.find : Ctx → Nat → Option (Nat × List JI)
 | [], _ => none
 | (i, e) :: r, id => match Nat.beq i id with
  | true => e
  | false => Ctx.find r id
def boxes : List JI → List Nat
 | [] => []
 | .t _ _ :: r => boxes r
 | .x d _ :: r => d :: boxes r
def jslots : List JI → List Nat
 | [] => []
 | .t t _ :: r => t :: jslots r
 | .x _ _ :: r => jslots r
def collect : List JI → St → Option (List HV)
 | [], _ => some []
 | .t t _ :: r, S => match S.F.get t with
  | .v h => (collect r S).map (h :: ·)
  | _ => none
 | .x d _ :: r, S => match S.B.get d with
  | some cs => (collect r S).map (.agg cs :: ·)
  | none => none
section
variable {α : Type}
def setJ : List JI → List HV → St → (St → M α) → M α
 | [], vs, S, K => nl vs (K S)
 | .t t sh :: r, vs, S, K => uc vs fun v vs => sh.d v fun v' => setJ r vs { S with F := .set t (.v v') S.F } K
 | .x d none :: r, vs, S, K => uc vs fun v vs => asA v fun cs => setJ r vs { S with B := .set d cs S.B } K
 | .x d (some l) :: r, vs, S, K => uc vs fun v vs => asA v fun cs => Sc.ds l cs fun cs' => setJ r vs { S with B := .set d cs' S.B } K
end
def optM (o : Option (List HV)) (f : List HV → M Leaf) : M Leaf := match o with
 | some vs => f vs
 | none => stk
def leafN (lv : Nat) (J : List JI) (S : St) : M Leaf :=
 gd (S.B.clean lv (boxes J)) (optM (collect J S) fun vs => ret (.norm vs))
def leafX (id lv : Nat) (J : List JI) (S : St) : M Leaf :=
 gd (S.B.clean lv (boxes J)) (optM (collect J S) fun vs => ret (.exit id vs))
def exitsD (S : St) : Ctx → Nat → M Leaf
 | [] => noX
 | (i, e) :: r => onX i (match e with
  | some (lv, J) => leafX i lv J S
  | none => stk) (exitsD S r)
def opsDst : List Oper → List Nat
 | [] => []
 | o :: r => match o.dst with
  | some d => d :: opsDst r
  | none => opsDst r
def assigned : Code → List Nat
 | .region _ ops _ => opsDst ops.toList
 | .seq a b => assigned a ++ assigned b
 | .cond _ a b => assigned a ++ assigned b
 | .block _ c => assigned c
 | .loop c => assigned c
 | .scope c => assigned c
 | .rangeFunc _ ps a b => ps.toList ++ assigned a ++ assigned b
 | _ => []
/-! types -/
def scOf (P : Program) (t : TypeId) : Option Sc := match P.underlying t with
 | some (.int k) => some (.ki k)
 | some .bool => some .kb
 | some .string => some .ks
 | some (.pointer _) => some .kp
 | some (.slice _) => some .kl
 | some (.func ..) => some .kv
 | some (.map _ _) => some .km
 | some (.interface _) => some .kf
 | _ => none
def reps : Nat → List Sc → List Sc
 | 0, _ => []
 | n + 1, l => l ++ reps n l
def fldShs (g : TypeId → Option (List Sc)) : List Field → Option (List Sc)
 | [] => some []
 | f :: r => match g f.type, fldShs g r with
  | some a, some b => some (a ++ b)
  | _, _ => none
def cellShs (P : Program) : Nat → TypeId → Option (List Sc)
 | 0, _ => none
 | n + 1, t => match P.underlying t with
  | some (.struct fs) => fldShs (cellShs P n) fs.toList
  | some (.array m e) => (cellShs P n e).map (reps m)
  | _ => (scOf P t).map ([·])
def agOf (P : Program) (t : TypeId) : Option Bool := match P.underlying t with
 | some (.struct _) => some true
 | some (.array _ _) => some true
 | some _ => some false
 | none => none
def fewCells : Nat := 8
def sizeT (P : Program) (t : TypeId) : Nat := P.cellsOf t
def sh1Of (P : Program) (t : TypeId) : Sh1 := match agOf P t with
 | some true => match Nat.ble (sizeT P t) fewCells with
  | true => match cellShs P 9 t with
   | some l => .c l
   | none => .a
  | false => .a
 | _ => match scOf P t with
  | some s => .sc s
  | none => .sc .kv
def sh1s (P : Program) : List TypeId → List Sh1
 | [] => []
 | t :: r => sh1Of P t :: sh1s P r
def shOf (P : Program) (t : TypeId) : Sh := match P.underlying t with
 | some (.tuple ts) => .t (sh1s P ts.toList)
 | _ => .o (sh1Of P t)
/-! values of the program's text -/
def ofS : Value → Option HV
 | .int k n => some (.int k n)
 | .bool b => some (.bool b)
 | .string s => some (.str s)
 | .pointer none => some (.ptr none)
 | .slice none 0 0 => some (.sl ⟨none, 0, 0, none⟩)
 | .nilFunc => some .nilFunc
 | .nilIface => some (.ifc false)
 | .map none => some (.mp none)
 | _ => none
def ofSs : List Value → Option (List HV)
 | [] => some []
 | v :: r => match ofS v, ofSs r with
  | some a, some b => some (a :: b)
  | _, _ => none
def ofV (v : Value) : Option HV := match v with
 | .agg cs => match ofSs cs.toList with
  | some l => some (.agg l)
  | none => none
 | v => ofS v
def toV : HV → Option Value
 | .int k n => some (.int k n)
 | .bool b => some (.bool b)
 | .str s => some (.string s)
 | _ => none
def backV : Value → Option HV
 | .int k n => some (.int k n)
 | .bool b => some (.bool b)
 | .string s => some (.str s)
 | _ => none
def quick {α : Type} (P : Program) : Sem α → Option α
 | .pure a => some a
 | .program k => quick P (k P)
 | _ => none
structure Env where
 fn : Nat → Option (List HV → M HV)
 D : HV → List HV → M HV
 gl : Nat → Option Nat
def St.ev (E : Env) (S : St) : Operand → SV
 | .tmp t => S.F.get t
 | .const v => match ofV v with
  | some h => .v h
  | none => .un
 | .global g => match E.gl g with
  | some b => .v (.ptr (some (b, 0)))
  | none => .un
 | .func f => .v (.func f [] [])
def St.evs (E : Env) (S : St) : List Operand → Option (List HV)
 | [] => some []
 | x :: r => match S.ev E x, S.evs E r with
  | .v h, some l => some (h :: l)
  | _, _ => none
def HV.cs : HV → List HV
 | .agg l => l
 | v => [v]
def zeroCells? (P : Program) (t : TypeId) : Option (List HV) :=
 match P.info? t with
 | some i => match i.zero with
  | some z => match ofV z with
   | some h => some h.cs
   | none => none
  | none => none
 | none => none
def zeroV? (P : Program) (t : TypeId) : Option HV :=
 match P.info? t with
 | some i => match i.zero with
  | some z => ofS z
  | none => none
 | none => none
def repL (n : Nat) (l : List HV) : List HV := match l with
 | [x] => List.replicate n x
 | _ => match n with
  | 0 => []
  | n + 1 => l ++ repL n l
def fillD (pl : Nat → Option (Nat × Nat)) : List HV → List (Nat × HV) → Option (List HV)
 | cs, [] => some cs
 | cs, (i, v) :: r => match pl i with
  | none => none
  | some (off, sz) => match Nat.beq v.cs.length sz && Nat.ble (off + sz) cs.length with
   | true => fillD pl (putN cs off v.cs) r
   | false => none
def fillP (pl : Nat → Option (Nat × Nat)) (tot : Nat) : List HV → List (Nat × HV) → Option (List HV)
 | cs, [] => some cs
 | cs, (i, v) :: r => match pl i with
  | none => none
  | some (off, sz) => match Nat.ble (off + sz) tot with
   | true => fillP pl tot (putN cs off v.cs) r
   | false => none
def gdLens {α : Type} (pl : Nat → Option (Nat × Nat)) : List (Nat × HV) → M α → M α
 | [], m => m
 | (i, v) :: r, m => match pl i with
  | none => stk
  | some (_, sz) => gd (Nat.beq v.cs.length sz) (gdLens pl r m)
def partsD (E : Env) (S : St) : List (Nat × Operand) → Option (List (Nat × HV))
 | [] => some []
 | (i, x) :: r => match S.ev E x, partsD E S r with
  | .v (.tup _), _ => none
  | .v h, some l => some ((i, h) :: l)
  | _, _ => none
def fieldPl (P : Program) (fs : Array Field) (i : Nat) : Option (Nat × Nat) := match fs[i]? with
 | some f => some (f.offset, sizeT P f.type)
 | none => none
def partA {α : Type} (P : Program) (t : TypeId) (cs : List HV) (off : Nat) (K : HV → M α) : M α :=
 match agOf P t with
 | some true => gxN cs off (sizeT P t) fun l => (sh1Of P t).d (.agg l) K
 | some false => gx cs off fun v => (sh1Of P t).d v K
 | none => stk
section
variable {α : Type} (E : Env) (P : Program) (esc : Nat → Bool)
def loadD (t : TypeId) (a : SV) (S : St) (K : SV → St → M α) : M α := match a with
 | .loc d off => match S.B.get d with
  | some cs => partA P t cs off fun v => K (.v v) S
  | none => stk
 | .v (.ptr p) => mP p fun b o => match agOf P t with
  | some true => ldN b o (sizeT P t) fun l => (sh1Of P t).d (.agg l) fun v => K (.v v) S
  | some false => ldC b o fun v => (sh1Of P t).d v fun v => K (.v v) S
  | none => stk
 | _ => stk
def storeD (t : TypeId) (a : SV) (x : SV) (S : St) (K : SV → St → M α) : M α := match x with
 | .v x => match agOf P t with
  | some true => match x with
   | .agg l => match a with
    | .loc d off => match S.B.get d with
     | some cs => gd (Nat.beq l.length (sizeT P t)) (gd (Nat.ble (off + l.length) cs.length) (K .un { S with B := .set d (putN cs off l) S.B }))
     | none => stk
    | .v (.ptr p) => mP p fun b o => gd (Nat.beq l.length (sizeT P t)) (stN b o l (K .un S))
    | _ => stk
   | _ => stk
  | some false => match a with
   | .loc d off => match S.B.get d with
    | some cs => gd (Nat.beq 1 (sizeT P t)) (gd (decide (off < cs.length)) (sc1 x (K .un { S with B := .set d (cs.set off x) S.B })))
    | none => stk
   | .v (.ptr p) => mP p fun b o => gd (Nat.beq 1 (sizeT P t)) (stC b o x (K .un S))
   | _ => stk
  | none => stk
 | _ => stk
def tyB (P : Program) (t : TypeId) (k : Nat) : Option (Nat × Option Nat) := match P.info? t with
 | some i => match i.desc with
  | .named n _ => match decide (n = "strings.Builder") with
   | true => some (t, some k)
   | false => none
  | _ => none
 | none => none
def newD (t : Option (Nat × Option Nat)) (dst : Option Nat) (cs : List HV) (S : St) (K : SV → St → M α) : M α := match dst with
 | none => stk
 | some d => match esc d with
  | true => nwO t cs fun b => K (.v (.ptr (some (b, 0)))) S
  | false => match S.B.get d with
   | some _ => stk
   | none => K (.loc d 0) { S with B := .set d cs S.B }
def idxD (t : TypeId) (x i : SV) (S : St) (K : SV → St → M α) : M α := match i with
 | .v (.int _ i) => match P.underlying t, x with
  | some (.slice e), .v (.sl s) => match P.info? e with
   | some _ => ix s i (sizeT P e) fun b o => K (.v (.ptr (some (b, o)))) S
   | none => stk
  | some (.array n e), .loc d off => match P.info? e with
   | some _ => gd (decide (0 ≤ i)) (gd (decide (i < (n : Int))) (K (.loc d (off + i.toNat * sizeT P e)) S))
   | none => stk
  | some (.array n e), .v (.ptr p) => match P.info? e with
   | some _ => mP p fun b o => gd (decide (0 ≤ i)) (gd (decide (i < (n : Int))) (K (.v (.ptr (some (b, o + i.toNat * sizeT P e)))) S))
   | none => stk
  | _, _ => stk
 | _ => stk
def eqFs (P : Program) : Nat → List Field → List HV → List HV → Option Bool
 | _, [], [], [] => some true
 | i, f :: fs, x :: xs, y :: ys => match Nat.beq f.offset i, decide (f.name = "_"), eqFs P (i + 1) fs xs ys with
  | true, false, some t => match P.underlying f.type, x, y with
   | some (.int _), .int k a, .int k' b => match decide (k = k') with
    | true => some (cond (a == b) t false)
    | false => none
   | some .bool, .bool a, .bool b => some (cond (a == b) t false)
   | some .string, .str a, .str b => some (cond (a.toList == b.toList) t false)
   | _, _, _ => none
  | _, _, _ => none
 | _, _, _, _ => none
def eqSt (P : Program) (t : TypeId) (xs ys : List HV) : Option Bool := match P.underlying t with
 | some (.struct fs) => match P.stoodInHeld t, P.eqGuardType P.depth t with
  | false, false => eqFs P 0 fs.toList xs ys
  | _, _ => none
 | _ => none
def eqSh : List Sc → List HV → List HV → Option Bool
 | [], [], [] => some true
 | .ki k :: r, .int k1 a :: xs, .int k2 b :: ys => match decide (k1 = k) && decide (k2 = k), eqSh r xs ys with
  | true, some t => some (cond (a == b) t false)
  | _, _ => none
 | .kb :: r, .bool a :: xs, .bool b :: ys => match eqSh r xs ys with
  | some t => some (cond (a == b) t false)
  | none => none
 | .ks :: r, .str a :: xs, .str b :: ys => match eqSh r xs ys with
  | some t => some (cond (a.toList == b.toList) t false)
  | none => none
 | _, _, _ => none
def eqM {α : Type} (sh : List Sc) (xs ys : List HV) (f : Bool → M α) : M α := match eqSh sh xs ys with
 | some b => f b
 | none => stk
def kindFs (P : Program) (g : TypeId → Option (List Sc)) : Nat → List Field → Option (List Sc)
 | _, [] => some []
 | i, f :: fs => match g f.type with
  | some l => match Nat.beq f.offset i && !decide (f.name = "_") && Nat.beq (sizeT P f.type) l.length && (P.info? f.type).isSome, kindFs P g (i + l.length) fs with
   | true, some r => some (l ++ r)
   | _, _ => none
  | none => none
def kindE (P : Program) : Nat → TypeId → Option (List Sc)
 | 0, _ => none
 | n + 1, t => match P.underlying t with
  | some (.int k) => some [.ki k]
  | some .bool => some [.kb]
  | some .string => some [.ks]
  | some (.struct fs) => match P.stoodInHeld t, P.eqGuardType P.depth t with
   | false, false => kindFs P (kindE P n) 0 fs.toList
   | _, _ => none
  | some (.array m e) => match kindE P n e with
   | some l => match Nat.beq (sizeT P e) l.length && (P.info? e).isSome, P.eqGuardType P.depth t with
    | true, false => some (reps m l)
    | _, _ => none
   | none => none
  | _ => none
def kindT (P : Program) (t : TypeId) : Option (List Sc) := match agOf P t with
 | some true => kindE P 9 t
 | _ => none
def scSt (P : Program) (t : TypeId) : Bool := match sh1Of P t with
 | .a => false
 | _ => true
def isPt (P : Program) (t : TypeId) : Bool := match P.underlying t with
 | some (.pointer _) => true
 | _ => false
def isIf (P : Program) (t : TypeId) : Bool := match P.underlying t with
 | some (.interface _) => true
 | _ => false
def isSl (P : Program) (t : TypeId) : Bool := match P.underlying t with
 | some (.slice _) => true
 | _ => false
def shD : BinOp → HV → HV → Option (Bool × HV)
 | .shl, .int k x, .int _ y => some (decide (0 ≤ y), .int k (k.wrap (x * 2 ^ (min y.toNat k.bits))))
 | .shr, .int k x, .int _ y => some (decide (0 ≤ y), .int k (x.fdiv (2 ^ (min y.toNat k.bits))))
 | .add, .str x, .str y => some (decide (x.size + y.size ≤ 9223372036854775807), .str (x ++ y))
 | .quo, .int k x, .int k' y => some (decide (k = k') && !decide (y = 0), .int k (k.wrap (x.tdiv y)))
 | .rem, .int k x, .int k' y => some (decide (k = k') && !decide (y = 0), .int k (x.tmod y))
 | _, _, _ => none
def binD (op : BinOp) (t : TypeId) (x y : SV) (S : St) (K : SV → St → M α) : M α := match x, y with
  | .v a, .v b => match shD op a b with
   | some (g, v) => gd g (K (.v v) S)
   | none => match toV a, toV b with
    | some va, some vb => match quick P (binOp op t va vb) with
      | some r => match backV r with
        | some h => K (.v h) S
        | none => stk
      | none => stk
    | _, _ => match op, a, b with
      | .eql, .ptr p, .ptr none => match isPt P t with
        | true => K (.v (.bool p.isNone)) S
        | false => stk
      | .neq, .ptr p, .ptr none => match isPt P t with
        | true => K (.v (.bool (!p.isNone))) S
        | false => stk
      | .eql, .sl s, .sl ⟨none, 0, 0, none⟩ => match isSl P t with
        | true => K (.v (.bool s.p.isNone)) S
        | false => stk
      | .neq, .sl s, .sl ⟨none, 0, 0, none⟩ => match isSl P t with
        | true => K (.v (.bool (!s.p.isNone))) S
        | false => stk
      | .eql, .agg xs, .agg ys => match scSt P t with
        | true => match eqSt P t xs ys with
          | some e => K (.v (.bool e)) S
          | none => match kindT P t with
            | some sh => eqM sh xs ys fun e => K (.v (.bool e)) S
            | none => stk
        | false => match kindT P t with
          | some sh => eqM sh xs ys fun e => K (.v (.bool e)) S
          | none => stk
      | .neq, .agg xs, .agg ys => match scSt P t with
        | true => match eqSt P t xs ys with
          | some e => K (.v (.bool (!e))) S
          | none => match kindT P t with
            | some sh => eqM sh xs ys fun e => K (.v (.bool (!e))) S
            | none => stk
        | false => match kindT P t with
          | some sh => eqM sh xs ys fun e => K (.v (.bool (!e))) S
          | none => stk
      | _, _, _ => stk
  | _, _ => stk
def nilC : Operand → Bool
 | .const .nilIface => true
 | _ => false
def ifD (op : BinOp) (t : TypeId) (y : Operand) (x : SV) (S : St) (K : SV → St → M α) (m : M α) : M α := match nilC y, x with
 | true, .v (.ifc b) => match isIf P t, op with
  | true, .eql => K (.v (.bool (!b))) S
  | true, .neq => K (.v (.bool b)) S
  | _, _ => stk
 | _, _ => m
def unD (op : UnOp) (x : SV) (S : St) (K : SV → St → M α) : M α := match x with
 | .v a => match toV a with
  | some va => match quick P (Op.unary op va) with
   | some r => match backV r with
    | some h => K (.v h) S
    | none => stk
   | none => stk
  | none => stk
 | _ => stk
def convD (src dst : TypeId) (x : SV) (S : St) (K : SV → St → M α) : M α := match x with
 | .v a => match P.underlying src, P.underlying dst, a with
  | some (.int _), some (.int k), .int _ n => K (.v (.int k (k.wrap n))) S
  | some .string, some .string, .str s => K (.v (.str s)) S
  | _, _, _ => stk
 | _ => stk
def lenD (t : TypeId) (x : SV) (S : St) (K : SV → St → M α) : M α := match P.underlying t, x with
 | some (.slice _), .v (.sl s) => K (.v (.int .i64 (s.len : Int))) S
 | some .string, .v (.str s) => K (.v (.int .i64 (s.size : Int))) S
 | some (.array n _), .v _ => K (.v (.int .i64 (n : Int))) S
 | some (.array n _), .loc _ _ => K (.v (.int .i64 (n : Int))) S
 | _, _ => stk
def tailD (sz : Nat) (x : SV) (S : St) (K : Nat → List HV → M α) : M α := match x with
 | .lsl d n => match S.B.get d with
  | some cs => K n cs
  | none => stk
 | .v (.sl s) => rdS s sz fun vs => K s.len vs
 | _ => stk
def bytesT (t : TypeId) : Nat := P.bytesOf t
def bytesH : List HV → Option (List Int)
 | [] => some []
 | .int .u8 n :: r => match bytesH r with
  | some l => some (n :: l)
  | none => none
 | _ => none
def strB (ns : List Int) : ByteArray := ns.foldl (fun r n => r.push (UInt8.ofNat n.toNat)) ByteArray.empty
def strM {α : Type} (vs : List HV) (f : ByteArray → M α) : M α := match bytesH vs with
 | some ns => f (strB ns)
 | none => stk
def bytesSrc (P : Program) (s d : TypeId) : Bool := match P.underlying s, P.underlying d with
 | some (.slice e), some .string => match P.underlying e with
  | some (.int .u8) => true
  | _ => false
 | _, _ => false
def bytesDst (P : Program) (s d : TypeId) : Option TypeId := match P.underlying s, P.underlying d with
 | some .string, some (.slice e) => match P.underlying e with
  | some (.int .u8) => match Nat.beq e 5 with
   | true => some e
   | false => none
  | _ => none
 | _, _ => none
def bytD (e : TypeId) (x : SV) (S : St) (K : SV → St → M α) : M α := match x with
 | .v (.str s) => nwT (e, none) (bytesHV s) fun b => K (.v (.sl ⟨some (b, 0), s.size, s.size, some 1⟩)) S
 | _ => stk
def strD (x : SV) (S : St) (K : SV → St → M α) : M α := tailD 1 x S fun m vs => gd (decide (vs.length = m)) (strM vs fun s => K (.v (.str s)) S)
def appD (t : TypeId) (s x : SV) (S : St) (K : SV → St → M α) : M α := match P.underlying t, s with
 | some (.slice e), .v (.sl s) => match zeroCells? P e with
  | some z => match Nat.beq z.length (sizeT P e) with
   | true => tailD (sizeT P e) x S fun m vs => apd s (sizeT P e) (bytesT P e) m vs fun s' => K (.v (.sl s')) S
   | false => stk
  | none => stk
 | _, _ => stk
def bstr (P : Program) (t t' : TypeId) : Bool := match P.underlying t, P.underlying t' with
 | some (.slice e), some .string => match zeroCells? P e with
  | some z => Nat.beq z.length (sizeT P e) && Nat.beq (sizeT P e) 1
  | none => false
 | _, _ => false
def appS (t : TypeId) (s x : SV) (S : St) (K : SV → St → M α) : M α := match P.underlying t, s, x with
 | some (.slice e), .v (.sl s), .v (.str b) => apdU e s 1 (bytesT P e) b.size (bytesHV b) fun s' => K (.v (.sl s')) S
 | _, _, _ => stk
def zint (P : Program) (t' : TypeId) : Bool := match P.underlying t' with
 | some (.int _) => true
 | _ => false
def appZ (t : TypeId) (s x : SV) (S : St) (K : SV → St → M α) : M α := match P.underlying t, s, x with
 | some (.slice e), .v (.sl s), .v (.int .i64 k) => match zeroCells? P e with
  | some z => match Nat.beq z.length (sizeT P e) && Nat.ble 1 (sizeT P e) with
   | true => gd (Option.isNone s.p && Option.isNone s.opn && decide (s.len = 0) && decide (s.cap = 0)) (gd (decide (0 < k) && decide (k.toNat * bytesT P e ≤ room) && decide (k.toNat ≤ room)) (nw (repL k.toNat z) fun b => K (.v (.sl ⟨some (b, 0), k.toNat, k.toNat, some (sizeT P e)⟩)) S))
   | false => stk
  | none => stk
 | _, _, _ => stk
def spcD (o : Oper) (S : St) (K : SV → St → M α) : M α := match o.op with
 | .makeMap _ none => nwS (.map []) fun b => K (.v (.mp (some b))) S
 | .lookup t m k ok => match P.underlying t, S.ev E m, S.ev E k with
  | some (.map kt et), .v (.mp b), .v (.str s) => match P.underlying kt, zeroV? P et with
   | some .string, some z => mpP b fun b => lkM b s fun r => (sh1Of P et).d (r.getD z) fun v => match ok with
    | true => K (.v (.tup [v, .bool r.isSome])) S
    | false => K (.v v) S
   | _, _ => stk
  | _, _, _ => stk
 | .mapUpdate t m k v => match P.underlying t, S.ev E m, S.ev E k, S.ev E v with
  | some (.map kt _), .v (.mp b), .v (.str s), .v h => match P.underlying kt with
   | some .string => mpP b fun b => puM b s h (K .un S)
   | _ => stk
  | _, _, _, _ => stk
 | .range t x => match P.underlying t, S.ev E x with
  | some .string, .v (.str s) => nwS (.iter s 0) fun b => K (.v (.ptr (some (b, 0)))) S
  | _, _ => stk
 | .next x true => match S.ev E x with
  | .v (.ptr (some (b, 0))) => nxM b (fun pos c => K (.v (.tup [.bool true, .int .i64 (pos : Int), .int .i32 (c : Int)])) S) (K (.v (.tup [.bool false])) S)
  | _ => stk
 | _ => stk
def mkSl (t : TypeId) (l c : SV) (S : St) (K : SV → St → M α) : M α := match P.underlying t, l, c with
 | some (.slice e), .v (.int .i64 l), .v (.int .i64 c) =>
  match zeroCells? P e with
  | some z => match Nat.beq z.length (sizeT P e) && Nat.ble 1 (bytesT P e) with
   | true => gd (decide (0 ≤ l)) (gd (decide (l ≤ c)) (gd (decide (c.toNat * bytesT P e ≤ room))
     (nw (repL c.toNat z) fun b => K (.v (.sl ⟨some (b, 0), l.toNat, c.toNat, none⟩)) S)))
   | false => stk
  | none => stk
 | _, _, _ => stk
def oInt (d : Int) : Option SV → Option Int
 | none => some d
 | some (.v (.int _ n)) => some n
 | _ => none
def slOk (opn : Option Nat) (sz : Nat) : Bool := match opn with
 | none => true
 | some es => decide (es = sz)
def slOp (opn : Option Nat) (lt : Bool) : Option Nat := match opn, lt with
 | none, _ => none
 | some es, true => some es
 | some _, false => some 0
def slcD (t : TypeId) (x : SV) (lo hi mx : Option SV) (S : St) (K : SV → St → M α) : M α := match P.underlying t, x with
  | some (.slice e), .v (.sl s) => match oInt 0 lo, oInt s.len hi, oInt s.cap mx with
    | some l, some h, some m => match P.info? e with
     | some _ =>
      gd (decide (0 ≤ l)) (gd (decide (l ≤ h)) (gd (decide (h ≤ m)) (gd (decide (m ≤ (s.cap : Int)))
        (gd (mx.isSome || slOk s.opn (sizeT P e))
          (K (.v (.sl ⟨bif decide (m = l) then s.p else s.p.map (fun q => (q.1, q.2 + l.toNat * sizeT P e)), (h - l).toNat, (m - l).toNat, bif mx.isSome then none else slOp s.opn (decide (l < m))⟩)) S)))))
     | none => stk
    | _, _, _ => stk
  | some .string, .v (.str s) => match mx, oInt 0 lo, oInt s.size hi with
    | none, some l, some h =>
      gd (decide (0 ≤ l)) (gd (decide (l ≤ h)) (gd (decide (h ≤ (s.size : Int))) (K (.v (.str (s.extract l.toNat h.toNat))) S)))
    | _, _, _ => stk
  | _, _ => stk
def callD (g : Option (List HV → M HV)) (args : Option (List HV)) (t : TypeId) (S : St) (K : SV → St → M α) : M α := match g, args with
 | some g, some args => bnd (g args) fun r => (shOf P t).d r fun r' => K (.v r') S
 | _, _ => stk
def tgt (E : Env) (S : St) : Operand → Option (List HV → M HV)
 | .func f => E.fn f
 | .tmp t => match S.F.get t with
  | .v h => some (E.D h)
  | _ => none
 | _ => none
def opD (o : Oper) (S : St) (K : SV → St → M α) : M α :=
 let ev := S.ev E
 match o.op with
 | .move x | .assign x => K (ev x) S
 | .pick c a b => match ev c with
  | .v (.bool c) => match ev a, ev b with
   | .v (.bool x), .v (.bool y) => K (.v (.bool (cond c x y))) S
   | sa, sb => cond c (K sa S) (K sb S)
  | _ => stk
 | .load t a => loadD P t (ev a) S K
 | .store t a x => storeD P t (ev a) (ev x) S K
 | .alloc t => match zeroCells? P t with
  | some cs => newD esc (tyB P t cs.length) o.dst cs S K
  | none => stk
 | .box _ x => match ev x with
  | .v h => nt h (newD esc none o.dst h.cs S K)
  | _ => stk
 | .build t ps => match P.underlying t, zeroCells? P t, partsD E S ps.toList with
  | some (.struct fs), some z, some l => match fs.toList.all (fun f => (P.info? f.type).isSome), fillP (fieldPl P fs) z.length z l with
   | true, some cs => gdLens (fieldPl P fs) l (K (.v (.agg cs)) S)
   | _, _ => stk
  | some (.array _ e), some z, some l => match (P.info? e).isSome, fillP (fun i => some (i * sizeT P e, sizeT P e)) z.length z l with
   | true, some cs => gdLens (fun i => some (i * sizeT P e, sizeT P e)) l (K (.v (.agg cs)) S)
   | _, _ => stk
  | _, _, _ => stk
 | .buildSlice t n ps => match P.underlying t with
  | some (.slice e) => match zeroCells? P e, partsD E S ps.toList with
   | some z, some l => match fillP (fun i => some (i * sizeT P e, sizeT P e)) (repL n z).length (repL n z) l with
    | some cs => gdLens (fun i => some (i * sizeT P e, sizeT P e)) l (match Nat.ble (n * sizeT P e) 16777216 && Nat.beq z.length (sizeT P e), o.dst with
     | true, some d => match esc d with
      | true => nw cs fun b => K (.v (.sl ⟨some (b, 0), n, n, none⟩)) S
      | false => match S.B.get d with
       | some _ => stk
       | none => K (.lsl d n) { S with B := .set d cs S.B }
     | _, _ => stk)
    | none => stk
   | _, _ => stk
  | _ => stk
 | .nilCheck x => match ev x with
  | .loc d off => K (.loc d off) S
  | .v (.ptr p) => mP p fun b o => K (.v (.ptr (some (b, o)))) S
  | _ => stk
 | .fieldAddr t x f => match P.underlying t with
  | some (.struct fs) => match fs[f]? with
   | some fd => match Nat.beq (sizeT P fd.type) 0, ev x with
    | false, .loc d off => K (.loc d (off + fd.offset)) S
    | false, .v (.ptr p) => mP p fun b o => K (.v (.ptr (some (b, o + fd.offset)))) S
    | _, _ => stk
   | none => stk
  | _ => stk
 | .field t x f => match P.underlying t, ev x with
  | some (.struct fs), .v (.agg cs) => match fs[f]? with
   | some fd => partA P fd.type cs fd.offset fun v => K (.v v) S
   | none => stk
  | _, _ => stk
 | .indexAddr t x i => idxD P t (ev x) (ev i) S K
 | .index t x i => match P.underlying t, ev x, ev i with
  | some (.array n e), .v (.agg cs), .v (.int _ i) => gd (decide (0 ≤ i)) (gd (decide (i < (n : Int))) (partA P e cs (i.toNat * sizeT P e) fun v => K (.v v) S))
  | some .string, .v (.str s), .v (.int _ i) => gd (decide (0 ≤ i)) (gd (decide (i < (s.size : Int))) (K (.v (.int .u8 ((s.data[i.toNat]?.getD 0).toNat : Int))) S))
  | _, _, _ => stk
 | .binOp op t x y _ => ifD P op t y (ev x) S K (binD P op t (ev x) (ev y) S K)
 | .unOp op _ x => unD P op (ev x) S K
 | .convert s d x => match bytesSrc P s d with
  | true => strD (ev x) S K
  | false => match bytesDst P s d with
   | some e => bytD e (ev x) S K
   | none => convD P s d (ev x) S K
 | .makeSlice t l c => mkSl P t (ev l) (ev c) S K
 | .slice t x l h m => match m, h with
  | some _, none => stk
  | _, _ => slcD P t (ev x) (l.map ev) (h.map ev) (m.map ev) S K
 | .makeFunc (.func f) a b => match S.evs E a.toList, S.evs E b.toList with
  | some a, some b => K (.v (.func f a b)) S
  | _, _ => stk
 | .extract x i => match ev x with
  | .v (.tup vs) => match vs[i]? with
   | some v => K (.v v) S
   | none => stk
  | _ => stk
 | .call c => match c.callee with
  | .builtin .len => match c.argTypes[0]?, c.args[0]? with
   | some t, some x => lenD P t (ev x) S K
   | _, _ => stk
  | .builtin .append => match c.argTypes[0]?, c.argTypes[1]?, c.args[0]?, c.args[1]? with
   | some t, some t', some s, some x => match Nat.beq t t' && Nat.beq c.argTypes.size 2 && Nat.beq c.args.size 2 with
    | true => appD P t (ev s) (ev x) S K
    | false => match bstr P t t' && Nat.beq c.argTypes.size 2 && Nat.beq c.args.size 2 with
     | true => appS P t (ev s) (ev x) S K
     | false => match zint P t' && Nat.beq c.argTypes.size 2 && Nat.beq c.args.size 2 with
      | true => appZ P t (ev s) (ev x) S K
      | false => stk
   | _, _, _, _ => stk
  | .builtin .max => match c.args[0]?, c.args[1]?, c.args[2]? with
   | some x, some y, none => match ev x, ev y with
    | .v (.int k a), .v (.int k' b) => gd (decide (k = k')) (K (.v (.int k (bif decide (b > a) then b else a))) S)
    | _, _ => stk
   | _, _, _ => stk
  | .builtin .min => match c.args[0]?, c.args[1]?, c.args[2]? with
   | some x, some y, none => match ev x, ev y with
    | .v (.int k a), .v (.int k' b) => gd (decide (k = k')) (K (.v (.int k (bif decide (b < a) then b else a))) S)
    | _, _ => stk
   | _, _, _ => stk
  | .builtin .unsafeSliceData => match c.args[0]?, c.args[1]? with
   | some x, none => match ev x with
    | .v (.sl s) => gd (s.p.isNone || decide (0 < s.cap)) (K (.v (.ptr s.p)) S)
    | _ => stk
   | _, _ => stk
  | .builtin .cap => match c.argTypes[0]?, c.args[0]?, c.args[1]? with
   | some t, some x, none => match P.underlying t, ev x with
    | some (.slice _), .v (.sl s) => gd s.opn.isNone (K (.v (.int .i64 (s.cap : Int))) S)
    | _, _ => stk
   | _, _, _ => stk
  | .builtin .unsafeString => match c.argTypes[0]?, c.args[0]?, c.args[1]?, c.args[2]? with
   | some t, some x, some y, none => match P.underlying t, ev x, ev y with
    | some (.pointer e), .v (.ptr p), .v (.int .i64 k) => match Nat.beq (P.cellsOf e) 1 && Nat.beq c.argTypes.size 2 with
     | true => usM e p k fun s => K (.v (.str s)) S
     | false => stk
    | _, _, _ => stk
   | _, _, _, _ => stk
  | .value f => callD P (tgt E S f) (S.evs E c.args.toList) o.type S K
  | _ => stk
 | _ => spcD E P o S K
def denOps (all : Array Oper) : List Oper → St → (St → M α) → M α
 | [], S, K => K S
 | o :: rest, S, K => match o.guard with
  | none => opD E P esc o S fun s S' => denOps all rest (S'.put o.dst s) K
  | some (j, want) => match (all[j]?).bind (·.dst) with
   | some g => match S.F.get g with
    | .v (.bool c) =>
     let go (b : Bool) : M α :=
      let S1 := S.put (some g) (.v (.bool b))
      match b, want with
      | true, true | false, false => opD E P esc o S1 fun s S' => denOps all rest (S'.put o.dst s) K
      | _, _ => denOps all rest (S1.put o.dst UD) K
     cond c (go true) (go false)
    | .v (.tup []) => denOps all rest (S.put o.dst UD) K
    | _ => stk
   | none => stk
structure Cl where
 rB : Option Nat
 wB : Option Nat
 rH : Bool
 wH : Bool
 fB : Option Nat := none
def clOf (E : Env) (esc : Nat → Bool) (o : Oper) (S : St) : Cl := match o.op with
 | .load _ a => match S.ev E a with
  | .loc d _ => ⟨some d, none, false, false, none⟩
  | .v h => match o.dst with
   | some d => match esc d with
    | true => match h with
     | .ptr (some (b, _)) => ⟨none, none, false, false, some b⟩
     | _ => ⟨none, none, true, false, none⟩
    | false => ⟨none, none, true, false, none⟩
   | none => ⟨none, none, true, false, none⟩
  | _ => ⟨none, none, true, false, none⟩
 | .store _ a _ => match S.ev E a with
  | .loc d _ => ⟨none, some d, false, false, none⟩
  | _ => ⟨none, none, true, true, none⟩
 | .alloc _ | .box _ _ | .buildSlice _ _ _ => match o.dst with
  | some d => match esc d with
   | true => ⟨none, none, true, true, none⟩
   | false => ⟨none, some d, false, false, none⟩
  | none => ⟨none, none, true, true, none⟩
 | .makeSlice _ _ _ => ⟨none, none, true, true, none⟩
 | .convert _ _ x => match S.ev E x with
  | .lsl d _ => ⟨some d, none, false, false, none⟩
  | .v (.sl _) => ⟨none, none, true, false, none⟩
  | .v (.str _) => ⟨none, none, true, true, none⟩
  | _ => ⟨none, none, false, false, none⟩
 | .call c => match c.callee with
  | .builtin .len | .builtin .max | .builtin .min | .builtin .unsafeSliceData | .builtin .cap => ⟨none, none, false, false, none⟩
  | .builtin .unsafeString => ⟨none, none, true, true, none⟩
  | .builtin _ => match c.args[1]? with
   | some x => match S.ev E x with
    | .lsl d _ => ⟨some d, none, true, true, none⟩
    | _ => ⟨none, none, true, true, none⟩
   | none => ⟨none, none, true, true, none⟩
  | _ => ⟨none, none, true, true, none⟩
 | .makeMap _ _ | .lookup _ _ _ _ | .mapUpdate _ _ _ _ | .range _ _ | .next _ _ => ⟨none, none, true, true, none⟩
 | _ => ⟨none, none, false, false, none⟩
def Cl.no : Cl := ⟨none, none, false, false, none⟩
def bxc : Option Nat → Option Nat → Bool
 | some d, some e => Nat.beq d e
 | _, _ => false
def Cl.clash (x y : Cl) : Bool := bxc x.wB y.rB || bxc x.wB y.wB || bxc y.wB x.rB || (x.wH && (y.rH || y.wH)) || (y.wH && x.rH)
def snp (sn : Bool) (f : Heap → M α) : M α := match sn with
 | true => fun H n => f H H n
 | false => f ⟨0, fun _ => .dead, fun _ => none⟩
def denOpsT (all : Array Oper) (sn : Bool) : List Oper → List Cl → List Heap → St → (St → List Cl → List Heap → M α) → M α
 | [], cs, hs, S, K => snp sn fun H => K S cs (H :: hs)
 | o :: rest, cs, hs, S, K => snp sn fun H => match o.guard with
  | none => opD E P esc o S fun s S' => denOpsT all sn rest (cs ++ [clOf E esc o S]) (H :: hs) (S'.put o.dst s) K
  | some (j, want) => match (all[j]?).bind (·.dst) with
   | some g => match S.F.get g with
    | .v (.bool c) =>
     let go (b : Bool) : M α :=
      let S1 := S.put (some g) (.v (.bool b))
      match b, want with
      | true, true | false, false => opD E P esc o S1 fun s S' => denOpsT all sn rest (cs ++ [clOf E esc o S1]) (H :: hs) (S'.put o.dst s) K
      | _, _ => denOpsT all sn rest (cs ++ [Cl.no]) (H :: hs) (S1.put o.dst UD) K
     cond c (go true) (go false)
    | .v (.tup []) => denOpsT all sn rest (cs ++ [Cl.no]) (H :: hs) (S.put o.dst UD) K
    | _ => stk
   | none => stk
def edgeBits (acc : List Nat) : List Edge → Nat
 | [] => 0
 | e :: r => match Region.binds .any e with
  | true => Nat.lor (Nat.lor (Nat.pow 2 e.on) (acc.getD e.on 0)) (edgeBits acc r)
  | false => edgeBits acc r
def ahead : List Oper → List Nat → List Nat
 | [], acc => acc
 | o :: r, acc => ahead r (acc ++ [edgeBits acc o.after.toList])
def slotClash (all : Array Oper) (x y : Oper) : Bool :=
 (match x.dst with | some d => mem d (y.looksAt all) || (match y.dst with | some d' => Nat.beq d d' | none => false) | none => false) ||
 (match y.dst with | some d => mem d (x.looksAt all) | none => false)
def pairOk (all : Array Oper) (x y : Oper) (cx cy : Cl) (i : Nat) (bits : Nat) : Bool :=
 match Cl.clash cx cy || slotClash all x y with
 | true => Nat.testBit bits i
 | false => true
def rowOk (all : Array Oper) (y : Oper) (cy : Cl) (bits : Nat) : List Oper → List Cl → Nat → Bool
 | x :: xs, c :: cs, i => pairOk all x y c cy i bits && rowOk all y cy bits xs cs (i + 1)
 | _, _, _ => true
def orderOk (all : Array Oper) (ops : List Oper) (cls : List Cl) (bits : List Nat) : List Oper → List Cl → List Nat → Nat → Bool
 | y :: ys, c :: cs, b :: bs, j => rowOk all y c b (ops.take j) (cls.take j) 0 && orderOk all ops cls bits ys cs bs (j + 1)
 | _, _, _, _ => true
def edgesBack (j : Nat) : List Edge → Bool
 | [] => true
 | e :: r => (match Region.binds .any e with | true => Nat.blt e.on j | false => true) && edgesBack j r
def backOk : List Oper → Nat → Bool
 | [], _ => true
 | o :: r, j => edgesBack j o.after.toList && backOk r (j + 1)
def drawOk (ops : Array Oper) (cls : List Cl) : Bool :=
 backOk ops.toList 0 && orderOk ops ops.toList cls (ahead ops.toList []) ops.toList cls (ahead ops.toList []) 0
def fullFrom : List Nat → Nat → Bool
 | [], _ => true
 | b :: r, i => Nat.beq b (Nat.pow 2 i - 1) && fullFrom r (i + 1)
def guardsIn (c : Nat) : List Oper → Bool
 | [] => true
 | o :: r => (match o.guard with | none => true | some (j, _) => Nat.blt j c) && guardsIn c r
def cutOk (ops : Array Oper) (c : Nat) : Bool :=
 Nat.blt c ops.toList.length && backOk ops.toList 0 && fullFrom ((ahead ops.toList []).drop c) c && guardsIn c (ops.toList.take c)
def sameC (b : Nat) : List Heap → Prop
 | [] => True
 | [_] => True
 | H :: H' :: r => H.get b = H'.get b ∧ sameC b (H' :: r)
def stW (bits : Nat) : List Cl → Nat → Nat → Nat
 | [], _, s => s
 | c :: r, i, s => stW bits r (i + 1) (match c.wH && Nat.testBit bits i with | true => i + 1 | false => s)
def sameP (hs : List Heap) (cls : List Cl) : List Cl → List Nat → Nat → Prop
 | [], _, _ => True
 | c :: r, bs, i => match c.fB with
  | none => sameP hs cls r bs.tail (i + 1)
  | some b => sameC b (hs.take (hs.length - Nat.min (stW (bs.headD 0) cls 0 0) i)) ∧ sameP hs cls r bs.tail (i + 1)
def noF : List Cl → Bool
 | [] => true
 | c :: r => match c.fB with
  | none => noF r
  | some _ => false
noncomputable def gdP (p : Prop) (m : M α) : M α := @ite _ p (Classical.propDecidable p) m stk
noncomputable def sameM (sn : Bool) (cs : List Cl) (bs : List Nat) (hs : List Heap) (m : M α) : M α := match sn with
 | true => gdP (sameP hs cs cs bs 0) m
 | false => gd (noF cs) m
def pubD : List Nat → St → (St → M α) → M α
 | [], S, K => K S
 | d :: r, S, K => match S.B.get d, (S.B.rm d).get d with
  | some cs, none => nw cs fun b => pubD r ⟨S.F.pub d b, S.B.rm d⟩ K
  | _, _ => stk
def escR (esc : Nat → Bool) (pub fl : List Nat) (d : Nat) : Bool := match mem d fl with
 | true => true
 | false => match mem d pub with
  | true => false
  | false => esc d
def nonE (l : List Nat) : Bool := match l with
 | [] => false
 | _ => true
noncomputable def regD (k : Nat) (pub fl : List Nat) (ops : Array Oper) (draw : Bool) (S : St) (K : St → M α) : M α := match draw with
  | false => denOps E P esc ops ops.toList S K
  | true => match k with
   | k + 1 => gd (cutOk ops (k + 1)) (denOpsT E P (escR esc pub fl) ⟨ops.toList.take (k + 1)⟩ (nonE fl) (ops.toList.take (k + 1)) [] [] S fun S' cls hs => gd (drawOk ⟨ops.toList.take (k + 1)⟩ cls) (sameM (nonE fl) cls (ahead (ops.toList.take (k + 1)) []) hs (pubD pub S' fun S' => denOps E P esc ops (ops.toList.drop (k + 1)) S' K)))
   | 0 => denOpsT E P (escR esc pub fl) ops (nonE fl) ops.toList [] [] S fun S' cls hs => gd (drawOk ops cls) (sameM (nonE fl) cls (ahead ops.toList []) hs (pubD pub S' K))
def slotVals : List Nat → St → Option (List (Nat × HV))
 | [], _ => some []
 | t :: r, S => match S.F.get t with
  | .v h => (slotVals r S).map ((t, h) :: ·)
  | _ => none
def St.kill (S : St) (ts : List Nat) : St := { S with F := .mask ts S.F }
def St.bar (S : St) (lv : Nat) : St := { S with B := .bar lv S.B }
def resD : List ResultVar → St → (List HV → M Leaf) → M Leaf
 | [], _, K => K []
 | .tmp t :: r, S, K => match S.F.get t with
  | .v h => resD r S fun l => K (h :: l)
  | _ => stk
 | .cell a t :: r, S, K => loadD P t (S.F.get a) S fun v S' => match v with
  | .v h => resD r S' fun l => K (h :: l)
  | _ => stk
variable (res : List ResultVar)
noncomputable def den : Code → Ann → Nat → Ctx → St → (St → M Leaf) → M Leaf
 | .skip, _, _, _, S, K => K S
 | .seq a b, an, lv, C, S, K => den a an.l lv C S fun S' => den b an.rt lv C S' K
 | .cond t x y, an, lv, C, S, K => match S.ev E t with
  | .v (.bool c) => match an.J with
   | none => cond c (den x an.l lv C S K) (den y an.rt lv C S K)
   | some J => jn (cond c (den x an.l (lv + 1) C (S.bar (lv + 1)) (leafN (lv + 1) J)) (den y an.rt (lv + 1) C (S.bar (lv + 1)) (leafN (lv + 1) J)))
     fun vs => setJ J vs (S.kill (assigned x ++ assigned y)) K
  | _ => stk
 | .block id c, an, lv, C, S, K => match an.J with
  | some J => blk id (den c an.l (lv + 1) ((id, some (lv + 1, J)) :: C) (S.bar (lv + 1)) (leafN (lv + 1) J)) fun vs => setJ J vs (S.kill (assigned c)) K
  | none => den c an.l lv ((id, none) :: C) S K
 | .loop c, an, lv, C, S, _ => match an.J with
  | some J => optM (collect J S) (loopD fun vs => setJ J vs ((S.kill (assigned c)).bar (lv + 1)) fun S' => den c an.l (lv + 1) C S' (leafN (lv + 1) J))
  | none => stk
 | .exit id, _, _, C, S, _ => match C.find id with
  | some (lv, J) => leafX id lv J S
  | none => stk
 | .ret, _, _, _, S, _ => resD P res S fun vs => ret (.ret vs)
 | .region _ ops draw, an, lv, _C, S, K => match an.J with
  | none => regD E P esc an.l.k an.l.L an.rt.L ops draw S K
  | some J => jn (regD E P esc an.l.k an.l.L an.rt.L ops draw (S.bar (lv + 1)) (leafN (lv + 1) J)) fun vs => setJ J vs (S.kill (opsDst ops.toList)) K
 | .rangeFunc g _ _ _, .r k sl, _, C, S, K => match S.ev E g, slotVals sl S with
  | .v h, some vs => ny h (nwL k vs fun l => bnd (E.D h [.yld l]) fun _ => endL l (K S)
    (exitsD S C)
    (resD P res S fun vs => ret (.ret vs)))
  | _, _ => stk
 | _, _, _, _, _, _ => stk
end
structure Site where
 k : Nat
 ps : Array Tmp
 a : Code
 b : Code
def sites : Code → Ann → List Site
 | .seq x y, an => sites x an.l ++ sites y an.rt
 | .cond _ x y, an => sites x an.l ++ sites y an.rt
 | .block _ c, an => sites c an.l
 | .loop c, an => sites c an.l
 | .rangeFunc _ ps a b, .r k _ => [⟨k, ps, a, b⟩]
 | _, _ => []
noncomputable def roundD (E : Env) (P : Program) (esc : List Nat) (s : Site) (J Jp : List JI) (an1 an2 : Ann) (ids : List Nat) (l : Nat) (vs : List (Nat × HV)) (args : List HV) : M Leaf :=
 gdS (jslots J) vs fun vs' => setJ J vs' ⟨.nil, .bar 0 .nil⟩ fun S => setJ Jp args S fun S1 =>
  den E P (fun d => mem d esc) [] s.a an1 0 [] S1 fun S2 => busyL l (den E P (fun d => mem d esc) [] s.b an2 0 (ids.map fun id => (id, some (0, []))) S2 fun _ => ret (.norm []))
def params : List Sh1 → Nat → List HV → St → (St → M Leaf) → M Leaf
 | [], _, vs, S, K => nl vs (K S)
 | sh :: r, i, vs, S, K => uc vs fun v vs => sh.d v fun v' => params r (i + 1) vs { S with F := .set i (.v v') S.F } K
noncomputable def fnD (E : Env) (P : Program) (esc : List Nat) (an : Ann) (f : Func) (fv : List Sh1) (args : List HV) : M HV :=
 match f.body with
 | some c => fin (params (sh1s P f.params.toList ++ fv) 0 args ⟨.nil, .nil⟩ fun S =>
   den E P (fun d => mem d esc) f.results.toList c an 0 [] S fun S' => resD P f.results.toList S' fun vs => ret (.ret vs))
 | none => stk
end Go.Proofs.YtbphjihgbenkdaaGreat.HQ
