/- Lemmas for the row. Conditions: none. -/
import GoSem.Step
import GoSem.Core.Utf8
namespace Go.Proofs.YtbphjihgbenkdaaGreat.HQ
set_option linter.unusedVariables false
set_option linter.unusedSectionVars false
set_option linter.unusedSimpArgs false
open Go
structure Sl where
 p : Option (Nat × Nat)
 len : Nat
 cap : Nat
 opn : Option Nat
inductive HV where
 | int (k : IntKind) (n : Int)
 | bool (b : Bool)
 | str (s : ByteArray)
 | ptr (p : Option (Nat × Nat))
 | sl (s : Sl)
 | func (f : Nat) (first cap : List HV)
 | yld (l : Nat)
 /-- a map; an interface: is it not nil? -/
 | mp (b : Option Nat)
 | ifc (b : Bool)
 | nilFunc
 | agg (cs : List HV)
 | tup (vs : List HV)
 deriving Inhabited
inductive Spc where
 | loop (k : Nat) (vs : List (Nat × HV)) (st : LoopState) (pd : Option Code)
 | map (es : List (HV × HV))
 | iter (s : ByteArray) (pos : Nat)
inductive HObj where
 | dead
 | cells (cs : List HV) (ro : Bool)
 | spc (s : Spc)
structure Heap where
 n : Nat
 get : Nat → HObj
 /-- the types of blocks, and how many cells these have, where that is told. -/
 ty : Nat → Option (Nat × Option Nat) := fun _ => none
def Heap.set (H : Heap) (b : Nat) (o : HObj) : Heap := { n := H.n, get := fun x => if x = b then o else H.get x, ty := H.ty }
def Heap.push (H : Heap) (o : HObj) : Heap := { n := H.n + 1, get := fun x => if x = H.n then o else H.get x, ty := fun x => if x = H.n then none else H.ty x }
def Heap.pushT (H : Heap) (t : Option (Nat × Option Nat)) (o : HObj) : Heap := { n := H.n + 1, get := fun x => if x = H.n then o else H.get x, ty := fun x => if x = H.n then t else H.ty x }
abbrev I (n : Int) : HV := .int .i64 n
def wr (n : Int) : Int := IntKind.wrap .i64 n
abbrev M (α : Type) := Heap → Nat → Option (α × Heap)
section
variable {α β : Type}
def ret (a : α) : M α := fun H _ => some (a, H)
def stk : M α := fun _ _ => none
def bnd (m : M α) (k : α → M β) : M β := fun H n => match m H n with
 | some (a, H') => k a H' n
 | none => none
def gd (b : Bool) (m : M α) : M α := match b with
 | true => m
 | false => stk
def asI (k : IntKind) (v : HV) (f : Int → M α) : M α := match v with
 | .int k' n => gd (decide (k' = k)) (f n)
 | _ => stk
def asB (v : HV) (f : Bool → M α) : M α := match v with
 | .bool b => f b
 | _ => stk
def asS (v : HV) (f : ByteArray → M α) : M α := match v with
 | .str s => f s
 | _ => stk
def asP (v : HV) (f : Option (Nat × Nat) → M α) : M α := match v with
 | .ptr p => f p
 | _ => stk
def asSl (v : HV) (f : Sl → M α) : M α := match v with
 | .sl s => f s
 | _ => stk
def asM (v : HV) (f : Option Nat → M α) : M α := match v with
 | .mp p => f p
 | _ => stk
def asF (v : HV) (f : Bool → M α) : M α := match v with
 | .ifc b => f b
 | _ => stk
def asA (v : HV) (f : List HV → M α) : M α := match v with
 | .agg cs => f cs
 | _ => stk
def asT (v : HV) (f : List HV → M α) : M α := match v with
 | .tup cs => f cs
 | _ => stk
def uc (vs : List HV) (f : HV → List HV → M α) : M α := match vs with
 | v :: r => f v r
 | [] => stk
def nl (vs : List HV) (m : M α) : M α := match vs with
 | [] => m
 | _ => stk
def uI (k : IntKind) (vs : List HV) (f : Int → List HV → M α) : M α := uc vs fun v r => asI k v fun n => f n r
def uB (vs : List HV) (f : Bool → List HV → M α) : M α := uc vs fun v r => asB v fun n => f n r
def uS (vs : List HV) (f : ByteArray → List HV → M α) : M α := uc vs fun v r => asS v fun n => f n r
def uP (vs : List HV) (f : Option (Nat × Nat) → List HV → M α) : M α := uc vs fun v r => asP v fun n => f n r
def uL (vs : List HV) (f : Sl → List HV → M α) : M α := uc vs fun v r => asSl v fun n => f n r
def uA (vs : List HV) (f : List HV → List HV → M α) : M α := uc vs fun v r => asA v fun n => f n r
def HV.sc : HV → Bool
 | .agg _ => false
 | .tup _ => false
 | _ => true
def sc1 (h : HV) (m : M α) : M α := match h with
 | .agg _ => stk
 | .tup _ => stk
 | _ => m
def nt (h : HV) (m : M α) : M α := match h with
 | .tup _ => stk
 | _ => m
def mP (p : Option (Nat × Nat)) (f : Nat → Nat → M α) : M α := match p with
 | some (b, o) => f b o
 | none => stk
def ix (s : Sl) (i : Int) (sz : Nat) (f : Nat → Nat → M α) : M α :=
 gd (decide (0 ≤ i)) (gd (decide (i < (s.len : Int))) (mP s.p fun b o => f b (o + i.toNat * sz)))
def gx (cs : List HV) (off : Nat) (f : HV → M α) : M α := match cs[off]? with
 | some v => f v
 | none => stk
def gxN (cs : List HV) (off cnt : Nat) (f : List HV → M α) : M α :=
 gd (decide (off + cnt ≤ cs.length)) (f ((cs.drop off).take cnt))
def ldC (b o : Nat) (f : HV → M α) : M α := fun H n => match H.get b with
 | .cells cs _ => gx cs o f H n
 | _ => none
def ldN (b o cnt : Nat) (f : List HV → M α) : M α := fun H n => match H.get b with
 | .cells cs _ => gxN cs o cnt f H n
 | _ => none
def putN (cs : List HV) (off : Nat) (vs : List HV) : List HV := cs.take off ++ vs ++ cs.drop (off + vs.length)
def stC (b o : Nat) (v : HV) (m : M α) : M α := fun H n => match H.get b with
 | .cells cs false => gd (decide (o < cs.length)) (sc1 v m) (H.set b (.cells (cs.set o v) false)) n
 | _ => none
def stN (b o : Nat) (vs : List HV) (m : M α) : M α := fun H n => match H.get b with
 | .cells cs false => gd (decide (o + vs.length ≤ cs.length)) m (H.set b (.cells (putN cs o vs) false)) n
 | _ => none
def nw (cs : List HV) (f : Nat → M α) : M α := fun H n => f H.n (H.push (.cells cs false)) n
def nwT (t : Nat × Option Nat) (cs : List HV) (f : Nat → M α) : M α := fun H n => f H.n (H.pushT (some t) (.cells cs false)) n
def nwO (t : Option (Nat × Option Nat)) (cs : List HV) (f : Nat → M α) : M α := fun H n => f H.n (H.pushT t (.cells cs false)) n
def tyM (b : Nat) (t : Nat × Option Nat) (m : M α) : M α := fun H n => gd (decide (H.ty b = some t)) m H n
def rdS (s : Sl) (sz : Nat) (f : List HV → M α) : M α := match s.p with
 | none => gd (decide (s.len = 0)) (f [])
 | some (b, o) => ldN b o (s.len * sz) f
def room : Nat := 140737488355328
def apd (s : Sl) (sz by_ : Nat) (m : Nat) (vs : List HV) (f : Sl → M α) : M α := fun H n =>
 gd (decide ((s.len + m) * by_ ≤ room) && decide (vs.length = m * sz) && decide (0 < sz) && decide (s.len + m ≤ room)) (fun H n =>
  if s.len + m ≤ s.cap then
   match s.p with
   | none => gd (decide (m = 0)) (f s) H n
   | some (b, o) => stN b (o + s.len * sz) vs (f { s with len := s.len + m }) H n
  else match s.p with
   | none => gd (decide (s.len = 0)) (nw vs fun b' => f { p := some (b', 0), len := m, cap := m, opn := some sz }) H n
   | some (b, o) =>
    match H.get b with
    | .cells cs ro =>
     gxN cs o (s.len * sz) (fun old =>
      match s.opn with
      | none => nw (old ++ vs) fun b' => f { p := some (b', 0), len := s.len + m, cap := s.len + m, opn := some sz }
      | some es => gd (decide (es = sz) && decide (o = 0) && decide (cs.length = s.len * sz) && !ro) (fun H n =>
        nw (old ++ vs) (fun b' => f { p := some (b', 0), len := s.len + m, cap := s.len + m, opn := some sz }) (H.set b .dead) n)) H n
    | _ => none) H n
def apdT (e : Nat) (s : Sl) (sz by_ : Nat) (m : Nat) (vs : List HV) (f : Sl → M α) : M α := fun H n =>
 gd (decide ((s.len + m) * by_ ≤ room) && decide (vs.length = m * sz) && decide (0 < sz) && decide (s.len + m ≤ room)) (fun H n =>
  if s.len + m ≤ s.cap then
   match s.p with
   | none => gd (decide (m = 0)) (f s) H n
   | some (b, o) => stN b (o + s.len * sz) vs (f { s with len := s.len + m }) H n
  else match s.p with
   | none => gd (decide (s.len = 0)) (nwT (e, none) vs fun b' => f { p := some (b', 0), len := m, cap := m, opn := some sz }) H n
   | some (b, o) =>
    match H.get b with
    | .cells cs ro =>
     gxN cs o (s.len * sz) (fun old =>
      match s.opn with
      | none => nwT (e, none) (old ++ vs) fun b' => f { p := some (b', 0), len := s.len + m, cap := s.len + m, opn := some sz }
      | some es => gd (decide (es = sz) && decide (o = 0) && decide (cs.length = s.len * sz) && !ro && decide (H.ty b = some (e, none))) (fun H n =>
        nwT (e, none) (old ++ vs) (fun b' => f { p := some (b', 0), len := s.len + m, cap := s.len + m, opn := some sz }) (H.set b .dead) n)) H n
    | _ => none) H n
def apdU (e : Nat) (s : Sl) (sz by_ : Nat) (m : Nat) (vs : List HV) (f : Sl → M α) : M α := fun H n => match s.p, s.opn with
 | some (b, _), some _ => match decide (H.ty b = some (e, none)) with
  | true => apdT e s sz by_ m vs f H n
  | false => apd s sz by_ m vs f H n
 | _, _ => apdT e s sz by_ m vs f H n
end
section
variable {α : Type}
def nwS (s : Spc) (f : Nat → M α) : M α := fun H n => f H.n (H.push (.spc s)) n
def lkS : List (HV × HV) → ByteArray → Option (Option HV)
 | [], _ => some none
 | (.str k, v) :: r, s => match decide (s = k) with
  | true => some (some v)
  | false => lkS r s
 | _ :: _, _ => none
def puS : List (HV × HV) → ByteArray → HV → Option (List (HV × HV))
 | [], s, v => some [(.str s, v)]
 | (.str k, u) :: r, s, v => match decide (s = k) with
  | true => some ((.str k, v) :: r)
  | false => match puS r s v with
   | some r' => some ((.str k, u) :: r')
   | none => none
 | _ :: _, _, _ => none
def lkM (b : Nat) (s : ByteArray) (f : Option HV → M α) : M α := fun H n => match H.get b with
 | .spc (.map es) => match lkS es s with
  | some r => f r H n
  | none => none
 | _ => none
def puM (b : Nat) (s : ByteArray) (v : HV) (m : M α) : M α := fun H n => match H.get b with
 | .spc (.map es) => match puS es s v with
  | some es' => m (H.set b (.spc (.map es'))) n
  | none => none
 | _ => none
def nxM (b : Nat) (f : Nat → Nat → M α) (m : M α) : M α := fun H n => match H.get b with
 | .spc (.iter s pos) => match decide (pos < s.size) with
  | true => f pos (Utf8.decode s pos).1 (H.set b (.spc (.iter s (pos + (Utf8.decode s pos).2)))) n
  | false => m H n
 | _ => none
def mpP (b : Option Nat) (f : Nat → M α) : M α := match b with
 | some b => f b
 | none => stk
def bytesU : List HV → Option (List UInt8)
 | [] => some []
 | .int .u8 n :: r => match decide (0 ≤ n) && decide (n < 256), bytesU r with
  | true, some l => some (UInt8.ofNat n.toNat :: l)
  | _, _ => none
 | _ => none
def usM (e : Nat) (p : Option (Nat × Nat)) (k : Int) (f : ByteArray → M α) : M α := match decide (k = 0) with
 | true => f .empty
 | false => gd (decide (0 < k) && decide (k ≤ 9223372036854775807)) (mP p fun b o => gd (decide (o = 0)) (tyM b (e, none) (fun H n => match H.get b with
  | .cells cs false => match bytesU (cs.take k.toNat) with
   | some l => gd (decide (l.length = k.toNat)) (f ⟨l.toArray⟩) (H.set b .dead) n
   | none => none
  | _ => none)))
def bytesHV (s : ByteArray) : List HV := s.data.toList.map fun x => .int .u8 (x.toNat : Int)
end
inductive Leaf where
 | norm (vs : List HV)
 | exit (id : Nat) (vs : List HV)
 | ret (vs : List HV)
/-! loops over functions -/
section
variable {α : Type}
def ny (h : HV) (m : M α) : M α := match h with
 | .yld _ => stk
 | _ => m
def nwL (k : Nat) (vs : List (Nat × HV)) (f : Nat → M α) : M α := fun H n => f H.n (H.push (.spc (.loop k vs .ready none))) n
def endL (l : Nat) (K0 : M α) (Kx : Nat → M α) (Kr : M α) : M α := fun H n => match H.get l with
 | .spc (.loop k vs st pd) => match st with
  | .busy => none
  | _ => match pd with
   | none => K0 (H.set l (.spc (.loop k vs .exhausted pd))) n
   | some (.exit id) => Kx id (H.set l (.spc (.loop k vs .exhausted pd))) n
   | some .ret => Kr (H.set l (.spc (.loop k vs .exhausted pd))) n
   | _ => none
 | _ => none
def busyL (l : Nat) (m : M α) : M α := fun H n => match H.get l with
 | .spc (.loop k vs st pd) => match st with
  | .ready => m (H.set l (.spc (.loop k vs .busy pd))) n
  | _ => none
 | _ => none
def doneL (l : Nat) (st : LoopState) (pd : Option Code) (m : M α) : M α := fun H n => match H.get l with
 | .spc (.loop k vs _ _) => m (H.set l (.spc (.loop k vs st pd))) n
 | _ => none
def roundL (l : Nat) (m : M Leaf) : M HV := fun H n => match m H n with
 | some (.norm _, H') => doneL l .ready none (ret (.bool true)) H' n
 | some (.exit id _, H') => doneL l .done (some (.exit id)) (ret (.bool false)) H' n
 | some (.ret _, H') => doneL l .done (some .ret) (ret (.bool false)) H' n
 | none => none
def onX (i : Nat) (m : M α) (f : Nat → M α) : Nat → M α := fun id => match Nat.beq i id with
 | true => m
 | false => f id
def noX : Nat → M α := fun _ => stk
def gdS (sl : List Nat) (vs : List (Nat × HV)) (f : List HV → M α) : M α := match decide (vs.map Prod.fst = sl) with
 | true => f (vs.map Prod.snd)
 | false => stk
end
def loopGo (body : List HV → M Leaf) : Nat → List HV → M Leaf
 | 0, _ => stk
 | k + 1, vs => fun H n => match body vs H n with
  | some (.norm vs', H') => loopGo body k vs' H' n
  | r => r
def loopD (body : List HV → M Leaf) (vs : List HV) : M Leaf := fun H n => loopGo body n vs H n
def blk (id : Nat) (m : M Leaf) (k : List HV → M Leaf) : M Leaf := fun H n => match m H n with
 | some (.norm vs, H') => k vs H' n
 | some (.exit i vs, H') => match Nat.beq i id with
  | true => k vs H' n
  | false => some (.exit i vs, H')
 | r => r
def jn (m : M Leaf) (k : List HV → M Leaf) : M Leaf := fun H n => match m H n with
 | some (.norm vs, H') => k vs H' n
 | r => r
def fin (m : M Leaf) : M HV := fun H n => match m H n with
 | some (.ret [v], H') => some (v, H')
 | some (.ret vs, H') => some (.tup vs, H')
 | _ => none
/-! shapes -/
inductive Sc where
 | ki (k : IntKind) | kb | ks | kp | kl | km | kf | kv
inductive Sh1 where
 | sc (s : Sc) | c (l : List Sc) | a
inductive Sh where
 | o (s : Sh1) | t (l : List Sh1)
section
variable {α : Type}
def Sc.d (sc : Sc) (x : HV) (K : HV → M α) : M α := match sc with
 | .ki k => asI k x fun n => K (.int k n)
 | .kb => asB x fun n => K (.bool n)
 | .ks => asS x fun n => K (.str n)
 | .kp => asP x fun n => K (.ptr n)
 | .kl => asSl x fun n => K (.sl n)
 | .km => asM x fun n => K (.mp n)
 | .kf => asF x fun n => K (.ifc n)
 | .kv => K x
def Sc.ds : List Sc → List HV → (List HV → M α) → M α
 | [], vs, K => nl vs (K [])
 | h :: r, vs, K => uc vs fun v vs => h.d v fun v' => Sc.ds r vs fun vs' => K (v' :: vs')
def Sh1.d (sh : Sh1) (x : HV) (K : HV → M α) : M α := match sh with
 | .sc h => h.d x K
 | .c l => asA x fun cs => Sc.ds l cs fun cs' => K (.agg cs')
 | .a => asA x fun cs => K (.agg cs)
def Sh1.ds : List Sh1 → List HV → (List HV → M α) → M α
 | [], vs, K => nl vs (K [])
 | h :: r, vs, K => uc vs fun v vs => h.d v fun v' => Sh1.ds r vs fun vs' => K (v' :: vs')
def Sh.d (sh : Sh) (x : HV) (K : HV → M α) : M α := match sh with
 | .o h => h.d x K
 | .t l => asT x fun cs => Sh1.ds l cs fun cs' => K (.tup cs')
end
end Go.Proofs.YtbphjihgbenkdaaGreat.HQ
