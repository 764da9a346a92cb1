/- Library functions that are taken by their contracts: their texts. Conditions: none (definitions). -/
import Derived.Test.YtmfmcegpoiinjaaDoorHMZd
import Derived.Lib.ItoaNum
import Derived.Lib.AtoiAll
import Derived.Lib.Split
import Derived.Lib.IndexMore
import Derived.Lib.Repeat
import Derived.Lib.LaidTab
namespace Go.Proofs.YtmfmcegpoiinjaaDoor.HM
open Go Go.Proofs

/-! the variables of the library: their objects, in every seat: 0 bytealg.MaxLen, 1 strconv's powers of ten, 2 ErrSyntax, 3 ErrRange -/
/-- under a fact of the heap. -/
noncomputable def glM {α : Type} (p : Heap → Prop) (m : M α) : M α := fun H n => gdP (p H) m H n
def GMax (H : Heap) : Prop := ∃ m ro, H.get 0 = .cells [.int .i64 m] ro
def GPow (H : Heap) : Prop := ∃ ro t, H.get 1 = .cells (Lib.pow10Tab.map fun z => .int .u64 z) ro ∧ H.ty 1 = some (t, some Lib.pow10Tab.length)
def GErr (i : Nat) (H : Heap) : Prop := ∃ b ro, H.get i = .cells [.ifc b] ro

noncomputable def f_strconv_Itoa (_D : HV → List HV → M HV) (args : List HV) : M HV :=
  uI .i64 args fun n r => nl r (gd (decide (-9223372036854775808 ≤ n) && decide (n ≤ 9223372036854775807)) (glM GPow (ret (.str ⟨(Lib.itoa n).toArray⟩))))
def atoiV (l : List UInt8) : HV := match Lib.atoiAll l with
  | .ok v => .tup [I v, .ifc false]
  | .«syntax» => .tup [I 0, .ifc true]
  | .range => .tup [I (Lib.atoiSat l), .ifc true]
noncomputable def f_strconv_Atoi (_D : HV → List HV → M HV) (args : List HV) : M HV :=
  uS args fun s r => nl r (gd (decide (s.size ≤ 281474976710656)) (glM (fun H => GErr 2 H ∧ GErr 3 H) (ret (atoiV s.data.toList))))
noncomputable def f_strings_Split (_D : HV → List HV → M HV) (args : List HV) : M HV :=
  uS args fun s r => uS r fun sep r => nl r (gd (decide (1 ≤ sep.size) && decide (s.size < 4294967281)) (glM GMax (nw ((Lib.splitB sep 0 (Lib.countB s sep) s).map .str) fun b =>
    ret (.sl ⟨some (b, 0), Lib.countB s sep + 1, Lib.countB s sep + 1, none⟩))))
noncomputable def f_strings_Contains (_D : HV → List HV → M HV) (args : List HV) : M HV :=
  uS args fun s r => uS r fun sub r => nl r (gd (decide (s.size < 4294967281)) (glM GMax (ret (.bool (Lib.contains s.data.toList sub.data.toList)))))
def f_strings_Repeat (_D : HV → List HV → M HV) (args : List HV) : M HV :=
  uS args fun s r => uI .i64 r fun c r => nl r (gd (decide (0 ≤ c) && decide (c ≤ 9223372036854775807) && decide (s.size * c.toNat ≤ 140737488355328)) (ret (.str ⟨(Lib.repeatL s.data.toList c.toNat).toArray⟩)))
/-- T: the type strings.Builder. -/
def copyCheckT (T : Nat) (args : List HV) : M HV :=
  uP args fun p r => nl r (mP p fun b o => gd (decide (o = 0)) (tyM b (T, some 2) (ldC b 0 fun a => asP a fun q => match q with
    | none => stC b 0 (.ptr (some (b, 0))) (ret (.tup []))
    | some (b2, o2) => gd (decide (b2 = b) && decide (o2 = 0)) (ret (.tup [])))))
end Go.Proofs.YtmfmcegpoiinjaaDoor.HM
