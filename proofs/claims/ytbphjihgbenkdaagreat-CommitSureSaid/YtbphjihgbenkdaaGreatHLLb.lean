/- Library functions that are taken by their contracts: their texts. Conditions: none (definitions). -/
import Derived.Test.YtbphjihgbenkdaaGreatHLZd
import Derived.Lib.ItoaNum
import Derived.Lib.AtoiAll
import Derived.Lib.Split
import Derived.Lib.IndexMore
import Derived.Lib.Repeat
import Derived.Lib.LaidTab
namespace Go.Proofs.YtbphjihgbenkdaaGreat.HL
open Go Go.Proofs

/-! the variables of the library: their objects, in every seat: 0 bytealg.MaxLen, 1 strconv's powers of ten, 2 ErrSyntax, 3 ErrRange -/
def f_strings_Repeat (_D : HV → List HV → M HV) (args : List HV) : M HV :=
  uS args fun s r => uI .i64 r fun c r => nl r (gd (decide (0 ≤ c) && decide (c ≤ 9223372036854775807) && decide (s.size * c.toNat ≤ 140737488355328)) (ret (.str ⟨(Lib.repeatL s.data.toList c.toNat).toArray⟩)))
end Go.Proofs.YtbphjihgbenkdaaGreat.HL
